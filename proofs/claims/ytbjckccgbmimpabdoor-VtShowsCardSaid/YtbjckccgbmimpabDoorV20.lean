/- The walks of Alike and As. -/
import Derived.Test.YtbjckccgbmimpabDoorV12
import Derived.Deep.AppendLies
namespace Go.Proofs.YtbjckccgbmimpabDoor
open Go.RowKit Go.Proofs.YtbjckccgbmimpabDoorW.PrintWords Go.Proofs.YtbjckccgbmimpabDoorW.PrintLast Go.Proofs.YtbjckccgbmimpabDoorW.PrintMore
set_option maxRecDepth 100000 in
set_option maxHeartbeats 4000000 in
theorem alike_calls (A B : Option Addr) (l r : List Cell) (c c2 : Nat) (W : World) (hr : RC W A l) (hr2 : RC W B r) :
    Calls Tryd.prog 14 #[.slice A l.length c, .slice B r.length c2] W (EqPost W (l = r)) := by
  have HR := Lib.hid hr
  have HR2 := Lib.hid hr2
  have hl := hr.len
  have hl2 := hr2.len
  clear hr hr2
  by_cases hlen : l.length = r.length
  · have e1 : ((l.length : Int) != (r.length : Int)) = false := by simp [hlen]
    have e2 : ((l.length : Int) == (r.length : Int)) = true := by simp [hlen]
    have HL := Lib.hid hlen
    clear hlen
    go_enter Tryd.func14, Tryd.ntmps14
    go_wp2_with fail
    have HRl := Lib.hid (show r.length = l.length from HL.out.symm)
    go_loopw [5] (fun v5 wr => ∃ i : Nat, v5 = .int .i64 i ∧ i ≤ l.length ∧ Hid (∀ j, j < i → Kp.gr l j = Kp.gr r j ∧ Kp.gs l j = Kp.gs r j) ∧ Hid (Drawn W wr)) (fun v5 _ => l.length - (intOf v5).toNat)
    case atStart => exact ⟨0, rfl, by omega, Lib.hid (fun j hj => absurd hj (by omega)), Lib.hid (Drawn.refl _)⟩
    case round =>
      obtain ⟨i, rfl, hi, HV, HB⟩ := hrel
      by_cases hlt : i < l.length
      · have hlt2 : i < r.length := by rw [HRl.out]; exact hlt
        obtain ⟨b, o, hA, r1, r2⟩ := (HR.out.below HB.out.below).at_ i hlt
        obtain ⟨b', o', hB, t1, t2⟩ := (HR2.out.below HB.out.below).at_ i hlt2
        subst hA hB
        have c66 : Tryd.prog.cellsOf 66 = 2 := by kernel_rfl
        obtain ⟨x, hx⟩ : ∃ x, Kp.gr l i = x := ⟨_, rfl⟩
        obtain ⟨s, hs⟩ : ∃ x, Kp.gs l i = x := ⟨_, rfl⟩
        obtain ⟨y, hy⟩ : ∃ x, Kp.gr r i = x := ⟨_, rfl⟩
        obtain ⟨t, ht⟩ : ∃ x, Kp.gs r i = x := ⟨_, rfl⟩
        have HEq : Hid (l = r → x = y ∧ s = t) := Lib.hid (fun e => by subst e; exact ⟨hx.symm.trans hy, hs.symm.trans ht⟩)
        have HV2 : Hid ((x = y ∧ s = t) → ∀ j, j < i + 1 → Kp.gr l j = Kp.gr r j ∧ Kp.gs l j = Kp.gs r j) := Lib.hid (fun e j hj => by
          by_cases hji : j < i
          · exact HV.out j hji
          · obtain rfl : j = i := by omega
            rw [hx, hy, hs, ht]; exact e)
        rw [hx] at r1; rw [hs] at r2; rw [hy] at t1; rw [ht] at t2
        clear hx hy hs ht
        by_cases hxy : x = y
        · by_cases hst : s = t
          · have HV3 := Lib.hid (HV2.out ⟨hxy, hst⟩)
            clear HV2 HEq
            subst hxy hst
            go_wp2_with fail
            go_quiet (fail)
            go_wp2_with fail
            refine ⟨⟨i + 1, by go_num, by omega, HV3, Lib.hid (HB.out.drewN _)⟩, ?_⟩
            simp [intOf]; omega
          · have HF : Hid (¬ l = r) := Lib.hid (fun e => hst (HEq.out e).2)
            subst hxy
            have f2 : (s == t) = false := by simp [hst]
            clear hst
            go_wp2_with fail
            go_quiet (fail)
            go_wp2_with fail
            go_ret
            exact EqPost.mk (HB.out.drewN _) (by simp [HF.out])
        · have HF : Hid (¬ l = r) := Lib.hid (fun e => hxy (HEq.out e).1)
          have f1 : (x == y) = false := by simp [hxy]
          clear hxy
          go_wp2_with fail
          go_quiet (fail)
          go_wp2_with fail
          go_ret
          exact EqPost.mk (HB.out.drewN _) (by simp [HF.out])
      · have HT : Hid (l = r) := Lib.hid (Kp.cells_eq HL.out (fun j hj => HV.out j (by omega)))
        go_wp2_with fail
        go_ret
        exact EqPost.mk HB.out (by simp [HT.out])
  · have e1 : ((l.length : Int) != (r.length : Int)) = true := by simp; omega
    have e2 : ((l.length : Int) == (r.length : Int)) = false := by simp; omega
    have HL : Hid (¬ l = r) := Lib.hid (fun e => hlen (by rw [e]))
    clear hlen
    go_enter Tryd.func14, Tryd.ntmps14
    go_wp2_with fail
    go_ret
    exact EqPost.mk (Drawn.refl _) (by simp [HL.out])
theorem Tryd.info66 : (Tryd.prog.info? 66).map (fun i => (i.zero, i.size, i.bytes)) = some (some (.agg #[.int .i32 0, .int .i64 0]), 2, 16) := by kernel_rfl
theorem own_RC66 {w : World} {base : Nat} {v : Value} {l : List Cell} (h : w.ownsRow base 66 2 v l.length (ccs l)) (hl : l.length ≤ 140737488355328) : ∃ A c, v = .slice A l.length c ∧ l.length ≤ c ∧ RC w A l := by
  rcases h.2 with ⟨he, hn⟩ | ⟨g, cap, cur, he, _, _, hc, _⟩
  · have h0 : l.length = 0 := hn
    rw [h0]
    exact ⟨none, 0, he, Nat.le_refl _, ⟨by omega, fun i hi => absurd hi (by omega)⟩⟩
  · subst he
    refine ⟨some ⟨g, 0, none⟩, cap, rfl, hc, ⟨hl, fun i hi => ?_⟩⟩
    obtain ⟨a, b⟩ := ccs_get l i hi
    have hcl := h.cells (g := g) rfl
    refine ⟨g, 0, rfl, ?_, ?_⟩
    · have := hcl _ _ a
      rwa [add_plain, ← Nat.zero_add (i * 2)] at this
    · have := hcl _ _ b
      rwa [add_plain, ← Nat.zero_add (i * 2 + 1), ← Nat.add_assoc] at this
theorem ccs_take (l : List Cell) (i : Nat) (h : i < l.length) : ccs (l.take i) ++ [.int .i32 (Kp.gr l i), .int .i64 (Kp.gs l i)] = ccs (l.take (i + 1)) := by
  have e : l.take (i + 1) = l.take i ++ [l[i]] := by rw [List.take_add_one, List.getElem?_eq_getElem h]; rfl
  have e1 : Kp.gr l i = l[i].1 := by simp [Kp.gr, h]
  have e2 : Kp.gs l i = l[i].2 := by simp [Kp.gs, h]
  rw [e, e1, e2]
  unfold ccs
  rw [List.flatMap_append]
  rfl
def AsPost (W : World) (l : List Cell) (e : Ending) (w' : World) : Prop := ∃ A c, e = .returned (.slice A l.length c) ∧ RC w' A l ∧ Below W.heap.size W w'
set_option maxRecDepth 100000 in
set_option maxHeartbeats 4000000 in
theorem as_calls (R C : Int) (A : Option Addr) (l : List Cell) (c : Nat) (W : World) (hr : RC W A l) (hl : l.length ≤ 100000) : Calls Tryd.prog 15 #[.agg #[.int .i64 R, .int .i64 C, .slice A l.length c]] W (AsPost W l) := by
  obtain ⟨i0, hi0, hz0, hz1, hz2⟩ := info_parts Tryd.info66
  have HR := Lib.hid hr
  clear hr
  go_enter Tryd.func15, Tryd.ntmps15
  go_wp2_with fail
  have hg := GridAt.new W R C A l.length c
  have hb1 := below_alloc (Below.refl W.heap.size W) (.cells #[.int .i64 R, .int .i64 C, .slice A l.length c] 34)
  generalize W.alloc (.cells #[.int .i64 R, .int .i64 C, .slice A l.length c] 34) = W1 at hg hb1 ⊢
  obtain ⟨g, hgg⟩ : ∃ g, W.heap.size = g := ⟨_, rfl⟩
  rw [hgg] at hg ⊢
  have HG := Lib.hid hg
  have HB := Lib.hid hb1
  clear hg hb1
  go_loopw [3, 4] (fun v3 v4 wr => ∃ (ov : Value) (i : Nat), ov = v3 ∧ v4 = .int .i64 i ∧ i ≤ l.length ∧ Hid (wr.ownsRow W.heap.size 66 2 ov i (ccs (l.take i))) ∧ Hid (GridAt wr g R C A l.length c) ∧ Hid (Below W.heap.size W wr)) (fun _ v4 _ => l.length - (intOf v4).toNat)
  case atStart => exact ⟨_, 0, rfl, rfl, by omega, own_nil _ _ _ _, HG.out, HB.out⟩
  case round =>
    clear HG HB
    obtain ⟨ov, i, rfl, rfl, hi, HO, HG, HB⟩ := hrel
    obtain ⟨g0, g1, g2⟩ := HG.out.cells
    by_cases hlt : i < l.length
    · obtain ⟨b, o, hA, r1, r2⟩ := (HR.out.below HB.out).at_ i hlt
      subst hA
      have hbl : b < W.heap.size := World.block_lt_of_cell? W _ ((HR.out).at_ i hlt |> fun ⟨b', o', e, h1, _⟩ => by
        injection e with e
        injection e with e1 e2
        subst e1 e2
        exact h1)
      have ag : ov.ownBlock ≠ some g := fun e => own_ne_blk HO.out HG.out.blk (by decide) g e rfl
      have ab : ov.ownBlock ≠ some b := fun e => by have := (HO.out.lt b e).1; omega
      obtain ⟨x, hx⟩ : ∃ x, Kp.gr l i = x := ⟨_, rfl⟩
      obtain ⟨s, hs⟩ : ∃ x, Kp.gs l i = x := ⟨_, rfl⟩
      have hct := ccs_take l i hlt
      rw [hx, hs] at hct
      rw [hx] at r1
      rw [hs] at r2
      have HCt := Lib.hid hct
      have lg : g < wr.heap.size := blk_lt HG.out.blk
      have lb : b < wr.heap.size := Nat.lt_of_lt_of_le hbl HB.out.size
      have hWr : W.heap.size ≤ wr.heap.size := HB.out.size
      have hI1 : (i : Int) < (l.length : Int) := by omega
      clear hct hx hs hgg
      go_wp2_with fail
      go_region_held3 (fun w' => w'.cell? ⟨g, 2, none⟩ = some (.slice (some ⟨b, o, none⟩) l.length c) ∧ w'.cell? ⟨b, o + i * 2, none⟩ = some (.int .i32 x) ∧ w'.cell? ⟨b, o + i * 2 + 1, none⟩ = some (.int .i64 s))
        (first
          | go_keep
          | (go_split_ands
             refine ⟨?_, ?_, ?_⟩
             · (rw [hgrow.cell_far _ (by simp; omega) (Ne.symm ag)]; assumption)
             · (rw [hgrow.cell_far _ (by simp; omega) (Ne.symm ab)]; assumption)
             · (rw [hgrow.cell_far _ (by simp; omega) (Ne.symm ab)]; assumption)))
        ((refine step_append_lies _ (by rfl) _ _ _ (by rfl) W.heap.size 66 i0 _ 2 16 Tryd.underlying45 hi0 hz0 hz1 hz2 rfl (by omega) ov i (ccs (l.take i)) (by rfl) ((HO.out.alloc _).drew)
            ⟨wr.heap.size, 0, none⟩ 1 1 [.int .i32 x, .int .i64 s] (by rfl) (by rfl) (World.news_of_block (cs := #[.int .i32 x, .int .i64 s]) (t := 66) (fr := (0, 0)) (heap_alloc_new wr _)) (by simp [Value.oneCell'])
            (by omega) (by simp only [maxLen]; omega) (by omega) (by simp; omega) (wr.heap.size + 1) (by simp) ?_; intro gg cap w1 hown1 hgrow hat hlt2))
      have hkk : Kept wr w1 (fun k => some k = ov.ownBlock) := Kept.of_grown hgrow ((Kept.refl wr _).alloc _) (fun k hk => .inl hk.symm)
      have HG2 : Hid (GridAt w1 g R C (some ⟨b, o, none⟩) l.length c) := Lib.hid ⟨blk_kept HG.out.blk hkk (fun e => ag e.symm)⟩
      have HB2 : Hid (Below W.heap.size W w1) := Lib.hid ((below_drew (below_alloc HB.out (.cells #[.int .i32 x, .int .i64 s] 66))).grown hgrow (by simp; omega) (own_base HO.out))
      rw [HCt.out] at hown1
      have HO2 := Lib.hid hown1
      rename_i hHeld
      clear hown1 hgrow hat hlt2 hHeld hkk
      go_wp2_with fail
      go_roundw
      case rel => exact ⟨_, i + 1, rfl, by go_num, by omega, HO2.out, HG2.out, HB2.out⟩
      case measure => simp [intOf]; omega
    · obtain rfl : i = l.length := by omega
      have ho := HO.out
      rw [List.take_length] at ho
      obtain ⟨A', c', hA, hc', hrc⟩ := own_RC66 ho (by omega)
      subst hA
      have HRC := Lib.hid hrc
      clear ho hrc
      go_wp2_with fail
      go_ret
      exact ⟨A', c', rfl, HRC.out, HB.out⟩
end Go.Proofs.YtbjckccgbmimpabDoor
