/- The walks of Alike and As. -/
import Derived.Test.YtbjckccgbmimpabGreatDoorV12
import Derived.Deep.AppendLies
import Derived.Test.YtbjckccgbmimpabGreatDoorV19
namespace Go.Proofs.YtbjckccgbmimpabGreatDoor
open Go.RowKit Go.Proofs.YtbjckccgbmimpabGreatDoorW.PrintWords Go.Proofs.YtbjckccgbmimpabGreatDoorW.PrintLast Go.Proofs.YtbjckccgbmimpabGreatDoorW.PrintMore
theorem Tryz.info45 : (Tryz.prog.info? 45).map (fun i => (i.zero, i.size, i.bytes)) = some (some (.agg #[.int .i32 0, .int .i64 0]), 2, 16) := by kernel_rfl
theorem own_RC66 {w : World} {base : Nat} {v : Value} {l : List Cell} (h : w.ownsRow base 45 2 v l.length (ccs l)) (hl : l.length ≤ 140737488355328) : ∃ A c, v = .slice A l.length c ∧ l.length ≤ c ∧ RC w A l := by
  rcases h.2 with ⟨he, hn⟩ | ⟨g, cap, cur, he, _, _, hc, _⟩
  · have h0 : l.length = 0 := hn
    rw [h0]
    exact ⟨none, 0, he, Nat.le_refl _, ⟨by omega, fun i hi => absurd hi (by omega)⟩⟩
  · subst he
    refine ⟨some ⟨g, 0, none⟩, cap, rfl, hc, ⟨hl, fun i hi => ?_⟩⟩
    obtain ⟨a, b⟩ := ccs_get l i hi
    have hcl := h.cells (g := g) rfl
    refine ⟨g, 0, rfl, ?_, ?_⟩
    · have := hcl _ _ a
      rwa [add_plain, ← Nat.zero_add (i * 2)] at this
    · have := hcl _ _ b
      rwa [add_plain, ← Nat.zero_add (i * 2 + 1), ← Nat.add_assoc] at this
theorem ccs_take (l : List Cell) (i : Nat) (h : i < l.length) : ccs (l.take i) ++ [.int .i32 (Kp.gr l i), .int .i64 (Kp.gs l i)] = ccs (l.take (i + 1)) := by
  have e : l.take (i + 1) = l.take i ++ [l[i]] := by rw [List.take_add_one, List.getElem?_eq_getElem h]; rfl
  have e1 : Kp.gr l i = l[i].1 := by simp [Kp.gr, h]
  have e2 : Kp.gs l i = l[i].2 := by simp [Kp.gs, h]
  rw [e, e1, e2]
  unfold ccs
  rw [List.flatMap_append]
  rfl
def AsPost (W : World) (l : List Cell) (e : Ending) (w' : World) : Prop := ∃ A c, e = .returned (.slice A l.length c) ∧ l.length ≤ c ∧ RC w' A l ∧ Below W.heap.size W w'
set_option maxRecDepth 100000 in
set_option maxHeartbeats 4000000 in
theorem as_calls (R C : Int) (A : Option Addr) (l : List Cell) (c : Nat) (W : World) (hr : RC W A l) (hl : l.length ≤ 100000) : Calls Tryz.prog 7 #[.agg #[.int .i64 R, .int .i64 C, .slice A l.length c]] W (AsPost W l) := by
  obtain ⟨i0, hi0, hz0, hz1, hz2⟩ := info_parts Tryz.info45
  have HR := Lib.hid hr
  clear hr
  go_enter Tryz.func7, Tryz.ntmps7
  go_wp2_with fail
  have hg := GridAt.new W R C A l.length c
  have hb1 := below_alloc (Below.refl W.heap.size W) (.cells #[.int .i64 R, .int .i64 C, .slice A l.length c] 24)
  generalize W.alloc (.cells #[.int .i64 R, .int .i64 C, .slice A l.length c] 24) = W1 at hg hb1 ⊢
  obtain ⟨g, hgg⟩ : ∃ g, W.heap.size = g := ⟨_, rfl⟩
  rw [hgg] at hg ⊢
  have HG := Lib.hid hg
  have HB := Lib.hid hb1
  clear hg hb1
  go_loopw [3, 4] (fun v3 v4 wr => ∃ (ov : Value) (i : Nat), ov = v3 ∧ v4 = .int .i64 i ∧ i ≤ l.length ∧ Hid (wr.ownsRow W.heap.size 45 2 ov i (ccs (l.take i))) ∧ Hid (GridAt wr g R C A l.length c) ∧ Hid (Below W.heap.size W wr)) (fun _ v4 _ => l.length - (intOf v4).toNat)
  case atStart => exact ⟨_, 0, rfl, rfl, by omega, own_nil _ _ _ _, HG.out, HB.out⟩
  case round =>
    clear HG HB
    obtain ⟨ov, i, rfl, rfl, hi, HO, HG, HB⟩ := hrel
    obtain ⟨g0, g1, g2⟩ := HG.out.cells
    by_cases hlt : i < l.length
    · obtain ⟨b, o, hA, r1, r2⟩ := (HR.out.below HB.out).at_ i hlt
      subst hA
      have hbl : b < W.heap.size := World.block_lt_of_cell? W _ ((HR.out).at_ i hlt |> fun ⟨b', o', e, h1, _⟩ => by
        injection e with e
        injection e with e1 e2
        subst e1 e2
        exact h1)
      have ag : ov.ownBlock ≠ some g := fun e => own_ne_blk HO.out HG.out.blk (by decide) g e rfl
      have ab : ov.ownBlock ≠ some b := fun e => by have := (HO.out.lt b e).1; omega
      obtain ⟨x, hx⟩ : ∃ x, Kp.gr l i = x := ⟨_, rfl⟩
      obtain ⟨s, hs⟩ : ∃ x, Kp.gs l i = x := ⟨_, rfl⟩
      have hct := ccs_take l i hlt
      rw [hx, hs] at hct
      rw [hx] at r1
      rw [hs] at r2
      have HCt := Lib.hid hct
      have lg : g < wr.heap.size := blk_lt HG.out.blk
      have lb : b < wr.heap.size := Nat.lt_of_lt_of_le hbl HB.out.size
      have hWr : W.heap.size ≤ wr.heap.size := HB.out.size
      have hI1 : (i : Int) < (l.length : Int) := by omega
      clear hct hx hs hgg
      go_wp2_with fail
      go_region_held3 (fun w' => w'.cell? ⟨g, 2, none⟩ = some (.slice (some ⟨b, o, none⟩) l.length c) ∧ w'.cell? ⟨b, o + i * 2, none⟩ = some (.int .i32 x) ∧ w'.cell? ⟨b, o + i * 2 + 1, none⟩ = some (.int .i64 s))
        (first
          | go_keep
          | (go_split_ands
             refine ⟨?_, ?_, ?_⟩
             · (rw [hgrow.cell_far _ (by simp; omega) (Ne.symm ag)]; assumption)
             · (rw [hgrow.cell_far _ (by simp; omega) (Ne.symm ab)]; assumption)
             · (rw [hgrow.cell_far _ (by simp; omega) (Ne.symm ab)]; assumption)))
        ((refine step_append_lies _ (by rfl) _ _ _ (by rfl) W.heap.size 45 i0 _ 2 16 Tryz.underlying31 hi0 hz0 hz1 hz2 rfl (by omega) ov i (ccs (l.take i)) (by rfl) ((HO.out.alloc _).drew)
            ⟨wr.heap.size, 0, none⟩ 1 1 [.int .i32 x, .int .i64 s] (by rfl) (by rfl) (World.news_of_block (cs := #[.int .i32 x, .int .i64 s]) (t := 45) (fr := (0, 0)) (heap_alloc_new wr _)) (by simp [Value.oneCell'])
            (by omega) (by simp only [maxLen]; omega) (by omega) (by simp; omega) (wr.heap.size + 1) (by simp) ?_; intro gg cap w1 hown1 hgrow hat hlt2))
      have hkk : Kept wr w1 (fun k => some k = ov.ownBlock) := Kept.of_grown hgrow ((Kept.refl wr _).alloc _) (fun k hk => .inl hk.symm)
      have HG2 : Hid (GridAt w1 g R C (some ⟨b, o, none⟩) l.length c) := Lib.hid ⟨blk_kept HG.out.blk hkk (fun e => ag e.symm)⟩
      have HB2 : Hid (Below W.heap.size W w1) := Lib.hid ((below_drew (below_alloc HB.out (.cells #[.int .i32 x, .int .i64 s] 45))).grown hgrow (by simp; omega) (own_base HO.out))
      rw [HCt.out] at hown1
      have HO2 := Lib.hid hown1
      rename_i hHeld
      clear hown1 hgrow hat hlt2 hHeld hkk
      go_wp2_with fail
      go_roundw
      case rel => exact ⟨_, i + 1, rfl, by go_num, by omega, HO2.out, HG2.out, HB2.out⟩
      case measure => simp [intOf]; omega
    · obtain rfl : i = l.length := by omega
      have ho := HO.out
      rw [List.take_length] at ho
      obtain ⟨A', c', hA, hc', hrc⟩ := own_RC66 ho (by omega)
      subst hA
      have HRC := Lib.hid hrc
      clear ho hrc
      go_wp2_with fail
      go_ret
      exact ⟨A', c', rfl, hc', HRC.out, HB.out⟩
end Go.Proofs.YtbjckccgbmimpabGreatDoor

/- The walk of styluslaw23.knows. -/
namespace Go.Proofs.YtbjckccgbmimpabGreatDoor
open Go.RowKit Go.Proofs.YtbjckccgbmimpabGreatDoorW.PrintWords Go.Proofs.YtbjckccgbmimpabGreatDoorW.PrintLast Go.Proofs.YtbjckccgbmimpabGreatDoorW.PrintMore
def TruePost (W : World) (e : Ending) (w' : World) : Prop := e = .returned (.bool true) ∧ Below W.heap.size W w'
theorem Grid_agg (W : World) (base g gc : Nat) (t : Kp.Tm) (wv : Value) (h : TermAt W base g gc t wv) : Calls Tryz.prog 11 #[.pointer (some ⟨g, 0, none⟩)] W fun e w' =>
    ∃ A c, e = .returned (.agg #[.int .i64 t.R, .int .i64 t.C, .slice A t.l.length c]) ∧ w'.ownsRow W.heap.size 41 2 (.slice A t.l.length c) t.l.length (ccs t.l) ∧ Below W.heap.size W w' := Grid_calls W base g gc t wv h
theorem Grid_ex (W : World) (base g gc : Nat) (t : Kp.Tm) (wv : Value) (R C : Int) (n : Nat) (l : List Cell) (h : TermAt W base g gc t wv) (hR : (t.R : Int) = R) (hC : (t.C : Int) = C) (hl : t.l = l) (hn : l.length = n) : Calls Tryz.prog 11 #[.pointer (some ⟨g, 0, none⟩)] W fun e w' =>
    ∃ A c, e = .returned (.agg #[.int .i64 R, .int .i64 C, .slice A n c]) ∧ w'.ownsRow W.heap.size 41 2 (.slice A n c) n (ccs l) ∧ Below W.heap.size W w' := by
  subst hR hC hl hn
  exact Grid_calls W base g gc t wv h
theorem own_RCn {w : World} {base n c : Nat} {A : Option Addr} {l : List Cell} (h : w.ownsRow base 41 2 (.slice A n c) n (ccs l)) (hn : l.length = n) (hl : n ≤ 100000) : RC w A l ∧ n ≤ c := by
  subst hn
  obtain ⟨A', c', e, hc, hr⟩ := own_RC h (by omega)
  injection e with e1 e2 e3
  subst e1 e3
  exact ⟨hr, hc⟩
theorem Paint_agg (fR fC tR tC : Int) (fA tA : Option Addr) (fl tl : List Cell) (fc tc : Nat) (W : World) (hf : RC W fA fl) (ht : RC W tA tl) (hwf : Kp.wf tl) (hfc : fl.length ≤ fc) (htc : tl.length ≤ tc)
    (fresh : Bool) (hfr : fresh = true ↔ (fR ≠ tR ∨ fC ≠ tC ∨ fl.length ≠ tl.length)) :
    Calls Tryz.prog 5 #[.agg #[.int .i64 fR, .int .i64 fC, .slice fA fl.length fc], .agg #[.int .i64 tR, .int .i64 tC, .slice tA tl.length tc]] W (PaintPost W (Kp.proper tR tC tl) (Kp.paintB fresh tR.toNat tC.toNat fl tl)) :=
  Paint_calls fR fC tR tC fA tA fl tl fc tc W hf ht hwf hfc htc fresh hfr
theorem proper_agg (rows cols : Int) (A : Option Addr) (l : List Cell) (c : Nat) (W : World) (hr : RC W A l) (hwf : Kp.wf l) : Calls Tryz.prog 8 #[.agg #[.int .i64 rows, .int .i64 cols, .slice A l.length c]] W (IfPost W (Kp.proper rows cols l)) := proper_calls rows cols A l c W hr hwf
def Kp.abL : List Cell := [(97, 0), (98, 0)]
def Kp.spL : List Cell := [(32, 0), (32, 0)]
theorem Kp.ab_pt : ∀ i, i < Kp.abL.length → Kp.Pt 2 Kp.abL i := by
  intro i hi
  have h : i = 0 ∨ i = 1 := by simp [Kp.abL] at hi; omega
  have o1 : ¬ Kp.odd 97 := by decide +kernel
  have o2 : ¬ Kp.odd 98 := by decide +kernel
  have w1 : Kp.wid 97 = 1 := by decide +kernel
  have w2 : Kp.wid 98 = 1 := by decide +kernel
  rcases h with rfl | rfl
  · refine ⟨by decide, fun e => absurd e (by decide), fun _ => ⟨o1, fun e => ?_⟩⟩
    exact absurd (w1.symm.trans e) (by decide)
  · refine ⟨by decide, fun e => absurd e (by decide), fun _ => ⟨o2, fun e => ?_⟩⟩
    exact absurd (w2.symm.trans e) (by decide)
theorem Kp.ab_proper : Kp.proper 1 2 Kp.abL := ⟨by unfold Kp.side; omega, by unfold Kp.side; omega, rfl, (Kp.proper_iff (R := 1) (C := 2) (by omega) (by omega) rfl).2 Kp.ab_pt⟩
theorem Kp.none_proper : ¬ Kp.proper 0 0 [] := fun h => by have := h.1; unfold Kp.side at this; omega
def Kp.abB : List UInt8 := [27, 91, 49, 59, 49, 72, 27, 91, 48, 109, 97, 98]
theorem Kp.ab_bytes : Kp.paintB false 1 2 Kp.spL Kp.abL = Kp.abB := by
  have h0 : Kp.paintB false 1 2 Kp.spL Kp.abL = Kp.paintRow 0 Kp.abL := by
    unfold Kp.paintB Kp.paintRows Kp.paintRows
    rw [if_neg (by decide), if_pos (.inr (by decide)), List.nil_append, List.append_nil]
    rfl
  have h1 : Kp.paintRow 0 Kp.abL = Kp.moveB 0 ++ Kp.paintCells (-1) Kp.abL := rfl
  rw [h0, h1, Kp.moveB_eq 0 (by omega)]
  decide +kernel
theorem Kp.ab_wf : Kp.wf Kp.abL := fun i => by
  rcases Nat.lt_or_ge i 2 with h | h
  · have : i = 0 ∨ i = 1 := by omega
    rcases this with rfl | rfl <;> decide
  · have e1 : Kp.gr Kp.abL i = 0 := by unfold Kp.gr; rw [List.getD_eq_getElem?_getD, List.getElem?_eq_none (by simpa [Kp.abL] using h)]; rfl
    have e2 : Kp.gs Kp.abL i = 0 := by unfold Kp.gs; rw [List.getD_eq_getElem?_getD, List.getElem?_eq_none (by simpa [Kp.abL] using h)]; rfl
    rw [e1, e2]; omega
theorem Kp.ab_run : ∃ t', Kp.run ⟨1, 2, Kp.spL, 0, 0, 0⟩ Kp.abB = (t', []) ∧ t'.OK ∧ t'.R = 1 ∧ t'.C = 2 ∧ t'.l = Kp.abL := by
  rw [← Kp.ab_bytes]
  exact Kp.paint_shows (R := 1) (C := 2) (fl := Kp.spL) (tl := Kp.abL) false (Kp.blank_ok (R := 1) (C := 2) (row := 0) (col := 0) (st := 0) (by omega) (by omega) (by omega) (by omega) (by omega)) rfl rfl rfl Kp.ab_pt (fun _ => rfl)
theorem proper_ab (A : Option Addr) (c : Nat) (W : World) (hr : RC W A Kp.abL) : Calls Tryz.prog 8 #[.agg #[.int .i64 1, .int .i64 2, .slice A 2 c]] W fun e w' => e = .returned (.bool true) ∧ Below W.heap.size W w' :=
  (proper_agg 1 2 A Kp.abL c W hr Kp.ab_wf).mono fun _ _ ⟨b, he, hi, hb⟩ => ⟨by rw [he, hi.2 Kp.ab_proper], hb⟩
theorem proper_zero (W : World) : Calls Tryz.prog 8 #[.agg #[.int .i64 0, .int .i64 0, .slice none 0 0]] W fun e w' => e = .returned (.bool false) ∧ Below W.heap.size W w' :=
  (proper_agg 0 0 none [] 0 W ⟨by simp, fun i hi => by simp at hi⟩ (fun i => by simp [Kp.gr, Kp.gs])).mono fun _ _ ⟨b, he, hi, hb⟩ => ⟨by
    cases b
    · exact he
    · exact absurd (hi.1 rfl) Kp.none_proper, hb⟩
theorem three_cells {w : World} {g ty : Nat} {a b c : Value} (h : w.heap[g]? = some (.cells #[a, b, c] ty (0, 0))) : w.cell? ⟨g, 0, none⟩ = some a ∧ w.cell? ⟨g, 1, none⟩ = some b ∧ w.cell? ⟨g, 2, none⟩ = some c :=
  ⟨(blk_cell h 0).trans rfl, (blk_cell h 1).trans rfl, (blk_cell h 2).trans rfl⟩
theorem Paint_ab (A4 A : Option Addr) (c4 c : Nat) (W : World) (hf : RC W A4 Kp.spL) (ht : RC W A Kp.abL) (h4 : 2 ≤ c4) (hc : 2 ≤ c) :
    Calls Tryz.prog 5 #[.agg #[.int .i64 1, .int .i64 2, .slice A4 2 c4], .agg #[.int .i64 1, .int .i64 2, .slice A 2 c]] W fun e w' => ∃ g0 c', e = .returned (.tuple #[.slice (some ⟨g0, 0, none⟩) 12 c', .int .i64 0]) ∧ W.heap.size ≤ g0 ∧ RB w' (some ⟨g0, 0, none⟩) Kp.abB ∧ Below W.heap.size W w' :=
  (Paint_agg 1 2 1 2 A4 A Kp.spL Kp.abL c4 c W hf ht Kp.ab_wf h4 hc false ⟨(fun h => by cases h), (fun h => by rcases h with h | h | h <;> exact absurd rfl h)⟩).mono fun e w' h => by
    obtain ⟨hb, h | ⟨_, g0, c', he, hg0, _, _, hr⟩⟩ := h
    · exact absurd Kp.ab_proper h.1
    · have e1 : Kp.paintB false (1 : Int).toNat (2 : Int).toNat Kp.spL Kp.abL = Kp.abB := Kp.ab_bytes
      rw [e1] at he hr
      exact ⟨g0, c', he, hg0.1, hr, hb⟩
theorem Write_ab (W : World) (base g gc : Nat) (A : Option Addr) (c : Nat) (m : Int) (h : TermAt W base g gc ⟨1, 2, Kp.spL, 0, 0, 0⟩ (.slice none 0 0)) (hr : RB W A Kp.abB) (h3 : 5 < base) (hm : W.cell? ⟨5, 0, none⟩ = some (.int .i64 m)) :
    Calls Tryz.prog 12 #[.pointer (some ⟨g, 0, none⟩), .slice A 12 c] W fun e w' => e = .returned (.tuple #[]) ∧ ∃ gc' t' v', TermAt w' base g gc' t' v' ∧ t'.R = 1 ∧ t'.C = 2 ∧ t'.l = Kp.abL ∧ Kept W w' (fun k => k = g ∨ k = gc) ∧ Below base W w' :=
  (Write_calls W base g gc ⟨1, 2, Kp.spL, 0, 0, 0⟩ none 0 [] Kp.abB A c m h (own_nil _ _ _ _) hr (by decide) h3 hm).mono fun e w' ⟨he, hw⟩ => by
    obtain ⟨t', ht, _, hR, hC, hl⟩ := Kp.ab_run
    rw [List.nil_append, ht] at hw
    obtain ⟨gc', v', _, hat, _, _⟩ := hw.at_
    refine ⟨he, gc', t', v', hat, hR, hC, hl, hw.kept.mono (fun k hk => ?_), hw.below⟩
    rcases hk with hk | hk | hk
    · exact .inl hk
    · exact .inr hk
    · simp [Value.ownBlock] at hk
theorem ab_written {W2 : World} {gr : Nat} {cur : Array Value} (h : W2.heap[gr]? = some (.cells cur 41 (0, 0))) (c1 : W2.cell? ⟨gr, 1, none⟩ = some (.int .i64 0)) (c3 : W2.cell? ⟨gr, 3, none⟩ = some (.int .i64 0)) (o : Obj) :
    RC (((W2.setCell ⟨gr, 0, none⟩ (.int .i32 97)).setCell ⟨gr, 2, none⟩ (.int .i32 98)).alloc o) (some ⟨gr, 0, none⟩) Kp.abL := by
  have hb := blk_alloc (blk_put (blk_put h 0 (.int .i32 97) rfl) 2 (.int .i32 98) rfl) o
  rw [blk_cell h] at c1 c3
  have hsz : 3 < cur.size := (Array.getElem?_eq_some_iff.1 c3).1
  refine ⟨by decide, fun i hi => ⟨gr, 0, rfl, ?_⟩⟩
  have hi2 : i = 0 ∨ i = 1 := by simp [Kp.abL] at hi; omega
  rcases hi2 with rfl | rfl
  · rw [blk_cell hb, blk_cell hb]
    have z0 : 0 < cur.size := by omega
    exact ⟨by simp [z0]; rfl, by simp only [Array.getElem?_setIfInBounds]; exact c1⟩
  · rw [blk_cell hb, blk_cell hb]
    have z2 : 2 < cur.size := by omega
    exact ⟨by simp [z2]; rfl, by simp only [Array.getElem?_setIfInBounds]; exact c3⟩
set_option maxRecDepth 100000 in
set_option maxHeartbeats 4000000 in
theorem knows23_calls (W : World) (m : Int) (hm : W.cell? ⟨5, 0, none⟩ = some (.int .i64 m)) : Calls Tryz.prog 4 #[] W (TruePost W) := by
  have h3 : 5 < W.heap.size := World.block_lt_of_cell? W _ hm
  have HM := Lib.hid hm
  clear hm
  go_enter Tryz.func4, Tryz.ntmps4
  go_wp2_with fail
  refine (New_calls 1 2 W).mono ?_
  rintro e W1 (⟨hn, _, _⟩ | ⟨g, gc, _, _, rfl, hat, hb⟩)
  · exact absurd ⟨by unfold Kp.side; omega, by unfold Kp.side; omega⟩ hn
  have hat : TermAt W1 W.heap.size g gc ⟨1, 2, Kp.spL, 0, 0, 0⟩ (.slice none 0 0) := hat
  have HAt := Lib.hid hat
  have HB := Lib.hid hb
  clear hat hb
  go_wp2_with fail
  refine (Grid_ex W1 W.heap.size g gc _ _ 1 2 2 Kp.spL HAt.out rfl rfl rfl rfl).mono ?_
  rintro e W2 ⟨A, c, rfl, hown, hb2⟩
  obtain ⟨gr, cap, hA, hgr, _⟩ := hown.form (by decide)
  injection hA with hA hl hc
  subst hA hc
  clear hl
  obtain ⟨cur, hcur⟩ := own_blk hown (k := gr) rfl
  have hcl := fun j u hu => (hown.cells (g := gr) rfl j u hu)
  have c0 : W2.cell? ⟨gr, 0, none⟩ = some (.int .i32 32) := by have := hcl 0 _ rfl; rwa [add_plain] at this
  have c1 : W2.cell? ⟨gr, 1, none⟩ = some (.int .i64 0) := by have := hcl 1 _ rfl; rwa [add_plain] at this
  have c2 : W2.cell? ⟨gr, 2, none⟩ = some (.int .i32 32) := by have := hcl 2 _ rfl; rwa [add_plain] at this
  have c3 : W2.cell? ⟨gr, 3, none⟩ = some (.int .i64 0) := by have := hcl 3 _ rfl; rwa [add_plain] at this
  have f0 := blk_frozen hcur 0
  have f2 := blk_frozen hcur 2
  have hgrl := blk_lt hcur
  have hcc := (own_RCn hown rfl (by decide)).2
  have hgrW : W.heap.size ≤ gr := Nat.le_trans HB.out.size hgr
  have hgt : ∀ k, some k = some gr → k ≠ g ∧ k ≠ gc := fun k hk => by
    injection hk with hk
    subst hk
    have hat2 := (HAt.out.below hb2)
    refine ⟨fun e => ?_, fun e => ?_⟩
    · have := blk_lt HAt.out.blk; omega
    · have := blk_lt HAt.out.cells; omega
  have HB2 := Lib.hid (below_step HB.out hb2)
  have HAt2 := Lib.hid (HAt.out.below hb2)
  have HGt := Lib.hid (hgt gr rfl)
  have HCur := Lib.hid hcur
  clear hown hcl hgt hb2 hcur hgr
  go_wp2_with fail
  have hrc3 := ab_written HCur.out c1 c3 (.cells #[.int .i64 1, .int .i64 2, .slice (some ⟨gr, 0, none⟩) 2 c] 24)
  have hk3 : Kept W2 (((W2.setCell ⟨gr, 0, none⟩ (.int .i32 97)).setCell ⟨gr, 2, none⟩ (.int .i32 98)).alloc (.cells #[.int .i64 1, .int .i64 2, .slice (some ⟨gr, 0, none⟩) 2 c] 24)) (fun k => k = gr) := ((Kept.setCell (Kept.refl W2 (fun k => k = gr)) (p := ⟨gr, 0, none⟩) (.inl rfl) _).setCell (p := ⟨gr, 2, none⟩) (.inl rfl) _).alloc _
  have hat3 := HAt2.out.kept hk3 (fun e => HGt.out.1 e.symm) (fun e => HGt.out.2 e.symm)
  have hb3 := ((HB2.out.setCell (p := ⟨gr, 0, none⟩) hgrW (.int .i32 97)).setCell (p := ⟨gr, 2, none⟩) hgrW (.int .i32 98)).alloc (by simpa [World.setCell] using HB2.out.size) (.cells #[.int .i64 1, .int .i64 2, .slice (some ⟨gr, 0, none⟩) 2 c] 24)
  have hg3 : (((W2.setCell ⟨gr, 0, none⟩ (.int .i32 97)).setCell ⟨gr, 2, none⟩ (.int .i32 98)).alloc (.cells #[.int .i64 1, .int .i64 2, .slice (some ⟨gr, 0, none⟩) 2 c] 24)).heap[W2.heap.size]? = some (.cells #[.int .i64 1, .int .i64 2, .slice (some ⟨gr, 0, none⟩) 2 c] 24 (0, 0)) := heap_alloc_at (by simp [World.setCell])
  generalize ((W2.setCell ⟨gr, 0, none⟩ (.int .i32 97)).setCell ⟨gr, 2, none⟩ (.int .i32 98)).alloc (.cells #[.int .i64 1, .int .i64 2, .slice (some ⟨gr, 0, none⟩) 2 c] 24) = W3 at hrc3 hk3 hat3 hb3 hg3 ⊢
  generalize W2.heap.size = g3 at hg3 hgrl ⊢
  obtain ⟨s0, s1, s2⟩ := three_cells hg3
  have HRc3 := Lib.hid hrc3
  have HAt3 : Hid (TermAt W3.drew W.heap.size g gc ⟨1, 2, Kp.spL, 0, 0, 0⟩ (.slice none 0 0)) := Lib.hid ⟨hat3.blk, hat3.cells, hat3.ge, hat3.ok⟩
  have HB3 := Lib.hid (below_drew hb3)
  have HG3 := Lib.hid hg3
  have hc2' : 2 ≤ c := hcc
  clear hrc3 hat3 hb3 hg3 c0 c1 c2 c3 f0 f2 hk3
  go_region_held3 (fun w' => w'.cell? ⟨g3, 0, none⟩ = some (.int .i64 1) ∧ w'.cell? ⟨g3, 1, none⟩ = some (.int .i64 2) ∧ w'.cell? ⟨g3, 2, none⟩ = some (.slice (some ⟨gr, 0, none⟩) 2 c))
    (first | (with_reducible assumption) | (with_reducible exact ⟨d0, d1, d2⟩) | exact ⟨s0, s1, s2⟩)
    (first
      | (go_at_call 11; (with_reducible refine (Grid_ex _ W.heap.size g gc _ _ 1 2 2 Kp.spL HAt3.out rfl rfl rfl rfl).mono ?_); rintro e W4 ⟨A4, c4, rfl, hown4, hb4⟩; have hg4 := blk_below (w := W3.drew) HG3.out hb4; obtain ⟨d0, d1, d2⟩ := three_cells hg4; obtain ⟨hrc4, hc4⟩ := own_RCn hown4 rfl (by decide); have hrc4' := RC.below (w := W3.drew) ⟨HRc3.out.len, HRc3.out.at_⟩ hb4; have HOwn4 := Lib.hid hown4; have HB4 := Lib.hid (below_step HB3.out hb4); have HAt4 := Lib.hid (HAt3.out.below hb4); have HRc4 := Lib.hid hrc4; have HRc4' := Lib.hid hrc4'; have HG4 := Lib.hid hg4; clear hown4 hb4 hrc4 hrc4' hg4)
      | (go_at_call 5; (with_reducible refine (Paint_ab A4 (some ⟨gr, 0, none⟩) c4 c _ HRc4.out HRc4'.out hc4 hc2').mono ?_); rintro e W5 ⟨g5, c5, rfl, hg0, hrb5, hb5⟩; have hg5 := blk_below HG4.out hb5; obtain ⟨d0, d1, d2⟩ := three_cells hg5))
  rename_i hHeld
  have hat5 := HAt4.out.below hb5
  have hg5n : g5 ≠ g ∧ g5 ≠ gc := by
    have h1 := blk_lt HAt4.out.blk
    have h2 := blk_lt HAt4.out.cells
    omega
  have HG5n := Lib.hid hg5n
  clear hg5n hg0
  have HRb5 := Lib.hid hrb5
  have HAt5 := Lib.hid hat5
  have hbW5 := below_step HB4.out hb5
  have HB5 := Lib.hid hbW5
  have hm5 : W5.cell? ⟨5, 0, none⟩ = some (.int .i64 m) := pw_cell_below hbW5 HM.out
  have HM5 := Lib.hid hm5
  clear hHeld d0 d1 d2 s0 s1 s2 hg5 hb5 hrb5 hat5 hbW5 hm5 hgrl
  go_wp2_with fail
  refine (Write_ab W5 W.heap.size g gc (some ⟨g5, 0, none⟩) c5 m HAt5.out HRb5.out h3 HM5.out).mono ?_
  rintro e W6 ⟨rfl, gc6, t6, v6, hat6, hR6, hC6, hl6, hk6, hb6⟩
  have HRb6 : Hid (RB W6 (some ⟨g5, 0, none⟩) Kp.abB) := Lib.hid (HRb5.out.kept hk6 (fun ad e => by
    injection e with e
    subst e
    rintro (e | e)
    · exact HG5n.out.1 e
    · exact HG5n.out.2 e))
  have HAt6 := Lib.hid hat6
  have HB6 := Lib.hid (HB5.out.trans hb6)
  have HR6 := Lib.hid hR6
  have HC6 := Lib.hid hC6
  have HL6 := Lib.hid hl6
  clear hat6 hR6 hC6 hl6 hk6 hb6
  go_wp2_with fail
  refine (Grid_ex W6 W.heap.size g gc6 t6 v6 1 2 2 Kp.abL HAt6.out (by rw [HR6.out]; rfl) (by rw [HC6.out]; rfl) HL6.out rfl).mono ?_
  rintro e W7 ⟨A7, c7, rfl, hown7, hb7⟩
  obtain ⟨gr7, cap7, hA7, _, _⟩ := hown7.form (by decide)
  injection hA7 with hA7 hl7 hc7
  subst hA7 hc7
  clear hl7
  have hrc7 := (own_RCn hown7 rfl (by decide)).1
  have h70 : W7.cell? ⟨gr7, 0, none⟩ = some (.int .i32 97) := by have := hown7.cells (g := gr7) rfl 0 _ rfl; rwa [add_plain] at this
  have HRc7 := Lib.hid hrc7
  have HRb7 := Lib.hid (HRb6.out.below hb7)
  have HB7 := Lib.hid (below_step HB6.out hb7)
  clear hown7 hb7 hrc7
  have hstr := run_string_of (W := W7) c5 HRb7.out
  have hstr' : ∀ o : Obj, (convert 26 9 (.slice (some ⟨g5, 0, none⟩) 12 c5)).run Tryz.prog (W7.alloc o) = .ok (.string ⟨#[27, 91, 49, 59, 49, 72, 27, 91, 48, 109, 97, 98]⟩) (W7.alloc o) := fun o => run_string_of (W := W7.alloc o) c5 (HRb7.out.below (below_alloc (Below.refl _ _) o))
  clear hstr
  go_wp2_with fail
  refine (proper_ab _ c7 _ (HRc7.out.below (below_alloc (Below.refl _ _) _))).mono ?_
  rintro e W8 ⟨rfl, hb8⟩
  have HB8 := Lib.hid (below_step (below_alloc HB7.out _) hb8)
  clear hb8
  go_wp2_with fail
  refine (proper_zero W8).mono ?_
  rintro e W9 ⟨rfl, hb9⟩
  have HB9 := Lib.hid (below_step HB8.out hb9)
  clear hb9
  go_wp2_with fail
  go_ret
  exact ⟨rfl, HB9.out⟩
end Go.Proofs.YtbjckccgbmimpabGreatDoor
