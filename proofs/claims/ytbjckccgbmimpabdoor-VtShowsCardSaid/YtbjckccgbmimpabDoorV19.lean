/- The walk of Write. -/
import Derived.Test.YtbjckccgbmimpabDoorV18
import Derived.Test.YtbjckccgbmimpabDoorK11
namespace Go.Proofs.YtbjckccgbmimpabDoor
open Go.RowKit Go.Proofs.YtbjckccgbmimpabDoorW.PrintWords Go.Proofs.YtbjckccgbmimpabDoorW.PrintLast Go.Proofs.YtbjckccgbmimpabDoorW.PrintMore
theorem rb5_cut (A : Option Addr) (n c j : Nat) (hj : j ≤ n) : ∃ A' : Option Addr, (∀ W : World, (Instr.slice 22 (.slice A n c) (some (.int .i64 (j : Int))) none none).run Tryd.prog W = .ok (.slice A' (n - j) (c - j)) W) ∧
    ∀ (w : World) (l : List UInt8), l.length = n → n ≤ c → RB5 w A l → RB5 w A' (l.drop j) := by
  obtain ⟨i0, hi, _, hsz, _⟩ := info_parts Tryd.info5
  refine ⟨if c = j then A else A.map (·.add j), fun W => ?_, fun w l hl hc h => ⟨?_, fun ad e => ?_⟩⟩
  · have hel : Tryd.prog.elem 22 = 5 := by simp [Program.elem, Tryd.underlying22]
    have hu : Tryd.prog.underlying 22 = some (.slice (Tryd.prog.elem 22)) := by rw [hel]; exact Tryd.underlying22
    rw [run_slice_l W 22 A n c hu .i64 (j : Int) (Int.natCast_nonneg _) (by omega), hel]
    simp [sizeOf, typeInfo, hi, hsz, sliced, Result.andThen]
  · have := ReadsOf.drop_ (c := c) h.rb j (by omega) (by omega)
    unfold RB
    rw [List.length_drop]
    exact this
  · by_cases hcj : c = j
    · rw [if_pos hcj] at e
      exact h.row ad e
    · rw [if_neg hcj] at e
      obtain ⟨ad0, e0, rfl⟩ := Option.map_eq_some_iff.1 e
      obtain ⟨cur, fr, hb⟩ := h.row ad0 e0
      exact ⟨cur, fr, by rw [add_block]; exact hb⟩
theorem own_RB5 {w : World} {base : Nat} {v : Value} {l : List UInt8} (h : w.ownsRow base 5 1 v (bz l).length (nums .u8 (bz l))) : ∃ A c, v = .slice A l.length c ∧ l.length ≤ c ∧ RB5 w A l := by
  obtain ⟨A, c, rfl, hc, hr⟩ := own_RB h
  refine ⟨A, c, rfl, hc, hr, fun ad e => ?_⟩
  subst e
  obtain ⟨cur, hb⟩ := own_blk (k := ad.block) h (by
    rcases h.2 with ⟨he, _⟩ | ⟨g, cap, cur, he, _⟩
    · cases he
    · injection he with he
      injection he with he
      subst he
      rfl)
  exact ⟨cur, _, hb⟩
/-- What the loop over the bytes keeps. -/
structure Reading (W wr : World) (base g gc : Nat) (wv : Value) (S : Nat → Prop) (t0 t : Kp.Tm) (all rest : List UInt8) (A : Option Addr) : Prop where
  at_ : ∃ gc', (gc' = gc ∨ W.heap.size ≤ gc') ∧ TermAt wr base g gc' t wv
  rb : RB5 wr A rest
  kept : Kept W wr S
  below : Below base W wr
  val : Kp.run t0 all = Kp.run t rest
theorem Reading.next {W wr w2 : World} {base g gc gc' : Nat} {wv : Value} {S : Nat → Prop} {t0 t t2 : Kp.Tm} {all rest : List UInt8} {A : Option Addr} (h : Reading W wr base g gc wv S t0 t all rest A) (hat : TermAt wr base g gc' t wv) (hgc : gc' = gc ∨ W.heap.size ≤ gc') (hS1 : S g) (hS2 : S gc)
    (htu : Turned wr w2 base g gc' t2 wv) (hv : Kp.run t rest = Kp.run t2 (rest.drop 0)) : Reading W w2 base g gc wv S t0 t2 all rest A := by
  obtain ⟨gc2, h1, h2⟩ := htu.at_
  refine ⟨⟨gc2, ?_, h2⟩, h.rb.kept htu.kept (fun ad e hs => ?_), h.kept.then_ htu.kept (fun k hk => ?_), h.below.trans htu.below, h.val.trans (by rw [hv, List.drop_zero])⟩
  · rcases h1 with rfl | h1
    · exact hgc
    · exact .inr (Nat.le_trans h.kept.1 h1)
  · rcases hs with hs | hs
    · exact h.rb.ne hat.blk (by decide) ad e hs
    · exact h.rb.ne hat.cells (by decide) ad e hs
  · rcases hk with rfl | rfl
    · exact .inl hS1
    · rcases hgc with rfl | e
      · exact .inl hS2
      · exact .inr e
theorem Reading.cut {W wr : World} {base g gc : Nat} {wv : Value} {S : Nat → Prop} {t0 t : Kp.Tm} {all rest q : List UInt8} {A A' : Option Addr} (h : Reading W wr base g gc wv S t0 t all rest A) (hrb : RB5 wr A' q) (hv : Kp.run t rest = Kp.run t q) : Reading W wr base g gc wv S t0 t all q A' :=
  ⟨h.at_, hrb, h.kept, h.below, h.val.trans hv⟩
/-- What Write comes to. -/
structure Written (W w' : World) (base g gc : Nat) (wv : Value) (t' : Kp.Tm) (rest : List UInt8) : Prop where
  at_ : ∃ gc' v', (gc' = gc ∨ W.heap.size ≤ gc') ∧ TermAt w' base g gc' t' v' ∧ w'.ownsRow base 5 1 v' (bz rest).length (nums .u8 (bz rest)) ∧ ∀ k, v'.ownBlock = some k → W.heap.size ≤ k
  kept : Kept W w' (fun k => k = g ∨ k = gc ∨ some k = wv.ownBlock)
  below : Below base W w'
def WrittenPost (W : World) (base g gc : Nat) (wv : Value) (t' : Kp.Tm) (rest : List UInt8) (e : Ending) (w' : World) : Prop := e = .returned (.tuple #[]) ∧ Written W w' base g gc wv t' rest
theorem TermAt.set6 {w : World} {base g gc : Nat} {t : Kp.Tm} {wv : Value} (h : TermAt w base g gc t wv) (v : Value) : TermAt (w.setCell ⟨g, 6, none⟩ v) base g gc t v :=
  ⟨blk_put h.blk 6 _ rfl, h.cells.kept (S := fun k => k = g) (Kept.setCell (Kept.refl w (fun k => k = g)) (p := ⟨g, 6, none⟩) (.inl rfl) _) (fun e => h.ne e.symm), h.ge, h.ok⟩
/-- The end: what waits is laid into a row of its own. -/
theorem Reading.done {W wr w5 : World} {base g gc r : Nat} {wv v5 : Value} {t0 t : Kp.Tm} {all rest : List UInt8} {A : Option Addr} (h : Reading W wr base g gc wv (fun k => k = g ∨ k = gc ∨ some k = wv.ownBlock) t0 t all rest A) (hB : base ≤ W.heap.size) (hr : r = wr.heap.size)
    (hg5 : (wr.alloc (.cells #[] 5)).grownBy w5 (Value.slice (some ⟨r, 0, none⟩) 0 0).ownBlock) (o5 : w5.ownsRow wr.heap.size 5 1 v5 ([] ++ bz rest).length (nums .u8 ([] ++ bz rest)))
    (ob : v5.ownBlock = (Value.slice (some ⟨r, 0, none⟩) 0 0).ownBlock ∨ ∃ b, v5.ownBlock = some b ∧ (wr.alloc (.cells #[] 5)).heap.size ≤ b) :
    Hid (w5.cell? ⟨g, 6, none⟩ = some wv) ∧ Hid (w5.frozen? ⟨g, 6, none⟩ = false) ∧ Hid (Written W (w5.setCell ⟨g, 6, none⟩ v5) base g gc wv t rest) := by
  subst hr
  obtain ⟨gc', h1, hat⟩ := h.at_
  have hk5 : Kept wr w5 (fun _ => False) := Kept.of_grown hg5 ((Kept.refl wr _).alloc _) (fun k hk => by
    simp only [Value.ownBlock, Option.some.injEq] at hk
    exact .inr (by omega))
  have hat5 := hat.kept hk5 (fun h => h) (fun h => h)
  have hb5 : Below wr.heap.size wr w5 := Below.grown (below_alloc (Below.refl wr.heap.size wr) (.cells #[] 5)) hg5 (by simp) (fun k hk => by
    simp only [Value.ownBlock, Option.some.injEq] at hk; omega)
  have obk : ∀ k, v5.ownBlock = some k → wr.heap.size ≤ k := fun k hk => (o5.lt k hk).1
  have hWr : W.heap.size ≤ wr.heap.size := h.kept.1
  have hgl : g < wr.heap.size := blk_lt hat.blk
  have kg : Kept w5 (w5.setCell ⟨g, 6, none⟩ v5) (fun k => k = g) := Kept.setCell (S := fun k => k = g) (Kept.refl w5 _) (p := ⟨g, 6, none⟩) (.inl rfl) _
  refine ⟨(blk_cell hat5.blk 6).trans rfl, blk_frozen hat5.blk 6, ⟨⟨gc', v5, h1, hat5.set6 v5, ?_, fun k hk => Nat.le_trans hWr (obk k hk)⟩, ?_, ?_⟩⟩
  · rw [List.nil_append] at o5
    exact own_kept (own_less o5 (Nat.le_trans hB hWr)) kg (fun k hk e => by have := obk k hk; omega)
  · exact (h.kept.then_ hk5 (fun k hk => hk.elim)).setCell (p := ⟨g, 6, none⟩) (.inl (.inl rfl)) _
  · exact (h.below.trans (hb5.mono (Nat.le_trans hB hWr))).setCell (p := ⟨g, 6, none⟩) hat.ge.1 _
set_option maxRecDepth 100000 in
set_option maxHeartbeats 4000000 in
theorem Write_calls (W : World) (base g gc : Nat) (t : Kp.Tm) (wA : Option Addr) (wc : Nat) (wl bs : List UInt8) (A : Option Addr) (c : Nat) (m : Int) (h : TermAt W base g gc t (.slice wA wl.length wc))
    (ho : W.ownsRow base 5 1 (.slice wA wl.length wc) (bz wl).length (nums .u8 (bz wl))) (hr : RB W A bs) (hL : wl.length + bs.length ≤ 1000000) (h3 : 3 < base) (hm : W.cell? ⟨3, 0, none⟩ = some (.int .i64 m)) :
    Calls Tryd.prog 13 #[.pointer (some ⟨g, 0, none⟩), .slice A bs.length c] W (WrittenPost W base g gc (.slice wA wl.length wc) (Kp.run t (wl ++ bs)).1 (Kp.run t (wl ++ bs)).2) := by
  have hgW : base ≤ W.heap.size := Nat.le_trans h.ge.1 (Nat.le_of_lt (blk_lt h.blk))
  obtain ⟨⟨_, _, _, _, _, _, c6⟩, _⟩ := h.rules
  have H := Lib.hid h
  have HO := Lib.hid ho
  have HR := Lib.hid hr
  have HM := Lib.hid hm
  clear h ho hr hm
  go_enter Tryd.func13, Tryd.ntmps13
  go_wp2_with (at_builtin; refine print_append_row (w0 := W) base rfl _ _ 22 5 .u8 1 rfl Tryd.underlying22 Tryd.info5 (by decide) (.slice wA wl.length wc) (bz wl) (bz bs) A bs.length c rfl rfl HO.out HR.out.ints (Below.refl _ _) hgW (by rw [bz_length]; omega) ?_; intro v1 w1 hown hB1 hg hat; have HO1 := Lib.hid hown; have HB1 := Lib.hid hB1; have HG1 := Lib.hid hg; clear hown hB1 hg hat)
  obtain ⟨all, hall⟩ : ∃ all, wl ++ bs = all := ⟨_, rfl⟩
  have hallL : all.length ≤ 1000000 := by rw [← hall, List.length_append]; exact hL
  have ho1 : w1.ownsRow base 5 1 v1 (bz all).length (nums .u8 (bz all)) := by rw [← hall, bz_append]; exact HO1.out
  obtain ⟨A1, c1, rfl, hc1, hrb⟩ := own_RB5 ho1
  have hk1 : Kept W w1 (fun k => k = g ∨ k = gc ∨ some k = (Value.slice wA wl.length wc).ownBlock) := Kept.of_grown HG1.out (Kept.refl W _) (fun k hk => .inl (.inr (.inr hk.symm)))
  have hne1 := own_ne_blk HO.out H.out.blk (by decide)
  have hne2 := own_ne_blk HO.out H.out.cells (by decide)
  have hat1 : TermAt w1 base g gc t (.slice wA wl.length wc) := H.out.kept (S := fun k => some k = (Value.slice wA wl.length wc).ownBlock) (Kept.of_grown HG1.out (Kept.refl W _) (fun k hk => .inl hk.symm)) (fun e => hne1 _ e.symm rfl) (fun e => hne2 _ e.symm rfl)
  have hstart : Reading W w1 base g gc (.slice wA wl.length wc) (fun k => k = g ∨ k = gc ∨ some k = (Value.slice wA wl.length wc).ownBlock) t t all all A1 := ⟨⟨gc, .inl rfl, hat1⟩, hrb, hk1, HB1.out, rfl⟩
  have HSt := Lib.hid hstart
  have HAll := Lib.hid hall
  clear ho1 hrb hk1 hne1 hne2 hat1 hstart hall HO1 c6
  go_loopw [4, 5] (fun v4 v5 wr => ∃ (A2 : Option Addr) (c2 : Nat) (rest : List UInt8) (t2 : Kp.Tm), v4 = .slice A2 rest.length c2 ∧ rest.length ≤ c2 ∧ rest.length ≤ 1000000 ∧ Hid (Reading W wr base g gc (.slice wA wl.length wc) (fun k => k = g ∨ k = gc ∨ some k = (Value.slice wA wl.length wc).ownBlock) t t2 all rest A2)) (fun v4 _ _ => lenOfV v4)
  case atStart => exact ⟨A1, c1, all, t, rfl, hc1, hallL, HSt.out⟩
  case round =>
    clear HSt
    obtain ⟨A2, c2, rest, t2, rfl, hc2, hlen, HRd⟩ := hrel
    by_cases hr0 : 0 < rest.length
    · obtain ⟨gc2, hgc2, hat2⟩ := HRd.out.at_
      have hm2 : wr.cell? ⟨3, 0, none⟩ = some (.int .i64 m) := (HRd.out.below.cell (p := ⟨3, 0, none⟩) h3).trans HM.out
      have hst := step_calls wr base g gc2 t2 _ A2 c2 rest m hat2 HRd.out.rb.rb hc2 (by omega) hr0 hm2
      have HSt := Lib.hid hst
      have HAt2 := Lib.hid hat2
      have HGc2 := Lib.hid hgc2
      clear hst hat2 hgc2 hm2
      go_wp2_with fail
      refine HSt.out.mono ?_
      rintro e w2 ⟨rfl, htu⟩
      have hle := Kp.stepT_le t2 rest hr0
      obtain ⟨n, hn⟩ : ∃ n, (Kp.stepT t2 rest).1 = n := ⟨_, rfl⟩
      rw [hn] at hle ⊢
      by_cases hn0 : n = 0
      · have hz := Kp.stepT_zero t2 rest (by rw [hn, hn0])
        rw [hz] at htu
        have hrd := HRd.out.next HAt2.out HGc2.out (.inl rfl) (.inr (.inl rfl)) htu (by rw [List.drop_zero])
        have hstop := Kp.run_stop t2 rest (.inr (by rw [hn, hn0]))
        have hfin : Kp.run t all = (t2, rest) := hrd.val.trans hstop
        have HRd2 := Lib.hid hrd
        have HFin := Lib.hid hfin
        have b0 : ((n : Int) == 0) = true := by simp [hn0]
        have hs2 : base ≤ w2.heap.size := Nat.le_trans hgW hrd.kept.1
        clear hrd hstop hfin hz htu hn hn0 HRd HSt
        go_wp2_with (at_builtin; refine print_append_row (w0 := w2.alloc (.cells #[] 5)) w2.heap.size rfl _ _ 22 5 .u8 1 rfl Tryd.underlying22 Tryd.info5 (by decide) (.slice (some ⟨w2.heap.size, 0, none⟩) 0 0) [] (bz rest) A2 rest.length c2 rfl rfl (own_empty (Nat.le_refl _) rfl) (RB.ints (HRd2.out.rb.rb.below (below_alloc (Below.refl _ _) _))) (Below.refl _ _) (by simp) (by first | omega | (simp; omega)) ?_; intro v5 w5 hown _ hg hat; obtain ⟨A5, c5, rfl⟩ := own_slice hown; obtain ⟨Hc, Hf, HW⟩ := HRd2.out.done hgW rfl hg hown hat; have hcg := Hc.out; have hfg := Hf.out; clear hown hg hat)
        go_end0
        exact ⟨rfl, by rw [HAll.out, HFin.out]; exact HW.out⟩
      · have b0 : ((n : Int) == 0) = false := by simp; omega
        have hrun := Kp.run_step t2 rest hr0 (by rw [hn]; exact hn0)
        rw [hn] at hrun
        obtain ⟨A3, hcut, hA3⟩ := rb5_cut A2 rest.length c2 n hle
        obtain ⟨q, hq⟩ : ∃ q, rest.drop n = q := ⟨_, rfl⟩
        have hql : rest.length - n = q.length := by rw [← hq, List.length_drop]
        rw [hql] at hcut
        have htu2 := htu
        obtain ⟨gc3, hg3, hat3⟩ := htu.at_
        have hrb2 : RB5 w2 A2 rest := HRd.out.rb.kept htu.kept (fun ad e hs => by
          rcases hs with hs | hs
          · exact HRd.out.rb.ne HAt2.out.blk (by decide) ad e hs
          · exact HRd.out.rb.ne HAt2.out.cells (by decide) ad e hs)
        have hrb3 := hA3 w2 rest rfl hc2 hrb2
        rw [hq] at hrb3 hrun
        have hrd : Reading W w2 base g gc (.slice wA wl.length wc) (fun k => k = g ∨ k = gc ∨ some k = (Value.slice wA wl.length wc).ownBlock) t (Kp.stepT t2 rest).2 all q A3 := by
          refine ⟨⟨gc3, ?_, hat3⟩, hrb3, HRd.out.kept.then_ htu.kept (fun k hk => ?_), HRd.out.below.trans htu.below, HRd.out.val.trans hrun⟩
          · rcases hg3 with e | e
            · rw [e]; exact HGc2.out
            · exact .inr (Nat.le_trans HRd.out.kept.1 e)
          · rcases hk with rfl | rfl
            · exact .inl (.inl rfl)
            · rcases HGc2.out with e | e
              · exact .inl (.inr (.inl e))
              · exact .inr e
        have HRd2 := Lib.hid hrd
        have hqc : q.length ≤ c2 - n := by omega
        have hq1 : q.length + 1 ≤ rest.length := by omega
        have hnI : (n : Int) ≤ rest.length := by omega
        clear hrd hrun hA3 hq hql htu htu2 hg3 hat3 hrb2 hrb3 hn hn0 HRd HSt
        go_wp2_with fail
        go_roundw
        case rel => exact ⟨A3, c2 - n, q, _, rfl, hqc, by omega, HRd2.out⟩
        case measure => simp [lenOfV]; omega
    · have hstop := Kp.run_stop t2 rest (.inl (by omega))
      have hfin : Kp.run t all = (t2, rest) := HRd.out.val.trans hstop
      have HFin := Lib.hid hfin
      have hs2 : base ≤ wr.heap.size := Nat.le_trans hgW HRd.out.kept.1
      have hr00 : rest.length = 0 := by omega
      clear hstop hfin
      go_wp2_with (at_builtin; refine print_append_row (w0 := wr.alloc (.cells #[] 5)) wr.heap.size rfl _ _ 22 5 .u8 1 rfl Tryd.underlying22 Tryd.info5 (by decide) (.slice (some ⟨wr.heap.size, 0, none⟩) 0 0) [] (bz rest) A2 rest.length c2 rfl rfl (own_empty (Nat.le_refl _) rfl) (RB.ints (HRd.out.rb.rb.below (below_alloc (Below.refl _ _) _))) (Below.refl _ _) (by simp) (by first | omega | (simp; omega)) ?_; intro v5 w5 hown _ hg hat; obtain ⟨A5, c5, rfl⟩ := own_slice hown; obtain ⟨Hc, Hf, HW⟩ := HRd.out.done hgW rfl hg hown hat; have hcg := Hc.out; have hfg := Hf.out; clear hown hg hat)
      go_end0
      exact ⟨rfl, by rw [HAll.out, HFin.out]; exact HW.out⟩
end Go.Proofs.YtbjckccgbmimpabDoor
