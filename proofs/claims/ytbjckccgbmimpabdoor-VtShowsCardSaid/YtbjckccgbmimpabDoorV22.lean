/- The walk of VtShows. -/
import Derived.Test.YtbjckccgbmimpabDoorV21
namespace Go.Proofs.YtbjckccgbmimpabDoor
open Go.RowKit Go.Proofs.YtbjckccgbmimpabDoorW.PrintWords Go.Proofs.YtbjckccgbmimpabDoorW.PrintLast Go.Proofs.YtbjckccgbmimpabDoorW.PrintMore
/-- What the law holds: a terminal, the two grids, the bytes that are to be written. -/
structure Scene (W w : World) (g gc gf gt gb : Nat) (t : Kp.Tm) (wA : Option Addr) (wc : Nat) (wl : List UInt8) (fR fC tR tC : Int) (fA tA : Option Addr) (fl tl : List Cell) (fc tc : Nat) (b : List UInt8) : Prop where
  at_ : TermAt w W.heap.size g gc t (.slice wA wl.length wc)
  own : w.ownsRow W.heap.size 5 1 (.slice wA wl.length wc) (bz wl).length (nums .u8 (bz wl))
  gf : GridAt w gf fR fC fA fl.length fc
  gt : GridAt w gt tR tC tA tl.length tc
  bs : RB w (some ⟨gb, 0, none⟩) b
  lt : gb < w.heap.size
  ne : gb ≠ g ∧ gb ≠ gc ∧ ∀ k, (Value.slice wA wl.length wc).ownBlock = some k → k ≠ gb
  below : Below W.heap.size W w
section
variable {W w w' : World} {g gc gf gt gb : Nat} {t t' : Kp.Tm} {wA : Option Addr} {wc : Nat} {wl rest : List UInt8} {fR fC tR tC : Int} {fA tA : Option Addr} {fl tl : List Cell} {fc tc : Nat} {b : List UInt8}
theorem Scene.below_ (h : Scene W w g gc gf gt gb t wA wc wl fR fC tR tC fA tA fl tl fc tc b) (hb : Below w.heap.size w w') : Scene W w' g gc gf gt gb t wA wc wl fR fC tR tC fA tA fl tl fc tc b :=
  ⟨h.at_.below hb, pw_own_below h.own hb, h.gf.below hb, h.gt.below hb, h.bs.below hb, Nat.lt_of_lt_of_le h.lt hb.size, h.ne, below_step h.below hb⟩
theorem Scene.drew_ (h : Scene W w g gc gf gt gb t wA wc wl fR fC tR tC fA tA fl tl fc tc b) : Scene W w.drew g gc gf gt gb t wA wc wl fR fC tR tC fA tA fl tl fc tc b :=
  h.below_ (below_drew (Below.refl _ _))
theorem Scene.written (h : Scene W w g gc gf gt gb t wA wc wl fR fC tR tC fA tA fl tl fc tc b) (hw : Written w w' W.heap.size g gc (.slice wA wl.length wc) t' rest) :
    ∃ gc' wA' wc', Scene W w' g gc' gf gt gb t' wA' wc' rest fR fC tR tC fA tA fl tl fc tc b := by
  obtain ⟨gc', v', hg, hat, hown, hnew⟩ := hw.at_
  obtain ⟨A', c', rfl⟩ := own_slice hown
  rw [bz_length] at hat hown hnew
  have n1 := h.ne
  have k34 : ∀ x cs, w.heap[x]? = some (.cells cs 34 (0, 0)) → ¬ (x = g ∨ x = gc ∨ some x = (Value.slice wA wl.length wc).ownBlock) := fun x cs hx e => by
    rcases e with e | e | e
    · subst e; exact absurd rfl (blk_ne h.at_.blk hx (by decide))
    · subst e; exact absurd rfl (blk_ne h.at_.cells hx (by decide))
    · exact own_ne_blk h.own hx (by decide) x e.symm rfl
  refine ⟨gc', A', c', hat, by rw [bz_length]; exact hown, ⟨blk_kept h.gf.blk hw.kept (k34 _ _ h.gf.blk)⟩, ⟨blk_kept h.gt.blk hw.kept (k34 _ _ h.gt.blk)⟩, h.bs.kept hw.kept (fun ad e hs => ?_), Nat.lt_of_lt_of_le h.lt hw.kept.1, ⟨n1.1, ?_, fun k hk e => ?_⟩, h.below.trans hw.below⟩
  · injection e with e
    subst e
    rcases hs with e | e | e
    · exact n1.1 e
    · exact n1.2.1 e
    · exact n1.2.2 _ e.symm rfl
  · rcases hg with e | e
    · rw [e]; exact n1.2.1
    · have := h.lt; omega
  · have := hnew k hk
    have := h.lt
    omega
theorem Scene.turned (h : Scene W w g gc gf gt gb t wA wc wl fR fC tR tC fA tA fl tl fc tc b) (hw : Turned w w' W.heap.size g gc t' (.slice wA wl.length wc)) :
    ∃ gc', Scene W w' g gc' gf gt gb t' wA wc wl fR fC tR tC fA tA fl tl fc tc b := by
  obtain ⟨gc', hg, hat⟩ := hw.at_
  have n1 := h.ne
  have k34 : ∀ x cs, w.heap[x]? = some (.cells cs 34 (0, 0)) → ¬ (x = g ∨ x = gc) := fun x cs hx e => by
    rcases e with e | e
    · subst e; exact absurd rfl (blk_ne h.at_.blk hx (by decide))
    · subst e; exact absurd rfl (blk_ne h.at_.cells hx (by decide))
  refine ⟨gc', hat, own_kept h.own hw.kept (fun k hk e => ?_), ⟨blk_kept h.gf.blk hw.kept (k34 _ _ h.gf.blk)⟩, ⟨blk_kept h.gt.blk hw.kept (k34 _ _ h.gt.blk)⟩, h.bs.kept hw.kept (fun ad e hs => ?_), Nat.lt_of_lt_of_le h.lt hw.kept.1, ⟨n1.1, ?_, n1.2.2⟩, h.below.trans hw.below⟩
  · rcases e with e | e
    · subst e; exact own_ne_blk h.own h.at_.blk (by decide) _ hk rfl
    · subst e; exact own_ne_blk h.own h.at_.cells (by decide) _ hk rfl
  · injection e with e
    subst e
    rcases hs with e | e
    · exact n1.1 e
    · exact n1.2.1 e
  · rcases hg with e | e
    · rw [e]; exact n1.2.1
    · have := h.lt; omega
end
theorem proper_true (rows cols : Int) (A : Option Addr) (l : List Cell) (c : Nat) (W : World) (hr : RC W A l) (hwf : Kp.wf l) (h : Kp.proper rows cols l) : Calls Tryd.prog 9 #[.agg #[.int .i64 rows, .int .i64 cols, .slice A l.length c]] W fun e w' => e = .returned (.bool true) ∧ Below W.heap.size W w' :=
  (proper_agg rows cols A l c W hr hwf).mono fun _ _ ⟨b, he, hi, hb⟩ => ⟨by rw [he, hi.2 h], hb⟩
theorem proper_false (rows cols : Int) (A : Option Addr) (l : List Cell) (c : Nat) (W : World) (hr : RC W A l) (hwf : Kp.wf l) (h : ¬ Kp.proper rows cols l) : Calls Tryd.prog 9 #[.agg #[.int .i64 rows, .int .i64 cols, .slice A l.length c]] W fun e w' => e = .returned (.bool false) ∧ Below W.heap.size W w' :=
  (proper_agg rows cols A l c W hr hwf).mono fun _ _ ⟨b, he, hi, hb⟩ => ⟨by
    cases b
    · exact he
    · exact absurd (hi.1 rfl) h, hb⟩
theorem TermAt.less {w : World} {base base2 g gc : Nat} {t : Kp.Tm} {wv : Value} (h : TermAt w base g gc t wv) (hb : base2 ≤ base) : TermAt w base2 g gc t wv := ⟨h.blk, h.cells, ⟨Nat.le_trans hb h.ge.1, Nat.le_trans hb h.ge.2⟩, h.ok⟩
theorem paint_yes (fR fC tR tC : Int) (R C : Nat) (fA tA : Option Addr) (fl tl : List Cell) (fc tc : Nat) (W : World) (hf : RC W fA fl) (ht : RC W tA tl) (hwf : Kp.wf tl) (hfc : fl.length ≤ fc) (htc : tl.length ≤ tc)
    (fresh : Bool) (hfr : fresh = true ↔ (fR ≠ tR ∨ fC ≠ tC ∨ fl.length ≠ tl.length)) (hp : Kp.proper tR tC tl) (hR : tR.toNat = R) (hC : tC.toNat = C) (bs : List UInt8) (hbs : Kp.paintB fresh R C fl tl = bs) :
    Calls Tryd.prog 12 #[.agg #[.int .i64 fR, .int .i64 fC, .slice fA fl.length fc], .agg #[.int .i64 tR, .int .i64 tC, .slice tA tl.length tc]] W fun e w' => ∃ g0 c, e = .returned (.tuple #[.slice (some ⟨g0, 0, none⟩) bs.length c, .int .i64 0]) ∧ W.heap.size ≤ g0 ∧ bs.length ≤ c ∧ bs.length ≤ 100000 ∧ RB w' (some ⟨g0, 0, none⟩) bs ∧ g0 < w'.heap.size ∧ Below W.heap.size W w' := by
  subst hR hC hbs
  refine (Paint_agg fR fC tR tC fA tA fl tl fc tc W hf ht hwf hfc htc fresh hfr).mono fun e w' h => ?_
  obtain ⟨hb, h | ⟨_, g0, c', he, hg0, h1, h2, hr⟩⟩ := h
  · exact absurd hp h.1
  · exact ⟨g0, c', he, hg0.1, h1, h2, hr, hg0.2, hb⟩
theorem alike_same (A B : Option Addr) (l : List Cell) (c c2 : Nat) (W : World) (hr : RC W A l) (hr2 : RC W B l) : Calls Tryd.prog 14 #[.slice A l.length c, .slice B l.length c2] W fun e w' => e = .returned (.bool true) ∧ Drawn W w' :=
  (alike_calls A B l l c c2 W hr hr2).mono fun _ _ ⟨he, hd⟩ => ⟨by rw [he, decide_eq_true rfl], hd⟩
theorem run_head (g n c k : Nat) (h : k ≤ c) (W : World) : (Instr.slice 22 (.slice (some ⟨g, 0, none⟩) n c) none (some (.int .i64 (k : Int))) none).run Tryd.prog W = .ok (.slice (some ⟨g, 0, none⟩) k c) W := by
  obtain ⟨i0, hi, _, hsz, _⟩ := info_parts Tryd.info5
  have hel : Tryd.prog.elem 22 = 5 := by simp [Program.elem, Tryd.underlying22]
  have hu : Tryd.prog.underlying 22 = some (.slice (Tryd.prog.elem 22)) := by rw [hel]; exact Tryd.underlying22
  rw [run_slice_h W 22 (some ⟨g, 0, none⟩) n c hu .i64 (k : Int) (by omega) (by omega), hel]
  simp [sizeOf, typeInfo, hi, hsz, sliced, Result.andThen, Addr.add]
set_option maxRecDepth 100000 in
set_option maxHeartbeats 16000000 in
theorem VtShows_calls (W : World) (fR fC tR tC : Int) (fA tA : Option Addr) (fl tl : List Cell) (fc tc : Nat) (cut : Nat) (m : Int) (hf : RC W fA fl) (ht : RC W tA tl) (hwf : Kp.wf fl) (hwt : Kp.wf tl) (hfc : fl.length ≤ fc) (htc : tl.length ≤ tc) (hcut : cut < 65536)
    (hm : W.cell? ⟨3, 0, none⟩ = some (.int .i64 m)) :
    Calls Tryd.prog 4 #[.agg #[.int .i64 fR, .int .i64 fC, .slice fA fl.length fc], .agg #[.int .i64 tR, .int .i64 tC, .slice tA tl.length tc], .int .u16 cut] W (TruePost W) := by
  have h3 : 3 < W.heap.size := World.block_lt_of_cell? W _ hm
  have HM := Lib.hid hm
  have HF := Lib.hid hf
  have HT := Lib.hid ht
  have hl1 := hf.len
  have hl2 := ht.len
  clear hm hf ht
  by_cases h1 : 300 < fl.length
  · have b1 : decide (300 < (fl.length : Int)) = true := by simp; omega
    clear h1
    go_enter Tryd.func4, Tryd.ntmps4
    go_wp2_with fail
    have hgf := (GridAt.new W fR fC fA fl.length fc).alloc (.cells #[.int .i64 tR, .int .i64 tC, .slice tA tl.length tc] 34)
    have hgt : GridAt ((W.alloc (.cells #[.int .i64 fR, .int .i64 fC, .slice fA fl.length fc] 34)).alloc (.cells #[.int .i64 tR, .int .i64 tC, .slice tA tl.length tc] 34)) (W.heap.size + 1) tR tC tA tl.length tc := ⟨heap_alloc_at (by simp)⟩
    have hb1 := below_alloc (below_alloc (Below.refl W.heap.size W) (.cells #[.int .i64 fR, .int .i64 fC, .slice fA fl.length fc] 34)) (.cells #[.int .i64 tR, .int .i64 tC, .slice tA tl.length tc] 34)
    generalize (W.alloc (.cells #[.int .i64 fR, .int .i64 fC, .slice fA fl.length fc] 34)).alloc (.cells #[.int .i64 tR, .int .i64 tC, .slice tA tl.length tc] 34) = W1 at hgf hgt hb1 ⊢
    generalize W.heap.size + 1 = gt at hgt ⊢
    obtain ⟨gf, hgfe⟩ : ∃ gf, W.heap.size = gf := ⟨_, rfl⟩
    rw [hgfe] at hgf ⊢
    clear hgfe
    obtain ⟨f0, f1, f2⟩ := hgf.cells
    obtain ⟨t0, t1, t2⟩ := hgt.cells
    have HGF := Lib.hid hgf
    have HGT := Lib.hid hgt
    have HB1 := Lib.hid hb1
    clear hgf hgt hb1
    refine (knows23_calls W1 m (pw_cell_below HB1.out HM.out)).mono ?_
    rintro e W2 ⟨rfl, hb2⟩
    have HB2 := Lib.hid (below_step HB1.out hb2)
    clear hb2
    go_wp2_with fail
    go_ret
    exact ⟨rfl, HB2.out⟩
  · have b1 : decide (300 < (fl.length : Int)) = false := by simp; omega
    by_cases h2 : 300 < tl.length
    · have b2 : decide (300 < (tl.length : Int)) = true := by simp; omega
      clear h1 h2
      go_enter Tryd.func4, Tryd.ntmps4
      go_wp2_with fail
      have hgf := (GridAt.new W fR fC fA fl.length fc).alloc (.cells #[.int .i64 tR, .int .i64 tC, .slice tA tl.length tc] 34)
      have hgt : GridAt ((W.alloc (.cells #[.int .i64 fR, .int .i64 fC, .slice fA fl.length fc] 34)).alloc (.cells #[.int .i64 tR, .int .i64 tC, .slice tA tl.length tc] 34)) (W.heap.size + 1) tR tC tA tl.length tc := ⟨heap_alloc_at (by simp)⟩
      have hb1 := below_alloc (below_alloc (Below.refl W.heap.size W) (.cells #[.int .i64 fR, .int .i64 fC, .slice fA fl.length fc] 34)) (.cells #[.int .i64 tR, .int .i64 tC, .slice tA tl.length tc] 34)
      generalize (W.alloc (.cells #[.int .i64 fR, .int .i64 fC, .slice fA fl.length fc] 34)).alloc (.cells #[.int .i64 tR, .int .i64 tC, .slice tA tl.length tc] 34) = W1 at hgf hgt hb1 ⊢
      generalize W.heap.size + 1 = gt at hgt ⊢
      obtain ⟨gf, hgfe⟩ : ∃ gf, W.heap.size = gf := ⟨_, rfl⟩
      rw [hgfe] at hgf ⊢
      clear hgfe
      obtain ⟨f0, f1, f2⟩ := hgf.cells
      obtain ⟨t0, t1, t2⟩ := hgt.cells
      have HGF := Lib.hid hgf
      have HGT := Lib.hid hgt
      have HB1 := Lib.hid hb1
      clear hgf hgt hb1
      refine (knows23_calls W1 m (pw_cell_below HB1.out HM.out)).mono ?_
      rintro e W2 ⟨rfl, hb2⟩
      have HB2 := Lib.hid (below_step HB1.out hb2)
      clear hb2
      go_wp2_with fail
      go_ret
      exact ⟨rfl, HB2.out⟩
    · have b2 : decide (300 < (tl.length : Int)) = false := by simp; omega
      have hfl : fl.length ≤ 300 := by omega
      have htl : tl.length ≤ 300 := by omega
      clear h1 h2
      go_enter Tryd.func4, Tryd.ntmps4
      go_wp2_with fail
      have hgf := (GridAt.new W fR fC fA fl.length fc).alloc (.cells #[.int .i64 tR, .int .i64 tC, .slice tA tl.length tc] 34)
      have hgt : GridAt ((W.alloc (.cells #[.int .i64 fR, .int .i64 fC, .slice fA fl.length fc] 34)).alloc (.cells #[.int .i64 tR, .int .i64 tC, .slice tA tl.length tc] 34)) (W.heap.size + 1) tR tC tA tl.length tc := ⟨heap_alloc_at (by simp)⟩
      have hb1 := below_alloc (below_alloc (Below.refl W.heap.size W) (.cells #[.int .i64 fR, .int .i64 fC, .slice fA fl.length fc] 34)) (.cells #[.int .i64 tR, .int .i64 tC, .slice tA tl.length tc] 34)
      generalize (W.alloc (.cells #[.int .i64 fR, .int .i64 fC, .slice fA fl.length fc] 34)).alloc (.cells #[.int .i64 tR, .int .i64 tC, .slice tA tl.length tc] 34) = W1 at hgf hgt hb1 ⊢
      generalize W.heap.size + 1 = gt at hgt ⊢
      obtain ⟨gf, hgfe⟩ : ∃ gf, W.heap.size = gf := ⟨_, rfl⟩
      rw [hgfe] at hgf ⊢
      clear hgfe
      obtain ⟨f0, f1, f2⟩ := hgf.cells
      obtain ⟨t0, t1, t2⟩ := hgt.cells
      have HGF := Lib.hid hgf
      have HGT := Lib.hid hgt
      have HB1 := Lib.hid hb1
      clear hgf hgt hb1
      by_cases hpf : Kp.proper fR fC fl
      · refine (proper_true fR fC fA fl fc W1 (HF.out.below HB1.out) hwf hpf).mono ?_
        rintro e W2 ⟨rfl, hb2⟩
        have HB2 := Lib.hid (below_step HB1.out hb2)
        have HGF2 := Lib.hid (HGF.out.below hb2)
        have HGT2 := Lib.hid (HGT.out.below hb2)
        clear hb2 f0 f1 f2 t0 t1 t2 HGF HGT HB1
        obtain ⟨f0, f1, f2⟩ := HGF2.out.cells
        obtain ⟨t0, t1, t2⟩ := HGT2.out.cells
        go_wp2_with fail
        by_cases hpt : Kp.proper tR tC tl
        · refine (proper_true tR tC tA tl tc W2 (HT.out.below HB2.out) hwt hpt).mono ?_
          rintro e W3 ⟨rfl, hb3⟩
          have HB3 := Lib.hid (below_step HB2.out hb3)
          have HGF3 := Lib.hid (HGF2.out.below hb3)
          have HGT3 := Lib.hid (HGT2.out.below hb3)
          clear hb3 f0 f1 f2 t0 t1 t2 HGF2 HGT2 HB2
          obtain ⟨f0, f1, f2⟩ := HGF3.out.cells
          obtain ⟨t0, t1, t2⟩ := HGT3.out.cells
          obtain ⟨hs1, hs2, hlf, hgof⟩ := id hpf
          obtain ⟨hs3, hs4, hlt, hgot⟩ := id hpt
          obtain ⟨R0, rfl⟩ : ∃ R : Nat, fR = R := ⟨fR.toNat, by unfold Kp.side at hs1; omega⟩
          obtain ⟨C0, rfl⟩ : ∃ C : Nat, fC = C := ⟨fC.toNat, by unfold Kp.side at hs2; omega⟩
          obtain ⟨R1, rfl⟩ : ∃ R : Nat, tR = R := ⟨tR.toNat, by unfold Kp.side at hs3; omega⟩
          obtain ⟨C1, rfl⟩ : ∃ C : Nat, tC = C := ⟨tC.toNat, by unfold Kp.side at hs4; omega⟩
          have hR0 : 1 ≤ R0 ∧ R0 ≤ 60 := by unfold Kp.side at hs1; omega
          have hC0 : 1 ≤ C0 ∧ C0 ≤ 60 := by unfold Kp.side at hs2; omega
          have hR1 : 1 ≤ R1 ∧ R1 ≤ 60 := by unfold Kp.side at hs3; omega
          have hC1 : 1 ≤ C1 ∧ C1 ≤ 60 := by unfold Kp.side at hs4; omega
          have hlf' : fl.length = R0 * C0 := by exact_mod_cast hlf
          have hlt' : tl.length = R1 * C1 := by exact_mod_cast hlt
          have hptf := (Kp.proper_iff hR0.1 hC0.1 hlf').1 (by rwa [Int.toNat_natCast] at hgof)
          have hptt := (Kp.proper_iff hR1.1 hC1.1 hlt').1 (by rwa [Int.toNat_natCast] at hgot)
          rw [hlf'] at hptf
          rw [hlt'] at hptt
          have HPf := Lib.hid hpf
          have HPt := Lib.hid hpt
          have HS1 := Lib.hid hs1
          have HS2 := Lib.hid hs2
          have HS3 := Lib.hid hs3
          have HS4 := Lib.hid hs4
          have HLf := Lib.hid hlf'
          have HLt := Lib.hid hlt'
          have HPtf := Lib.hid hptf
          have HPtt := Lib.hid hptt
          clear hpf hpt hs1 hs2 hs3 hs4 hlf hlt hgof hgot hlf' hlt' hptf hptt
          go_wp2_with fail
          refine (New_calls R0 C0 W3).mono ?_
          rintro e W4 (⟨hn, _, _⟩ | ⟨g, gc, _, _, rfl, hat, hb4⟩)
          · exact absurd ⟨HS1.out, HS2.out⟩ hn
          simp only [Int.toNat_natCast] at hat
          have HAt4 := Lib.hid hat
          have HB4 := Lib.hid (below_step HB3.out hb4)
          have HGF4 := Lib.hid (HGF3.out.below hb4)
          have HGT4 := Lib.hid (HGT3.out.below hb4)
          clear hb4 hat f0 f1 f2 t0 t1 t2 HGF3 HGT3
          obtain ⟨f0, f1, f2⟩ := HGF4.out.cells
          obtain ⟨t0, t1, t2⟩ := HGT4.out.cells
          go_wp2_with fail
          obtain ⟨al, hal⟩ : ∃ al, Kp.paintB true R0 C0 [] fl = al := ⟨_, rfl⟩
          obtain ⟨fresh, hfresh⟩ : ∃ fresh : Bool, decide (R0 ≠ R1 ∨ C0 ≠ C1) = fresh := ⟨_, rfl⟩
          obtain ⟨bl, hbl⟩ : ∃ bl, Kp.paintB fresh R1 C1 fl tl = bl := ⟨_, rfl⟩
          have HAl := Lib.hid hal
          have HFr := Lib.hid hfresh
          have HBl := Lib.hid hbl
          clear hal hfresh hbl
          refine (paint_yes 0 0 R0 C0 R0 C0 none fA [] fl 0 fc W4 ⟨by simp, fun i hi => by simp at hi⟩ (HF.out.below HB4.out) hwf (Nat.le_refl 0) hfc true ⟨(fun _ => .inl (by omega)), (fun _ => rfl)⟩ HPf.out (by simp) (by simp) al HAl.out).mono ?_
          rintro e W5 ⟨ga, ca, rfl, hga, hca, hla, hra, hgal, hb5⟩
          have HRa := Lib.hid hra
          have HB5 := Lib.hid (below_step HB4.out hb5)
          have HAt5 := Lib.hid (HAt4.out.below hb5)
          have HGF5 := Lib.hid (HGF4.out.below hb5)
          have HGT5 := Lib.hid (HGT4.out.below hb5)
          have hgag : ga ≠ g ∧ ga ≠ gc := by
            have h1 := blk_lt HAt4.out.blk
            have h2 := blk_lt HAt4.out.cells
            omega
          clear hb5 hra f0 f1 f2 t0 t1 t2 HGF4 HGT4 hga
          obtain ⟨f0, f1, f2⟩ := HGF5.out.cells
          obtain ⟨t0, t1, t2⟩ := HGT5.out.cells
          go_wp2_with fail
          have hfr2 : fresh = true ↔ ((R0 : Int) ≠ R1 ∨ (C0 : Int) ≠ C1 ∨ fl.length ≠ tl.length) := by
            rw [← HFr.out, decide_eq_true_iff]
            have h1 := HLf.out
            have h2 := HLt.out
            constructor
            · intro h
              rcases h with h | h
              · exact .inl (by omega)
              · exact .inr (.inl (by omega))
            · intro h
              by_cases e1 : R0 = R1
              · by_cases e2 : C0 = C1
                · subst e1 e2
                  rcases h with h | h | h
                  · exact absurd rfl h
                  · exact absurd rfl h
                  · exact absurd (h1.trans h2.symm) h
                · exact .inr e2
              · exact .inl e1
          refine (paint_yes R0 C0 R1 C1 R1 C1 fA tA fl tl fc tc W5 (HF.out.below HB5.out) (HT.out.below HB5.out) hwt hfc htc fresh hfr2 HPt.out (by simp) (by simp) bl HBl.out).mono ?_
          rintro e W6 ⟨gb, cb, rfl, hgb, hcb, hlb, hrb, hgbl, hb6⟩
          have HRa6 := Lib.hid (HRa.out.below hb6)
          have hat6 := (HAt5.out.below hb6).less HB3.out.size
          have hsc : Scene W W6 g gc gf gt gb _ none 0 [] R0 C0 R1 C1 fA tA fl tl fc tc bl := ⟨hat6, own_nil _ _ _ _, HGF5.out.below hb6, HGT5.out.below hb6, hrb, hgbl, by
            have h1 := blk_lt HAt5.out.blk
            have h2 := blk_lt HAt5.out.cells
            exact ⟨by omega, by omega, fun k hk => by simp [Value.ownBlock] at hk⟩, below_step HB5.out hb6⟩
          have HSc := Lib.hid hsc
          clear hb6 hrb hat6 hsc hgb hgbl f0 f1 f2 t0 t1 t2 HGF5 HGT5 HAt5 HRa hfr2 HB4 HB5 HAt4
          go_wp2_with fail
          obtain ⟨t1, ht1, hok1, hR1', hC1', hl1'⟩ := Kp.paint_shows (R := R0) (C := C0) (fl := []) (tl := fl) true HSc.out.at_.ok rfl rfl HLf.out HPtf.out (fun e => by cases e)
          rw [HAl.out] at ht1
          refine (Write_calls W6 W.heap.size g gc _ none 0 [] al (some ⟨ga, 0, none⟩) ca m HSc.out.at_ HSc.out.own HRa6.out (by simp; omega) h3 (pw_cell_below HSc.out.below HM.out)).mono ?_
          rintro e W7 ⟨rfl, hw7⟩
          rw [List.nil_append, ht1] at hw7
          obtain ⟨gc7, wA7, wc7, hsc7⟩ := HSc.out.written hw7
          have hsc7d := hsc7.drew_
          obtain ⟨d0, d1, d2⟩ := hsc7d.gf.cells
          have HSc7 := Lib.hid hsc7d
          have HR1' := Lib.hid hR1'
          have HC1' := Lib.hid hC1'
          have HL1' := Lib.hid hl1'
          clear ht1 hok1 hR1' hC1' hl1' hw7 hsc7 hsc7d HSc HRa6
          go_wp2_with fail
          go_region_held3 (fun w' => w'.cell? ⟨gf, 0, none⟩ = some (.int .i64 R0) ∧ w'.cell? ⟨gf, 1, none⟩ = some (.int .i64 C0) ∧ w'.cell? ⟨gf, 2, none⟩ = some (.slice fA fl.length fc))
            (first | (with_reducible assumption) | (with_reducible exact ⟨d0, d1, d2⟩) | exact ⟨d0, d1, d2⟩)
            (first
              | (go_at_call 16; (with_reducible refine (Grid_ex _ W.heap.size g gc7 t1 _ R0 C0 fl.length fl HSc7.out.at_ (by rw [HR1'.out]) (by rw [HC1'.out]) HL1'.out rfl).mono ?_); rintro e W8 ⟨A8, c8, rfl, hown8, hb8⟩; have HSc7 := Lib.hid (HSc7.out.below_ hb8); obtain ⟨d0, d1, d2⟩ := HSc7.out.gf.cells; have HRg := Lib.hid (own_RCn hown8 rfl (by omega)).1; (try (have HAf := Lib.hid (HAf.out.below hb8))); clear hown8 hb8)
              | (go_at_call 15; (with_reducible refine (as_calls R0 C0 A8 fl c8 _ HRg.out (by omega)).mono ?_); rintro e W9 ⟨A9, c9, rfl, hrc9, hb9⟩; have HSc7 := Lib.hid (HSc7.out.below_ hb9); obtain ⟨d0, d1, d2⟩ := HSc7.out.gf.cells; have HAg := Lib.hid hrc9; (try (have HAf := Lib.hid (HAf.out.below hb9))); clear hrc9 hb9)
              | (go_at_call 15; (with_reducible refine (as_calls R0 C0 fA fl fc _ (HF.out.below HSc7.out.below) (by omega)).mono ?_); rintro e W10 ⟨A10, c10, rfl, hrc10, hb10⟩; (try (have HRg := Lib.hid (HRg.out.below hb10))); (try (have HAg := Lib.hid (HAg.out.below hb10))); have HSc7 := Lib.hid (HSc7.out.below_ hb10); obtain ⟨d0, d1, d2⟩ := HSc7.out.gf.cells; have HAf := Lib.hid hrc10; clear hrc10 hb10)
              | (go_at_call 14; (with_reducible refine (alike_same A9 A10 fl c9 c10 _ HAg.out HAf.out).mono ?_); rintro e W11 ⟨rfl, hdr⟩; have HSc7 := Lib.hid (HSc7.out.below_ hdr.below); obtain ⟨d0, d1, d2⟩ := HSc7.out.gf.cells; clear hdr))
          rename_i hHeld
          have HScA := Lib.hid HSc7.out
          clear hHeld d0 d1 d2 HAg HAf
          obtain ⟨f0, f1, f2⟩ := HScA.out.gf.cells
          obtain ⟨t0, t1', t2c⟩ := HScA.out.gt.cells
          have hcs : ((((R0 : Int) != R1) = true ∨ (((R0 : Int) != R1) = false ∧ ((C0 : Int) != C1) = true)) ∧ fresh = true) ∨ (((R0 : Int) != R1) = false ∧ ((C0 : Int) != C1) = false ∧ R0 = R1 ∧ C0 = C1 ∧ fresh = false) := by
            have h := HFr.out
            by_cases e1 : R0 = R1
            · by_cases e2 : C0 = C1
              · exact .inr ⟨by simp [e1], by simp [e2], e1, e2, by rw [← h]; simp [e1, e2]⟩
              · exact .inl ⟨.inr ⟨by simp [e1], by simp; omega⟩, by rw [← h]; simp [e2]⟩
            · exact .inl ⟨.inl (by simp; omega), by rw [← h]; simp [e1]⟩
          obtain ⟨k, hk⟩ : ∃ k, cut % (bl.length + 1) = k := ⟨_, rfl⟩
          have hkl : k ≤ bl.length := by have := Nat.mod_lt cut (show bl.length + 1 > 0 by omega); omega
          have hkI : (cut : Int).tmod ((bl.length : Int) + 1) = (k : Int) := by
            rw [Int.tmod_eq_emod_of_nonneg (by omega), ← hk]
            push_cast
            rfl
          obtain ⟨p, hp⟩ : ∃ p, bl.take k = p := ⟨_, rfl⟩
          obtain ⟨q, hq⟩ : ∃ q, bl.drop k = q := ⟨_, rfl⟩
          have hpk : p.length = k := by rw [← hp, List.length_take]; omega
          have hqk : bl.length - k = q.length := by rw [← hq, List.length_drop]
          have hhead := fun W => run_head gb bl.length cb k (by omega) W
          rw [← hpk] at hhead
          obtain ⟨A', htail, hA'⟩ := print_cut_of (P := Tryd.prog) eb 0 22 5 .i64 Tryd.underlying22 (info_parts Tryd.info5).choose_spec.1 (info_parts Tryd.info5).choose_spec.2.2.1 (some ⟨gb, 0, none⟩) bl.length cb k hkl
          rw [hqk] at htail
          have HK := Lib.hid hkI
          have hkI2 := HK.out
          have HHead := Lib.hid hhead
          have HTail := Lib.hid htail
          have HA' := Lib.hid hA'
          have HPp := Lib.hid hp
          have HQq := Lib.hid hq
          have HPk := Lib.hid hpk
          have HQk := Lib.hid hqk
          have hpl : p.length ≤ 100000 := by omega
          have hql : q.length ≤ 100000 := by omega
          have hkI3 : (cut : Int).tmod ((bl.length : Int) + 1) = (p.length : Int) := by rw [hkI2, ← hpk]
          have hpb : p.length ≤ bl.length := by omega
          rw [← hpk] at htail
          have HTail2 := Lib.hid htail
          clear HK hkI hkI2 hp hq hpk hqk hk hkl hA'
          rcases hcs with ⟨hcs, rfl⟩ | ⟨e1, e2, rfl, rfl, rfl⟩
          · have hcs2 := hcs
            rcases hcs with e1 | ⟨e1, e2⟩
            all_goals
              go_wp2_with fail
              refine (Size_calls W11 W.heap.size g gc7 t1 wA7 _ wc7 R1 C1 HScA.out.at_ HS3.out HS4.out).mono ?_
              rintro e W12 ⟨rfl, htu⟩
              obtain ⟨gc12, hsc12⟩ := HScA.out.turned htu
              simp only [Int.toNat_natCast] at hsc12
              obtain ⟨t2, ht2'⟩ : ∃ t2, (⟨R1, C1, Kp.blankL (R1 * C1), 0, 0, 0⟩ : Kp.Tm) = t2 := ⟨_, rfl⟩
              rw [ht2'] at hsc12
              have HT2 : Hid (t2.OK ∧ t2.R = R1 ∧ t2.C = C1 ∧ True) := Lib.hid (by rw [← ht2']; exact ⟨Kp.blank_ok hR1 hC1 (by omega) (by omega) (by omega), rfl, rfl, trivial⟩)
              obtain ⟨wA12, hwA⟩ : ∃ x, wA7 = x := ⟨_, rfl⟩
              obtain ⟨wc12, hwc⟩ : ∃ x, wc7 = x := ⟨_, rfl⟩
              rw [hwA, hwc] at hsc12
              have HSc12 := Lib.hid hsc12
              clear hsc12 ht2' hwA hwc htu f0 f1 f2 t0 t1' t2c
              go_wp2_with fail
              obtain ⟨t3, r3, ht3⟩ : ∃ t3 r3, Kp.run t2 p = (t3, r3) := ⟨_, _, rfl⟩
              have hr3 := Kp.run_rest_le t2 p _ (Nat.le_refl _)
              rw [ht3] at hr3
              simp only at hr3
              have hfin : (Kp.run t3 (r3 ++ q)).1.l = tl := by
                have h := Kp.paint_parts (R := R1) (C := C1) (fl := fl) (tl := tl) true HT2.out.1 HT2.out.2.1 HT2.out.2.2.1 HLt.out HPtt.out (fun e => by cases e) p.length
                rw [HBl.out, HPk.out, HPp.out, HQq.out, ht3] at h
                exact h
              have hdim := Kp.run_ok _ t2 p (Nat.le_refl _) HT2.out.1
              rw [ht3] at hdim
              have hdim2 := Kp.run_ok _ t3 (r3 ++ q) (Nat.le_refl _) hdim.1
              have HFin := Lib.hid hfin
              have HD1 : Hid (((Kp.run t3 (r3 ++ q)).1.R : Int) = R1) := Lib.hid (by rw [hdim2.2.1, hdim.2.1, HT2.out.2.1])
              have HD2 : Hid (((Kp.run t3 (r3 ++ q)).1.C : Int) = C1) := Lib.hid (by rw [hdim2.2.2, hdim.2.2, HT2.out.2.2.1])
              have HT3 := Lib.hid ht3
              have hr3l : r3.length ≤ 100000 := by omega
              clear hfin hdim hdim2 hr3 ht3
              have hrbp : RB W12 (some ⟨gb, 0, none⟩) p := by
                have := HSc12.out.bs.take_ p.length hpb
                rw [HPk.out, HPp.out, ← HPk.out] at this
                exact this
              refine (Write_calls W12 W.heap.size g gc12 t2 wA12 wc12 [] p (some ⟨gb, 0, none⟩) cb m HSc12.out.at_ HSc12.out.own hrbp (by simp; omega) h3 (pw_cell_below HSc12.out.below HM.out)).mono ?_
              rintro e W13 ⟨rfl, hw13⟩
              rw [List.nil_append, HT3.out] at hw13
              obtain ⟨gc13, wA13, wc13, hsc13⟩ := HSc12.out.written hw13
              have HSc13 := Lib.hid hsc13
              clear hw13 hsc13 hrbp
              go_wp2_with fail
              have hrbq : RB W13 A' q := by
                have := HA'.out W13 bl hcb HSc13.out.bs
                rw [HQq.out, HQk.out] at this
                exact this
              refine (Write_calls W13 W.heap.size g gc13 t3 wA13 wc13 r3 q A' (cb - p.length) m HSc13.out.at_ HSc13.out.own hrbq (by omega) h3 (pw_cell_below HSc13.out.below HM.out)).mono ?_
              rintro e W14 ⟨rfl, hw14⟩
              obtain ⟨t4, r4, ht4⟩ : ∃ t4 r4, Kp.run t3 (r3 ++ q) = (t4, r4) := ⟨_, _, rfl⟩
              rw [ht4] at hw14
              have hfin := HFin.out
              have hd1 := HD1.out
              have hd2 := HD2.out
              rw [ht4] at hfin hd1 hd2
              obtain ⟨gc14, wA14, wc14, hsc14⟩ := HSc13.out.written hw14
              have hsc14d := hsc14.drew_
              obtain ⟨d0, d1, d2⟩ := hsc14d.gt.cells
              have HSc14 := Lib.hid hsc14d
              have HFin4 := Lib.hid hfin
              have HD14 := Lib.hid hd1
              have HD24 := Lib.hid hd2
              clear ht4 hw14 hfin hd1 hd2 hsc14 hsc14d hrbq HSc13 HSc12
              go_wp2_with fail
              go_region_held3 (fun w' => w'.cell? ⟨gt, 0, none⟩ = some (.int .i64 R1) ∧ w'.cell? ⟨gt, 1, none⟩ = some (.int .i64 C1) ∧ w'.cell? ⟨gt, 2, none⟩ = some (.slice tA tl.length tc))
                (first | (with_reducible assumption) | (with_reducible exact ⟨d0, d1, d2⟩) | exact ⟨d0, d1, d2⟩)
                (first
                  | (go_at_call 16; (with_reducible refine (Grid_ex _ W.heap.size g gc14 t4 _ R1 C1 tl.length tl HSc14.out.at_ HD14.out HD24.out HFin4.out rfl).mono ?_); rintro e W15 ⟨A8, c8, rfl, hown8, hb8⟩; have HSc14 := Lib.hid (HSc14.out.below_ hb8); obtain ⟨d0, d1, d2⟩ := HSc14.out.gt.cells; have HRg := Lib.hid (own_RCn hown8 rfl (by omega)).1; (try (have HAf := Lib.hid (HAf.out.below hb8))); clear hown8 hb8)
                  | (go_at_call 15; (with_reducible refine (as_calls R1 C1 A8 tl c8 _ HRg.out (by omega)).mono ?_); rintro e W16 ⟨A9, c9, rfl, hrc9, hb9⟩; have HSc14 := Lib.hid (HSc14.out.below_ hb9); obtain ⟨d0, d1, d2⟩ := HSc14.out.gt.cells; have HAg := Lib.hid hrc9; (try (have HAf := Lib.hid (HAf.out.below hb9))); clear hrc9 hb9)
                  | (go_at_call 15; (with_reducible refine (as_calls R1 C1 tA tl tc _ (HT.out.below HSc14.out.below) (by omega)).mono ?_); rintro e W17 ⟨A10, c10, rfl, hrc10, hb10⟩; (try (have HRg := Lib.hid (HRg.out.below hb10))); (try (have HAg := Lib.hid (HAg.out.below hb10))); have HSc14 := Lib.hid (HSc14.out.below_ hb10); obtain ⟨d0, d1, d2⟩ := HSc14.out.gt.cells; have HAf := Lib.hid hrc10; clear hrc10 hb10)
                  | (go_at_call 14; (with_reducible refine (alike_same A9 A10 tl c9 c10 _ HAg.out HAf.out).mono ?_); rintro e W18 ⟨rfl, hdr⟩; have HSc14 := Lib.hid (HSc14.out.below_ hdr.below); obtain ⟨d0, d1, d2⟩ := HSc14.out.gt.cells; clear hdr)
                  | (go_at_call 10; (with_reducible refine (knows23_calls _ m (pw_cell_below HSc14.out.below HM.out)).mono ?_); rintro e W19 ⟨rfl, hb19⟩; have HSc14 := Lib.hid (HSc14.out.below_ hb19); obtain ⟨d0, d1, d2⟩ := HSc14.out.gt.cells; clear hb19))
              all_goals
                have HFB := Lib.hid HSc14.out.below
                go_wp2_with fail
                go_ret
                exact ⟨rfl, HFB.out⟩
          · have HT2 : Hid (t1.OK ∧ t1.R = R0 ∧ t1.C = C0 ∧ t1.l = fl) := Lib.hid ⟨HScA.out.at_.ok, HR1'.out, HC1'.out, HL1'.out⟩
            go_wp2_with fail
            obtain ⟨t3, r3, ht3⟩ : ∃ t3 r3, Kp.run t1 p = (t3, r3) := ⟨_, _, rfl⟩
            have hr3 := Kp.run_rest_le t1 p _ (Nat.le_refl _)
            rw [ht3] at hr3
            simp only at hr3
            have hfin : (Kp.run t3 (r3 ++ q)).1.l = tl := by
              have h := Kp.paint_parts (R := R0) (C := C0) (fl := fl) (tl := tl) false HT2.out.1 HT2.out.2.1 HT2.out.2.2.1 HLt.out HPtt.out (fun _ => HT2.out.2.2.2) p.length
              rw [HBl.out, HPk.out, HPp.out, HQq.out, ht3] at h
              exact h
            have hdim := Kp.run_ok _ t1 p (Nat.le_refl _) HT2.out.1
            rw [ht3] at hdim
            have hdim2 := Kp.run_ok _ t3 (r3 ++ q) (Nat.le_refl _) hdim.1
            have HFin := Lib.hid hfin
            have HD1 : Hid (((Kp.run t3 (r3 ++ q)).1.R : Int) = R0) := Lib.hid (by rw [hdim2.2.1, hdim.2.1, HT2.out.2.1])
            have HD2 : Hid (((Kp.run t3 (r3 ++ q)).1.C : Int) = C0) := Lib.hid (by rw [hdim2.2.2, hdim.2.2, HT2.out.2.2.1])
            have HT3 := Lib.hid ht3
            have hr3l : r3.length ≤ 100000 := by omega
            clear hfin hdim hdim2 hr3 ht3
            have hrbp : RB W11 (some ⟨gb, 0, none⟩) p := by
              have := HScA.out.bs.take_ p.length hpb
              rw [HPk.out, HPp.out, ← HPk.out] at this
              exact this
            refine (Write_calls W11 W.heap.size g gc7 t1 wA7 wc7 [] p (some ⟨gb, 0, none⟩) cb m HScA.out.at_ HScA.out.own hrbp (by simp; omega) h3 (pw_cell_below HScA.out.below HM.out)).mono ?_
            rintro e W13 ⟨rfl, hw13⟩
            rw [List.nil_append, HT3.out] at hw13
            obtain ⟨gc13, wA13, wc13, hsc13⟩ := HScA.out.written hw13
            have HSc13 := Lib.hid hsc13
            clear hw13 hsc13 hrbp
            go_wp2_with fail
            have hrbq : RB W13 A' q := by
              have := HA'.out W13 bl hcb HSc13.out.bs
              rw [HQq.out, HQk.out] at this
              exact this
            refine (Write_calls W13 W.heap.size g gc13 t3 wA13 wc13 r3 q A' (cb - p.length) m HSc13.out.at_ HSc13.out.own hrbq (by omega) h3 (pw_cell_below HSc13.out.below HM.out)).mono ?_
            rintro e W14 ⟨rfl, hw14⟩
            obtain ⟨t4, r4, ht4⟩ : ∃ t4 r4, Kp.run t3 (r3 ++ q) = (t4, r4) := ⟨_, _, rfl⟩
            rw [ht4] at hw14
            have hfin := HFin.out
            have hd1 := HD1.out
            have hd2 := HD2.out
            rw [ht4] at hfin hd1 hd2
            obtain ⟨gc14, wA14, wc14, hsc14⟩ := HSc13.out.written hw14
            have hsc14d := hsc14.drew_
            obtain ⟨d0, d1, d2⟩ := hsc14d.gt.cells
            have HSc14 := Lib.hid hsc14d
            have HFin4 := Lib.hid hfin
            have HD14 := Lib.hid hd1
            have HD24 := Lib.hid hd2
            clear ht4 hw14 hfin hd1 hd2 hsc14 hsc14d hrbq HSc13 HScA
            go_wp2_with fail
            go_region_held3 (fun w' => w'.cell? ⟨gt, 0, none⟩ = some (.int .i64 R0) ∧ w'.cell? ⟨gt, 1, none⟩ = some (.int .i64 C0) ∧ w'.cell? ⟨gt, 2, none⟩ = some (.slice tA tl.length tc))
              (first | (with_reducible assumption) | (with_reducible exact ⟨d0, d1, d2⟩) | exact ⟨d0, d1, d2⟩)
              (first
                | (go_at_call 16; (with_reducible refine (Grid_ex _ W.heap.size g gc14 t4 _ R0 C0 tl.length tl HSc14.out.at_ HD14.out HD24.out HFin4.out rfl).mono ?_); rintro e W15 ⟨A8, c8, rfl, hown8, hb8⟩; have HSc14 := Lib.hid (HSc14.out.below_ hb8); obtain ⟨d0, d1, d2⟩ := HSc14.out.gt.cells; have HRg := Lib.hid (own_RCn hown8 rfl (by omega)).1; (try (have HAf := Lib.hid (HAf.out.below hb8))); clear hown8 hb8)
                | (go_at_call 15; (with_reducible refine (as_calls R0 C0 A8 tl c8 _ HRg.out (by omega)).mono ?_); rintro e W16 ⟨A9, c9, rfl, hrc9, hb9⟩; have HSc14 := Lib.hid (HSc14.out.below_ hb9); obtain ⟨d0, d1, d2⟩ := HSc14.out.gt.cells; have HAg := Lib.hid hrc9; (try (have HAf := Lib.hid (HAf.out.below hb9))); clear hrc9 hb9)
                | (go_at_call 15; (with_reducible refine (as_calls R0 C0 tA tl tc _ (HT.out.below HSc14.out.below) (by omega)).mono ?_); rintro e W17 ⟨A10, c10, rfl, hrc10, hb10⟩; (try (have HRg := Lib.hid (HRg.out.below hb10))); (try (have HAg := Lib.hid (HAg.out.below hb10))); have HSc14 := Lib.hid (HSc14.out.below_ hb10); obtain ⟨d0, d1, d2⟩ := HSc14.out.gt.cells; have HAf := Lib.hid hrc10; clear hrc10 hb10)
                | (go_at_call 14; (with_reducible refine (alike_same A9 A10 tl c9 c10 _ HAg.out HAf.out).mono ?_); rintro e W18 ⟨rfl, hdr⟩; have HSc14 := Lib.hid (HSc14.out.below_ hdr.below); obtain ⟨d0, d1, d2⟩ := HSc14.out.gt.cells; clear hdr)
                | (go_at_call 10; (with_reducible refine (knows23_calls _ m (pw_cell_below HSc14.out.below HM.out)).mono ?_); rintro e W19 ⟨rfl, hb19⟩; have HSc14 := Lib.hid (HSc14.out.below_ hb19); obtain ⟨d0, d1, d2⟩ := HSc14.out.gt.cells; clear hb19))
            all_goals
              have HFB := Lib.hid HSc14.out.below
              go_wp2_with fail
              go_ret
              exact ⟨rfl, HFB.out⟩

        · refine (proper_false tR tC tA tl tc W2 (HT.out.below HB2.out) hwt hpt).mono ?_
          rintro e W3 ⟨rfl, hb3⟩
          have HB3 := Lib.hid (below_step HB2.out hb3)
          clear hb3
          go_wp2_with fail
          refine (knows23_calls W3 m (pw_cell_below HB3.out HM.out)).mono ?_
          rintro e W4 ⟨rfl, hb4⟩
          have HB4 := Lib.hid (below_step HB3.out hb4)
          clear hb4
          go_wp2_with fail
          go_ret
          exact ⟨rfl, HB4.out⟩
      · refine (proper_false fR fC fA fl fc W1 (HF.out.below HB1.out) hwf hpf).mono ?_
        rintro e W2 ⟨rfl, hb2⟩
        have HB2 := Lib.hid (below_step HB1.out hb2)
        clear hb2
        go_wp2_with fail
        refine (knows23_calls W2 m (pw_cell_below HB2.out HM.out)).mono ?_
        rintro e W3 ⟨rfl, hb3⟩
        have HB3 := Lib.hid (below_step HB2.out hb3)
        clear hb3
        go_wp2_with fail
        go_ret
        exact ⟨rfl, HB3.out⟩
end Go.Proofs.YtbjckccgbmimpabDoor
