/- The walk of VtPaints. -/
import Derived.Test.YtbjckccgbmimpabGreatDoorX5
import Derived.Test.YtbjckccgbmimpabGreatDoorV21
namespace Go.Proofs.YtbjckccgbmimpabGreatDoor
open Go.RowKit Go.Proofs.YtbjckccgbmimpabGreatDoorW.PrintWords Go.Proofs.YtbjckccgbmimpabGreatDoorW.PrintLast Go.Proofs.YtbjckccgbmimpabGreatDoorW.PrintMore
theorem proper_true (rows cols : Int) (A : Option Addr) (l : List Cell) (c : Nat) (W : World) (hr : RC W A l) (hwf : Kp.wf l) (h : Kp.proper rows cols l) : Calls Tryz.prog 8 #[.agg #[.int .i64 rows, .int .i64 cols, .slice A l.length c]] W fun e w' => e = .returned (.bool true) ∧ Below W.heap.size W w' :=
  (proper_agg rows cols A l c W hr hwf).mono fun _ _ ⟨b, he, hi, hb⟩ => ⟨by rw [he, hi.2 h], hb⟩
theorem proper_false (rows cols : Int) (A : Option Addr) (l : List Cell) (c : Nat) (W : World) (hr : RC W A l) (hwf : Kp.wf l) (h : ¬ Kp.proper rows cols l) : Calls Tryz.prog 8 #[.agg #[.int .i64 rows, .int .i64 cols, .slice A l.length c]] W fun e w' => e = .returned (.bool false) ∧ Below W.heap.size W w' :=
  (proper_agg rows cols A l c W hr hwf).mono fun _ _ ⟨b, he, hi, hb⟩ => ⟨by
    cases b
    · exact he
    · exact absurd (hi.1 rfl) h, hb⟩
/-- What the law holds: the two grids. -/
structure PScene (W w : World) (gf gt : Nat) (fR fC tR tC : Int) (fA tA : Option Addr) (fl tl : List Cell) (fc tc : Nat) : Prop where
  gf : GridAt w gf fR fC fA fl.length fc
  gt : GridAt w gt tR tC tA tl.length tc
  below : Below W.heap.size W w
theorem PScene.below_ {W w w' : World} {gf gt : Nat} {fR fC tR tC : Int} {fA tA : Option Addr} {fl tl : List Cell} {fc tc : Nat} (h : PScene W w gf gt fR fC tR tC fA tA fl tl fc tc) (hb : Below w.heap.size w w') : PScene W w' gf gt fR fC tR tC fA tA fl tl fc tc :=
  ⟨h.gf.below hb, h.gt.below hb, below_step h.below hb⟩
theorem PScene.drew_ {W w : World} {gf gt : Nat} {fR fC tR tC : Int} {fA tA : Option Addr} {fl tl : List Cell} {fc tc : Nat} (h : PScene W w gf gt fR fC tR tC fA tA fl tl fc tc) : PScene W w.drew gf gt fR fC tR tC fA tA fl tl fc tc :=
  h.below_ (below_drew (Below.refl _ _))
set_option maxRecDepth 100000 in
set_option maxHeartbeats 8000000 in
theorem VtPaints_calls (W : World) (fR fC tR tC : Int) (fA tA : Option Addr) (fl tl : List Cell) (fc tc : Nat) (m : Int) (hf : RC W fA fl) (ht : RC W tA tl) (hwt : Kp.wf tl) (hfc : fl.length ≤ fc) (htc : tl.length ≤ tc)
    (hm : W.cell? ⟨5, 0, none⟩ = some (.int .i64 m)) :
    Calls Tryz.prog 3 #[.agg #[.int .i64 fR, .int .i64 fC, .slice fA fl.length fc], .agg #[.int .i64 tR, .int .i64 tC, .slice tA tl.length tc]] W (TruePost W) := by
  have HM := Lib.hid hm
  have HF := Lib.hid hf
  have HT := Lib.hid ht
  have hl1 := hf.len
  have hl2 := ht.len
  clear hm hf ht
  by_cases h1 : 300 < fl.length
  · have b1 : decide (300 < (fl.length : Int)) = true := by simp; omega
    clear h1
    go_enter Tryz.func3, Tryz.ntmps3
    go_wp2_with fail
    have hgf := (GridAt.new W fR fC fA fl.length fc).alloc (.cells #[.int .i64 tR, .int .i64 tC, .slice tA tl.length tc] 24)
    have hgt : GridAt ((W.alloc (.cells #[.int .i64 fR, .int .i64 fC, .slice fA fl.length fc] 24)).alloc (.cells #[.int .i64 tR, .int .i64 tC, .slice tA tl.length tc] 24)) (W.heap.size + 1) tR tC tA tl.length tc := ⟨heap_alloc_at (by simp)⟩
    have hb1 := below_alloc (below_alloc (Below.refl W.heap.size W) (.cells #[.int .i64 fR, .int .i64 fC, .slice fA fl.length fc] 24)) (.cells #[.int .i64 tR, .int .i64 tC, .slice tA tl.length tc] 24)
    generalize (W.alloc (.cells #[.int .i64 fR, .int .i64 fC, .slice fA fl.length fc] 24)).alloc (.cells #[.int .i64 tR, .int .i64 tC, .slice tA tl.length tc] 24) = W1 at hgf hgt hb1 ⊢
    generalize W.heap.size + 1 = gt at hgt ⊢
    obtain ⟨gf, hgfe⟩ : ∃ gf, W.heap.size = gf := ⟨_, rfl⟩
    rw [hgfe] at hgf ⊢
    clear hgfe
    obtain ⟨f0, f1, f2⟩ := hgf.cells
    obtain ⟨t0, t1, t2⟩ := hgt.cells
    have HGF := Lib.hid hgf
    have HGT := Lib.hid hgt
    have HB1 := Lib.hid hb1
    clear hgf hgt hb1
    refine (knows23_calls W1 m (pw_cell_below HB1.out HM.out)).mono ?_
    rintro e W2 ⟨rfl, hb2⟩
    have HB2 := Lib.hid (below_step HB1.out hb2)
    clear hb2
    go_wp2_with fail
    go_ret
    exact ⟨rfl, HB2.out⟩
  · have b1 : decide (300 < (fl.length : Int)) = false := by simp; omega
    by_cases h2 : 300 < tl.length
    · have b2 : decide (300 < (tl.length : Int)) = true := by simp; omega
      clear h1 h2
      go_enter Tryz.func3, Tryz.ntmps3
      go_wp2_with fail
      have hgf := (GridAt.new W fR fC fA fl.length fc).alloc (.cells #[.int .i64 tR, .int .i64 tC, .slice tA tl.length tc] 24)
      have hgt : GridAt ((W.alloc (.cells #[.int .i64 fR, .int .i64 fC, .slice fA fl.length fc] 24)).alloc (.cells #[.int .i64 tR, .int .i64 tC, .slice tA tl.length tc] 24)) (W.heap.size + 1) tR tC tA tl.length tc := ⟨heap_alloc_at (by simp)⟩
      have hb1 := below_alloc (below_alloc (Below.refl W.heap.size W) (.cells #[.int .i64 fR, .int .i64 fC, .slice fA fl.length fc] 24)) (.cells #[.int .i64 tR, .int .i64 tC, .slice tA tl.length tc] 24)
      generalize (W.alloc (.cells #[.int .i64 fR, .int .i64 fC, .slice fA fl.length fc] 24)).alloc (.cells #[.int .i64 tR, .int .i64 tC, .slice tA tl.length tc] 24) = W1 at hgf hgt hb1 ⊢
      generalize W.heap.size + 1 = gt at hgt ⊢
      obtain ⟨gf, hgfe⟩ : ∃ gf, W.heap.size = gf := ⟨_, rfl⟩
      rw [hgfe] at hgf ⊢
      clear hgfe
      obtain ⟨f0, f1, f2⟩ := hgf.cells
      obtain ⟨t0, t1, t2⟩ := hgt.cells
      have HGF := Lib.hid hgf
      have HGT := Lib.hid hgt
      have HB1 := Lib.hid hb1
      clear hgf hgt hb1
      refine (knows23_calls W1 m (pw_cell_below HB1.out HM.out)).mono ?_
      rintro e W2 ⟨rfl, hb2⟩
      have HB2 := Lib.hid (below_step HB1.out hb2)
      clear hb2
      go_wp2_with fail
      go_ret
      exact ⟨rfl, HB2.out⟩
    · have b2 : decide (300 < (tl.length : Int)) = false := by simp; omega
      clear h1 h2
      go_enter Tryz.func3, Tryz.ntmps3
      go_wp2_with fail
      have hgf := (GridAt.new W fR fC fA fl.length fc).alloc (.cells #[.int .i64 tR, .int .i64 tC, .slice tA tl.length tc] 24)
      have hgt : GridAt ((W.alloc (.cells #[.int .i64 fR, .int .i64 fC, .slice fA fl.length fc] 24)).alloc (.cells #[.int .i64 tR, .int .i64 tC, .slice tA tl.length tc] 24)) (W.heap.size + 1) tR tC tA tl.length tc := ⟨heap_alloc_at (by simp)⟩
      have hb1 := below_alloc (below_alloc (Below.refl W.heap.size W) (.cells #[.int .i64 fR, .int .i64 fC, .slice fA fl.length fc] 24)) (.cells #[.int .i64 tR, .int .i64 tC, .slice tA tl.length tc] 24)
      generalize (W.alloc (.cells #[.int .i64 fR, .int .i64 fC, .slice fA fl.length fc] 24)).alloc (.cells #[.int .i64 tR, .int .i64 tC, .slice tA tl.length tc] 24) = W1 at hgf hgt hb1 ⊢
      generalize W.heap.size + 1 = gt at hgt ⊢
      obtain ⟨gf, hgfe⟩ : ∃ gf, W.heap.size = gf := ⟨_, rfl⟩
      rw [hgfe] at hgf ⊢
      clear hgfe
      have HGF := Lib.hid hgf
      have HGT := Lib.hid hgt
      have HB1 := Lib.hid hb1
      clear hgf hgt hb1
      have hfr : ∃ fresh : Bool, fresh = true ↔ (fR ≠ tR ∨ fC ≠ tC ∨ fl.length ≠ tl.length) := by
        by_cases h : fR ≠ tR ∨ fC ≠ tC ∨ fl.length ≠ tl.length
        · exact ⟨true, ⟨fun _ => h, fun _ => rfl⟩⟩
        · exact ⟨false, ⟨fun e => (by cases e), fun e => absurd e h⟩⟩
      obtain ⟨fresh, hfr⟩ := hfr
      refine (Paint_agg fR fC tR tC fA tA fl tl fc tc W1 (HF.out.below HB1.out) (HT.out.below HB1.out) hwt hfc htc fresh hfr).mono ?_
      rintro e W2 ⟨hb2, hpost⟩
      have hsc : PScene W W2 gf gt fR fC tR tC fA tA fl tl fc tc := ⟨HGF.out.below hb2, HGT.out.below hb2, below_step HB1.out hb2⟩
      have HSc := Lib.hid hsc
      clear HGF HGT HB1 hb2 hsc
      rcases hpost with ⟨hn, rfl⟩ | ⟨hp, g0, c0, rfl, hg0, hcap, hbl, hrb⟩
      · have hl3 : tl.length ≤ 300 := by have := b2; simp at this; omega
        have HL3 := Lib.hid hl3
        have HScd := Lib.hid HSc.out.drew_
        clear HSc hl3
        have HSc := HScd
        clear HScd
        obtain ⟨d0, d1, d2⟩ := HSc.out.gt.cells
        go_wp2_with fail
        go_region_held3 (fun w' => w'.cell? ⟨gt, 0, none⟩ = some (.int .i64 tR) ∧ w'.cell? ⟨gt, 1, none⟩ = some (.int .i64 tC) ∧ w'.cell? ⟨gt, 2, none⟩ = some (.slice tA tl.length tc))
          (first | (with_reducible assumption) | (with_reducible exact ⟨d0, d1, d2⟩) | exact ⟨d0, d1, d2⟩)
          (first
            | (go_at_call 7; (with_reducible refine (as_calls tR tC tA tl tc _ (HT.out.below HSc.out.below) (by have := HL3.out; omega)).mono ?_); rintro e W9 ⟨A9, c9, rfl, hcc9, hrc9, hb9⟩; have HSc := Lib.hid (HSc.out.below_ hb9); obtain ⟨d0, d1, d2⟩ := HSc.out.gt.cells; have HAg := Lib.hid hrc9; have HCg := Lib.hid hcc9; clear hrc9 hb9 hcc9)
            | (go_at_call 6; (with_reducible refine (refProper_calls tR tC A9 tl c9 _ HAg.out HCg.out (by have := HL3.out; omega)).mono ?_); rintro e W10 ⟨bp, rfl, hbp, hb10⟩; have HSc := Lib.hid (HSc.out.below_ hb10); obtain ⟨d0, d1, d2⟩ := HSc.out.gt.cells; have HBp := Lib.hid hbp; clear hbp hb10))
        rename_i hHeld
        have HSc2 := Lib.hid HSc.out
        clear hHeld d0 d1 d2 HAg HCg HSc
        obtain rfl : bp = false := by
          cases bp
          · rfl
          · exact absurd (HBp.out.1 rfl) hn
        obtain ⟨d0, d1, d2⟩ := HSc2.out.gt.cells
        go_wp2_with fail
        refine (proper_false tR tC tA tl tc W10 (HT.out.below HSc2.out.below) hwt hn).mono ?_
        rintro e W11 ⟨rfl, hb11⟩
        have HSc3 := Lib.hid (HSc2.out.below_ hb11)
        clear HSc2 HBp d0 d1 d2 hb11 HSc
        go_wp2_with fail
        refine (knows23_calls W11 m (pw_cell_below HSc3.out.below HM.out)).mono ?_
        rintro e W12 ⟨rfl, hb12⟩
        have HB12 := Lib.hid (below_step HSc3.out.below hb12)
        clear hb12
        go_wp2_with fail
        go_ret
        exact ⟨rfl, HB12.out⟩
      · have hl3 : tl.length ≤ 300 := by have := b2; simp at this; omega
        have hl4 : fl.length ≤ 300 := by have := b1; simp at this; omega
        have HL3 := Lib.hid hl3
        have HL4 := Lib.hid hl4
        have HScd := Lib.hid HSc.out.drew_
        have HRb := Lib.hid hrb
        have HB2 := Lib.hid (below_drew (Below.refl W2.heap.size W2))
        have HFr := Lib.hid hfr
        have HBl := Lib.hid hbl
        clear HSc hl3 hl4 hrb hfr hbl
        have HSc := HScd
        clear HScd
        obtain ⟨d0, d1, d2⟩ := HSc.out.gt.cells
        go_wp2_with fail
        go_region_held3 (fun w' => w'.cell? ⟨gt, 0, none⟩ = some (.int .i64 tR) ∧ w'.cell? ⟨gt, 1, none⟩ = some (.int .i64 tC) ∧ w'.cell? ⟨gt, 2, none⟩ = some (.slice tA tl.length tc))
          (first | (with_reducible assumption) | (with_reducible exact ⟨d0, d1, d2⟩) | exact ⟨d0, d1, d2⟩)
          (first
            | (go_at_call 7; (with_reducible refine (as_calls tR tC tA tl tc _ (HT.out.below HSc.out.below) (by have := HL3.out; omega)).mono ?_); rintro e W9 ⟨A9, c9, rfl, hcc9, hrc9, hb9⟩; have HSc := Lib.hid (HSc.out.below_ hb9); have HB2 := Lib.hid (below_step HB2.out hb9); obtain ⟨d0, d1, d2⟩ := HSc.out.gt.cells; have HAg := Lib.hid hrc9; have HCg := Lib.hid hcc9; clear hrc9 hb9 hcc9)
            | (go_at_call 6; (with_reducible refine (refProper_calls tR tC A9 tl c9 _ HAg.out HCg.out (by have := HL3.out; omega)).mono ?_); rintro e W10 ⟨bp, rfl, hbp, hb10⟩; have HSc := Lib.hid (HSc.out.below_ hb10); have HB2 := Lib.hid (below_step HB2.out hb10); obtain ⟨d0, d1, d2⟩ := HSc.out.gt.cells; have HBp := Lib.hid hbp; clear hbp hb10))
        rename_i hHeld
        have HSc2 := Lib.hid HSc.out
        have HB3 := Lib.hid HB2.out
        clear hHeld d0 d1 d2 HAg HCg HSc HB2
        obtain rfl : bp = true := HBp.out.2 hp
        obtain ⟨d0, d1, d2⟩ := HSc2.out.gt.cells
        go_wp2_with fail
        refine (proper_true tR tC tA tl tc W10 (HT.out.below HSc2.out.below) hwt hp).mono ?_
        rintro e W11 ⟨rfl, hb11⟩
        have HSc3 := Lib.hid (HSc2.out.below_ hb11)
        have HB4 := Lib.hid (below_step HB3.out hb11)
        clear HSc2 HBp d0 d1 d2 hb11 HSc HB3
        obtain ⟨hs3, hs4, hlt, hgot⟩ := id hp
        obtain ⟨R, rfl⟩ : ∃ R : Nat, tR = R := ⟨tR.toNat, by unfold Kp.side at hs3; omega⟩
        obtain ⟨C, rfl⟩ : ∃ C : Nat, tC = C := ⟨tC.toNat, by unfold Kp.side at hs4; omega⟩
        have hR : 1 ≤ R ∧ R ≤ 60 := by unfold Kp.side at hs3; omega
        have hC : 1 ≤ C ∧ C ≤ 60 := by unfold Kp.side at hs4; omega
        have hlen : tl.length = R * C := by exact_mod_cast hlt
        have hpt := (Kp.proper_iff hR.1 hC.1 hlen).1 (by rwa [Int.toNat_natCast] at hgot)
        have hpte : ∀ i, i < tl.length → Kp.Pt C tl i := hpt
        have hrbd := HRb.out.below HB4.out
        rw [Int.toNat_natCast, Int.toNat_natCast] at hrbd hcap HBl ⊢
        obtain ⟨pb, hpb⟩ : ∃ pb, Kp.paintB fresh R C fl tl = pb := ⟨_, rfl⟩
        rw [hpb] at hrbd hcap HBl ⊢
        have HPb := Lib.hid hpb
        have HRbd := Lib.hid hrbd
        have HRr := Lib.hid hR
        have HCc := Lib.hid hC
        have HLen := Lib.hid hlen
        have HPt := Lib.hid hpte
        have HScd := Lib.hid HSc3.out
        clear hs3 hs4 hlt hgot hp hR hC hlen hpt hpte hrbd hpb HRb HB4 HSc HSc3 hg0 hcap HBl HB2
        have HSc := HScd
        have HRb := HRbd
        clear HScd HRbd
        have hcs : ∃ al : Bool, (fresh = true ↔ (al = false ∨ fl.length ≠ tl.length)) ∧ ((al = false ∧ (fR == (R : Int)) = false) ∨ (al = false ∧ (fR == (R : Int)) = true ∧ (fC == (C : Int)) = false) ∨ (al = true ∧ (fR == (R : Int)) = true ∧ (fC == (C : Int)) = true)) := by
          have h := HFr.out
          by_cases k1 : fR = (R : Int)
          · by_cases k2 : fC = (C : Int)
            · exact ⟨true, by rw [h]; simp [k1, k2], .inr (.inr ⟨rfl, by simp [k1], by simp [k2]⟩)⟩
            · exact ⟨false, by rw [h]; simp [k2], .inr (.inl ⟨rfl, by simp [k1], by simp [k2]⟩)⟩
          · exact ⟨false, by rw [h]; simp [k1], .inl ⟨rfl, by simp [k1]⟩⟩
        obtain ⟨al, hal, hcs⟩ := hcs
        have HAl := Lib.hid hal
        clear hal HFr
        obtain ⟨f0, f1, f2⟩ := HSc.out.gf.cells
        obtain ⟨t0, t1, t2⟩ := HSc.out.gt.cells
        rcases hcs with ⟨rfl, e1⟩ | ⟨rfl, e1, e2⟩ | ⟨rfl, e1, e2⟩
        all_goals
          go_wp2_with fail
          have HScd := Lib.hid HSc.out.drew_
          have HRbd := Lib.hid (HRb.out.below (below_drew (Below.refl _ _)))
          clear HSc HRb f0 f1 f2 t0 t1 t2
          have HSc := HScd
          have HRb := HRbd
          clear HScd HRbd
          obtain ⟨f0, f1, f2⟩ := HSc.out.gf.cells
          obtain ⟨t0, t1, t2⟩ := HSc.out.gt.cells
          have cv := run_string_of c0 HRb.out
          refine wp_region_noPanic ?_
          go_region_held (fun w' => w'.cell? ⟨gf, 0, none⟩ = some (.int .i64 fR) ∧ w'.cell? ⟨gf, 1, none⟩ = some (.int .i64 fC) ∧ w'.cell? ⟨gf, 2, none⟩ = some (.slice fA fl.length fc) ∧ w'.cell? ⟨gt, 0, none⟩ = some (.int .i64 R) ∧ w'.cell? ⟨gt, 1, none⟩ = some (.int .i64 C) ∧ w'.cell? ⟨gt, 2, none⟩ = some (.slice tA tl.length tc) ∧ (convert 26 9 (.slice (some ⟨g0, 0, none⟩) pb.length c0)).run Tryz.prog w' = .ok (.string ⟨pb.toArray⟩) w')
            (first | (with_reducible assumption) | (with_reducible exact ⟨f0, f1, f2, t0, t1, t2, cv⟩) | exact ⟨f0, f1, f2, t0, t1, t2, cv⟩)
            (first
              | (go_at_call 7; (with_reducible refine (as_calls fR fC fA fl fc _ (HF.out.below HSc.out.below) (by have := HL4.out; omega)).mono ?_); rintro e W12 ⟨A9, c9, rfl, hcc9, hrc9, hb9⟩; have HSc := Lib.hid (HSc.out.below_ hb9); have HRb := Lib.hid (HRb.out.below hb9); obtain ⟨f0, f1, f2⟩ := HSc.out.gf.cells; obtain ⟨t0, t1, t2⟩ := HSc.out.gt.cells; have cv := run_string_of c0 HRb.out; have HAf := Lib.hid hrc9; clear hrc9 hb9 hcc9)
              | (go_at_call 7; (with_reducible refine (as_calls R C tA tl tc _ (HT.out.below HSc.out.below) (by have := HL3.out; omega)).mono ?_); rintro e W13 ⟨A10, c10, rfl, hcc10, hrc10, hb10⟩; have HSc := Lib.hid (HSc.out.below_ hb10); have HRb := Lib.hid (HRb.out.below hb10); obtain ⟨f0, f1, f2⟩ := HSc.out.gf.cells; obtain ⟨t0, t1, t2⟩ := HSc.out.gt.cells; have cv := run_string_of c0 HRb.out; have HAf := Lib.hid (HAf.out.below hb10); have HAt := Lib.hid hrc10; have HAc := Lib.hid hcc10; clear hrc10 hb10 hcc10)
              | (go_at_call 9; (with_reducible refine (refPaint_calls A9 A10 fl tl c9 c10 R C _ _ HAf.out HAt.out HAc.out HRr.out HCc.out HLen.out HPt.out fresh (by simpa using HAl.out)).mono ?_); rintro e W14 ⟨A11, c11, rfl, hrb11, hb11⟩; rw [HPb.out] at hrb11 ⊢; have HSc := Lib.hid (HSc.out.below_ hb11); have HRb := Lib.hid (HRb.out.below hb11); obtain ⟨f0, f1, f2⟩ := HSc.out.gf.cells; obtain ⟨t0, t1, t2⟩ := HSc.out.gt.cells; have cv := run_string_of c0 HRb.out; have cv2 := run_string_of c11 hrb11; clear hrb11 hb11)
              | (go_at_call 4; (with_reducible refine (knows23_calls _ m (pw_cell_below HSc.out.below HM.out)).mono ?_); rintro e W19 ⟨rfl, hb19⟩; have HSc := Lib.hid (HSc.out.below_ hb19); have HRb := Lib.hid (HRb.out.below hb19); obtain ⟨f0, f1, f2⟩ := HSc.out.gf.cells; obtain ⟨t0, t1, t2⟩ := HSc.out.gt.cells; have cv := run_string_of c0 HRb.out; clear hb19))
          all_goals
            refine NoPanic.normal ?_
            have HFB := Lib.hid HSc.out.below
            go_wp2_with fail
            go_ret
            exact ⟨rfl, HFB.out⟩
end Go.Proofs.YtbjckccgbmimpabGreatDoor
