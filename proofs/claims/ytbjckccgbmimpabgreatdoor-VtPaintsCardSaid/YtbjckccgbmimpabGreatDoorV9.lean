/- The walk of vt.Paint. -/
import Derived.Test.YtbjckccgbmimpabGreatDoorV7
import Derived.Test.YtbjckccgbmimpabGreatDoorV8
import Derived.Test.YtbjckccgbmimpabGreatDoorT3
namespace Go.Proofs.YtbjckccgbmimpabGreatDoor
open Go.RowKit Go.Proofs.YtbjckccgbmimpabGreatDoorW.PrintWords Go.Proofs.YtbjckccgbmimpabGreatDoorW.PrintLast Go.Proofs.YtbjckccgbmimpabGreatDoorW.PrintMore
def PaintPost (W : World) (proper : Prop) (bs : List UInt8) (e : Ending) (w' : World) : Prop :=
  Below W.heap.size W w' ∧ ((¬ proper ∧ e = .returned (.tuple #[.slice none 0 0, .int .i64 1])) ∨ (proper ∧ ∃ g0 c, e = .returned (.tuple #[.slice (some ⟨g0, 0, none⟩) bs.length c, .int .i64 0]) ∧ (W.heap.size ≤ g0 ∧ g0 < w'.heap.size) ∧ bs.length ≤ c ∧ bs.length ≤ 100000 ∧ RB w' (some ⟨g0, 0, none⟩) bs))
theorem Tryz.info41 : (Tryz.prog.info? 41).map (fun i => (i.zero, i.size, i.bytes)) = some (some (.agg #[.int .i32 0, .int .i64 0]), 2, 16) := by kernel_rfl
theorem add_add_plain (b o k : Nat) : (⟨b, o, none⟩ : Addr).add k = ⟨b, o + k, none⟩ := by
  unfold Addr.add
  split
  · rename_i h; subst h; rfl
  · rfl
/-- A part of a row of cells. -/
theorem rc_cut (A : Option Addr) (n c lo hi : Nat) (h1 : lo ≤ hi) (h2 : hi ≤ n) (h3 : n ≤ c) :
    ∃ A', (∀ W : World, (Instr.slice 22 (.slice A n c) (some (.int .i64 (lo : Int))) (some (.int .i64 (hi : Int))) none).run Tryz.prog W = .ok (.slice A' (hi - lo) (c - lo)) W) ∧
      ∀ (w : World) (l : List Cell), l.length = n → RC w A l → RC w A' ((l.drop lo).take (hi - lo)) := by
  obtain ⟨i0, hi0, _, hz1, _⟩ := info_parts Tryz.info41
  refine ⟨if c = lo then A else A.map (·.add (lo * 2)), fun W => ?_, fun w l hl h => ⟨?_, fun i hil => ?_⟩⟩
  · have hel : Tryz.prog.elem 22 = 41 := by simp [Program.elem, Tryz.underlying22]
    have hu : Tryz.prog.underlying 22 = some (.slice (Tryz.prog.elem 22)) := by rw [hel]; exact Tryz.underlying22
    rw [run_slice_lh W 22 A n c hu .i64 .i64 (lo : Int) (hi : Int) (by omega) (by omega) (by omega), hel]
    simp [sizeOf, typeInfo, hi0, hz1, sliced, Result.andThen]
  · have := h.len
    rw [List.length_take, List.length_drop]; omega
  · rw [List.length_take, List.length_drop] at hil
    obtain ⟨b, o, rfl, c1, c2⟩ := h.at_ (lo + i) (by omega)
    refine ⟨b, o + lo * 2, ?_, ?_, ?_⟩
    · rw [if_neg (by omega)]
      simp only [Option.map_some, add_add_plain]
    · have e : Kp.gr ((l.drop lo).take (hi - lo)) i = Kp.gr l (lo + i) := by
        unfold Kp.gr
        rw [List.getD_eq_getElem?_getD, List.getElem?_take, if_pos (by omega), List.getElem?_drop, List.getD_eq_getElem?_getD]
      rw [e, show o + lo * 2 + i * 2 = o + (lo + i) * 2 by omega]
      exact c1
    · have e : Kp.gs ((l.drop lo).take (hi - lo)) i = Kp.gs l (lo + i) := by
        unfold Kp.gs
        rw [List.getD_eq_getElem?_getD, List.getElem?_take, if_pos (by omega), List.getElem?_drop, List.getD_eq_getElem?_getD]
      rw [e, show o + lo * 2 + i * 2 + 1 = o + (lo + i) * 2 + 1 by omega]
      exact c2
theorem paintCells_len : ∀ (l : List Cell) (last : Int), (Kp.paintCells last l).length ≤ 14 * l.length
  | [], _ => by simp [Kp.paintCells]
  | c :: r, last => by
    simp only [Kp.paintCells]
    split
    · have := paintCells_len r last
      rw [List.length_cons]; omega
    · have := paintCells_len r c.2
      have h1 := Kp.dress_len c.2.toNat
      have h2 := encodeRune_len c.1
      rw [List.length_append, List.length_append, List.length_cons]
      split
      · rw [List.length_nil]; omega
      · omega
theorem paintRow_len (n : Nat) (l : List Cell) (hn : n < 60) (hl : l.length ≤ 60) : (Kp.paintRow n l).length ≤ 1000 := by
  unfold Kp.paintRow
  have h1 := paintCells_len l (-1)
  have h2 := decDigits_len (n + 1) (by omega)
  simp only [List.length_append, List.length_cons, List.length_nil]
  omega
theorem bytes_cat (a b : List UInt8) : (⟨a.toArray⟩ : ByteArray) ++ ⟨b.toArray⟩ = ⟨(a ++ b).toArray⟩ := by
  rw [ByteArray.ext_iff, ByteArray.data_append]
  simp
theorem Kp.paintRows_step (fresh : Bool) (C : Nat) (fl tl : List Cell) (R i : Nat) (h : i < R) : Kp.paintRows fresh C fl tl (R - i) i = (if fresh = true ∨ ¬ Kp.rowOf C fl i = Kp.rowOf C tl i then Kp.paintRow i (Kp.rowOf C tl i) else []) ++ Kp.paintRows fresh C fl tl (R - (i + 1)) (i + 1) := by
  rw [show R - i = (R - (i + 1)) + 1 by omega]; rfl
theorem Kp.wf_rowOf {l : List Cell} (h : Kp.wf l) (C i : Nat) : Kp.wf (Kp.rowOf C l i) := fun j => by
  by_cases hj : j < C
  · rw [Kp.gr_rowOf C l i j hj, Kp.gs_rowOf C l i j hj]; exact h _
  · have e1 : Kp.gr (Kp.rowOf C l i) j = 0 := by
      unfold Kp.gr Kp.rowOf
      rw [List.getD_eq_getElem?_getD, List.getElem?_take, if_neg hj]; rfl
    have e2 : Kp.gs (Kp.rowOf C l i) j = 0 := by
      unfold Kp.gs Kp.rowOf
      rw [List.getD_eq_getElem?_getD, List.getElem?_take, if_neg hj]; rfl
    rw [e1, e2]; omega
theorem Kp.st_rowOf {R C : Nat} {l : List Cell} (hl : l.length = R * C) (h : ∀ i, i < l.length → Kp.Pt C l i) {i : Nat} (hi : i < R) : ∀ j, j < (Kp.rowOf C l i).length → 0 ≤ Kp.gs (Kp.rowOf C l i) j ∧ Kp.gs (Kp.rowOf C l i) j < 8 := fun j hj => by
  rw [Kp.rowOf_len hl hi] at hj
  rw [Kp.gs_rowOf C l i j hj]
  exact (h _ (by rw [hl]; exact Kp.at_lt hi hj)).1
/-- What Paint's loop keeps. -/
structure Painting (W wr : World) (fresh : Bool) (R C g1 g2 : Nat) (fR fC : Int) (fA tA : Option Addr) (fl tl : List Cell) (fc tc : Nat) (i : Nat) (bs : List UInt8) : Prop where
  le : bs.length ≤ 4 + i * 1000
  val : bs ++ Kp.paintRows fresh C fl tl (R - i) i = Kp.paintB fresh R C fl tl
  gf : GridAt wr g1 fR fC fA fl.length fc
  gt : GridAt wr g2 (R : Int) (C : Int) tA tl.length tc
  below : Below W.heap.size W wr
section
variable {W wr w2 : World} {fresh : Bool} {R C g1 g2 : Nat} {fR fC : Int} {fA tA : Option Addr} {fl tl : List Cell} {fc tc i : Nat} {bs : List UInt8}
theorem Painting.below_ (h : Painting W wr fresh R C g1 g2 fR fC fA tA fl tl fc tc i bs) (hb : Below wr.heap.size wr w2) : Painting W w2 fresh R C g1 g2 fR fC fA tA fl tl fc tc i bs :=
  ⟨h.le, h.val, h.gf.below hb, h.gt.below hb, below_step h.below hb⟩
theorem Painting.row (h : Painting W wr fresh R C g1 g2 fR fC fA tA fl tl fc tc i bs) (hi : i < R) (hR : R ≤ 60) (hl : (Kp.rowOf C tl i).length ≤ 60) (hc : fresh = true ∨ ¬ Kp.rowOf C fl i = Kp.rowOf C tl i) :
    Painting W wr fresh R C g1 g2 fR fC fA tA fl tl fc tc (i + 1) (bs ++ Kp.paintRow i (Kp.rowOf C tl i)) := by
  refine ⟨?_, ?_, h.gf, h.gt, h.below⟩
  · have := h.le
    have := paintRow_len i (Kp.rowOf C tl i) (by omega) hl
    rw [List.length_append]; omega
  · have := h.val
    rw [Kp.paintRows_step fresh C fl tl R i hi, if_pos hc] at this
    rw [List.append_assoc]; exact this
theorem Painting.skip (h : Painting W wr fresh R C g1 g2 fR fC fA tA fl tl fc tc i bs) (hi : i < R) (hc : ¬ (fresh = true ∨ ¬ Kp.rowOf C fl i = Kp.rowOf C tl i)) : Painting W wr fresh R C g1 g2 fR fC fA tA fl tl fc tc (i + 1) bs := by
  have hle : bs.length ≤ 4 + (i + 1) * 1000 := Nat.le_trans h.le (by omega)
  refine ⟨hle, ?_, h.gf, h.gt, h.below⟩
  have := h.val
  rw [Kp.paintRows_step fresh C fl tl R i hi, if_neg hc, List.nil_append] at this
  exact this
theorem bytes_RB (W : World) (l : List UInt8) (hl : l.length ≤ 9223372036854775807) : RB (Lib.bytesWorld W 5 ⟨l.toArray⟩) (some ⟨W.heap.size, 0, none⟩) l := by
  refine ⟨rfl, hl, fun _ => ⟨_, rfl, fun j hj => ?_⟩⟩
  have hj' : j < (⟨l.toArray⟩ : ByteArray).size := by
    show j < l.toArray.size
    rw [List.size_toArray]; exact hj
  rw [add_plain, Lib.bytesWorld_cell W 5 ⟨l.toArray⟩ j hj']
set_option maxRecDepth 100000 in
set_option maxHeartbeats 1000000 in
theorem Painting.done (h : Painting W wr fresh R C g1 g2 fR fC fA tA fl tl fc tc R bs) (hR : R ≤ 60) {p : Prop} (hp : p) :
    PaintPost W p (Kp.paintB fresh R C fl tl) (.returned (.tuple #[.slice (some ⟨wr.heap.size, 0, none⟩) (⟨bs.toArray⟩ : ByteArray).size (grownCap wr (⟨bs.toArray⟩ : ByteArray).size 0 5), .int .i64 0])) (Lib.bytesWorld wr 5 ⟨bs.toArray⟩) := by
  have hv := h.val
  rw [Nat.sub_self] at hv
  simp only [Kp.paintRows, List.append_nil] at hv
  have hle := h.le
  have hsz : (⟨bs.toArray⟩ : ByteArray).size = bs.length := by simp [ByteArray.size]
  rw [← hv, hsz]
  exact ⟨bytes_below h.below h.below.size 5 _, .inr ⟨hp, _, _, rfl, ⟨h.below.size, by rw [Lib.bytesWorld_size]; omega⟩, grownCap_ge _ _ _ _, by omega, bytes_RB wr bs (by omega)⟩⟩
end
set_option maxRecDepth 100000 in
set_option maxHeartbeats 8000000 in
theorem Paint_calls (fR fC tR tC : Int) (fA tA : Option Addr) (fl tl : List Cell) (fc tc : Nat) (W : World) (hf : RC W fA fl) (ht : RC W tA tl) (hwf : Kp.wf tl) (hfc : fl.length ≤ fc) (htc : tl.length ≤ tc)
    (fresh : Bool) (hfr : fresh = true ↔ (fR ≠ tR ∨ fC ≠ tC ∨ fl.length ≠ tl.length)) :
    Calls Tryz.prog 5 #[gridV fR fC fA fl.length fc, gridV tR tC tA tl.length tc] W (PaintPost W (Kp.proper tR tC tl) (Kp.paintB fresh tR.toNat tC.toNat fl tl)) := by
  have HF := Lib.hid hf
  have HT := Lib.hid ht
  clear hf ht
  have hg1 : gridV fR fC fA fl.length fc = .agg #[.int .i64 fR, .int .i64 fC, .slice fA fl.length fc] := rfl
  have hg2 : gridV tR tC tA tl.length tc = .agg #[.int .i64 tR, .int .i64 tC, .slice tA tl.length tc] := rfl
  rw [hg1, hg2]
  clear hg1 hg2
  go_enter Tryz.func5, Tryz.ntmps5
  go_wp2_with fail
  have hgf := (GridAt.new W fR fC fA fl.length fc).alloc (.cells #[.int .i64 tR, .int .i64 tC, .slice tA tl.length tc] 24)
  have hgt := GridAt.new (W.alloc (.cells #[.int .i64 fR, .int .i64 fC, .slice fA fl.length fc] 24)) tR tC tA tl.length tc
  have hb := below_alloc (below_alloc (Below.refl W.heap.size W) (.cells #[.int .i64 fR, .int .i64 fC, .slice fA fl.length fc] 24)) (.cells #[.int .i64 tR, .int .i64 tC, .slice tA tl.length tc] 24)
  rw [show (W.alloc (.cells #[.int .i64 fR, .int .i64 fC, .slice fA fl.length fc] 24)).heap.size = W.heap.size + 1 by simp] at hgt
  generalize (W.alloc (.cells #[.int .i64 fR, .int .i64 fC, .slice fA fl.length fc] 24)).alloc (.cells #[.int .i64 tR, .int .i64 tC, .slice tA tl.length tc] 24) = W1 at hgf hgt hb ⊢
  generalize hgg : W.heap.size + 1 = g2 at hgt ⊢
  generalize hgg2 : W.heap.size = g1 at hgf ⊢
  clear hgg hgg2
  have HGF := Lib.hid hgf
  have HGT := Lib.hid hgt
  have HB := Lib.hid hb
  clear hgf hgt hb
  refine (proper_calls tR tC tA tl tc W1 (HT.out.below HB.out) hwf).mono ?_
  rintro e W2 ⟨b, rfl, hiff, hb⟩
  have HGF2 := Lib.hid (HGF.out.below hb)
  have HGT2 := Lib.hid (HGT.out.below hb)
  have HB2 := Lib.hid (below_step HB.out hb)
  clear hb HGF HGT HB
  cases b
  · have hn : ¬ Kp.proper tR tC tl := fun h => by simpa using hiff.2 h
    go_wp2_with fail
    go_ret2
    exact ⟨HB2.out, .inl ⟨hn, rfl⟩⟩
  · have hp : Kp.proper tR tC tl := hiff.1 rfl
    clear hiff
    obtain ⟨R, rfl⟩ : ∃ R : Nat, tR = R := ⟨tR.toNat, by have := hp.1; unfold Kp.side at this; omega⟩
    obtain ⟨C, rfl⟩ : ∃ C : Nat, tC = C := ⟨tC.toNat, by have := hp.2.1; unfold Kp.side at this; omega⟩
    have hR : 1 ≤ R ∧ R ≤ 60 := by have := hp.1; unfold Kp.side at this; omega
    have hC : 1 ≤ C ∧ C ≤ 60 := by have := hp.2.1; unfold Kp.side at this; omega
    have hlen : tl.length = R * C := by have := hp.2.2.1; exact_mod_cast this
    have hpt := (Kp.proper_iff hR.1 hC.1 hlen).1 (by have := hp.2.2.2; rwa [Int.toNat_natCast] at this)
    have HP := Lib.hid hp
    have HPT := Lib.hid hpt
    have HLen := Lib.hid hlen
    clear hp hpt hlen
    obtain ⟨f0, f1, f2⟩ := HGF2.out.cells
    obtain ⟨t0, t1, t2⟩ := HGT2.out.cells
    have hcs : (fresh = true ∧ ((fR != (R : Int)) = true ∨ ((fR != (R : Int)) = false ∧ (fC != (C : Int)) = true) ∨ ((fR != (R : Int)) = false ∧ (fC != (C : Int)) = false ∧ ((fl.length : Int) != (tl.length : Int)) = true)))
        ∨ (fresh = false ∧ (fR != (R : Int)) = false ∧ (fC != (C : Int)) = false ∧ ((fl.length : Int) != (tl.length : Int)) = false) := by
      cases fresh
      · have : ¬ (fR ≠ (R : Int) ∨ fC ≠ (C : Int) ∨ fl.length ≠ tl.length) := fun h => by simpa using hfr.2 h
        refine .inr ⟨rfl, by simp; omega, by simp; omega, by simp; omega⟩
      · have h := hfr.1 rfl
        refine .inl ⟨rfl, ?_⟩
        by_cases h1 : fR = (R : Int)
        · by_cases h2 : fC = (C : Int)
          · exact .inr (.inr ⟨by simp [h1], by simp [h2], by simp; omega⟩)
          · exact .inr (.inl ⟨by simp [h1], by simp [h2]⟩)
        · exact .inl (by simp [h1])
    have hl1 := HF.out.len
    have hl2 := HT.out.len
    have HFR := Lib.hid hfr
    clear hfr
    rcases hcs with ⟨rfl, (e1 | ⟨e1, e2⟩ | ⟨e1, e2, e3⟩)⟩ | ⟨rfl, e1, e2, e3⟩
    rotate_right
    · have HFl : Hid (fl.length = tl.length) := Lib.hid (by simp at e3; omega)
      go_wp2_with fail
      have HGF := Lib.hid HGF2.out
      have HGT := Lib.hid HGT2.out
      have HB := Lib.hid HB2.out
      clear HGF2 HGT2 HB2 f0 f1 f2 t0 t1 t2 e1 e2 e3
      go_loopw [7, 38] (fun v7 v38 wr => ∃ (i : Nat) (bs : List UInt8), v7 = .string ⟨bs.toArray⟩ ∧ v38 = .int .i64 i ∧ i ≤ R ∧ Hid (Painting W wr false R C g1 g2 fR fC fA tA fl tl fc tc i bs)) (fun _ v38 _ => R - (intOf v38).toNat)
      case atStart => exact ⟨0, [], rfl, rfl, by omega, ⟨by simp, rfl, HGF.out, HGT.out, HB.out⟩⟩
      case round =>
        clear HGF HGT HB
        obtain ⟨i, bs, rfl, rfl, hi, HPa⟩ := hrel
        obtain ⟨t0, t1, t2⟩ := HPa.out.gt.cells
        by_cases hlt : i < R
        · obtain ⟨N1, hN1⟩ : ∃ N1, i * C = N1 := ⟨_, rfl⟩
          obtain ⟨N2, hN2⟩ : ∃ N2, (i + 1) * C = N2 := ⟨_, rfl⟩
          have hN12 : N2 = N1 + C := by rw [← hN1, ← hN2, Nat.add_mul, Nat.one_mul]
          have hle : N2 ≤ tl.length := by rw [← hN2, HLen.out]; exact Nat.mul_le_mul_right C hlt
          have hlef : N2 ≤ fl.length := by rw [HFl.out]; exact hle
          have hNs : N2 ≤ 3600 := by rw [← hN2]; exact Nat.mul_le_mul (show i + 1 ≤ 60 by omega) hC.2
          have w1 : IntKind.i64.wrap ((i : Int) * C) = (N1 : Int) := by
            rw [show (i : Int) * C = ((i * C : Nat) : Int) by push_cast; rfl, hN1, IntKind.wrap_i64]; omega
          have w2 : IntKind.i64.wrap (((i : Int) + 1) * C) = (N2 : Int) := by
            rw [show ((i : Int) + 1) * C = (((i + 1) * C : Nat) : Int) by push_cast; rfl, hN2, IntKind.wrap_i64]; omega
          have w3 : IntKind.i64.wrap ((i : Int) + 1) = (i : Int) + 1 := by rw [IntKind.wrap_i64]; omega
          obtain ⟨A', hcut, hA'⟩ := rc_cut tA tl.length tc N1 N2 (by omega) hle htc
          obtain ⟨B', hcut2, hB'⟩ := rc_cut fA fl.length fc N1 N2 (by omega) hlef hfc
          have hrow : (tl.drop N1).take (N2 - N1) = Kp.rowOf C tl i := by unfold Kp.rowOf; rw [hN1, show N2 - N1 = C by omega]
          have hrow2 : (fl.drop N1).take (N2 - N1) = Kp.rowOf C fl i := by unfold Kp.rowOf; rw [hN1, show N2 - N1 = C by omega]
          have hrc := fun W3 (hb : Below wr.heap.size wr W3) => hA' W3 tl rfl (HT.out.below (below_step HPa.out.below hb))
          have hrc2 := fun W3 (hb : Below wr.heap.size wr W3) => hB' W3 fl rfl (HF.out.below (below_step HPa.out.below hb))
          rw [hrow] at hrc
          rw [hrow2] at hrc2
          have hrl := Kp.rowOf_len HLen.out hlt
          have hrl2 := Kp.rowOf_len (HFl.out.trans HLen.out) hlt
          have hNle : N1 ≤ N2 := by omega
          have hNC : N2 - N1 = C := by omega
          rw [hNC, ← hrl] at hcut
          rw [hNC, ← hrl2] at hcut2
          have hrl60 : (Kp.rowOf C tl i).length ≤ 60 := by omega
          have hwfr : Kp.wf (Kp.rowOf C tl i) := Kp.wf_rowOf hwf C i
          have hstr : ∀ j, j < (Kp.rowOf C tl i).length → 0 ≤ Kp.gs (Kp.rowOf C tl i) j ∧ Kp.gs (Kp.rowOf C tl i) j < 8 := Kp.st_rowOf HLen.out HPT.out hlt
          clear hrl hrl2 hNC
          generalize hrw : Kp.rowOf C tl i = rw_ at hrc hcut hrl60 hwfr hstr
          generalize hrw2 : Kp.rowOf C fl i = rf at hrc2 hcut2
          have HRC := Lib.hid hrc
          have HRF := Lib.hid hrc2
          have HW := Lib.hid hwfr
          have HS := Lib.hid hstr
          have HRw := Lib.hid hrw
          have HRw2 := Lib.hid hrw2
          clear hN1 hN2 hA' hB' hrow hrow2 hrc hrc2 hN12 hwfr hstr hrw hrw2
          go_wp2_with fail
          go_quiet (fail)
          have hb4 := pw_below_drewN (Below.refl wr.heap.size wr) nq
          generalize wr.drewN nq = W4 at hb4 ⊢
          have HPa4 := Lib.hid (HPa.out.below_ hb4)
          have HB4 := Lib.hid hb4
          clear t0 t1 t2 w1 w2 w3 hb4
          obtain ⟨t0, t1, t2⟩ := HPa4.out.gt.cells
          obtain ⟨f0, f1, f2⟩ := HPa4.out.gf.cells
          by_cases hsame : rf = rw_
          · have heq := fun n => equal_true B' A' rf rw_ (fc - N1) (tc - N1) W4 hsame (HRF.out W4 HB4.out) (HRC.out W4 HB4.out) n
            have HEq := Lib.hid heq
            have HSame := Lib.hid hsame
            clear heq hsame
            go_wp2_with fail
            go_quiet ((go_at_call 13; exact Calls.quiet_of (HEq.out _)))
            go_wp2_with fail
            refine ⟨⟨i + 1, bs, rfl, by go_num, by omega, ?_⟩, by simp [intOf]; omega⟩
            exact Lib.hid ((HPa4.out.below_ (pw_below_drewN (Below.refl _ _) nq)).skip hlt (by rw [HRw.out, HRw2.out]; simp [HSame.out]))
          have heq := fun n => equal_false B' A' rf rw_ (fc - N1) (tc - N1) W4 hsame (HRF.out W4 HB4.out) (HRC.out W4 HB4.out) n
          have HEq := Lib.hid heq
          have HSame := Lib.hid hsame
          clear heq hsame
          go_wp2_with fail
          go_quiet ((go_at_call 13; exact Calls.quiet_of (HEq.out _)))
          have hb5 := pw_below_drewN (Below.refl W4.heap.size W4) nq
          generalize W4.drewN nq = W5 at hb5 ⊢
          have HPa5 := Lib.hid (HPa4.out.below_ hb5)
          have HB5 := Lib.hid (below_step HB4.out hb5)
          clear t0 t1 t2 f0 f1 f2 hb5 HPa4 HB4
          obtain ⟨t0, t1, t2⟩ := HPa5.out.gt.cells
          go_wp2_with fail
          refine (paint_calls i A' rw_ (tc - N1) W5 (by omega) (HRC.out W5 HB5.out) HW.out HS.out hrl60).mono ?_
          rintro e W6 ⟨rfl, hb6⟩
          have HPa6 := Lib.hid (HPa5.out.below_ hb6)
          clear t0 t1 t2 hb6 HPa5 HB5
          have hsum : (⟨bs.toArray⟩ : ByteArray) ++ ⟨(Kp.paintRow i rw_).toArray⟩ = ⟨(bs ++ Kp.paintRow i rw_).toArray⟩ := bytes_cat _ _
          have HSum := Lib.hid hsum
          have hbl : bs.length ≤ 100000 := by have := HPa6.out.le; omega
          have hpl := paintRow_len i rw_ (by omega) hrl60
          clear hsum
          go_wp2_with fail
          rw [HSum.out]
          refine ⟨⟨i + 1, bs ++ Kp.paintRow i rw_, rfl, by go_num, by omega, ?_⟩, by simp [intOf]; omega⟩
          have := HPa6.out.row hlt hR.2 (by rw [HRw.out]; exact hrl60) (.inr (by rw [HRw.out, HRw2.out]; exact HSame.out))
          rw [HRw.out] at this
          exact this
        · obtain rfl : i = R := by omega
          have kb := fun W => print_bytes (P := Tryz.prog) 9 26 5 Tryz.underlying9 Tryz.underlying26 Tryz.underlying5 ⟨bs.toArray⟩ W
          go_wp2_with fail
          go_ret2
          exact HPa.out.done hR.2 HP.out
    all_goals
      go_wp2_with fail
      have HGF := Lib.hid HGF2.out
      have HGT := Lib.hid HGT2.out
      have HB := Lib.hid HB2.out
      clear HGF2 HGT2 HB2 f0 f1 f2 t0 t1 t2 e1
      go_loopw [7, 38] (fun v7 v38 wr => ∃ (i : Nat) (bs : List UInt8), v7 = .string ⟨bs.toArray⟩ ∧ v38 = .int .i64 i ∧ i ≤ R ∧ Hid (Painting W wr true R C g1 g2 fR fC fA tA fl tl fc tc i bs)) (fun _ v38 _ => R - (intOf v38).toNat)
      case atStart => exact ⟨0, [27, 91, 50, 74], rfl, rfl, by omega, ⟨by simp, rfl, HGF.out, HGT.out, HB.out⟩⟩
      case round =>
        clear HGF HGT HB
        obtain ⟨i, bs, rfl, rfl, hi, HPa⟩ := hrel
        obtain ⟨t0, t1, t2⟩ := HPa.out.gt.cells
        by_cases hlt : i < R
        · obtain ⟨N1, hN1⟩ : ∃ N1, i * C = N1 := ⟨_, rfl⟩
          obtain ⟨N2, hN2⟩ : ∃ N2, (i + 1) * C = N2 := ⟨_, rfl⟩
          have hN12 : N2 = N1 + C := by rw [← hN1, ← hN2, Nat.add_mul, Nat.one_mul]
          have hle : N2 ≤ tl.length := by rw [← hN2, HLen.out]; exact Nat.mul_le_mul_right C hlt
          have hNs : N2 ≤ 3600 := by rw [← hN2]; exact Nat.mul_le_mul (show i + 1 ≤ 60 by omega) hC.2
          have w1 : IntKind.i64.wrap ((i : Int) * C) = (N1 : Int) := by
            rw [show (i : Int) * C = ((i * C : Nat) : Int) by push_cast; rfl, hN1, IntKind.wrap_i64]; omega
          have w2 : IntKind.i64.wrap (((i : Int) + 1) * C) = (N2 : Int) := by
            rw [show ((i : Int) + 1) * C = (((i + 1) * C : Nat) : Int) by push_cast; rfl, hN2, IntKind.wrap_i64]; omega
          have w3 : IntKind.i64.wrap ((i : Int) + 1) = (i : Int) + 1 := by rw [IntKind.wrap_i64]; omega
          obtain ⟨A', hcut, hA'⟩ := rc_cut tA tl.length tc N1 N2 (by omega) hle htc
          have hrow : (tl.drop N1).take (N2 - N1) = Kp.rowOf C tl i := by unfold Kp.rowOf; rw [hN1, show N2 - N1 = C by omega]
          have hrc := fun W3 (hb : Below wr.heap.size wr W3) => hA' W3 tl rfl (HT.out.below (below_step HPa.out.below hb))
          rw [hrow] at hrc
          have hrl := Kp.rowOf_len HLen.out hlt
          have hNle : N1 ≤ N2 := by omega
          rw [show N2 - N1 = C by omega, ← hrl] at hcut
          have hrl60 : (Kp.rowOf C tl i).length ≤ 60 := by omega
          have hwfr : Kp.wf (Kp.rowOf C tl i) := Kp.wf_rowOf hwf C i
          have hstr : ∀ j, j < (Kp.rowOf C tl i).length → 0 ≤ Kp.gs (Kp.rowOf C tl i) j ∧ Kp.gs (Kp.rowOf C tl i) j < 8 := Kp.st_rowOf HLen.out HPT.out hlt
          generalize hrw : Kp.rowOf C tl i = rw_ at hrc hcut hrl60 hwfr hstr
          have HRC := Lib.hid hrc
          have HW := Lib.hid hwfr
          have HS := Lib.hid hstr
          have HRw := Lib.hid hrw
          clear hN1 hN2 hA' hrow hrc hrl hN12 hwfr hstr hrw
          go_wp2_with fail
          go_quiet (fail)
          have hb4 := pw_below_drewN (Below.refl wr.heap.size wr) nq
          generalize wr.drewN nq = W4 at hb4 ⊢
          have HPa4 := Lib.hid (HPa.out.below_ hb4)
          have HB4 := Lib.hid hb4
          clear t0 t1 t2 w1 w2 w3 hb4
          obtain ⟨t0, t1, t2⟩ := HPa4.out.gt.cells
          go_wp2_with fail
          go_quiet (fail)
          have hb5 := pw_below_drewN (Below.refl W4.heap.size W4) nq
          generalize W4.drewN nq = W5 at hb5 ⊢
          have HPa5 := Lib.hid (HPa4.out.below_ hb5)
          have HB5 := Lib.hid (below_step HB4.out hb5)
          clear t0 t1 t2 hb5 HPa4 HB4
          obtain ⟨t0, t1, t2⟩ := HPa5.out.gt.cells
          go_wp2_with fail
          refine (paint_calls i A' rw_ (tc - N1) W5 (by omega) (HRC.out W5 HB5.out) HW.out HS.out hrl60).mono ?_
          rintro e W6 ⟨rfl, hb6⟩
          have HPa6 := Lib.hid (HPa5.out.below_ hb6)
          clear t0 t1 t2 hb6 HPa5 HB5
          have hsum : (⟨bs.toArray⟩ : ByteArray) ++ ⟨(Kp.paintRow i rw_).toArray⟩ = ⟨(bs ++ Kp.paintRow i rw_).toArray⟩ := bytes_cat _ _
          have HSum := Lib.hid hsum
          have hbl : bs.length ≤ 100000 := by have := HPa6.out.le; omega
          have hpl := paintRow_len i rw_ (by omega) hrl60
          clear hsum
          go_wp2_with fail
          rw [HSum.out]
          refine ⟨⟨i + 1, bs ++ Kp.paintRow i rw_, rfl, by go_num, by omega, ?_⟩, by simp [intOf]; omega⟩
          have := HPa6.out.row hlt hR.2 (by rw [HRw.out]; exact hrl60) (.inl rfl)
          rw [HRw.out] at this
          exact this
        · obtain rfl : i = R := by omega
          have kb := fun W => print_bytes (P := Tryz.prog) 9 26 5 Tryz.underlying9 Tryz.underlying26 Tryz.underlying5 ⟨bs.toArray⟩ W
          go_wp2_with fail
          go_ret2
          exact HPa.out.done hR.2 HP.out
end Go.Proofs.YtbjckccgbmimpabGreatDoor
