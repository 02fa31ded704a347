/- The walk of the document's Paint. -/
import Derived.Test.YtbjckccgbmimpabGreatDoorX4
import Derived.Test.YtbjckccgbmimpabGreatDoorV21
import Derived.Deep.MidRow
namespace Go.Proofs.YtbjckccgbmimpabGreatDoor
open Go.RowKit Go.Proofs.YtbjckccgbmimpabGreatDoorW.PrintWords Go.Proofs.YtbjckccgbmimpabGreatDoorW.PrintLast Go.Proofs.YtbjckccgbmimpabGreatDoorW.PrintMore
theorem RC.paints {w : World} {A : Option Addr} {l : List Cell} (h : RC w A l) : Kd.C PPaint.k45 w A l.length (PPaint.ofC l) := by
  refine ⟨PPaint.ofC_len l, by have := h.len; omega, fun h0 => ?_⟩
  obtain ⟨b, o, rfl, _⟩ := h.at_ 0 h0
  refine ⟨_, rfl, fun j p hp => ?_⟩
  have hj : j < l.length := by
    have := (List.getElem?_eq_some_iff.1 hp).1
    rwa [PPaint.ofC_len] at this
  obtain ⟨b', o', e, h1, h2⟩ := h.at_ j hj
  simp only [Option.some.injEq, Addr.mk.injEq, and_true] at e
  obtain ⟨rfl, rfl⟩ := e
  have e1 : p.f0 = Kp.gr l j ∧ p.f1 = Kp.gs l j := by
    have := PPaint.rd_f0 l j
    have h3 := PPaint.rd_f1 l j
    unfold PPaint.rd_T45 at this h3
    rw [Int.toNat_natCast, List.getD_eq_getElem?_getD, hp] at this h3
    exact ⟨this, h3⟩
  refine ⟨[.int .i32 p.f0, .int .i64 p.f1], rfl, PPaint.k45_mk w p, fun i u hu => ?_⟩
  rw [e1.1, e1.2] at hu
  match i, hu with
  | 0, hu => injection hu with hu; subst hu; show w.cell? ((⟨b, o, none⟩ : Addr).add (j * 2 + 0)) = _; rw [Addr.add_mid]; exact h1
  | 1, hu => injection hu with hu; subst hu; show w.cell? ((⟨b, o, none⟩ : Addr).add (j * 2 + 1)) = _; rw [Addr.add_mid]; exact h2
theorem RC.propers {w : World} {A : Option Addr} {l : List Cell} (h : RC w A l) : Kd.C PProper.k45 w A l.length (PProper.ofC l) := by
  refine ⟨PProper.ofC_len l, by have := h.len; omega, fun h0 => ?_⟩
  obtain ⟨b, o, rfl, _⟩ := h.at_ 0 h0
  refine ⟨_, rfl, fun j p hp => ?_⟩
  have hj : j < l.length := by
    have := (List.getElem?_eq_some_iff.1 hp).1
    rwa [PProper.ofC_len] at this
  obtain ⟨b', o', e, h1, h2⟩ := h.at_ j hj
  simp only [Option.some.injEq, Addr.mk.injEq, and_true] at e
  obtain ⟨rfl, rfl⟩ := e
  have e1 : p.f0 = Kp.gr l j ∧ p.f1 = Kp.gs l j := by
    have := PProper.rd_f0 l j
    have h3 := PProper.rd_f1 l j
    unfold PProper.rd_T45 at this h3
    rw [Int.toNat_natCast, List.getD_eq_getElem?_getD, hp] at this h3
    exact ⟨this, h3⟩
  refine ⟨[.int .i32 p.f0, .int .i64 p.f1], rfl, PProper.k45_mk w p, fun i u hu => ?_⟩
  rw [e1.1, e1.2] at hu
  match i, hu with
  | 0, hu => injection hu with hu; subst hu; show w.cell? ((⟨b, o, none⟩ : Addr).add (j * 2 + 0)) = _; rw [Addr.add_mid]; exact h1
  | 1, hu => injection hu with hu; subst hu; show w.cell? ((⟨b, o, none⟩ : Addr).add (j * 2 + 1)) = _; rw [Addr.add_mid]; exact h2
theorem refProper_calls (rows cols : Int) (A : Option Addr) (l : List Cell) (c : Nat) (W : World) (hr : RC W A l) (hc : l.length ≤ c) (hL : l.length ≤ 1000000) :
    Calls Tryz.prog 6 #[.int .i64 rows, .int .i64 cols, .slice A l.length c] W (IfPost W (Kp.proper rows cols l)) := by
  obtain ⟨k, b, h, hb⟩ := PProper.proper_law rows cols l hL
  have := PProper.stylusref23_Proper.calls k rows cols A c (PProper.ofC l) b W (by rw [PProper.ofC_len]; exact hr.propers) (by rw [PProper.ofC_len]; exact hc) h
  rw [PProper.ofC_len] at this
  exact this.mono fun e w' ⟨h1, h2⟩ => ⟨b, h1, hb, h2⟩
/-- What Paint has come to. -/
structure RPaint (W wr : World) (fresh : Bool) (R C : Nat) (fl tl : List Cell) (i : Nat) (bs : List UInt8) (v : Value) : Prop where
  le : bs.length ≤ 4 + i * 1000
  val : bs ++ Kp.paintRows fresh C fl tl (R - i) i = Kp.paintB fresh R C fl tl
  own : Kd.R (Kd.int .u8) 5 wr W.heap.size (fun _ => True) v (bz bs)
  below : Below W.heap.size W wr
theorem RB_of_own {w : World} {base : Nat} {v : Value} {bs : List UInt8} (h : Kd.R (Kd.int .u8) 5 w base (fun _ => True) v (bz bs)) : ∃ A c, v = .slice A bs.length c ∧ bs.length ≤ c ∧ RB w A bs := by
  obtain ⟨A, c, rfl, hc, hr⟩ := Kd.R_reads h
  rw [bz_length] at hc hr
  refine ⟨A, c, by rw [bz_length], hc, rfl, hr.2.1, fun h0 => ?_⟩
  obtain ⟨ad, e, hat⟩ := hr.2.2 h0
  refine ⟨ad, e, fun j hj => ?_⟩
  have hj' : (bz bs)[j]? = some ((bs[j].toNat : Int)) := by simp [bz, hj]
  obtain ⟨cs, _, hk, hcell⟩ := hat j _ hj'
  have : cs = [.int .u8 (bs[j].toNat : Int)] := hk
  subst this
  have h1 := hcell 0 _ rfl
  have e1 : j * (Kd.int .u8).sz + 0 = j := Nat.mul_one j
  rw [e1] at h1
  rw [h1]
  simp [List.getD, hj, eb]
set_option maxRecDepth 100000 in
/-- A part of a row of cells. -/
theorem rc_cut31 (A : Option Addr) (n c lo hi : Nat) (h1 : lo ≤ hi) (h2 : hi ≤ n) (h3 : n ≤ c) :
    ∃ A', (∀ W : World, (Instr.slice 31 (.slice A n c) (some (.int .i64 (lo : Int))) (some (.int .i64 (hi : Int))) none).run Tryz.prog W = .ok (.slice A' (hi - lo) (c - lo)) W) ∧
      ∀ (w : World) (l : List Cell), l.length = n → RC w A l → RC w A' ((l.drop lo).take (hi - lo)) := by
  obtain ⟨i0, hi0, _, hz1, _⟩ := info_parts Tryz.info45
  refine ⟨if c = lo then A else A.map (·.add (lo * 2)), fun W => ?_, fun w l hl h => ⟨?_, fun i hil => ?_⟩⟩
  · have hel : Tryz.prog.elem 31 = 45 := by simp [Program.elem, Tryz.underlying31]
    have hu : Tryz.prog.underlying 31 = some (.slice (Tryz.prog.elem 31)) := by rw [hel]; exact Tryz.underlying31
    rw [run_slice_lh W 31 A n c hu .i64 .i64 (lo : Int) (hi : Int) (by omega) (by omega) (by omega), hel]
    simp [sizeOf, typeInfo, hi0, hz1, sliced, Result.andThen]
  · have := h.len
    rw [List.length_take, List.length_drop]; omega
  · rw [List.length_take, List.length_drop] at hil
    obtain ⟨b, o, rfl, c1, c2⟩ := h.at_ (lo + i) (by omega)
    refine ⟨b, o + lo * 2, ?_, ?_, ?_⟩
    · rw [if_neg (by omega)]
      simp only [Option.map_some, add_add_plain]
    · have e : Kp.gr ((l.drop lo).take (hi - lo)) i = Kp.gr l (lo + i) := by
        unfold Kp.gr
        rw [List.getD_eq_getElem?_getD, List.getElem?_take, if_pos (by omega), List.getElem?_drop, List.getD_eq_getElem?_getD]
      rw [e, show o + lo * 2 + i * 2 = o + (lo + i) * 2 by omega]
      exact c1
    · have e : Kp.gs ((l.drop lo).take (hi - lo)) i = Kp.gs l (lo + i) := by
        unfold Kp.gs
        rw [List.getD_eq_getElem?_getD, List.getElem?_take, if_pos (by omega), List.getElem?_drop, List.getD_eq_getElem?_getD]
      rw [e, show o + lo * 2 + i * 2 + 1 = o + (lo + i) * 2 + 1 by omega]
      exact c2
set_option maxRecDepth 100000 in
theorem RPaint.row {W wr wr' : World} {fresh : Bool} {R C : Nat} {fl tl : List Cell} {i : Nat} {bs : List UInt8} {v v' : Value} (h : RPaint W wr fresh R C fl tl i bs v) (hi : i < R) (hR : R ≤ 60) (hl : (Kp.rowOf C tl i).length ≤ 60)
    (hc : fresh = true ∨ ¬ Kp.rowOf C fl i = Kp.rowOf C tl i) (ho : Kd.R (Kd.int .u8) 5 wr' W.heap.size (fun _ => True) v' (bz (bs ++ Kp.paintRow i (Kp.rowOf C tl i)))) (hb : Below W.heap.size W wr') :
    RPaint W wr' fresh R C fl tl (i + 1) (bs ++ Kp.paintRow i (Kp.rowOf C tl i)) v' := by
  have h1 := paintRow_len i (Kp.rowOf C tl i) (by omega) hl
  have h2 := h.le
  refine ⟨by rw [List.length_append]; omega, ?_, ho, hb⟩
  have := h.val
  rw [Kp.paintRows_step fresh C fl tl R i hi, if_pos hc] at this
  rw [List.append_assoc]; exact this
set_option maxRecDepth 100000 in
theorem RPaint.skip {W wr : World} {fresh : Bool} {R C : Nat} {fl tl : List Cell} {i : Nat} {bs : List UInt8} {v : Value} (h : RPaint W wr fresh R C fl tl i bs v) (hi : i < R) (hc : ¬ (fresh = true ∨ ¬ Kp.rowOf C fl i = Kp.rowOf C tl i)) : RPaint W wr fresh R C fl tl (i + 1) bs v := by
  have h2 := h.le
  refine ⟨by omega, ?_, h.own, h.below⟩
  have := h.val
  rw [Kp.paintRows_step fresh C fl tl R i hi, if_neg hc, List.nil_append] at this
  exact this
theorem RPaint.done {W wr : World} {fresh : Bool} {R C : Nat} {fl tl : List Cell} {bs : List UInt8} {v : Value} (h : RPaint W wr fresh R C fl tl R bs v) :
    ∃ A c, (Ending.returned v) = .returned (.slice A (Kp.paintB fresh R C fl tl).length c) ∧ RB wr A (Kp.paintB fresh R C fl tl) ∧ Below W.heap.size W wr := by
  have hv := h.val
  rw [Nat.sub_self] at hv
  simp only [Kp.paintRows, List.append_nil] at hv
  obtain ⟨A, c, e, _, hr⟩ := RB_of_own h.own
  rw [← hv]
  exact ⟨A, c, by rw [e], hr, h.below⟩
set_option maxRecDepth 100000 in
/-- The call of Row. -/
theorem RPaint.call {W wr : World} {fresh : Bool} {R C : Nat} {fl tl : List Cell} {i : Nat} {bs : List UInt8} {v : Value} (h : RPaint W wr fresh R C fl tl i bs v) (hi : i < R) (hR : R ≤ 60) (hC : C ≤ 60) (hlen : tl.length = R * C) (hpt : ∀ i, i < tl.length → Kp.Pt C tl i)
    (hc : fresh = true ∨ ¬ Kp.rowOf C fl i = Kp.rowOf C tl i) (A : Option Addr) (c : Nat) (hA : RC W A (Kp.rowOf C tl i)) (hcap : (Kp.rowOf C tl i).length ≤ c) :
    Calls Tryz.prog 20 #[v, .int .i64 i, .slice A (Kp.rowOf C tl i).length c] wr fun e w' => ∃ v' bs', e = .returned v' ∧ Hid (RPaint W w' fresh R C fl tl (i + 1) bs' v') := by
  have hrl := Kp.rowOf_len hlen hi
  have hbl : bs.length ≤ 100000 := by have := h.le; omega
  have hst := Kp.st_rowOf hlen hpt hi
  have hrr : ∀ j, j < (Kp.rowOf C tl i).length → Kp.gr (Kp.rowOf C tl i) j ≠ 0 → Kp.right (Kp.gr (Kp.rowOf C tl i) j) := by
    intro j hj hne
    rw [hrl] at hj
    rw [Kp.gr_rowOf C tl i j hj] at hne ⊢
    have ho := ((hpt _ (by rw [hlen]; exact Kp.at_lt hi hj)).2.2 hne).1
    exact Decidable.not_not.1 fun e => ho (.inl e)
  have hrow := PPaint.row_eq (l := Kp.rowOf C tl i) i (by omega) (bz bs) (by rw [bz_length]; omega) (by omega) hst hrr
  have hk : ∀ W_, Kept wr W_ (fun k_ => some k_ = v.ownBlock) → Kd.C PPaint.k45 W_ A (PPaint.ofC (Kp.rowOf C tl i)).length (PPaint.ofC (Kp.rowOf C tl i)) := by
    rw [PPaint.ofC_len]
    exact Kd.C_kept_came PPaint.k45_heap hA.paints h.below (fun k_ hs_ => Kd.R_base h.own k_ hs_.symm)
  have := PPaint.stylusref23_Row.calls _ (fun k_ => some k_ = v.ownBlock) v (bz bs) (i : Int) A c (PPaint.ofC (Kp.rowOf C tl i)) _ W wr h.below (Kd.R_tight rfl h.own) hk (by rw [PPaint.ofC_len]; exact hcap) hrow
  rw [PPaint.ofC_len] at this
  refine this.mono ?_
  rintro e w' ⟨v', rfl, ho, hb, _⟩
  refine ⟨v', bs ++ Kp.paintRow i (Kp.rowOf C tl i), rfl, Lib.hid (h.row hi hR (by omega) hc ?_ hb)⟩
  rw [bz_append]
  exact Kd.R_mono ho (fun _ _ => trivial)
theorem RPaint.drewN {W wr : World} {fresh : Bool} {R C : Nat} {fl tl : List Cell} {i : Nat} {bs : List UInt8} {v : Value} (h : RPaint W wr fresh R C fl tl i bs v) (n : Nat) : RPaint W (wr.drewN n) fresh R C fl tl i bs v :=
  ⟨h.le, h.val, Kd.R_drewN h.own n, pw_below_drewN h.below n⟩
theorem rows_alike {R C i : Nat} {fl tl : List Cell} (hf : fl.length = R * C) (ht : tl.length = R * C) (hi : i < R) : Kp.rowOf C fl i = Kp.rowOf C tl i ↔ ∀ j, j < C → Kp.gr fl (i * C + j) = Kp.gr tl (i * C + j) ∧ Kp.gs fl (i * C + j) = Kp.gs tl (i * C + j) := by
  constructor
  · intro h j hj
    rw [← Kp.gr_rowOf C fl i j hj, ← Kp.gr_rowOf C tl i j hj, ← Kp.gs_rowOf C fl i j hj, ← Kp.gs_rowOf C tl i j hj, h]
    exact ⟨rfl, rfl⟩
  · intro h
    refine Kp.cells_eq (by rw [Kp.rowOf_len hf hi, Kp.rowOf_len ht hi]) fun j hj => ?_
    rw [Kp.rowOf_len hf hi] at hj
    rw [Kp.gr_rowOf C fl i j hj, Kp.gr_rowOf C tl i j hj, Kp.gs_rowOf C fl i j hj, Kp.gs_rowOf C tl i j hj]
    exact h j hj
theorem hlit (W : World) : RB (W.alloc (.cells #[.int .u8 27, .int .u8 91, .int .u8 50, .int .u8 74] 5)) (some ⟨W.heap.size, 0, none⟩) [27, 91, 50, 74] := by
  refine ⟨rfl, by decide, fun _ => ⟨_, rfl, fun j hj => ?_⟩⟩
  have h4 : j = 0 ∨ j = 1 ∨ j = 2 ∨ j = 3 := by simp at hj; omega
  have hb := heap_alloc_new W (.cells #[.int .u8 27, .int .u8 91, .int .u8 50, .int .u8 74] 5)
  rcases h4 with rfl | rfl | rfl | rfl <;> (rw [add_plain]; exact blk_cell hb _)
theorem encs_nums (k : IntKind) (l : List Int) : encs (Value.int k) l = nums k l := rfl
set_option maxRecDepth 100000 in
set_option maxHeartbeats 8000000 in
theorem refPaint_calls (fA tA : Option Addr) (fl tl : List Cell) (fc tc R C : Nat) (al : Bool) (W : World) (hf : RC W fA fl) (ht : RC W tA tl) (htc : tl.length ≤ tc) (hR : 1 ≤ R ∧ R ≤ 60) (hC : 1 ≤ C ∧ C ≤ 60)
    (hlen : tl.length = R * C) (hpt : ∀ i, i < tl.length → Kp.Pt C tl i) (fresh : Bool) (hfr : fresh = true ↔ (al = false ∨ fl.length ≠ tl.length)) :
    Calls Tryz.prog 9 #[.slice fA fl.length fc, .slice tA tl.length tc, .int .i64 R, .int .i64 C, .bool al] W fun e w' => ∃ A c, e = .returned (.slice A (Kp.paintB fresh R C fl tl).length c) ∧ RB w' A (Kp.paintB fresh R C fl tl) ∧ Below W.heap.size W w' := by
  have HF := Lib.hid hf
  have HT := Lib.hid ht
  have HLen := Lib.hid hlen
  have HPT := Lib.hid hpt
  have HFR := Lib.hid hfr
  clear hf ht hlen hpt hfr
  go_enter Tryz.func9, Tryz.ntmps9
  have hcs : (fresh = true ∧ al = false) ∨ (fresh = true ∧ al = true ∧ ((fl.length : Int) != (tl.length : Int)) = true) ∨ (fresh = false ∧ al = true ∧ ((fl.length : Int) != (tl.length : Int)) = false) := by
    cases fresh
    · have : ¬ (al = false ∨ fl.length ≠ tl.length) := fun h => by simpa using HFR.out.2 h
      refine .inr (.inr ⟨rfl, by simpa using fun h => this (.inl h), by simp; omega⟩)
    · rcases HFR.out.1 rfl with h | h
      · exact .inl ⟨rfl, h⟩
      · cases al
        · exact .inl ⟨rfl, rfl⟩
        · exact .inr (.inl ⟨rfl, rfl, by simp; omega⟩)
  have hl1 := HF.out.len
  have hl2 := HT.out.len
  clear HFR
  rcases hcs with ⟨rfl, rfl⟩ | ⟨rfl, rfl, e1⟩ | ⟨rfl, rfl, e1⟩
  rotate_right
  · have HFl : Hid (fl.length = tl.length) := Lib.hid (by simp at e1; omega)
    go_wp2_with fail
    clear e1
    go_loopw [11, 12] (fun v11 v12 wr => ∃ (i : Nat) (bs : List UInt8), v12 = .int .i64 i ∧ i ≤ R ∧ Hid (RPaint W wr false R C fl tl i bs v11)) (fun _ v12 _ => R - (intOf v12).toNat)
    case atStart => exact ⟨0, [], rfl, by omega, ⟨by decide, rfl, Kd.R_nil _ _ _ _ _, Below.refl _ _⟩⟩
    case round =>
      obtain ⟨i, bs, rfl, hi, HP⟩ := hrel
      by_cases hlt : i < R
      · obtain ⟨N1, hN1⟩ : ∃ N1, i * C = N1 := ⟨_, rfl⟩
        obtain ⟨N2, hN2⟩ : ∃ N2, (i + 1) * C = N2 := ⟨_, rfl⟩
        have hN12 : N2 = N1 + C := by rw [← hN1, ← hN2, Nat.add_mul, Nat.one_mul]
        have hle : N2 ≤ tl.length := by rw [← hN2, HLen.out]; exact Nat.mul_le_mul_right C hlt
        have hle2 : N2 ≤ fl.length := by rw [HFl.out]; exact hle
        have hNs : N2 ≤ 3600 := by rw [← hN2]; exact Nat.mul_le_mul (show i + 1 ≤ 60 by omega) hC.2
        have w1 : IntKind.i64.wrap ((i : Int) * C) = (N1 : Int) := by
          rw [show (i : Int) * C = ((i * C : Nat) : Int) by push_cast; rfl, hN1, IntKind.wrap_i64]; omega
        have w2 : IntKind.i64.wrap (((i : Int) + 1) * C) = (N2 : Int) := by
          rw [show ((i : Int) + 1) * C = (((i + 1) * C : Nat) : Int) by push_cast; rfl, hN2, IntKind.wrap_i64]; omega
        have w3 : IntKind.i64.wrap ((i : Int) + 1) = (i : Int) + 1 := by rw [IntKind.wrap_i64]; omega
        have HRows : Hid (Kp.rowOf C fl i = Kp.rowOf C tl i ↔ ∀ j, j < C → Kp.gr fl (N1 + j) = Kp.gr tl (N1 + j) ∧ Kp.gs fl (N1 + j) = Kp.gs tl (N1 + j)) := by
          have := rows_alike (HFl.out.trans HLen.out) HLen.out hlt
          rw [hN1] at this
          exact Lib.hid this
        obtain ⟨A', hcut, hA'⟩ := rc_cut31 tA tl.length tc N1 N2 (by omega) hle htc
        have hrow : (tl.drop N1).take (N2 - N1) = Kp.rowOf C tl i := by unfold Kp.rowOf; rw [hN1, show N2 - N1 = C by omega]
        have hrc := hA' W tl rfl HT.out
        rw [hrow] at hrc
        have hrl := Kp.rowOf_len HLen.out hlt
        have hcap : (Kp.rowOf C tl i).length ≤ tc - N1 := by omega
        rw [show N2 - N1 = C by omega, ← hrl] at hcut
        have HRc := Lib.hid hrc
        have HCap := Lib.hid hcap
        clear hrc hrow hA' hN1 hN2 hrl hcap
        go_wp2_with fail
        go_loopw [13, 14] (fun v13 v14 w' => ∃ (b : Bool) (c : Nat), v13 = .bool b ∧ v14 = .int .i64 c ∧ c ≤ C ∧ Hid (b = true ↔ ∀ j, j < c → Kp.gr fl (N1 + j) = Kp.gr tl (N1 + j) ∧ Kp.gs fl (N1 + j) = Kp.gs tl (N1 + j)) ∧ Hid (RPaint W w' false R C fl tl i bs u11)) (fun _ v14 _ => C - (intOf v14).toNat)
        case atStart => exact ⟨true, 0, rfl, rfl, by omega, Lib.hid ⟨fun _ j hj => absurd hj (by omega), fun _ => rfl⟩, HP⟩
        case round =>
          clear HP
          obtain ⟨b, c, rfl, rfl, hc, HV, HP⟩ := hrel
          cases b
          · have hne : ¬ Kp.rowOf C fl i = Kp.rowOf C tl i := fun e => by
              have h := HV.out.2 (fun j hj => HRows.out.1 e j (by omega))
              cases h
            have hcall := HP.out.call hlt hR.2 hC.2 HLen.out HPT.out (.inr hne) A' (tc - N1) HRc.out HCap.out
            have HCall := Lib.hid hcall
            clear hcall hne hN12 hle2 HV HRows HRc HCap
            by_cases hcl : c < C
            · have d1 : decide ((c : Int) < (C : Int)) = true := decide_eq_true (by omega)
              go_wp2_with fail
              refine HCall.out.mono ?_
              rintro e w6 ⟨v', bs', rfl, HP6⟩
              go_wp2_with fail
              exact ⟨⟨i + 1, bs', by go_num, by omega, HP6⟩, by simp [intOf]; omega⟩
            · have d1 : decide ((c : Int) < (C : Int)) = false := decide_eq_false (by omega)
              go_wp2_with fail
              refine HCall.out.mono ?_
              rintro e w6 ⟨v', bs', rfl, HP6⟩
              go_wp2_with fail
              exact ⟨⟨i + 1, bs', by go_num, by omega, HP6⟩, by simp [intOf]; omega⟩
          · by_cases hcl : c < C
            · have d1 : decide ((c : Int) < (C : Int)) = true := decide_eq_true (by omega)
              obtain ⟨M, hM⟩ : ∃ M, N1 + c = M := ⟨_, rfl⟩
              have w4 : IntKind.i64.wrap ((N1 : Int) + (c : Int)) = (M : Int) := by rw [IntKind.wrap_i64]; omega
              have hMf : M < fl.length := by omega
              have hMt : M < tl.length := by omega
              obtain ⟨b, o, hA, r1, r2⟩ := (HF.out.below HP.out.below).at_ M hMf
              obtain ⟨b', o', hB, t1, t2⟩ := (HT.out.below HP.out.below).at_ M hMt
              subst hA hB
              have c45 : Tryz.prog.cellsOf 45 = 2 := by kernel_rfl
              obtain ⟨x, hx⟩ : ∃ x, Kp.gr fl M = x := ⟨_, rfl⟩
              obtain ⟨s, hs⟩ : ∃ x, Kp.gs fl M = x := ⟨_, rfl⟩
              obtain ⟨y, hy⟩ : ∃ x, Kp.gr tl M = x := ⟨_, rfl⟩
              obtain ⟨t, ht⟩ : ∃ x, Kp.gs tl M = x := ⟨_, rfl⟩
              have HV2 : Hid ((x = y ∧ s = t) ↔ ∀ j, j < c + 1 → Kp.gr fl (N1 + j) = Kp.gr tl (N1 + j) ∧ Kp.gs fl (N1 + j) = Kp.gs tl (N1 + j)) := Lib.hid ⟨fun e j hj => by
                by_cases hji : j < c
                · exact HV.out.1 rfl j hji
                · obtain rfl : j = c := by omega
                  rw [hM, hx, hy, hs, ht]; exact e, fun e => by
                have := e c (by omega)
                rw [hM, hx, hy, hs, ht] at this; exact this⟩
              rw [hx] at r1; rw [hs] at r2; rw [hy] at t1; rw [ht] at t2
              clear hx hy hs ht HV hM hN12 hle hle2
              by_cases hxy : x = y
              · by_cases hst : s = t
                · have HV3 := Lib.hid (HV2.out.1 ⟨hxy, hst⟩)
                  clear HV2
                  subst hxy hst
                  go_wp2_with fail
                  go_quiet (fail)
                  go_wp2_with fail
                  exact ⟨⟨true, c + 1, rfl, by go_num, by omega, Lib.hid ⟨fun _ => HV3.out, fun _ => rfl⟩, Lib.hid (HP.out.drewN _)⟩, by simp [intOf]; omega⟩
                · have HN := Lib.hid (fun e => hst (HV2.out.2 e).2)
                  clear HV2
                  subst hxy
                  have f2 : (s == t) = false := by simp [hst]
                  clear hst
                  go_wp2_with fail
                  go_quiet (fail)
                  go_wp2_with fail
                  exact ⟨⟨false, c + 1, rfl, by go_num, by omega, Lib.hid ⟨fun h => (by cases h), fun h => (HN.out h).elim⟩, Lib.hid (HP.out.drewN _)⟩, by simp [intOf]; omega⟩
              · have HN := Lib.hid (fun e => hxy (HV2.out.2 e).1)
                clear HV2
                have f1 : (x == y) = false := by simp [hxy]
                clear hxy
                go_wp2_with fail
                go_quiet (fail)
                go_wp2_with fail
                exact ⟨⟨false, c + 1, rfl, by go_num, by omega, Lib.hid ⟨fun h => (by cases h), fun h => (HN.out h).elim⟩, Lib.hid (HP.out.drewN _)⟩, by simp [intOf]; omega⟩
            · have d1 : decide ((c : Int) < (C : Int)) = false := decide_eq_false (by omega)
              have hcC : c = C := by omega
              have heq : Kp.rowOf C fl i = Kp.rowOf C tl i := HRows.out.2 (fun j hj => HV.out.1 rfl j (by omega))
              have HP2 := Lib.hid (HP.out.skip hlt (by simp [heq]))
              clear hcC heq
              go_wp2_with fail
              exact ⟨⟨i + 1, bs, by go_num, by omega, HP2⟩, by simp [intOf]; omega⟩
      · obtain rfl : i = R := by omega
        go_wp2_with fail
        go_ret
        exact HP.out.done
  all_goals
    go_wp2_with (at_builtin; refine print_append_row (w0 := W) W.heap.size rfl _ _ 26 5 .u8 1 rfl Tryz.underlying26 Tryz.info5 (by decide) (.slice none 0 0) [] (bz [27, 91, 50, 74]) _ 4 4 rfl rfl (own_nil _ _ _ _) (RB.ints (hlit W)) (below_alloc (Below.refl _ _) _) (by simp) (by decide) ?_; intro v1 w1 hown hB1 hg hat; have HO1 := Lib.hid hown; have HB1 := Lib.hid hB1; clear hown hB1 hg hat)
    go_loopw [11, 12] (fun v11 v12 wr => ∃ (i : Nat) (bs : List UInt8), v12 = .int .i64 i ∧ i ≤ R ∧ Hid (RPaint W wr true R C fl tl i bs v11)) (fun _ v12 _ => R - (intOf v12).toNat)
    case atStart => exact ⟨0, [27, 91, 50, 74], rfl, by omega, ⟨by decide, rfl, Kd.R_of_own HO1.out (fun _ _ => trivial), HB1.out⟩⟩
    case round =>
      clear HO1 HB1
      obtain ⟨i, bs, rfl, hi, HP⟩ := hrel
      by_cases hlt : i < R
      · go_wp2_with fail
        go_loopw [13, 14] (fun v13 v14 w' => v13 = .bool false ∧ v14 = .int .i64 0 ∧ w' = wr) (fun _ _ _ => 0)
        case atStart => exact ⟨rfl, rfl, rfl⟩
        case round =>
          obtain ⟨rfl, rfl, rfl⟩ := hrel
          have hC0 : decide ((0 : Int) < (C : Int)) = true := decide_eq_true (by omega)
          obtain ⟨N1, hN1⟩ : ∃ N1, i * C = N1 := ⟨_, rfl⟩
          obtain ⟨N2, hN2⟩ : ∃ N2, (i + 1) * C = N2 := ⟨_, rfl⟩
          have hN12 : N2 = N1 + C := by rw [← hN1, ← hN2, Nat.add_mul, Nat.one_mul]
          have hle : N2 ≤ tl.length := by rw [← hN2, HLen.out]; exact Nat.mul_le_mul_right C hlt
          have hNs : N2 ≤ 3600 := by rw [← hN2]; exact Nat.mul_le_mul (show i + 1 ≤ 60 by omega) hC.2
          have w1 : IntKind.i64.wrap ((i : Int) * C) = (N1 : Int) := by
            rw [show (i : Int) * C = ((i * C : Nat) : Int) by push_cast; rfl, hN1, IntKind.wrap_i64]; omega
          have w2 : IntKind.i64.wrap (((i : Int) + 1) * C) = (N2 : Int) := by
            rw [show ((i : Int) + 1) * C = (((i + 1) * C : Nat) : Int) by push_cast; rfl, hN2, IntKind.wrap_i64]; omega
          have w3 : IntKind.i64.wrap ((i : Int) + 1) = (i : Int) + 1 := by rw [IntKind.wrap_i64]; omega
          obtain ⟨A', hcut, hA'⟩ := rc_cut31 tA tl.length tc N1 N2 (by omega) hle htc
          have hrow : (tl.drop N1).take (N2 - N1) = Kp.rowOf C tl i := by unfold Kp.rowOf; rw [hN1, show N2 - N1 = C by omega]
          have hrc := hA' W tl rfl HT.out
          rw [hrow] at hrc
          have hrl := Kp.rowOf_len HLen.out hlt
          have hcap : (Kp.rowOf C tl i).length ≤ tc - N1 := by omega
          rw [show N2 - N1 = C by omega, ← hrl] at hcut
          have hcall := HP.out.call hlt hR.2 hC.2 HLen.out HPT.out (.inl rfl) A' (tc - N1) hrc hcap
          have HCall := Lib.hid hcall
          clear hcall hrc hrow hA' hN1 hN2 hN12 hrl hcap
          go_wp2_with fail
          refine HCall.out.mono ?_
          rintro e w6 ⟨v', bs', rfl, HP6⟩
          go_wp2_with fail
          exact ⟨⟨i + 1, bs', by go_num, by omega, HP6⟩, by simp [intOf]; omega⟩
      · obtain rfl : i = R := by omega
        go_wp2_with fail
        go_ret
        exact HP.out.done
end Go.Proofs.YtbjckccgbmimpabGreatDoor
