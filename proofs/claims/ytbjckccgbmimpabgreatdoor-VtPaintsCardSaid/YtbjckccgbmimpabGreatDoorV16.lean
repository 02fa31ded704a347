/- The walks of dresses and clear. -/
import Derived.Test.YtbjckccgbmimpabGreatDoorV13
import Derived.Laws.BitsAllLaws
import Derived.Laws.BitsLemmas
import Derived.Test.YtbjckccgbmimpabGreatDoorK8
namespace Go.Proofs.YtbjckccgbmimpabGreatDoor
open Go.RowKit Go.Proofs.YtbjckccgbmimpabGreatDoorW.PrintWords Go.Proofs.YtbjckccgbmimpabGreatDoorW.PrintLast Go.Proofs.YtbjckccgbmimpabGreatDoorW.PrintMore
theorem ofInt_i64 (a : Nat) (ha : a < 9223372036854775808) : (BitVec.ofInt 64 (a : Int)).toNat = a := by
  rw [BitVec.ofInt_natCast, BitVec.toNat_ofNat]; exact Nat.mod_eq_of_lt (by omega)
theorem i64_or_nat (a b : Nat) (ha : a < 8) (hb : b < 8) : Go.bits .or .i64 (a : Int) (b : Int) = ((a ||| b : Nat) : Int) := by
  have hx : a ||| b < 2 ^ 3 := Nat.or_lt_two_pow (by omega) (by omega)
  show IntKind.i64.wrap ((BitVec.ofInt 64 (a : Int) ||| BitVec.ofInt 64 (b : Int)).toNat : Int) = _
  rw [BitVec.toNat_or, ofInt_i64 a (by omega), ofInt_i64 b (by omega), IntKind.wrap_i64]
  omega
/-- What the loop over the numbers keeps. -/
structure Dressing (W wr : World) (base g gc : Nat) (t : Kp.Tm) (wv : Value) (A : Option Addr) (ns : List Int) (i st : Nat) : Prop where
  at_ : TermAt wr base g gc { t with st := st } wv
  ri : RI3 wr A ns
  kept : Kept W wr (fun k => k = g ∨ k = gc)
  below : Below base W wr
  val : (ns.drop i).foldl Kp.dress1 st = ns.foldl Kp.dress1 t.st
theorem Dressing.set {W wr : World} {base g gc : Nat} {t : Kp.Tm} {wv : Value} {A : Option Addr} {ns : List Int} {i st st' : Nat} (h : Dressing W wr base g gc t wv A ns i st) (hi : i < ns.length) (hs : Kp.dress1 st (ns.getD i 0) = st') (hs8 : st' < 8) :
    Dressing W (wr.setCell ⟨g, 5, none⟩ (.int .i64 st')) base g gc t wv A ns (i + 1) st' := by
  refine ⟨h.at_.set5 st' ⟨h.at_.ok.R1, h.at_.ok.C1, h.at_.ok.len, h.at_.ok.row, h.at_.ok.col, hs8, h.at_.ok.wf, h.at_.ok.zero⟩, h.ri.kept (S := fun k => k = g) (Kept.setCell (Kept.refl wr (fun k => k = g)) (p := ⟨g, 5, none⟩) (.inl rfl) _) (h.ri.ne h.at_.blk (by decide)), term_kept h.kept, h.below.setCell (p := ⟨g, 5, none⟩) h.at_.ge.1 _, ?_⟩
  have := h.val
  rw [List.drop_eq_getElem_cons hi, List.foldl_cons] at this
  rw [← hs, List.getD_eq_getElem?_getD, List.getElem?_eq_getElem hi]
  exact this
theorem Dressing.same {W wr : World} {base g gc : Nat} {t : Kp.Tm} {wv : Value} {A : Option Addr} {ns : List Int} {i st : Nat} (h : Dressing W wr base g gc t wv A ns i st) (hi : i < ns.length) (hs : Kp.dress1 st (ns.getD i 0) = st) : Dressing W wr base g gc t wv A ns (i + 1) st := by
  refine ⟨h.at_, h.ri, h.kept, h.below, ?_⟩
  have := h.val
  rw [List.drop_eq_getElem_cons hi, List.foldl_cons] at this
  rw [List.getD_eq_getElem?_getD, List.getElem?_eq_getElem hi] at hs
  rw [Option.getD_some] at hs
  rw [hs] at this
  exact this
set_option maxRecDepth 100000 in
set_option maxHeartbeats 2000000 in
theorem dresses_calls (W : World) (base g gc : Nat) (t : Kp.Tm) (wv : Value) (ns : List Int) (A : Option Addr) (c : Nat) (h : TermAt W base g gc t wv) (hr : RI3 W A ns) (hl : ns.length ≤ 1000) :
    Calls Tryz.prog 44 #[.pointer (some ⟨g, 0, none⟩), .slice A ns.length c] W (TermPost W base g gc (Kp.dressT t ns) wv (.tuple #[])) := by
  have H := Lib.hid h
  have HR := Lib.hid hr
  have hgW : base ≤ W.heap.size := Nat.le_trans H.out.ge.1 (Nat.le_of_lt (blk_lt H.out.blk))
  clear h hr
  have hcase : (ns = [] ∧ ((ns.length : Int) == 0) = true) ∨ (ns ≠ [] ∧ ((ns.length : Int) == 0) = false) := by
    cases ns
    · exact .inl ⟨rfl, rfl⟩
    · exact .inr ⟨by simp, by simp; omega⟩
  rcases hcase with ⟨h0, e0⟩ | ⟨h0, e0⟩
  · have hd : Kp.dressT t ns = { t with st := ([0] : List Int).foldl Kp.dress1 t.st } := by unfold Kp.dressT; rw [if_pos h0]
    rw [hd]
    have hr1 : RI3 (W.alloc (.cells #[.int .i64 0] 3)) (some ⟨W.heap.size, 0, none⟩) [0] := ⟨⟨rfl, by decide, fun _ => ⟨_, rfl, fun j hj => by
      obtain rfl : j = 0 := by simpa using hj
      rw [add_plain, cell_of_row _ _ _ _ _ _ (heap_alloc_new W _)]; rfl⟩⟩, fun ad e => ⟨_, _, by injection e with e; subst e; exact heap_alloc_new W _⟩⟩
    have hb1 := below_alloc (Below.refl W.heap.size W) (.cells #[.int .i64 0] 3)
    have HR1 := Lib.hid hr1
    have HB1 := Lib.hid hb1
    clear hd hr1 hb1 h0
    go_enter Tryz.func44, Tryz.ntmps44
    go_wp2_with fail
    go_loopw [12] (fun v12 wr => ∃ (i st : Nat), v12 = .int .i64 i ∧ i ≤ 1 ∧ Hid (Dressing W wr base g gc t wv (some ⟨W.heap.size, 0, none⟩) ([0] : List Int) i st)) (fun v12 _ => 1 - (intOf v12).toNat)
    case atStart => exact ⟨0, t.st, rfl, by omega, ⟨H.out.below HB1.out, HR1.out, Kept.of_below HB1.out _, HB1.out.mono hgW, rfl⟩⟩
    case round =>
      obtain ⟨i, st, rfl, hi, HD⟩ := hrel
      by_cases hlt : i < 1
      · obtain ⟨ad, had, hc⟩ := HD.out.ri.ri.2.2 (by simp)
        have hck := hc i (by simpa using hlt)
        obtain ⟨x, hx⟩ : ∃ x, ([0] : List Int).getD i 0 = x := ⟨_, rfl⟩
        rw [hx] at hck
        injection had with had
        subst had
        rw [add_plain] at hck
        have HX := Lib.hid hx
        have h8 : st < 8 := HD.out.at_.ok.st
        have o1 : Go.bits .or .i64 (st : Int) 1 = ((st ||| 1 : Nat) : Int) := i64_or_nat st 1 h8 (by omega)
        have o2 : Go.bits .or .i64 (st : Int) 2 = ((st ||| 2 : Nat) : Int) := i64_or_nat st 2 h8 (by omega)
        have o4 : Go.bits .or .i64 (st : Int) 4 = ((st ||| 4 : Nat) : Int) := i64_or_nat st 4 h8 (by omega)
        obtain ⟨⟨c0, c1, c2, c3, c4, c5, c6⟩, hfr⟩ := HD.out.at_.rules
        have f5 := hfr 5
        clear hfr hx hc h8
        by_cases h0 : x = 0
        · have b0 : (x == 0) = true := by simp [h0]
          have hs : Kp.dress1 st x = 0 := by unfold Kp.dress1; rw [if_pos h0]
          have HS := Lib.hid hs
          clear h0 hs
          go_wp2_with fail
          refine ⟨⟨i + 1, 0, by go_num, by omega, Lib.hid (HD.out.set (by simpa using hlt) (by rw [HX.out]; exact HS.out) (by decide))⟩, by simp [intOf]; omega⟩
        · have b0 : (x == 0) = false := by simp [h0]
          by_cases h7 : x = 7
          · have b7 : (x == 7) = true := by simp [h7]
            have hs : Kp.dress1 st x = st ||| 1 := by unfold Kp.dress1; rw [if_neg h0, if_pos h7]
            have HS := Lib.hid hs
            clear h0 h7 hs
            go_wp2_with fail
            refine ⟨⟨i + 1, st ||| 1, by go_num, by omega, Lib.hid (HD.out.set (by simpa using hlt) (by rw [HX.out]; exact HS.out) (by rw [← HS.out]; exact Kp.dress1_lt _ _ HD.out.at_.ok.st))⟩, by simp [intOf]; omega⟩
          · have b7 : (x == 7) = false := by simp [h7]
            by_cases h4 : x = 4
            · have b4 : (x == 4) = true := by simp [h4]
              have hs : Kp.dress1 st x = st ||| 2 := by unfold Kp.dress1; rw [if_neg h0, if_neg h7, if_pos h4]
              have HS := Lib.hid hs
              clear h0 h7 h4 hs
              go_wp2_with fail
              refine ⟨⟨i + 1, st ||| 2, by go_num, by omega, Lib.hid (HD.out.set (by simpa using hlt) (by rw [HX.out]; exact HS.out) (by rw [← HS.out]; exact Kp.dress1_lt _ _ HD.out.at_.ok.st))⟩, by simp [intOf]; omega⟩
            · have b4 : (x == 4) = false := by simp [h4]
              by_cases h1 : x = 1
              · have b1 : (x == 1) = true := by simp [h1]
                have hs : Kp.dress1 st x = st ||| 4 := by unfold Kp.dress1; rw [if_neg h0, if_neg h7, if_neg h4, if_pos h1]
                have HS := Lib.hid hs
                clear h0 h7 h4 h1 hs
                go_wp2_with fail
                refine ⟨⟨i + 1, st ||| 4, by go_num, by omega, Lib.hid (HD.out.set (by simpa using hlt) (by rw [HX.out]; exact HS.out) (by rw [← HS.out]; exact Kp.dress1_lt _ _ HD.out.at_.ok.st))⟩, by simp [intOf]; omega⟩
              · have b1 : (x == 1) = false := by simp [h1]
                have hs : Kp.dress1 st x = st := by unfold Kp.dress1; rw [if_neg h0, if_neg h7, if_neg h4, if_neg h1]
                have HS := Lib.hid hs
                clear h0 h7 h4 h1 hs
                go_wp2_with fail
                refine ⟨⟨i + 1, st, by go_num, by omega, Lib.hid (HD.out.same (by simpa using hlt) (by rw [HX.out]; exact HS.out))⟩, by simp [intOf]; omega⟩
      · obtain rfl : i = 1 := by omega
        have hv := HD.out.val
        have hfin : st = ([0] : List Int).foldl Kp.dress1 t.st := by rw [← hv, List.drop_eq_nil_of_le (by simp)]; rfl
        have HF := Lib.hid hfin
        clear hv hfin
        go_wp2_with fail
        go_end0
        refine ⟨rfl, ⟨gc, .inl rfl, ?_⟩, HD.out.kept, HD.out.below⟩
        rw [← HF.out]
        exact HD.out.at_
  · have hd : Kp.dressT t ns = { t with st := ns.foldl Kp.dress1 t.st } := by unfold Kp.dressT; rw [if_neg h0]
    rw [hd]
    clear hd h0
    go_enter Tryz.func44, Tryz.ntmps44
    go_wp2_with fail
    go_loopw [12] (fun v12 wr => ∃ (i st : Nat), v12 = .int .i64 i ∧ i ≤ ns.length ∧ Hid (Dressing W wr base g gc t wv (A) (ns) i st)) (fun v12 _ => ns.length - (intOf v12).toNat)
    case atStart => exact ⟨0, t.st, rfl, by omega, ⟨H.out, HR.out, Kept.refl W _, Below.refl _ _, rfl⟩⟩
    case round =>
      obtain ⟨i, st, rfl, hi, HD⟩ := hrel
      by_cases hlt : i < ns.length
      · obtain ⟨ad, had, hc⟩ := HD.out.ri.ri.2.2 (by omega)
        have hck := hc i (by exact hlt)
        obtain ⟨x, hx⟩ : ∃ x, (ns).getD i 0 = x := ⟨_, rfl⟩
        rw [hx] at hck
        subst had
        have HX := Lib.hid hx
        have h8 : st < 8 := HD.out.at_.ok.st
        have o1 : Go.bits .or .i64 (st : Int) 1 = ((st ||| 1 : Nat) : Int) := i64_or_nat st 1 h8 (by omega)
        have o2 : Go.bits .or .i64 (st : Int) 2 = ((st ||| 2 : Nat) : Int) := i64_or_nat st 2 h8 (by omega)
        have o4 : Go.bits .or .i64 (st : Int) 4 = ((st ||| 4 : Nat) : Int) := i64_or_nat st 4 h8 (by omega)
        obtain ⟨⟨c0, c1, c2, c3, c4, c5, c6⟩, hfr⟩ := HD.out.at_.rules
        have f5 := hfr 5
        clear hfr hx hc h8
        by_cases h0 : x = 0
        · have b0 : (x == 0) = true := by simp [h0]
          have hs : Kp.dress1 st x = 0 := by unfold Kp.dress1; rw [if_pos h0]
          have HS := Lib.hid hs
          clear h0 hs
          go_wp2_with fail
          refine ⟨⟨i + 1, 0, by go_num, by omega, Lib.hid (HD.out.set (by exact hlt) (by rw [HX.out]; exact HS.out) (by decide))⟩, by simp [intOf]; omega⟩
        · have b0 : (x == 0) = false := by simp [h0]
          by_cases h7 : x = 7
          · have b7 : (x == 7) = true := by simp [h7]
            have hs : Kp.dress1 st x = st ||| 1 := by unfold Kp.dress1; rw [if_neg h0, if_pos h7]
            have HS := Lib.hid hs
            clear h0 h7 hs
            go_wp2_with fail
            refine ⟨⟨i + 1, st ||| 1, by go_num, by omega, Lib.hid (HD.out.set (by exact hlt) (by rw [HX.out]; exact HS.out) (by rw [← HS.out]; exact Kp.dress1_lt _ _ HD.out.at_.ok.st))⟩, by simp [intOf]; omega⟩
          · have b7 : (x == 7) = false := by simp [h7]
            by_cases h4 : x = 4
            · have b4 : (x == 4) = true := by simp [h4]
              have hs : Kp.dress1 st x = st ||| 2 := by unfold Kp.dress1; rw [if_neg h0, if_neg h7, if_pos h4]
              have HS := Lib.hid hs
              clear h0 h7 h4 hs
              go_wp2_with fail
              refine ⟨⟨i + 1, st ||| 2, by go_num, by omega, Lib.hid (HD.out.set (by exact hlt) (by rw [HX.out]; exact HS.out) (by rw [← HS.out]; exact Kp.dress1_lt _ _ HD.out.at_.ok.st))⟩, by simp [intOf]; omega⟩
            · have b4 : (x == 4) = false := by simp [h4]
              by_cases h1 : x = 1
              · have b1 : (x == 1) = true := by simp [h1]
                have hs : Kp.dress1 st x = st ||| 4 := by unfold Kp.dress1; rw [if_neg h0, if_neg h7, if_neg h4, if_pos h1]
                have HS := Lib.hid hs
                clear h0 h7 h4 h1 hs
                go_wp2_with fail
                refine ⟨⟨i + 1, st ||| 4, by go_num, by omega, Lib.hid (HD.out.set (by exact hlt) (by rw [HX.out]; exact HS.out) (by rw [← HS.out]; exact Kp.dress1_lt _ _ HD.out.at_.ok.st))⟩, by simp [intOf]; omega⟩
              · have b1 : (x == 1) = false := by simp [h1]
                have hs : Kp.dress1 st x = st := by unfold Kp.dress1; rw [if_neg h0, if_neg h7, if_neg h4, if_neg h1]
                have HS := Lib.hid hs
                clear h0 h7 h4 h1 hs
                go_wp2_with fail
                refine ⟨⟨i + 1, st, by go_num, by omega, Lib.hid (HD.out.same (by exact hlt) (by rw [HX.out]; exact HS.out))⟩, by simp [intOf]; omega⟩
      · obtain rfl : i = ns.length := by omega
        have hv := HD.out.val
        have hfin : st = (ns).foldl Kp.dress1 t.st := by rw [← hv, List.drop_eq_nil_of_le (by omega)]; rfl
        have HF := Lib.hid hfin
        clear hv hfin
        go_wp2_with fail
        go_end0
        refine ⟨rfl, ⟨gc, .inl rfl, ?_⟩, HD.out.kept, HD.out.below⟩
        rw [← HF.out]
        exact HD.out.at_
theorem seven_front {w : World} {g ty : Nat} {a0 a1 a2 a3 a4 a5 a6 b0 b1 b2 : Value} (h : w.heap[g]? = some (.cells #[a0, a1, a2, a3, a4, a5, a6] ty (0, 0))) :
    (((w.setCell ⟨g, 0, none⟩ b0).setCell ⟨g, 1, none⟩ b1).setCell ⟨g, 2, none⟩ b2).heap[g]? = some (.cells #[b0, b1, b2, a3, a4, a5, a6] ty (0, 0)) := by
  have h0 : _ := blk_put (cs' := #[b0, a1, a2, a3, a4, a5, a6]) h 0 b0 rfl
  have h1 : _ := blk_put (cs' := #[b0, b1, a2, a3, a4, a5, a6]) h0 1 b1 rfl
  exact blk_put (cs' := #[b0, b1, b2, a3, a4, a5, a6]) h1 2 b2 rfl
theorem seven_front01 {w : World} {g ty : Nat} {a0 a1 a2 a3 a4 a5 a6 b0 b1 b2 : Value} (h : w.heap[g]? = some (.cells #[a0, a1, a2, a3, a4, a5, a6] ty (0, 0))) :
    (((w.setCell ⟨g, 0, none⟩ b0).setCell ⟨g, 1, none⟩ b1).setCell ⟨g, 2, none⟩ b2).cell? ⟨g, 0, none⟩ = some b0 ∧ (((w.setCell ⟨g, 0, none⟩ b0).setCell ⟨g, 1, none⟩ b1).setCell ⟨g, 2, none⟩ b2).cell? ⟨g, 1, none⟩ = some b1 :=
  ⟨(blk_cell (seven_front h) 0).trans rfl, (blk_cell (seven_front h) 1).trans rfl⟩
set_option maxRecDepth 100000 in
set_option maxHeartbeats 2000000 in
theorem clear_calls (W : World) (base g gc : Nat) (t : Kp.Tm) (wv : Value) (ns : List Int) (A : Option Addr) (c : Nat) (h : TermAt W base g gc t wv) (hr : RI3 W A ns) (hl : ns.length ≤ 1000) :
    Calls Tryz.prog 45 #[.pointer (some ⟨g, 0, none⟩), .slice A ns.length c] W (TermPost W base g gc (Kp.clearT t ns) wv (.tuple #[])) := by
  have H := Lib.hid h
  have HR := Lib.hid hr
  have hgW : base ≤ W.heap.size := Nat.le_trans H.out.ge.1 (Nat.le_of_lt (blk_lt H.out.blk))
  clear h hr
  by_cases h1 : ns.length = 1
  · obtain ⟨x, rfl⟩ : ∃ x, ns = [x] := List.length_eq_one_iff.1 h1
    obtain ⟨ad, had, hc⟩ := HR.out.ri.2.2 (by simp)
    have hck := hc 0 (by simp)
    subst had
    have hck' : W.cell? ad = some (.int .i64 x) := by
      have : ad.add 0 = ad := by unfold Addr.add; simp
      rw [this] at hck; exact hck
    clear hc hck h1
    by_cases h2 : x = 2
    · subst h2
      have hd : Kp.clearT t [2] = { t with l := Kp.blankL (t.R * t.C) } := by unfold Kp.clearT; rw [if_pos rfl]
      rw [hd]
      have hok := H.out.ok.R1
      have hokc := H.out.ok.C1
      obtain ⟨⟨c0, c1, c2, c3, c4, c5, c6⟩, hfr⟩ := H.out.rules
      clear hd
      go_enter Tryz.func45, Tryz.ntmps45
      go_wp2_with fail
      go_region_held3 (fun w' => w'.cell? ⟨g, 0, none⟩ = some (.int .i64 t.R) ∧ w'.cell? ⟨g, 1, none⟩ = some (.int .i64 t.C)) (first | (with_reducible assumption) | (with_reducible exact ⟨d0, d1⟩) | (with_reducible exact seven_front01 HBLK4.out) | exact ⟨c0, c1⟩) (first | (go_at_call 21; (with_reducible refine (blank_agg t.R t.C hok.2 hokc.2 _).mono ?_); rintro e W4 ⟨gc', rfl, hgc, hcs, hb⟩; obtain ⟨⟨d0, d1, d2, d3, d4, d5, d6⟩, dfr⟩ := (H.out.below_h hb rfl).rules; have hblk4 := (H.out.below_h hb rfl).blk; unfold termCells at hblk4; have HBLK4 := Lib.hid hblk4; clear hblk4))
      have hbW : Below W.heap.size W W4 := (below_drew (Below.refl W.heap.size W)).trans hb
      have hgc' : W.heap.size ≤ gc' := hgc
      have hcsf := hcs.kept (S := fun k => k = g) (three_kept (g := g) (b0 := .int .i64 t.R) (b1 := .int .i64 t.C) (b2 := .slice (some ⟨gc', 0, none⟩) (t.R * t.C) (t.R * t.C)) (Kept.refl W4 (fun k => k = g)) rfl) (fun e => by
        have h2 := blk_lt H.out.blk
        omega)
      have hblk := seven_front (b0 := .int .i64 t.R) (b1 := .int .i64 t.C) (b2 := .slice (some ⟨gc', 0, none⟩) (t.R * t.C) (t.R * t.C)) HBLK4.out
      have hkept := three_kept (g := g) (b0 := .int .i64 t.R) (b1 := .int .i64 t.C) (b2 := .slice (some ⟨gc', 0, none⟩) (t.R * t.C) (t.R * t.C)) (Kept.of_below hbW (fun k => k = g ∨ k = gc)) (.inl rfl)
      have hbel := three_below (g := g) (b0 := .int .i64 t.R) (b1 := .int .i64 t.C) (b2 := .slice (some ⟨gc', 0, none⟩) (t.R * t.C) (t.R * t.C)) (hbW.mono hgW) H.out.ge.1
      go_end0
      exact ⟨rfl, ⟨gc', .inr hgc', ⟨hblk, hcsf, ⟨H.out.ge.1, Nat.le_trans hgW hgc'⟩, Kp.blank_ok hok hokc H.out.ok.row H.out.ok.col H.out.ok.st⟩⟩, hkept, hbel⟩
    · have b2 : (x == 2) = false := by simp [h2]
      have hd : Kp.clearT t [x] = t := by unfold Kp.clearT; rw [if_neg (by simp [h2])]
      rw [hd]
      clear hd h2
      go_enter Tryz.func45, Tryz.ntmps45
      go_wp2_with fail
      go_end0
      exact ⟨rfl, Turned.refl H.out⟩
  · have e1 : ((ns.length : Int) == 1) = false := by simp; omega
    have hd : Kp.clearT t ns = t := by unfold Kp.clearT; rw [if_neg (fun e => h1 (by rw [e]; rfl))]
    rw [hd]
    clear hd h1
    go_enter Tryz.func45, Tryz.ntmps45
    go_wp2_with fail
    go_end0
    exact ⟨rfl, Turned.refl H.out⟩
end Go.Proofs.YtbjckccgbmimpabGreatDoor

/- The walk of numbers. -/
namespace Go.Proofs.YtbjckccgbmimpabGreatDoor
open Go.RowKit Go.Proofs.YtbjckccgbmimpabGreatDoorW.PrintWords Go.Proofs.YtbjckccgbmimpabGreatDoorW.PrintLast Go.Proofs.YtbjckccgbmimpabGreatDoorW.PrintMore
theorem Kp.num1_range (p : ByteArray) : 0 ≤ (Kp.num1 p).1 ∧ (Kp.num1 p).1 ≤ 999 := by
  unfold Kp.num1
  have := Kp.numF_range p.data.toList
  split
  · simp
  · split
    · simp only; omega
    · simp
theorem Kp.numsF_range {s : ByteArray} {ns : List Int} (h : Kp.numsF s = some ns) : (∀ x ∈ ns, 0 ≤ x ∧ x ≤ 1000) ∧ ns.length ≤ s.size + 2 := by
  unfold Kp.numsF at h
  split at h
  · injection h with h; subst h; simp
  · split at h
    · injection h with h; subst h
      refine ⟨fun x hx => ?_, by rw [List.length_map]; exact Kp.pcs_le s⟩
      obtain ⟨p, _, rfl⟩ := List.mem_map.1 hx
      have := Kp.num1_range p
      omega
    · cases h
def n1s (ps : List ByteArray) : List Int := ps.map fun p => (Kp.num1 p).1
/-- What 'numbers' tells. -/
def NumsPost (s : ByteArray) (W : World) (e : Ending) (w' : World) : Prop :=
  Below W.heap.size W w' ∧ ((Kp.numsF s = none ∧ e = .returned (.tuple #[.slice none 0 0, .bool false])) ∨ ∃ ns A c, Kp.numsF s = some ns ∧ e = .returned (.tuple #[.slice A ns.length c, .bool true]) ∧ RI3 w' A ns)
theorem own_RI3 {w : World} {base : Nat} {v : Value} {ns : List Int} (h : w.ownsRow base 3 1 v ns.length (nums .i64 ns)) : ∃ A c, v = .slice A ns.length c ∧ RI3 w A ns := by
  obtain ⟨A, c, rfl, hr⟩ := own_reads h
  refine ⟨A, c, rfl, hr, fun ad e => ?_⟩
  subst e
  obtain ⟨cur, hc⟩ := own_blk (k := ad.block) h (by
    rcases h.2 with ⟨he, _⟩ | ⟨g, cap, cur, he, _⟩
    · cases he
    · injection he with he
      injection he with he
      subst he
      rfl)
  exact ⟨cur, _, hc⟩
set_option maxRecDepth 100000 in
set_option maxHeartbeats 2000000 in
theorem numbers_calls (s : ByteArray) (m : Int) (w : World) (hs : s.size ≤ 900) (hm : w.cell? ⟨5, 0, none⟩ = some (.int .i64 m)) : Calls Tryz.prog 46 #[.string s] w (NumsPost s w) := by
  by_cases h0 : s.toList = []
  · have hE : s.toList.isEmpty = true := by rw [h0]; rfl
    have hv : Kp.numsF s = some [] := by unfold Kp.numsF; rw [if_pos h0]
    have HV := Lib.hid hv
    clear hv hm
    go_enter Tryz.func46, Tryz.ntmps46
    go_wp2_with fail
    go_ret2
    exact ⟨Below.refl _ _, .inr ⟨[], none, 0, HV.out, rfl, ⟨ReadsInt.nil w .i64, fun ad e => by cases e⟩⟩⟩
  · have hE : s.toList.isEmpty = false := by cases h : s.toList <;> simp_all
    obtain ⟨ps, hps⟩ : ∃ ps, Kp.pcs s = ps := ⟨_, rfl⟩
    have hp2 : ps.length ≤ 1002 := by have := Kp.pcs_le s; rw [hps] at this; omega
    have hp3 : ∀ p ∈ ps, p.size ≤ 1000 := fun p hp => Nat.le_trans (Kp.pcs_size s p (by rw [hps]; exact hp)) (by omega)
    have hnf : Kp.numsF s = if ps.all (fun p => (Kp.num1 p).2) = true then some (n1s ps) else none := by unfold Kp.numsF; rw [if_neg h0, hps]; rfl
    have HNF := Lib.hid hnf
    have HP3 := Lib.hid hp3
    have HPS := Lib.hid hps
    have HM := Lib.hid hm
    clear hp3 hps hm hnf
    go_enter Tryz.func46, Tryz.ntmps46
    go_wp2_with fail
    refine (split_calls s m _ (by omega) HM.out).mono ?_
    rintro en w1 ⟨rfl, rfl⟩
    rw [HPS.out]
    go_wp2_with fail
    have hpb := heap_alloc_new w (.cells (List.map Value.string ps).toArray 9)
    have hb0 := below_alloc (Below.refl w.heap.size w) (.cells (List.map Value.string ps).toArray 9)
    generalize w.alloc (.cells (List.map Value.string ps).toArray 9) = W0 at hpb hb0 ⊢
    generalize hgw : w.heap.size = gw at hpb ⊢
    clear hgw
    have HPB := Lib.hid hpb
    have HB0 := Lib.hid hb0
    clear hpb hb0
    go_loopw [4, 13] (fun v4 v13 wr => ∃ (v : Value) (k : Nat), v = v4 ∧ k ≤ ps.length ∧ v13 = .int .i64 k ∧ Hid (wr.ownsRow W0.heap.size 3 1 v k (nums .i64 ((n1s ps).take k))) ∧ Hid (Below W0.heap.size W0 wr) ∧ Hid (∀ p ∈ ps.take k, (Kp.num1 p).2 = true)) (fun _ v13 _ => ps.length - (intOf v13).toNat)
    case atStart => exact ⟨_, 0, rfl, by omega, rfl, own_nil W0 W0.heap.size 3 1, Below.refl _ _, fun p hp => by simp at hp⟩
    case round =>
      obtain ⟨v4, k, rfl, hk, rfl, HO, HB, HQ⟩ := hrel
      by_cases hlt : k < ps.length
      · have hcell : wr.cell? ⟨gw, k, none⟩ = some (.string ps[k]) := by
          rw [blk_cell (blk_below HPB.out HB.out)]; simp [hlt]
        obtain ⟨p, hp⟩ : ∃ p, ps[k] = p := ⟨_, rfl⟩
        rw [hp] at hcell
        have hps1 : p.size ≤ 1000 := HP3.out p (by rw [← hp]; exact List.getElem_mem hlt)
        have hbad : (Kp.num1 p).2 = false → Kp.numsF s = none := fun h => by
          rw [HNF.out, if_neg]
          intro h2
          have := List.all_eq_true.1 h2 p (by rw [← hp]; exact List.getElem_mem hlt)
          rw [h] at this; cases this
        have hnext : ∀ nv, Kp.num1 p = (nv, true) → (n1s ps).take (k + 1) = (n1s ps).take k ++ [nv] ∧ (∀ q ∈ ps.take (k + 1), (Kp.num1 q).2 = true) := fun nv h => by
          refine ⟨?_, fun q hq => ?_⟩
          · rw [List.take_add_one]
            have : (n1s ps)[k]? = some nv := by simp [n1s, hlt, hp, h]
            rw [this]; rfl
          · rw [List.take_add_one, List.getElem?_eq_getElem hlt, hp] at hq
            rcases List.mem_append.1 hq with hq | hq
            · exact HQ.out q hq
            · have : q = p := by simpa using hq
              rw [this, h]
        have HL : Hid (((n1s ps).take k).length = k) := by show _ = _; rw [List.length_take]; simp [n1s]; omega
        have HBad := Lib.hid hbad
        have HNx := Lib.hid hnext
        clear hp hbad hnext HQ
        by_cases hp0 : p.toList = []
        · have hpe : p.toList.isEmpty = true := by rw [hp0]; rfl
          have hn : (Kp.num1 p).2 = false := by unfold Kp.num1; rw [if_pos (.inl hp0)]
          have HN := Lib.hid (HBad.out hn)
          clear hn
          go_wp2_with fail
          go_ret2
          exact ⟨below_step HB0.out HB.out, .inl ⟨HN.out, rfl⟩⟩
        · have hpe : p.toList.isEmpty = false := by cases h : p.toList <;> simp_all
          by_cases ht : Lib.trimS p.data.toList Kp.digs = []
          · have ht' : (!(Lib.trimS p.data.toList Kp.digs).isEmpty) = false := by rw [ht]; rfl
            by_cases hp3 : p.size ≤ 3
            · have hd : decide ((p.size : Int) ≤ 3) = true := by simp; omega
              obtain ⟨n, ha, hn, hlt2⟩ := Kp.numF_even (by rwa [Lib.toList_data] at hp0) (by rw [Array.length_toList]; exact hp3) ht
              have hn1 : Kp.num1 p = ((n : Int), true) := by unfold Kp.num1; rw [if_neg (by intro h; rcases h with h | h; exact hp0 h; exact h ht), if_pos hp3, hn]
              have HN1 := Lib.hid hn1
              have HA := Lib.hid ha
              have HT := Lib.hid ht
              clear hn hn1 ha ht
              go_wp2_with fail
              refine (trim_digits p _ (by omega)).mono ?_
              rintro en w2 ⟨rfl, hb2⟩
              have HO2 := Lib.hid (pw_own_below HO.out hb2)
              have HB2 := Lib.hid (below_then HB.out HB.out.size hb2)
              clear hb2 HO HB
              go_wp2_with fail
              refine (Tryz.strconv_Atoi p n (by omega) HA.out _).mono ?_
              rintro en w3 ⟨rfl, tt, rfl⟩
              have hb3 := bytes_below (Below.refl w2.heap.size w2) (Nat.le_refl _) 5 tt
              generalize Lib.bytesWorld w2 5 tt = w3 at hb3 ⊢
              have HO3 : Hid (w3.ownsRow W0.heap.size 3 1 v4 ((n1s ps).take k).length (nums .i64 ((n1s ps).take k))) := by show World.ownsRow _ _ _ _ _ _ _; rw [HL.out]; exact pw_own_below HO2.out hb3
              have HB3 := Lib.hid (below_then HB2.out HB2.out.size hb3)
              clear hb3 HO2 HB2
              go_wp2_with (at_builtin; refine print_append_num (w0 := W0) W0.heap.size rfl _ _ 91 3 .i64 8 rfl Tryz.underlying91 Tryz.info3 (by decide) v4 _ _ rfl rfl HO3.out HB3.out HB3.out.size (by rw [HL.out]; omega) ?_; intro v1 w4 hown hB4 _ _; have HO4 := Lib.hid hown; have HB4 := Lib.hid hB4; clear hown hB4)
              go_roundw
              case rel => exact ⟨v1, k + 1, rfl, by omega, by go_num, by
                show World.ownsRow _ _ _ _ _ _ _
                rw [(HNx.out _ HN1.out).1]; have h := HO4.out; rwa [List.length_append, HL.out] at h, HB4.out, (HNx.out _ HN1.out).2⟩
              case measure => simp [intOf]; omega
            · have hd : decide ((p.size : Int) ≤ 3) = false := by simp; omega
              have hn1 : Kp.num1 p = (999, true) := by unfold Kp.num1; rw [if_neg (by intro h; rcases h with h | h; exact hp0 h; exact h ht), if_neg hp3]
              have HN1 := Lib.hid hn1
              have HT := Lib.hid ht
              clear hn1 ht
              go_wp2_with fail
              refine (trim_digits p _ (by omega)).mono ?_
              rintro en w2 ⟨rfl, hb2⟩
              have HO3 : Hid (w2.ownsRow W0.heap.size 3 1 v4 ((n1s ps).take k).length (nums .i64 ((n1s ps).take k))) := by show World.ownsRow _ _ _ _ _ _ _; rw [HL.out]; exact pw_own_below HO.out hb2
              have HB3 := Lib.hid (below_then HB.out HB.out.size hb2)
              clear hb2 HO HB
              go_wp2_with (at_builtin; refine print_append_num (w0 := W0) W0.heap.size rfl _ _ 91 3 .i64 8 rfl Tryz.underlying91 Tryz.info3 (by decide) v4 _ _ rfl rfl HO3.out HB3.out HB3.out.size (by rw [HL.out]; omega) ?_; intro v1 w4 hown hB4 _ _; have HO4 := Lib.hid hown; have HB4 := Lib.hid hB4; clear hown hB4)
              go_roundw
              case rel => exact ⟨v1, k + 1, rfl, by omega, by go_num, by
                show World.ownsRow _ _ _ _ _ _ _
                rw [(HNx.out _ HN1.out).1]; have h := HO4.out; rwa [List.length_append, HL.out] at h, HB4.out, (HNx.out _ HN1.out).2⟩
              case measure => simp [intOf]; omega
          · have ht' : (!(Lib.trimS p.data.toList Kp.digs).isEmpty) = true := by
              cases h : (Lib.trimS p.data.toList Kp.digs) with
              | nil => exact absurd h ht
              | cons a b => rfl
            have hn : (Kp.num1 p).2 = false := by unfold Kp.num1; rw [if_pos (.inr ht)]
            have HN := Lib.hid (HBad.out hn)
            clear hn ht
            go_wp2_with fail
            refine (trim_digits p _ (by omega)).mono ?_
            rintro en w2 ⟨rfl, hb2⟩
            have HB2 := Lib.hid (below_step HB0.out (below_then HB.out HB.out.size hb2))
            clear hb2
            go_wp2_with fail
            go_ret2
            exact ⟨HB2.out, .inl ⟨HN.out, rfl⟩⟩
      · obtain rfl : k = ps.length := by omega
        have hall : Kp.numsF s = some (n1s ps) := by
          rw [HNF.out, if_pos]
          rw [List.all_eq_true]
          intro p hp
          exact HQ.out p (by rw [List.take_length]; exact hp)
        have HAll := Lib.hid hall
        have ho := HO.out
        rw [show ps.length = (n1s ps).length by simp [n1s], List.take_length] at ho
        obtain ⟨A, c, hA, hri⟩ := own_RI3 ho
        have HRI := Lib.hid hri
        have HAe := Lib.hid hA
        clear hall ho hri hA
        go_wp2_with fail
        go_ret2
        exact ⟨below_step HB0.out HB.out, .inr ⟨n1s ps, A, c, HAll.out, by rw [← HAe.out]; rfl, HRI.out⟩⟩
end Go.Proofs.YtbjckccgbmimpabGreatDoor

/- The walk of sequence. -/
namespace Go.Proofs.YtbjckccgbmimpabGreatDoor
open Go.RowKit Go.Proofs.YtbjckccgbmimpabGreatDoorW.PrintWords Go.Proofs.YtbjckccgbmimpabGreatDoorW.PrintLast Go.Proofs.YtbjckccgbmimpabGreatDoorW.PrintMore
theorem run_lookup_ok {P : Program} {t k e : TypeId} {q : IntKind} (ht : P.underlying t = some (.map k e)) (hk : P.underlying k = some (.int q)) {z : Value} (hz : ∀ w, (zeroValue e).run P w = .ok z w)
    {w : World} {r clock : Nat} {es : Array MapEntry} (hb : w.heap[r]? = some (.map es clock)) (x : Int) {rr : Option (Nat × Value)} (h1 : Instr.findNow (.int q) (.int q x) es.toList 0 = some rr) {v : Value} {b : Bool} (hv : v = (rr.map (·.2)).getD z) (hbb : b = rr.isSome) :
    (Instr.lookup t (.map (some r)) (.int q x) true).run P w = .ok (.tuple #[v, .bool b]) w := by
  subst hv hbb
  have hf : (Instr.findKey k (.int q x) es.toList).run P w = .ok rr w := by
    simp [Instr.findKey, run_underlying hk, h1]
  cases rr with
  | none => simp [Instr.lookup, run_underlying ht, MapKept.run_getObj_map hb, check_int hk, hf, hz, Result.andThen]
  | some y =>
    obtain ⟨j, v⟩ := y
    simp [Instr.lookup, run_underlying ht, MapKept.run_getObj_map hb, check_int hk, hf, Result.andThen]
theorem wpList_lookup_ok {P : Program} (w : World) {ops : Array Oper} {rest : List Oper} {o : Oper} {a : Act} {Q : Exit → Act → World → Prop}
    (hg : o.guard = none) (t : TypeId) (m kx : Operand) (hop : o.op = Op.lookup t m kx true) {k e : TypeId} {q : IntKind} (ht : P.underlying t = some (.map k e)) (hk : P.underlying k = some (.int q)) {z : Value} (hz : ∀ w, (zeroValue e).run P w = .ok z w)
    {r clock : Nat} {es : Array MapEntry} (hb : w.heap[r]? = some (.map es clock)) (x : Int) (hm : a.eval m = .map (some r)) (hx : a.eval kx = .int q x) {rr : Option (Nat × Value)} (h1 : Instr.findNow (.int q) (.int q x) es.toList 0 = some rr) (v : Value) (b : Bool) (hv : v = (rr.map (·.2)).getD z) (hbb : b = rr.isSome)
    (h : wpList P ops Q rest (a.put o.dst (.tuple #[v, .bool b])) w) :
    wpList P ops Q (o :: rest) a w := by
  refine wpList_plain hg fun K hK => ?_
  unfold Oper.wp
  simp only [execOp, hop, hm, hx]
  rw [Sem.run_bind, run_lookup_ok ht hk hz hb x h1 hv hbb]
  exact hK _ _ h
theorem zero97 (w : World) : (zeroValue 87).run Tryz.prog w = .ok .nilFunc w := by kernel_rfl
def isF (x : Int) : Bool := decide (x = 72) || decide (x = 109) || decide (x = 74)
def fnV (x : Int) : Value := if x = 72 then .func (.func 43) #[] #[] else if x = 109 then .func (.func 44) #[] #[] else if x = 74 then .func (.func 45) #[] #[] else .nilFunc
theorem find_fn (x : Int) (c0 c1 c2 : Nat) : ∃ rr, Instr.findNow (.int .u8) (.int .u8 x) [⟨.int .u8 72, .func (.func 43) #[] #[], c0⟩, ⟨.int .u8 109, .func (.func 44) #[] #[], c1⟩, ⟨.int .u8 74, .func (.func 45) #[] #[], c2⟩] 0 = some rr ∧ fnV x = (rr.map (·.2)).getD .nilFunc ∧ isF x = rr.isSome := by
  by_cases h1 : x = 72
  · subst h1; exact ⟨_, rfl, rfl, rfl⟩
  · by_cases h2 : x = 109
    · subst h2; exact ⟨_, rfl, rfl, rfl⟩
    · by_cases h3 : x = 74
      · subst h3; exact ⟨_, rfl, rfl, rfl⟩
      · refine ⟨none, ?_, by simp [fnV, h1, h2, h3], by simp [isF, h1, h2, h3]⟩
        have e1 : (x == 72) = false := beq_eq_false_iff_ne.2 h1
        have e2 : (x == 109) = false := beq_eq_false_iff_ne.2 h2
        have e3 : (x == 74) = false := beq_eq_false_iff_ne.2 h3
        simp only [Instr.findNow, Instr.sameNow, if_true, e1, e2, e3]
set_option maxRecDepth 100000 in
set_option maxHeartbeats 2000000 in
theorem sequence2_calls (W : World) (base g gc : Nat) (t : Kp.Tm) (wv : Value) (a : ByteArray) (x m : Int) (h : TermAt W base g gc t wv) (ha : a.size ≤ 900) (hm : W.cell? ⟨5, 0, none⟩ = some (.int .i64 m)) :
    Calls Tryz.prog 37 #[.pointer (some ⟨g, 0, none⟩), .string a, .int .u8 x] W (TermPost W base g gc (Kp.seqT t a x) wv (.tuple #[])) := by
  have H := Lib.hid h
  have HM := Lib.hid hm
  have hgW : base ≤ W.heap.size := Nat.le_trans H.out.ge.1 (Nat.le_of_lt (blk_lt H.out.blk))
  have hff := fun c0 c1 c2 => find_fn x c0 c1 c2
  have HFF := Lib.hid hff
  obtain ⟨fv, hfv⟩ : ∃ fv, fnV x = fv := ⟨_, rfl⟩
  obtain ⟨fb, hfb⟩ : ∃ fb, isF x = fb := ⟨_, rfl⟩
  have HFv := Lib.hid hfv
  have HFb := Lib.hid hfb
  clear h hm hff hfv hfb
  have hmm := @run_makeMap Tryz.prog
  go_enter Tryz.func37, Tryz.ntmps37
  go_wp2_with (first
    | ((with_reducible refine gate_insert 90 rfl ?_); refine wpList_insert_new _ rfl 90 _ _ _ rfl Tryz.underlying90 Tryz.underlying5 _ _ _ _ rfl (by simp) rfl (by rfl) ?_)
    | ((with_reducible refine gate_lookup 90 rfl ?_); obtain ⟨rr, r1, r2, r3⟩ := HFF.out 0 1 2; rw [HFv.out] at r2; rw [HFb.out] at r3; refine wpList_lookup_ok _ rfl 90 _ _ rfl Tryz.underlying90 Tryz.underlying5 zero97 (heap_alloc_at (by simp)) x rfl rfl r1 fv fb r2 r3 ?_; clear r1 r2 r3 rr))
  have hb1 := below_alloc (Below.refl W.heap.size W) (.map #[⟨.int .u8 72, .func (.func 43) #[] #[], 0⟩, ⟨.int .u8 109, .func (.func 44) #[] #[], 1⟩, ⟨.int .u8 74, .func (.func 45) #[] #[], 2⟩] 3)
  generalize W.alloc (.map #[⟨.int .u8 72, .func (.func 43) #[] #[], 0⟩, ⟨.int .u8 109, .func (.func 44) #[] #[], 1⟩, ⟨.int .u8 74, .func (.func 45) #[] #[], 2⟩] 3) = W1 at hb1 ⊢
  refine (numbers_calls a m W1 ha (pw_cell_below hb1 HM.out)).mono ?_
  rintro en W2 ⟨hb2, hcase⟩
  have HB2 := Lib.hid (below_step hb1 hb2)
  clear hb1 hb2 hmm
  rcases hcase with ⟨hn, rfl⟩ | ⟨ns, A, c, hn, rfl, hri⟩
  · have hq : Kp.seqT t a x = t := by unfold Kp.seqT; rw [hn]
    have HQ := Lib.hid hq
    clear hq hn
    cases fb
    · go_wp2_with fail
      go_end0
      exact ⟨rfl, by rw [HQ.out]; exact (Turned.refl H.out).post hgW HB2.out⟩
    · go_wp2_with fail
      go_end0
      exact ⟨rfl, by rw [HQ.out]; exact (Turned.refl H.out).post hgW HB2.out⟩
  · have hns := Kp.numsF_range hn
    have hl : ns.length ≤ 1000 := by omega
    have hq : Kp.seqT t a x = if x = 72 then Kp.moveT t ns else if x = 109 then Kp.dressT t ns else if x = 74 then Kp.clearT t ns else t := by unfold Kp.seqT; rw [hn]
    have HNs := Lib.hid hns.1
    have HRI := Lib.hid hri
    clear hn hns hri
    cases fb
    · have hf := HFb.out
      simp only [isF, Bool.or_eq_false_iff, decide_eq_false_iff_not] at hf
      rw [if_neg hf.1.1, if_neg hf.1.2, if_neg hf.2] at hq
      have HQ := Lib.hid hq
      clear hf hq
      go_wp2_with fail
      go_end0
      exact ⟨rfl, by rw [HQ.out]; exact (Turned.refl H.out).post hgW HB2.out⟩
    · have HT := Lib.hid (H.out.below HB2.out)
      by_cases h1 : x = 72
      · subst h1
        have hfv : fv = .func (.func 43) #[] #[] := HFv.out.symm
        subst hfv
        rw [if_pos rfl] at hq
        have HQ := Lib.hid hq
        clear hq
        go_wp2_with fail
        refine (move_calls W2 base g gc t wv ns A c HT.out HRI.out HNs.out hl).mono ?_
        rintro en W3 ⟨rfl, htu⟩
        have HTu := Lib.hid (htu.pre HB2.out hgW)
        clear htu
        go_wp2_with fail
        go_end0
        exact ⟨rfl, by rw [HQ.out]; exact HTu.out⟩
      · rw [if_neg h1] at hq
        by_cases h2 : x = 109
        · subst h2
          have hfv : fv = .func (.func 44) #[] #[] := HFv.out.symm
          subst hfv
          rw [if_pos rfl] at hq
          have HQ := Lib.hid hq
          clear hq h1
          go_wp2_with fail
          refine (dresses_calls W2 base g gc t wv ns A c HT.out HRI.out hl).mono ?_
          rintro en W3 ⟨rfl, htu⟩
          have HTu := Lib.hid (htu.pre HB2.out hgW)
          clear htu
          go_wp2_with fail
          go_end0
          exact ⟨rfl, by rw [HQ.out]; exact HTu.out⟩
        · have hf := HFb.out
          simp only [isF, h1, h2, Bool.or_eq_true, decide_eq_true_eq, false_or] at hf
          rw [if_neg h2, if_pos hf] at hq
          subst hf
          have HQ := Lib.hid hq
          clear hq
          have hfv : fv = .func (.func 45) #[] #[] := HFv.out.symm
          subst hfv
          clear h1 h2
          go_wp2_with fail
          refine (clear_calls W2 base g gc t wv ns A c HT.out HRI.out hl).mono ?_
          rintro en W3 ⟨rfl, htu⟩
          have HTu := Lib.hid (htu.pre HB2.out hgW)
          clear htu
          go_wp2_with fail
          go_end0
          exact ⟨rfl, by rw [HQ.out]; exact HTu.out⟩
end Go.Proofs.YtbjckccgbmimpabGreatDoor
