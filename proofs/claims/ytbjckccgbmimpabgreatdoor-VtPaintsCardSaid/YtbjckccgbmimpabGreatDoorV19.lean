/- The walk of put. -/
import Derived.Test.YtbjckccgbmimpabGreatDoorV16
import Derived.Deep.MidRow
import Derived.Test.YtbjckccgbmimpabGreatDoorK8
import Derived.Test.YtbjckccgbmimpabGreatDoorK11
namespace Go.Proofs.YtbjckccgbmimpabGreatDoor
open Go.RowKit Go.Proofs.YtbjckccgbmimpabGreatDoorW.PrintWords Go.Proofs.YtbjckccgbmimpabGreatDoorW.PrintLast Go.Proofs.YtbjckccgbmimpabGreatDoorW.PrintMore
theorem odd_true (c : Int) (hc : -2147483648 ≤ c ∧ c ≤ 2147483647) (W : World) (h : Kp.odd c) : Calls Tryz.prog 18 #[.int .i32 c] W fun e w' => e = .returned (.bool true) ∧ Below W.heap.size W w' :=
  (odd_calls c hc W).mono fun _ _ ⟨b, he, hi, hb⟩ => ⟨by rw [he, hi.2 h], hb⟩
theorem odd_false (c : Int) (hc : -2147483648 ≤ c ∧ c ≤ 2147483647) (W : World) (h : ¬ Kp.odd c) : Calls Tryz.prog 18 #[.int .i32 c] W fun e w' => e = .returned (.bool false) ∧ Below W.heap.size W w' :=
  (odd_calls c hc W).mono fun _ _ ⟨b, he, hi, hb⟩ => ⟨by
    cases b
    · rw [he]
    · exact absurd (hi.1 rfl) h, hb⟩
/-- A terminal while a rune is put. -/
structure Putting (W w : World) (base g gc : Nat) (t : Kp.Tm) (wv : Value) (l : List Cell) : Prop where
  blk : w.heap[g]? = some (.cells (termCells t gc wv) 52 (0, 0))
  cells : CellsAt w gc l
  kept : Kept W w (fun k => k = g ∨ k = gc)
  below : Below base W w
  len : l.length = t.l.length
  ne : g ≠ gc
  ge : base ≤ g ∧ base ≤ gc
theorem Putting.start {W w : World} {base g gc : Nat} {t : Kp.Tm} {wv : Value} (h : TermAt W base g gc t wv) (hb : Below W.heap.size W w) (hB : base ≤ W.heap.size) : Putting W w base g gc t wv t.l :=
  ⟨(h.below hb).blk, (h.below hb).cells, Kept.of_below hb _, hb.mono hB, rfl, h.ne, h.ge⟩
theorem Putting.below_ {W w w' : World} {base g gc : Nat} {t : Kp.Tm} {wv : Value} {l : List Cell} (h : Putting W w base g gc t wv l) (hB : base ≤ w.heap.size) (hb : Below w.heap.size w w') : Putting W w' base g gc t wv l :=
  ⟨blk_below h.blk hb, h.cells.kept (S := fun _ => False) ((Kept.refl w _).below hb) (fun h => h), h.kept.below hb, h.below.trans (hb.mono hB), h.len, h.ne, h.ge⟩
theorem Putting.drew_ {W w : World} {base g gc : Nat} {t : Kp.Tm} {wv : Value} {l : List Cell} (h : Putting W w base g gc t wv l) : Putting W w.drew base g gc t wv l := ⟨h.blk, h.cells, h.kept, below_drew h.below, h.len, h.ne, h.ge⟩
theorem Putting.drewN {W w : World} {base g gc : Nat} {t : Kp.Tm} {wv : Value} {l : List Cell} (h : Putting W w base g gc t wv l) (n : Nat) : Putting W (w.drewN n) base g gc t wv l := ⟨h.blk, h.cells, h.kept, pw_below_drewN h.below n, h.len, h.ne, h.ge⟩
theorem Putting.rules {W w : World} {base g gc : Nat} {t : Kp.Tm} {wv : Value} {l : List Cell} (h : Putting W w base g gc t wv l) :
    (w.cell? ⟨g, 0, none⟩ = some (.int .i64 t.R) ∧ w.cell? ⟨g, 1, none⟩ = some (.int .i64 t.C) ∧ w.cell? ⟨g, 2, none⟩ = some (.slice (some ⟨gc, 0, none⟩) (t.R * t.C) (t.R * t.C)) ∧ w.cell? ⟨g, 3, none⟩ = some (.int .i64 t.row)
    ∧ w.cell? ⟨g, 4, none⟩ = some (.int .i64 t.col) ∧ w.cell? ⟨g, 5, none⟩ = some (.int .i64 t.st)) ∧ w.frozen? ⟨g, 4, none⟩ = false :=
  ⟨⟨(blk_cell h.blk 0).trans rfl, (blk_cell h.blk 1).trans rfl, (blk_cell h.blk 2).trans rfl, (blk_cell h.blk 3).trans rfl, (blk_cell h.blk 4).trans rfl, (blk_cell h.blk 5).trans rfl⟩, blk_frozen h.blk 4⟩
theorem ccs_set (l : List Cell) (i : Nat) (r s : Int) (h : i < l.length) : ((ccs l).set (i * 2) (.int .i32 r)).set (i * 2 + 1) (.int .i64 s) = ccs (l.set i (r, s)) := by
  rw [ccs_set_r l i r h, ccs_set_s _ i s (by simpa using h)]
  have e : Kp.gr (l.set i (r, Kp.gs l i)) i = r := by rw [Kp.gr_set _ _ _ _ h, if_pos rfl]
  rw [e, List.set_set]
theorem info57s : (Tryz.prog.info? 41).map (·.size) = some 2 := by kernel_rfl
theorem store_put {W w : World} {base g gc : Nat} {t : Kp.Tm} {wv : Value} {l : List Cell} {i : Nat} {r s : Int} {ops : Array Oper} {rest : List Oper} {o : Oper} {a : Act} {Q : Exit → Act → World → Prop} (hgd : o.guard = none) (x y : Operand) (ho : o.op = .store 41 x y)
    (hx : a.eval x = .pointer (some ⟨gc, i * 2, none⟩)) (hy : a.eval y = .agg #[.int .i32 r, .int .i64 s]) (h : Putting W w base g gc t wv l) (hi : i < t.l.length)
    (hk : ∀ W2, Putting W W2 base g gc t wv (l.set i (r, s)) → wpList Tryz.prog ops Q rest (a.put o.dst undef) W2) : wpList Tryz.prog ops Q (o :: rest) a w := by
  have hil : i < l.length := by rw [h.len]; exact hi
  obtain ⟨a1, a2⟩ := h.cells.cell i hil
  refine wpList_store_mid hgd 41 x y ho gc (i * 2) #[.int .i32 r, .int .i64 s] hx hy (fun j hj => ?_) info57s (by simp [Value.oneCell']) (hk _ ?_)
  · have hj2 : j = 0 ∨ j = 1 := by simp at hj; omega
    rcases hj2 with rfl | rfl
    · exact ⟨by rw [Nat.add_zero, a1]; rfl, h.cells.free _⟩
    · exact ⟨by rw [a2]; rfl, h.cells.free _⟩
  · have e : w.setCells gc (i * 2) [.int .i32 r, .int .i64 s] = (w.setCell ⟨gc, i * 2, none⟩ (.int .i32 r)).setCell ⟨gc, i * 2 + 1, none⟩ (.int .i64 s) := rfl
    show Putting W (w.setCells gc (i * 2) [.int .i32 r, .int .i64 s]) base g gc t wv (l.set i (r, s))
    rw [e]
    refine ⟨blk_far (blk_far h.blk (p := ⟨gc, i * 2, none⟩) h.ne _) (p := ⟨gc, i * 2 + 1, none⟩) h.ne _, ?_, (h.kept.setCell (p := ⟨gc, i * 2, none⟩) (.inl (.inr rfl)) _).setCell (p := ⟨gc, i * 2 + 1, none⟩) (.inl (.inr rfl)) _,
      (h.below.setCell (p := ⟨gc, i * 2, none⟩) h.ge.2 _).setCell (p := ⟨gc, i * 2 + 1, none⟩) h.ge.2 _, by simpa using h.len, h.ne, h.ge⟩
    refine blk_put (cs := ((ccs l).set (i * 2) (.int .i32 r)).toArray) (blk_put h.cells (i * 2) _ (by simp)) (i * 2 + 1) _ ?_
    rw [← ccs_set l i r s hil]
    simp
theorem Putting.finish {W w : World} {base g gc : Nat} {t : Kp.Tm} {wv : Value} {l : List Cell} (h : Putting W w base g gc t wv l) (m : Nat) (hok : Kp.Tm.OK { t with l := l, col := m }) : Turned W (w.setCell ⟨g, 4, none⟩ (.int .i64 m)) base g gc { t with l := l, col := m } wv :=
  ⟨⟨gc, .inl rfl, ⟨blk_put h.blk 4 _ rfl, h.cells.kept (S := fun k => k = g) (Kept.setCell (Kept.refl w (fun k => k = g)) (p := ⟨g, 4, none⟩) (.inl rfl) _) (fun e => h.ne e.symm), h.ge, hok⟩⟩, term_kept h.kept, h.below.setCell (p := ⟨g, 4, none⟩) h.ge.1 _⟩
set_option maxRecDepth 100000 in
set_option maxHeartbeats 8000000 in
theorem put_calls (W : World) (base g gc : Nat) (t : Kp.Tm) (wv : Value) (c : Int) (hc : -2147483648 ≤ c ∧ c ≤ 2147483647) (h : TermAt W base g gc t wv) :
    Calls Tryz.prog 36 #[.pointer (some ⟨g, 0, none⟩), .int .i32 c] W (TermPost W base g gc (Kp.put t c) wv (.tuple #[])) := by
  have H := Lib.hid h
  have hgW : base ≤ W.heap.size := Nat.le_trans H.out.ge.1 (Nat.le_of_lt (blk_lt H.out.blk))
  clear h
  go_enter Tryz.func36, Tryz.ntmps36
  go_wp2_with fail
  refine (of_calls c hc W).mono ?_
  rintro e W2 ⟨rfl, hb2⟩
  have HB2 := Lib.hid hb2
  clear hb2
  by_cases ho : Kp.odd c
  · have hq : Kp.put t c = t := by unfold Kp.put; rw [if_pos (.inl ho)]
    have HQ := Lib.hid hq
    have HO := Lib.hid ho
    clear hq ho
    go_wp2_with fail
    refine start_ (n := 16) (S := fun _ => True) (ds := []) #[false, false, false, false, false, false, false, false, false, false, false, false, false, false, false, false] (by kernel_rfl) rfl rfl trivial (fun _ => ?_)
    refine pure_ (i := 0) (N := some 10) (v := ?_) (a' := ?_) #[true, false, false, false, false, false, false, false, false, false, false, false, false, false, false, false] rfl rfl (by kernel_rfl) (fun _ _ _ h => h) (Or.inl ⟨by rfl, ?_⟩) ?_ ?_
    rotate_left
    · intro w'
      go_simp
      with_reducible rfl
    rotate_left
    · simp only [Act.put, List.setIfInBounds_toArray, List.set_cons_zero, List.set_cons_succ]
      rfl
    refine one_ (i := 1) (N := some 11) #[true, true, false, false, false, false, false, false, false, false, false, false, false, false, false, false] rfl rfl (by kernel_rfl) (by decide) (fun K hK => ?_)
    refine goes_ Tryz.func18 (by kernel_rfl) rfl #[.int .i32 c] (by rfl) rfl rfl (by simp [Act.eval]) ?_
    refine (odd_true c hc _ HO.out).mono ?_
    rintro e W3 ⟨rfl, hb3⟩
    have HB3 := Lib.hid (below_step (below_drew HB2.out) hb3)
    clear hb3
    refine ⟨_, rfl, hK _ _ trivial (fun _ => ?_)⟩
    clear hK K
    refine norm_ (by simp only [Act.put, List.setIfInBounds_toArray, List.set_cons_zero, List.set_cons_succ]; rfl) ?_
    refine pure_ (i := 2) (N := some 12) (v := ?_) (a' := ?_) #[true, true, true, false, false, false, false, false, false, false, false, false, false, false, false, false] rfl rfl (by kernel_rfl) (fun _ _ _ h => h) (Or.inl ⟨by rfl, ?_⟩) ?_ ?_
    rotate_left
    · intro w'
      go_simp
      with_reducible rfl
    rotate_left
    · simp only [Act.put, List.setIfInBounds_toArray, List.set_cons_zero, List.set_cons_succ]
      rfl
    refine pure_ (i := 3) (N := some 13) (v := undef) (a' := ?_) #[true, true, true, true, false, false, false, false, false, false, false, false, false, false, false, false] rfl rfl (by kernel_rfl) (fun _ _ _ h => h) (Or.inr ⟨by rfl, rfl⟩) ?_ ?_
    rotate_left
    · simp only [Act.put, List.setIfInBounds_toArray, List.set_cons_zero, List.set_cons_succ]
      rfl
    refine pure_ (i := 4) (N := some 14) (v := undef) (a' := ?_) #[true, true, true, true, true, false, false, false, false, false, false, false, false, false, false, false] rfl rfl (by kernel_rfl) (fun _ _ _ h => h) (Or.inr ⟨by rfl, rfl⟩) ?_ ?_
    rotate_left
    · simp only [Act.put, List.setIfInBounds_toArray, List.set_cons_zero, List.set_cons_succ]
      rfl
    refine pure_ (i := 5) (N := some 15) (v := undef) (a' := ?_) #[true, true, true, true, true, true, false, false, false, false, false, false, false, false, false, false] rfl rfl (by kernel_rfl) (fun _ _ _ h => h) (Or.inr ⟨by rfl, rfl⟩) ?_ ?_
    rotate_left
    · simp only [Act.put, List.setIfInBounds_toArray, List.set_cons_zero, List.set_cons_succ]
      rfl
    refine pure_ (i := 6) (N := some 16) (v := undef) (a' := ?_) #[true, true, true, true, true, true, true, false, false, false, false, false, false, false, false, false] rfl rfl (by kernel_rfl) (fun _ _ _ h => h) (Or.inr ⟨by rfl, rfl⟩) ?_ ?_
    rotate_left
    · simp only [Act.put, List.setIfInBounds_toArray, List.set_cons_zero, List.set_cons_succ]
      rfl
    refine pure_ (i := 7) (N := some 17) (v := undef) (a' := ?_) #[true, true, true, true, true, true, true, true, false, false, false, false, false, false, false, false] rfl rfl (by kernel_rfl) (fun _ _ _ h => h) (Or.inr ⟨by rfl, rfl⟩) ?_ ?_
    rotate_left
    · simp only [Act.put, List.setIfInBounds_toArray, List.set_cons_zero, List.set_cons_succ]
      rfl
    refine pure_ (i := 8) (N := some 18) (v := undef) (a' := ?_) #[true, true, true, true, true, true, true, true, true, false, false, false, false, false, false, false] rfl rfl (by kernel_rfl) (fun _ _ _ h => h) (Or.inr ⟨by rfl, rfl⟩) ?_ ?_
    rotate_left
    · simp only [Act.put, List.setIfInBounds_toArray, List.set_cons_zero, List.set_cons_succ]
      rfl
    refine pure_ (i := 9) (N := some 19) (v := undef) (a' := ?_) #[true, true, true, true, true, true, true, true, true, true, false, false, false, false, false, false] rfl rfl (by kernel_rfl) (fun _ _ _ h => h) (Or.inr ⟨by rfl, rfl⟩) ?_ ?_
    rotate_left
    · simp only [Act.put, List.setIfInBounds_toArray, List.set_cons_zero, List.set_cons_succ]
      rfl
    refine pure_ (i := 10) (N := some 20) (v := undef) (a' := ?_) #[true, true, true, true, true, true, true, true, true, true, true, false, false, false, false, false] rfl rfl (by kernel_rfl) (fun _ _ _ h => h) (Or.inr ⟨by rfl, rfl⟩) ?_ ?_
    rotate_left
    · simp only [Act.put, List.setIfInBounds_toArray, List.set_cons_zero, List.set_cons_succ]
      rfl
    refine pure_ (i := 11) (N := some 21) (v := undef) (a' := ?_) #[true, true, true, true, true, true, true, true, true, true, true, true, false, false, false, false] rfl rfl (by kernel_rfl) (fun _ _ _ h => h) (Or.inr ⟨by rfl, rfl⟩) ?_ ?_
    rotate_left
    · simp only [Act.put, List.setIfInBounds_toArray, List.set_cons_zero, List.set_cons_succ]
      rfl
    refine pure_ (i := 12) (N := some 22) (v := undef) (a' := ?_) #[true, true, true, true, true, true, true, true, true, true, true, true, true, false, false, false] rfl rfl (by kernel_rfl) (fun _ _ _ h => h) (Or.inr ⟨by rfl, rfl⟩) ?_ ?_
    rotate_left
    · simp only [Act.put, List.setIfInBounds_toArray, List.set_cons_zero, List.set_cons_succ]
      rfl
    refine pure_ (i := 13) (N := some 23) (v := undef) (a' := ?_) #[true, true, true, true, true, true, true, true, true, true, true, true, true, true, false, false] rfl rfl (by kernel_rfl) (fun _ _ _ h => h) (Or.inr ⟨by rfl, rfl⟩) ?_ ?_
    rotate_left
    · simp only [Act.put, List.setIfInBounds_toArray, List.set_cons_zero, List.set_cons_succ]
      rfl
    refine pure_ (i := 14) (N := some 24) (v := undef) (a' := ?_) #[true, true, true, true, true, true, true, true, true, true, true, true, true, true, true, false] rfl rfl (by kernel_rfl) (fun _ _ _ h => h) (Or.inr ⟨by rfl, rfl⟩) ?_ ?_
    rotate_left
    · simp only [Act.put, List.setIfInBounds_toArray, List.set_cons_zero, List.set_cons_succ]
      rfl
    refine pure_ (i := 15) (N := some 25) (v := ?_) (a' := ?_) #[true, true, true, true, true, true, true, true, true, true, true, true, true, true, true, true] rfl rfl (by kernel_rfl) (fun _ _ _ h => h) (Or.inl ⟨by rfl, ?_⟩) ?_ ?_
    rotate_left
    · intro w'
      go_simp
      with_reducible rfl
    rotate_left
    · simp only [Act.put, List.setIfInBounds_toArray, List.set_cons_zero, List.set_cons_succ]
      rfl
    refine done_ (by kernel_rfl) ?_
    go_wp2_with fail
    go_end0
    exact ⟨rfl, by rw [HQ.out]; exact (Turned.refl H.out).post hgW HB3.out⟩
  · have HO := Lib.hid ho
    obtain ⟨hrt, h32, _, hw12⟩ := Kp.not_odd ho
    obtain ⟨n, hn⟩ : ∃ n : Nat, Kp.wid c = n := ⟨(Kp.wid c).toNat, by omega⟩
    have hn12 : n = 1 ∨ n = 2 := by omega
    have hq : Kp.put t c = if (t.C : Int) - t.col < n then t else { t with l := Kp.putL t.C t.l (t.row * t.C + t.col) t.col n c t.st, col := t.col + n } := by
      unfold Kp.put
      rw [hn, Int.toNat_natCast]
      by_cases h1 : (t.C : Int) - t.col < n
      · rw [if_pos (.inr h1), if_pos h1]
      · rw [if_neg (by intro e; rcases e with e | e; exact ho e; exact h1 e), if_neg h1]
    have HQ := Lib.hid hq
    have HNw := Lib.hid hn
    rw [hn]
    have hp2 := (Putting.start H.out HB2.out hgW).drew_
    obtain ⟨⟨c0, c1, c2, c3, c4, c5⟩, f4⟩ := hp2.rules
    have HP2 := Lib.hid hp2
    have hCs : 1 ≤ t.C ∧ t.C ≤ 60 := H.out.ok.C1
    have hRs : 1 ≤ t.R ∧ t.R ≤ 60 := H.out.ok.R1
    have hcol : t.col ≤ t.C := H.out.ok.col
    have w1 : IntKind.i64.wrap ((t.C : Int) - t.col) = (t.C : Int) - t.col := by rw [IntKind.wrap_i64]; omega
    clear hp2 hq hn ho hw12 hrt
    by_cases hfit : (t.C : Int) - t.col < n
    · have hd : decide ((t.C : Int) - t.col < n) = true := by simp; omega
      have HFit := Lib.hid hfit
      clear hfit
      go_wp2_with fail
      go_region_held3 (fun w' => w'.cell? ⟨g, 1, none⟩ = some (.int .i64 t.C) ∧ w'.cell? ⟨g, 4, none⟩ = some (.int .i64 t.col)) (first | (with_reducible assumption) | (with_reducible exact ⟨d1, d4⟩) | exact ⟨c1, c4⟩) (first | (go_at_call 18; (with_reducible refine (odd_false c hc _ HO.out).mono ?_); rintro e W3 ⟨rfl, hb3⟩; obtain ⟨⟨d0, d1, d2, d3, d4, d5⟩, df4⟩ := (HP2.out.below_ (Nat.le_trans hgW HB2.out.size) hb3).rules))
      have HP3 := Lib.hid (HP2.out.below_ (Nat.le_trans hgW HB2.out.size) hb3)
      clear hb3 d0 d1 d2 d3 d4 d5 df4
      go_wp2_with fail
      go_end0
      have hp3 := HP3.out
      exact ⟨rfl, by rw [HQ.out, if_pos HFit.out]; exact ⟨⟨gc, .inl rfl, ⟨hp3.blk, hp3.cells, hp3.ge, H.out.ok⟩⟩, hp3.kept, hp3.below⟩⟩
    · have hd : decide ((t.C : Int) - t.col < n) = false := by simp; omega
      have HQ2 : Hid (Kp.put t c = { t with l := Kp.putL t.C t.l (t.row * t.C + t.col) t.col n c t.st, col := t.col + n }) := Lib.hid (by rw [HQ.out, if_neg hfit])
      have hfit2 : t.col + n ≤ t.C := by omega
      clear hfit
      go_wp2_with fail
      go_region_held3 (fun w' => w'.cell? ⟨g, 1, none⟩ = some (.int .i64 t.C) ∧ w'.cell? ⟨g, 4, none⟩ = some (.int .i64 t.col)) (first | (with_reducible assumption) | (with_reducible exact ⟨d1, d4⟩) | exact ⟨c1, c4⟩) (first | (go_at_call 18; (with_reducible refine (odd_false c hc _ HO.out).mono ?_); rintro e W3 ⟨rfl, hb3⟩; obtain ⟨⟨d0, d1, d2, d3, d4, d5⟩, df4⟩ := (HP2.out.below_ (Nat.le_trans hgW HB2.out.size) hb3).rules))
      have hp3 := HP2.out.below_ (Nat.le_trans hgW HB2.out.size) hb3
      have HP3 := Lib.hid hp3
      obtain ⟨N, hN⟩ : ∃ N, t.R * t.C = N := ⟨_, rfl⟩
      obtain ⟨a0, ha0⟩ : ∃ a0, t.row * t.C = a0 := ⟨_, rfl⟩
      obtain ⟨a, ha⟩ : ∃ a, a0 + t.col = a := ⟨_, rfl⟩
      have hlen := H.out.ok.len
      rw [hN] at hlen
      have hN36 : N ≤ 3600 := by rw [← hN]; exact Nat.mul_le_mul hRs.2 hCs.2
      have haN : a < N := by rw [← ha, ← ha0, ← hN]; exact Kp.at_lt H.out.ok.row (by omega)
      have heN : t.col + n < t.C → a + n < N := fun h => by rw [← ha, ← ha0, ← hN, Nat.add_assoc]; exact Kp.at_lt H.out.ok.row h
      have haN2 : n = 2 → a + 1 < N := fun h => by rw [← ha, ← ha0, ← hN, Nat.add_assoc]; exact Kp.at_lt H.out.ok.row (by omega)
      have hz0 : Kp.gr t.l a = 0 → 0 < a := fun h => by
        have := H.out.ok.zero0 (by rw [ha0, ha]; exact h)
        omega
      rw [ha0, ha] at HQ2
      have w1' : IntKind.i64.wrap ((t.row : Int) * t.C) = (a0 : Int) := by
        rw [show (t.row : Int) * t.C = ((t.row * t.C : Nat) : Int) by push_cast; rfl, ha0, IntKind.wrap_i64]; omega
      have w2' : IntKind.i64.wrap ((a0 : Int) + t.col) = (a : Int) := by rw [IntKind.wrap_i64]; omega
      clear d0 d1 d2 d3 d4 d5 df4 c0 c1 c2 c3 c4 c5 f4 w1 hd hb3
      obtain ⟨⟨c0, c1, c2, c3, c4, c5⟩, f4⟩ := hp3.rules
      rw [hN] at c2
      have HNN := Lib.hid hN
      have HLen := Lib.hid hlen
      have HZ0 := Lib.hid hz0
      have HeN := Lib.hid heN
      have HaN2 := Lib.hid haN2
      clear hp3 hN ha0 ha hlen hz0 heN haN2
      go_wp2_with fail
      go_quiet (fail)
      have hp4 := HP3.out.drewN nq
      generalize W3.drewN nq = W4 at hp4 ⊢
      obtain ⟨l1, hl1⟩ : ∃ l1, (if Kp.gr t.l a = 0 then t.l.set (a - 1) (32, 0) else t.l) = l1 := ⟨_, rfl⟩
      obtain ⟨l2, hl2⟩ : ∃ l2, (if t.col + n < t.C ∧ Kp.gr l1 (a + n) = 0 then l1.set (a + n) (32, 0) else l1) = l2 := ⟨_, rfl⟩
      have hput : Kp.putL t.C t.l a t.col n c t.st = if n = 2 then (l2.set a (c, (t.st : Int))).set (a + 1) (0, (t.st : Int)) else l2.set a (c, (t.st : Int)) := by
        simp only [Kp.putL]
        rw [hl1, hl2]
      rw [hput] at HQ2
      obtain ⟨r0, hr0⟩ : ∃ r0, Kp.gr t.l a = r0 := ⟨_, rfl⟩
      rw [hr0] at hl1 HZ0
      obtain ⟨k0, _⟩ := hp4.cells.cell a (by rw [HLen.out]; exact haN)
      rw [hr0] at k0
      obtain ⟨⟨d0, d1, d2, d3, d4, d5⟩, df4⟩ := hp4.rules
      rw [HNN.out] at d2
      have HP4 := Lib.hid hp4
      have HR0 := Lib.hid hr0
      have HL1 := Lib.hid hl1
      have HL2 := Lib.hid hl2
      clear hp4 hr0 hl1 hl2 hput c0 c1 c2 c3 c4 c5 f4 w1' w2'
      obtain ⟨e, he⟩ : ∃ e, a + n = e := ⟨_, rfl⟩
      have hae : (a : Int) + n = (e : Int) := by omega
      obtain ⟨q, hq⟩ : ∃ q, a + 1 = q := ⟨_, rfl⟩
      have haq : (a : Int) + 1 = (q : Int) := by omega
      have HEe := Lib.hid he
      have HQq := Lib.hid hq
      clear he hq
      by_cases hz : r0 = 0
      · have e0 : (r0 == 0) = true := by simp [hz]
        have ha1 := HZ0.out hz
        obtain ⟨p, hp⟩ : ∃ p, a = p + 1 := ⟨a - 1, by omega⟩
        have hp1 : (a : Int) - 1 = (p : Int) := by omega
        have hpN : p < N := by omega
        have HPp := Lib.hid hp
        have HZ := Lib.hid hz
        clear hz hp ha1
        go_wp2_with ((with_reducible refine gate_store (t := 41) rfl ?_); refine store_put rfl _ _ rfl rfl rfl HP4.out (by rw [HLen.out]; exact hpN) ?_; intro W5 hp5; obtain ⟨⟨d0, d1, d2, d3, d4, d5⟩, df4⟩ := hp5.rules; rw [HNN.out] at d2; have HP5 := Lib.hid hp5; clear hp5)
        have HPc : Hid (Putting W W5 base g gc t wv l1) := Lib.hid (by have h := HP5.out; rwa [show p = a - 1 by have := HPp.out; omega, show t.l.set (a - 1) (32, 0) = l1 by rw [← HL1.out, if_pos HZ.out]] at h)
        by_cases hc2 : t.col + n < t.C
        · have heN : e < N := by rw [← HEe.out]; exact HeN.out hc2
          have b1 : decide ((t.col : Int) + n < t.C) = true := by simp; omega
          obtain ⟨k1, _⟩ := HPc.out.cells.cell e (by rw [HPc.out.len, HLen.out]; exact heN)
          obtain ⟨r1, hr1⟩ : ∃ r1, Kp.gr l1 e = r1 := ⟨_, rfl⟩
          rw [hr1] at k1
          by_cases hz1 : r1 = 0
          · have b3 : (r1 == 0) = true := by simp [hz1]
            have HL2c : Hid (l1.set e (32, 0) = l2) := Lib.hid (by rw [← HL2.out, HEe.out, if_pos ⟨hc2, hr1.trans hz1⟩])
            clear hr1 hz1 hc2
            go_quiet (fail)
            have hp6 := HPc.out.drewN nq
            generalize W5.drewN nq = W6 at hp6 ⊢
            obtain ⟨⟨d0, d1, d2, d3, d4, d5⟩, df4⟩ := hp6.rules
            rw [HNN.out] at d2
            have HPc := Lib.hid hp6
            clear hp6 k1
            by_cases hn2 : n = 2
            · have b2 : ((n : Int) == 2) = true := by simp; omega
              have hqN : q < N := by rw [← HQq.out]; exact HaN2.out hn2
              have HN2 := Lib.hid hn2
              clear hn2
              go_wp2_with ((with_reducible refine gate_store (t := 41) rfl ?_); refine store_put rfl _ _ rfl rfl rfl HPc.out (by rw [HLen.out]; omega) ?_; intro W7 hp7; obtain ⟨⟨d0, d1, d2, d3, d4, d5⟩, df4⟩ := hp7.rules; rw [HNN.out] at d2; have HPc := Lib.hid hp7; clear hp7)
              have hq2 := HQ2.out
              rw [if_pos HN2.out, ← HL2c.out, HQq.out] at hq2
              have hfin := HPc.out.finish (t.col + n) (by rw [← hq2]; exact Kp.put_ok H.out.ok c)
              go_end0
              refine ⟨rfl, ?_⟩
              rw [hq2]
              exact hfin
            · have b2 : ((n : Int) == 2) = false := by simp; omega
              have HN2 := Lib.hid hn2
              clear hn2
              go_wp2_with ((with_reducible refine gate_store (t := 41) rfl ?_); refine store_put rfl _ _ rfl rfl rfl HPc.out (by rw [HLen.out]; omega) ?_; intro W7 hp7; obtain ⟨⟨d0, d1, d2, d3, d4, d5⟩, df4⟩ := hp7.rules; rw [HNN.out] at d2; have HPc := Lib.hid hp7; clear hp7)
              have hq2 := HQ2.out
              rw [if_neg HN2.out, ← HL2c.out] at hq2
              have hfin := HPc.out.finish (t.col + n) (by rw [← hq2]; exact Kp.put_ok H.out.ok c)
              go_end0
              refine ⟨rfl, ?_⟩
              rw [hq2]
              exact hfin
          · have b3 : (r1 == 0) = false := by simp [hz1]
            have HL2c : Hid (l1 = l2) := Lib.hid (by rw [← HL2.out, HEe.out, if_neg (fun h => hz1 (hr1.symm.trans h.2))])
            clear hr1 hz1 hc2
            go_quiet (fail)
            have hp6 := HPc.out.drewN nq
            generalize W5.drewN nq = W6 at hp6 ⊢
            obtain ⟨⟨d0, d1, d2, d3, d4, d5⟩, df4⟩ := hp6.rules
            rw [HNN.out] at d2
            have HPc := Lib.hid hp6
            clear hp6 k1
            by_cases hn2 : n = 2
            · have b2 : ((n : Int) == 2) = true := by simp; omega
              have hqN : q < N := by rw [← HQq.out]; exact HaN2.out hn2
              have HN2 := Lib.hid hn2
              clear hn2
              go_wp2_with ((with_reducible refine gate_store (t := 41) rfl ?_); refine store_put rfl _ _ rfl rfl rfl HPc.out (by rw [HLen.out]; omega) ?_; intro W7 hp7; obtain ⟨⟨d0, d1, d2, d3, d4, d5⟩, df4⟩ := hp7.rules; rw [HNN.out] at d2; have HPc := Lib.hid hp7; clear hp7)
              have hq2 := HQ2.out
              rw [if_pos HN2.out, ← HL2c.out, HQq.out] at hq2
              have hfin := HPc.out.finish (t.col + n) (by rw [← hq2]; exact Kp.put_ok H.out.ok c)
              go_end0
              refine ⟨rfl, ?_⟩
              rw [hq2]
              exact hfin
            · have b2 : ((n : Int) == 2) = false := by simp; omega
              have HN2 := Lib.hid hn2
              clear hn2
              go_wp2_with ((with_reducible refine gate_store (t := 41) rfl ?_); refine store_put rfl _ _ rfl rfl rfl HPc.out (by rw [HLen.out]; omega) ?_; intro W7 hp7; obtain ⟨⟨d0, d1, d2, d3, d4, d5⟩, df4⟩ := hp7.rules; rw [HNN.out] at d2; have HPc := Lib.hid hp7; clear hp7)
              have hq2 := HQ2.out
              rw [if_neg HN2.out, ← HL2c.out] at hq2
              have hfin := HPc.out.finish (t.col + n) (by rw [← hq2]; exact Kp.put_ok H.out.ok c)
              go_end0
              refine ⟨rfl, ?_⟩
              rw [hq2]
              exact hfin
        · have b1 : decide ((t.col : Int) + n < t.C) = false := by simp; omega
          have HL2c : Hid (l1 = l2) := Lib.hid (by rw [← HL2.out, if_neg (fun h => hc2 h.1)])
          clear hc2
          go_quiet (fail)
          have hp6 := HPc.out.drewN nq
          generalize W5.drewN nq = W6 at hp6 ⊢
          obtain ⟨⟨d0, d1, d2, d3, d4, d5⟩, df4⟩ := hp6.rules
          rw [HNN.out] at d2
          have HPc := Lib.hid hp6
          clear hp6
          by_cases hn2 : n = 2
          · have b2 : ((n : Int) == 2) = true := by simp; omega
            have hqN : q < N := by rw [← HQq.out]; exact HaN2.out hn2
            have HN2 := Lib.hid hn2
            clear hn2
            go_wp2_with ((with_reducible refine gate_store (t := 41) rfl ?_); refine store_put rfl _ _ rfl rfl rfl HPc.out (by rw [HLen.out]; omega) ?_; intro W7 hp7; obtain ⟨⟨d0, d1, d2, d3, d4, d5⟩, df4⟩ := hp7.rules; rw [HNN.out] at d2; have HPc := Lib.hid hp7; clear hp7)
            have hq2 := HQ2.out
            rw [if_pos HN2.out, ← HL2c.out, HQq.out] at hq2
            have hfin := HPc.out.finish (t.col + n) (by rw [← hq2]; exact Kp.put_ok H.out.ok c)
            go_end0
            refine ⟨rfl, ?_⟩
            rw [hq2]
            exact hfin
          · have b2 : ((n : Int) == 2) = false := by simp; omega
            have HN2 := Lib.hid hn2
            clear hn2
            go_wp2_with ((with_reducible refine gate_store (t := 41) rfl ?_); refine store_put rfl _ _ rfl rfl rfl HPc.out (by rw [HLen.out]; omega) ?_; intro W7 hp7; obtain ⟨⟨d0, d1, d2, d3, d4, d5⟩, df4⟩ := hp7.rules; rw [HNN.out] at d2; have HPc := Lib.hid hp7; clear hp7)
            have hq2 := HQ2.out
            rw [if_neg HN2.out, ← HL2c.out] at hq2
            have hfin := HPc.out.finish (t.col + n) (by rw [← hq2]; exact Kp.put_ok H.out.ok c)
            go_end0
            refine ⟨rfl, ?_⟩
            rw [hq2]
            exact hfin
      · have e0 : (r0 == 0) = false := by simp [hz]
        have hp5 : Putting W W4 base g gc t wv l1 := by have h := HP4.out; rwa [show t.l = l1 by rw [← HL1.out, if_neg hz]] at h
        clear hz
        go_wp2_with fail
        generalize W4 = W5 at *
        have HPc := Lib.hid hp5
        clear hp5
        by_cases hc2 : t.col + n < t.C
        · have heN : e < N := by rw [← HEe.out]; exact HeN.out hc2
          have b1 : decide ((t.col : Int) + n < t.C) = true := by simp; omega
          obtain ⟨k1, _⟩ := HPc.out.cells.cell e (by rw [HPc.out.len, HLen.out]; exact heN)
          obtain ⟨r1, hr1⟩ : ∃ r1, Kp.gr l1 e = r1 := ⟨_, rfl⟩
          rw [hr1] at k1
          by_cases hz1 : r1 = 0
          · have b3 : (r1 == 0) = true := by simp [hz1]
            have HL2c : Hid (l1.set e (32, 0) = l2) := Lib.hid (by rw [← HL2.out, HEe.out, if_pos ⟨hc2, hr1.trans hz1⟩])
            clear hr1 hz1 hc2
            go_quiet (fail)
            have hp6 := HPc.out.drewN nq
            generalize W5.drewN nq = W6 at hp6 ⊢
            obtain ⟨⟨d0, d1, d2, d3, d4, d5⟩, df4⟩ := hp6.rules
            rw [HNN.out] at d2
            have HPc := Lib.hid hp6
            clear hp6 k1
            by_cases hn2 : n = 2
            · have b2 : ((n : Int) == 2) = true := by simp; omega
              have hqN : q < N := by rw [← HQq.out]; exact HaN2.out hn2
              have HN2 := Lib.hid hn2
              clear hn2
              go_wp2_with ((with_reducible refine gate_store (t := 41) rfl ?_); refine store_put rfl _ _ rfl rfl rfl HPc.out (by rw [HLen.out]; omega) ?_; intro W7 hp7; obtain ⟨⟨d0, d1, d2, d3, d4, d5⟩, df4⟩ := hp7.rules; rw [HNN.out] at d2; have HPc := Lib.hid hp7; clear hp7)
              have hq2 := HQ2.out
              rw [if_pos HN2.out, ← HL2c.out, HQq.out] at hq2
              have hfin := HPc.out.finish (t.col + n) (by rw [← hq2]; exact Kp.put_ok H.out.ok c)
              go_end0
              refine ⟨rfl, ?_⟩
              rw [hq2]
              exact hfin
            · have b2 : ((n : Int) == 2) = false := by simp; omega
              have HN2 := Lib.hid hn2
              clear hn2
              go_wp2_with ((with_reducible refine gate_store (t := 41) rfl ?_); refine store_put rfl _ _ rfl rfl rfl HPc.out (by rw [HLen.out]; omega) ?_; intro W7 hp7; obtain ⟨⟨d0, d1, d2, d3, d4, d5⟩, df4⟩ := hp7.rules; rw [HNN.out] at d2; have HPc := Lib.hid hp7; clear hp7)
              have hq2 := HQ2.out
              rw [if_neg HN2.out, ← HL2c.out] at hq2
              have hfin := HPc.out.finish (t.col + n) (by rw [← hq2]; exact Kp.put_ok H.out.ok c)
              go_end0
              refine ⟨rfl, ?_⟩
              rw [hq2]
              exact hfin
          · have b3 : (r1 == 0) = false := by simp [hz1]
            have HL2c : Hid (l1 = l2) := Lib.hid (by rw [← HL2.out, HEe.out, if_neg (fun h => hz1 (hr1.symm.trans h.2))])
            clear hr1 hz1 hc2
            go_quiet (fail)
            have hp6 := HPc.out.drewN nq
            generalize W5.drewN nq = W6 at hp6 ⊢
            obtain ⟨⟨d0, d1, d2, d3, d4, d5⟩, df4⟩ := hp6.rules
            rw [HNN.out] at d2
            have HPc := Lib.hid hp6
            clear hp6 k1
            by_cases hn2 : n = 2
            · have b2 : ((n : Int) == 2) = true := by simp; omega
              have hqN : q < N := by rw [← HQq.out]; exact HaN2.out hn2
              have HN2 := Lib.hid hn2
              clear hn2
              go_wp2_with ((with_reducible refine gate_store (t := 41) rfl ?_); refine store_put rfl _ _ rfl rfl rfl HPc.out (by rw [HLen.out]; omega) ?_; intro W7 hp7; obtain ⟨⟨d0, d1, d2, d3, d4, d5⟩, df4⟩ := hp7.rules; rw [HNN.out] at d2; have HPc := Lib.hid hp7; clear hp7)
              have hq2 := HQ2.out
              rw [if_pos HN2.out, ← HL2c.out, HQq.out] at hq2
              have hfin := HPc.out.finish (t.col + n) (by rw [← hq2]; exact Kp.put_ok H.out.ok c)
              go_end0
              refine ⟨rfl, ?_⟩
              rw [hq2]
              exact hfin
            · have b2 : ((n : Int) == 2) = false := by simp; omega
              have HN2 := Lib.hid hn2
              clear hn2
              go_wp2_with ((with_reducible refine gate_store (t := 41) rfl ?_); refine store_put rfl _ _ rfl rfl rfl HPc.out (by rw [HLen.out]; omega) ?_; intro W7 hp7; obtain ⟨⟨d0, d1, d2, d3, d4, d5⟩, df4⟩ := hp7.rules; rw [HNN.out] at d2; have HPc := Lib.hid hp7; clear hp7)
              have hq2 := HQ2.out
              rw [if_neg HN2.out, ← HL2c.out] at hq2
              have hfin := HPc.out.finish (t.col + n) (by rw [← hq2]; exact Kp.put_ok H.out.ok c)
              go_end0
              refine ⟨rfl, ?_⟩
              rw [hq2]
              exact hfin
        · have b1 : decide ((t.col : Int) + n < t.C) = false := by simp; omega
          have HL2c : Hid (l1 = l2) := Lib.hid (by rw [← HL2.out, if_neg (fun h => hc2 h.1)])
          clear hc2
          go_quiet (fail)
          have hp6 := HPc.out.drewN nq
          generalize W5.drewN nq = W6 at hp6 ⊢
          obtain ⟨⟨d0, d1, d2, d3, d4, d5⟩, df4⟩ := hp6.rules
          rw [HNN.out] at d2
          have HPc := Lib.hid hp6
          clear hp6
          by_cases hn2 : n = 2
          · have b2 : ((n : Int) == 2) = true := by simp; omega
            have hqN : q < N := by rw [← HQq.out]; exact HaN2.out hn2
            have HN2 := Lib.hid hn2
            clear hn2
            go_wp2_with ((with_reducible refine gate_store (t := 41) rfl ?_); refine store_put rfl _ _ rfl rfl rfl HPc.out (by rw [HLen.out]; omega) ?_; intro W7 hp7; obtain ⟨⟨d0, d1, d2, d3, d4, d5⟩, df4⟩ := hp7.rules; rw [HNN.out] at d2; have HPc := Lib.hid hp7; clear hp7)
            have hq2 := HQ2.out
            rw [if_pos HN2.out, ← HL2c.out, HQq.out] at hq2
            have hfin := HPc.out.finish (t.col + n) (by rw [← hq2]; exact Kp.put_ok H.out.ok c)
            go_end0
            refine ⟨rfl, ?_⟩
            rw [hq2]
            exact hfin
          · have b2 : ((n : Int) == 2) = false := by simp; omega
            have HN2 := Lib.hid hn2
            clear hn2
            go_wp2_with ((with_reducible refine gate_store (t := 41) rfl ?_); refine store_put rfl _ _ rfl rfl rfl HPc.out (by rw [HLen.out]; omega) ?_; intro W7 hp7; obtain ⟨⟨d0, d1, d2, d3, d4, d5⟩, df4⟩ := hp7.rules; rw [HNN.out] at d2; have HPc := Lib.hid hp7; clear hp7)
            have hq2 := HQ2.out
            rw [if_neg HN2.out, ← HL2c.out] at hq2
            have hfin := HPc.out.finish (t.col + n) (by rw [← hq2]; exact Kp.put_ok H.out.ok c)
            go_end0
            refine ⟨rfl, ?_⟩
            rw [hq2]
            exact hfin
end Go.Proofs.YtbjckccgbmimpabGreatDoor

/- The walk of step. -/
namespace Go.Proofs.YtbjckccgbmimpabGreatDoor
open Go.RowKit Go.Proofs.YtbjckccgbmimpabGreatDoorW.PrintWords Go.Proofs.YtbjckccgbmimpabGreatDoorW.PrintLast Go.Proofs.YtbjckccgbmimpabGreatDoorW.PrintMore
theorem Kp.accStep_range (r x : Int) : -2147483648 ≤ Kp.accStep r x ∧ Kp.accStep r x ≤ 2147483647 := by
  unfold Kp.accStep Go.bits
  simp only [IntKind.wrap_i32]
  omega
theorem Kp.acc_range (r : Int) (u : List UInt8) (k : Nat) (hk : 0 < k) : -2147483648 ≤ Kp.acc r u k ∧ Kp.acc r u k ≤ 2147483647 := by
  cases k with
  | zero => omega
  | succ k => exact Kp.accStep_range _ _
theorem Kp.firstF_range (l : List UInt8) : -2147483648 ≤ (Kp.firstF l).1 ∧ (Kp.firstF l).1 ≤ 2147483647 := by
  unfold Kp.firstF
  have hn := Kp.shp_n (Kp.gb l 0)
  have hg := Kp.gb_range l 0
  split
  · simp
  · simp only
    split
    · simp
    · split
      · simp
      · split
        · simp
        · split
          · simp only; omega
          · rename_i h1 h2 h3
            simp only
            exact Kp.acc_range _ _ _ (by omega)
theorem TermPost.mk {w w' : World} {base g gc : Nat} {t' t2 : Kp.Tm} {wv : Value} {n : Int} {m : Nat} (h : Turned w w' base g gc t2 wv) (ht : t2 = t') (hn : n = m) : TermPost w base g gc t' wv (.int .i64 m) (.returned (.int .i64 n)) w' := by
  subst ht hn; exact ⟨rfl, h⟩
theorem Kp.stepT_esc (t : Kp.Tm) (l : List UInt8) (h : Kp.gb l 0 = 27) : Kp.stepT t l = ((Kp.escF l).1, Kp.doT t (Kp.escF l).2) := by unfold Kp.stepT; rw [if_neg (by rw [h]; decide)]
set_option maxRecDepth 100000 in
set_option maxHeartbeats 4000000 in
theorem step_calls (W : World) (base g gc : Nat) (t : Kp.Tm) (wv : Value) (A : Option Addr) (c : Nat) (l : List UInt8) (m : Int) (h : TermAt W base g gc t wv) (hr : RB W A l) (hc : l.length ≤ c) (hL : l.length ≤ 140737488355328) (hp : 0 < l.length) (hm : W.cell? ⟨5, 0, none⟩ = some (.int .i64 m)) :
    Calls Tryz.prog 23 #[.pointer (some ⟨g, 0, none⟩), .slice A l.length c] W (TermPost W base g gc (Kp.stepT t l).2 wv (.int .i64 (Kp.stepT t l).1)) := by
  have H := Lib.hid h
  have HR := Lib.hid hr
  have HM := Lib.hid hm
  have hgW : base ≤ W.heap.size := Nat.le_trans H.out.ge.1 (Nat.le_of_lt (blk_lt H.out.blk))
  obtain ⟨ad, rfl, hcell⟩ := hr.head hp
  obtain ⟨x, hx⟩ : ∃ x, Kp.gb l 0 = x := ⟨_, rfl⟩
  rw [hx] at hcell
  have hxr := Kp.gb_range l 0
  rw [hx] at hxr
  clear h hr hm
  by_cases h27 : x = 27
  · have hq := Kp.stepT_esc t l (hx.trans h27)
    have HQ := Lib.hid hq
    have b27 : (x != 27) = false := by simp [h27]
    clear hq hx h27
    by_cases hl1 : l.length = 1
    · have b1 : ((l.length : Int) == 1) = true := by simp; omega
      have he : Kp.escF l = (0, none) := by unfold Kp.escF; rw [if_pos hl1]
      have HE := Lib.hid he
      clear he hl1
      go_enter Tryz.func23, Tryz.ntmps23
      go_wp2_with fail
      go_ret
      exact TermPost.mk (Turned.refl H.out) (by rw [HQ.out, HE.out]; rfl) (by rw [HQ.out, HE.out]; rfl)
    · have b1 : ((l.length : Int) == 1) = false := by simp; omega
      obtain ⟨ad2, had2, hcell2⟩ := HR.out.at_ 1 (by omega)
      injection had2 with had2
      subst had2
      obtain ⟨y, hy⟩ : ∃ y, Kp.gb l 1 = y := ⟨_, rfl⟩
      rw [hy, show ad.add 1 = ⟨ad.block, ad.off + 1, none⟩ from rfl] at hcell2
      by_cases h91 : y = 91
      · have b91 : (y != 91) = false := by simp [h91]
        have hl2 : 2 ≤ l.length := by omega
        have he : Kp.escF l = Kp.escGo l (l.length - 2) 0 := by unfold Kp.escF; rw [if_neg hl1, if_neg (by rw [hy]; simp [h91])]
        obtain ⟨i0, hi0, _, hsz, _⟩ := info_parts Tryz.info5
        obtain ⟨A1, hcut, hA1⟩ := print_cut_of (P := Tryz.prog) eb 0 26 5 .i64 Tryz.underlying26 hi0 hsz (some ad) l.length c 2 hl2
        have hcut' : ∀ W : World, (Instr.slice 26 (.slice (some ad) l.length c) (some (.int .i64 2)) none none).run Tryz.prog W = .ok (.slice A1 (l.length - 2) (c - 2)) W := hcut
        obtain ⟨q, hq⟩ : ∃ q, l.drop 2 = q := ⟨_, rfl⟩
        have hql : l.length - 2 = q.length := by rw [← hq, List.length_drop]
        have hr1 := hA1 W l hc HR.out
        rw [hq] at hr1
        rw [hql] at hcut' hr1 he
        have HR1 : Hid (RB W A1 q) := hr1
        have HE := Lib.hid he
        have HQq := Lib.hid hq
        have hqL : q.length ≤ 140737488355328 := by omega
        have HQL := Lib.hid hql
        have h12 : (1 : Int) < l.length := by omega
        clear hA1 hcut hr1 hq hql he hl1 hy h91
        go_enter Tryz.func23, Tryz.ntmps23
        go_wp2_with fail
        clear hcut'
        go_loop [46] (fun v46 => ∃ i : Nat, i ≤ q.length ∧ v46 = .int .i64 i ∧ Hid (Kp.escF l = Kp.escGo l (q.length - i) i) ∧ Hid (i ≤ 30 ∨ i = q.length)) (fun v46 => q.length - (intOf v46).toNat)
        case atStart => exact ⟨0, by omega, rfl, by rw [Nat.sub_zero]; exact HE, Lib.hid (.inl (by omega))⟩
        case round =>
          obtain ⟨i, hi1, rfl, HS, HI⟩ := hrel
          by_cases hlt : i < q.length
          · have hi30 : i ≤ 30 := by have := HI.out; omega
            obtain ⟨z, hz⟩ : ∃ z, Kp.gb l (i + 2) = z := ⟨_, rfl⟩
            obtain ⟨ad1, rfl, hcell3⟩ := HR1.out.2.2 (by omega)
            have hcz : W.cell? (ad1.add i) = some (.int .u8 z) := by
              rw [hcell3 i hlt, ← hz, ← HQq.out]
              simp [Kp.gb, List.getD_eq_getElem?_getD, Nat.add_comm]
            have hzr := Kp.gb_range l (i + 2)
            rw [hz] at hzr
            have hstep : Kp.escF l = if 64 ≤ z ∧ z ≤ 126 then (i + 3, some (⟨((l.drop 2).take i).toArray⟩, z)) else if z < 32 ∨ 63 < z ∨ 30 ≤ i then (i + 3, none) else Kp.escGo l (q.length - (i + 1)) (i + 1) := by
              rw [HS.out, show q.length - i = (q.length - (i + 1)) + 1 from by omega, Kp.escGo, hz]
            have HStep := Lib.hid hstep
            clear hz hcell3 hstep HS HI
            by_cases hend : 64 ≤ z ∧ z ≤ 126
            · obtain ⟨A2, hcut2, hA2, hC2⟩ := print_mid_of (P := Tryz.prog) eb 0 26 5 .i64 .i64 Tryz.underlying26 hi0 hsz (some ad) c l 2 (2 + (i : Int)) (by omega) (by omega) (by have := HQL.out; omega) hc
              obtain ⟨u, hu⟩ : ∃ u, (l.take (2 + i)).drop 2 = u := ⟨_, rfl⟩
              have hu' : (l.take (Int.toNat (2 + (i : Int)))).drop (Int.toNat 2) = u := by
                rw [← hu, show Int.toNat (2 + (i : Int)) = 2 + i from by omega, show Int.toNat 2 = 2 from rfl]
              have hul : u.length ≤ 40 := by rw [← hu, List.length_drop, List.length_take]; omega
              rw [hu'] at hcut2 hA2 hC2
              have hstr := run_string_of (W := W) (c - 2) (hA2 W HR.out)
              have hu2 : (l.drop 2).take i = u := by rw [← hu, List.drop_take]; congr 1; omega
              have hF : Kp.escF l = (i + 3, some (⟨u.toArray⟩, z)) := by rw [HStep.out, if_pos hend, hu2]
              have HF := Lib.hid hF
              have d1 : decide (64 ≤ z) = true := by simp; omega
              have d2 : decide (z ≤ 126) = true := by simp; omega
              clear hA2 hu hu' hF hC2 hu2 hend
              go_wp2_with fail
              refine (sequence2_calls W base g gc t wv ⟨u.toArray⟩ z m H.out (by show u.toArray.size ≤ 900; rw [List.size_toArray]; omega) HM.out).mono ?_
              rintro e w2 ⟨rfl, htu⟩
              have HTu := Lib.hid htu
              clear htu
              go_wp2_with fail
              go_ret
              exact TermPost.mk HTu.out (by rw [HQ.out, HF.out]; rfl) (by rw [HQ.out, HF.out]; simp)
            · by_cases hbad : z < 32 ∨ 63 < z ∨ 30 ≤ i
              · have hF : Kp.escF l = (i + 3, none) := by rw [HStep.out, if_neg hend, if_pos hbad]
                have HF := Lib.hid hF
                clear hF
                have hcs : (decide (64 ≤ z) = false ∧ (z < 32 ∨ 63 < z ∨ 30 ≤ i)) ∨ (decide (64 ≤ z) = true ∧ decide (z ≤ 126) = false ∧ 63 < z) := by
                  by_cases h64 : 64 ≤ z
                  · exact .inr ⟨by simp; omega, by simp; omega, by omega⟩
                  · exact .inl ⟨by simp; omega, hbad⟩
                clear hend hbad
                rcases hcs with ⟨d1, hb⟩ | ⟨d1, d2, hb⟩
                · by_cases h32 : z < 32
                  · go_wp2_with fail
                    all_goals first
                      | (exfalso; omega)
                      | (go_ret; exact TermPost.mk (Turned.refl H.out) (by rw [HQ.out, HF.out]; rfl) (by rw [HQ.out, HF.out]; simp))
                  · by_cases h63 : 63 < z
                    · go_wp2_with fail
                      all_goals first
                        | (exfalso; omega)
                        | (go_ret; exact TermPost.mk (Turned.refl H.out) (by rw [HQ.out, HF.out]; rfl) (by rw [HQ.out, HF.out]; simp))
                    · have h30 : (30 : Int) ≤ i := by omega
                      go_wp2_with fail
                      all_goals first
                        | (exfalso; omega)
                        | (go_ret; exact TermPost.mk (Turned.refl H.out) (by rw [HQ.out, HF.out]; rfl) (by rw [HQ.out, HF.out]; simp))
                · have h32 : ¬ z < 32 := by omega
                  go_wp2_with fail
                  all_goals first
                    | (exfalso; omega)
                    | (go_ret; exact TermPost.mk (Turned.refl H.out) (by rw [HQ.out, HF.out]; rfl) (by rw [HQ.out, HF.out]; simp))
              · have hS2 : Kp.escF l = Kp.escGo l (q.length - (i + 1)) (i + 1) := by rw [HStep.out, if_neg hend, if_neg hbad]
                have HS2 := Lib.hid hS2
                have d1 : decide (64 ≤ z) = false := by simp; omega
                have e1 : decide (z < 32) = false := by simp; omega
                have e2 : decide (63 < z) = false := by simp; omega
                have e3 : decide (30 ≤ (i : Int)) = false := by simp; omega
                have hi31 : i + 1 ≤ 30 := by omega
                clear hS2 hend hbad
                go_wp2_with fail
                go_round
                case rel => exact ⟨i + 1, by omega, by go_num, HS2, Lib.hid (.inl hi31)⟩
                case measure => simp [intOf]; omega
          · have hie : i = q.length := by omega
            have hF : Kp.escF l = (0, none) := by rw [HS.out, hie, Nat.sub_self]; rfl
            have HF := Lib.hid hF
            clear hF hie
            go_wp2_with fail
            go_ret
            exact TermPost.mk (Turned.refl H.out) (by rw [HQ.out, HF.out]; rfl) (by rw [HQ.out, HF.out]; simp)
      · have b91 : (y != 91) = true := by simp [h91]
        have he : Kp.escF l = (2, none) := by unfold Kp.escF; rw [if_neg hl1, if_pos (by rw [hy]; exact h91)]
        have HE := Lib.hid he
        have hl2 : (1 : Int) < l.length := by omega
        clear he hl1 hy h91
        go_enter Tryz.func23, Tryz.ntmps23
        go_wp2_with fail
        go_ret
        exact TermPost.mk (Turned.refl H.out) (by rw [HQ.out, HE.out]; rfl) (by rw [HQ.out, HE.out]; rfl)
  · have b27 : (x != 27) = true := by simp [h27]
    by_cases hlow : x < 32 ∨ x = 127
    · have hq : Kp.stepT t l = (1, t) := by unfold Kp.stepT; rw [hx, if_pos h27, if_pos hlow]
      have HQ := Lib.hid hq
      clear hq hx h27
      rcases hlow with h1 | h1
      · go_enter Tryz.func23, Tryz.ntmps23
        go_wp2_with fail
        go_ret
        exact TermPost.mk (Turned.refl H.out) (by rw [HQ.out]) (by rw [HQ.out]; rfl)
      · have h2 : decide (x < 32) = false := by simp; omega
        have h3 : (x == 127) = true := by simp [h1]
        clear h1
        go_enter Tryz.func23, Tryz.ntmps23
        go_wp2_with fail
        go_ret
        exact TermPost.mk (Turned.refl H.out) (by rw [HQ.out]) (by rw [HQ.out]; rfl)
    · have h2 : decide (x < 32) = false := by simp; omega
      have h3 : (x == 127) = false := by simp; omega
      obtain ⟨hfr1, hfr2⟩ := Kp.firstF_n l
      have hfr3 := Kp.firstF_range l
      have hq : Kp.stepT t l = ((Kp.firstF l).2.toNat, if 0 < (Kp.firstF l).2 then Kp.put t (Kp.firstF l).1 else t) := by unfold Kp.stepT; rw [hx, if_pos h27, if_neg hlow]
      have HQ := Lib.hid hq
      clear hq hx h27 hlow
      go_enter Tryz.func23, Tryz.ntmps23
      go_wp2_with fail
      refine (first_calls _ c l W HR.out hc hL).mono ?_
      rintro e W2 ⟨rfl, hb2⟩
      obtain ⟨⟨r, n⟩, hf⟩ : ∃ y, Kp.firstF l = y := ⟨_, rfl⟩
      rw [hf] at hfr1 hfr2 hfr3 ⊢
      simp only at hfr1 hfr2 hfr3 ⊢
      have HF := Lib.hid hf
      have HB2 := Lib.hid hb2
      clear hf hb2
      by_cases hn : 0 < n
      · go_wp2_with fail
        refine (put_calls W2 base g gc t wv r hfr3 (H.out.below HB2.out)).mono ?_
        rintro e W3 ⟨rfl, htu⟩
        have HTu := Lib.hid (htu.pre HB2.out hgW)
        clear htu
        go_wp2_with fail
        go_ret
        exact TermPost.mk HTu.out (by rw [HQ.out, HF.out]; simp only; rw [if_pos hn]) (by rw [HQ.out, HF.out]; simp only; omega)
      · go_wp2_with fail
        go_ret
        exact TermPost.mk ((Turned.refl H.out).post hgW HB2.out) (by rw [HQ.out, HF.out]; simp only; rw [if_neg (by omega)]) (by rw [HQ.out, HF.out]; simp only; omega)
end Go.Proofs.YtbjckccgbmimpabGreatDoor

/- The walk of Write. -/
namespace Go.Proofs.YtbjckccgbmimpabGreatDoor
open Go.RowKit Go.Proofs.YtbjckccgbmimpabGreatDoorW.PrintWords Go.Proofs.YtbjckccgbmimpabGreatDoorW.PrintLast Go.Proofs.YtbjckccgbmimpabGreatDoorW.PrintMore
theorem rb5_cut (A : Option Addr) (n c j : Nat) (hj : j ≤ n) : ∃ A' : Option Addr, (∀ W : World, (Instr.slice 26 (.slice A n c) (some (.int .i64 (j : Int))) none none).run Tryz.prog W = .ok (.slice A' (n - j) (c - j)) W) ∧
    ∀ (w : World) (l : List UInt8), l.length = n → n ≤ c → RB5 w A l → RB5 w A' (l.drop j) := by
  obtain ⟨i0, hi, _, hsz, _⟩ := info_parts Tryz.info5
  refine ⟨if c = j then A else A.map (·.add j), fun W => ?_, fun w l hl hc h => ⟨?_, fun ad e => ?_⟩⟩
  · have hel : Tryz.prog.elem 26 = 5 := by simp [Program.elem, Tryz.underlying26]
    have hu : Tryz.prog.underlying 26 = some (.slice (Tryz.prog.elem 26)) := by rw [hel]; exact Tryz.underlying26
    rw [run_slice_l W 26 A n c hu .i64 (j : Int) (Int.natCast_nonneg _) (by omega), hel]
    simp [sizeOf, typeInfo, hi, hsz, sliced, Result.andThen]
  · have := ReadsOf.drop_ (c := c) h.rb j (by omega) (by omega)
    unfold RB
    rw [List.length_drop]
    exact this
  · by_cases hcj : c = j
    · rw [if_pos hcj] at e
      exact h.row ad e
    · rw [if_neg hcj] at e
      obtain ⟨ad0, e0, rfl⟩ := Option.map_eq_some_iff.1 e
      obtain ⟨cur, fr, hb⟩ := h.row ad0 e0
      exact ⟨cur, fr, by rw [add_block]; exact hb⟩
theorem own_RB5 {w : World} {base : Nat} {v : Value} {l : List UInt8} (h : w.ownsRow base 5 1 v (bz l).length (nums .u8 (bz l))) : ∃ A c, v = .slice A l.length c ∧ l.length ≤ c ∧ RB5 w A l := by
  obtain ⟨A, c, rfl, hc, hr⟩ := own_RB h
  refine ⟨A, c, rfl, hc, hr, fun ad e => ?_⟩
  subst e
  obtain ⟨cur, hb⟩ := own_blk (k := ad.block) h (by
    rcases h.2 with ⟨he, _⟩ | ⟨g, cap, cur, he, _⟩
    · cases he
    · injection he with he
      injection he with he
      subst he
      rfl)
  exact ⟨cur, _, hb⟩
/-- What the loop over the bytes keeps. -/
structure Reading (W wr : World) (base g gc : Nat) (wv : Value) (S : Nat → Prop) (t0 t : Kp.Tm) (all rest : List UInt8) (A : Option Addr) : Prop where
  at_ : ∃ gc', (gc' = gc ∨ W.heap.size ≤ gc') ∧ TermAt wr base g gc' t wv
  rb : RB5 wr A rest
  kept : Kept W wr S
  below : Below base W wr
  val : Kp.run t0 all = Kp.run t rest
theorem Reading.next {W wr w2 : World} {base g gc gc' : Nat} {wv : Value} {S : Nat → Prop} {t0 t t2 : Kp.Tm} {all rest : List UInt8} {A : Option Addr} (h : Reading W wr base g gc wv S t0 t all rest A) (hat : TermAt wr base g gc' t wv) (hgc : gc' = gc ∨ W.heap.size ≤ gc') (hS1 : S g) (hS2 : S gc)
    (htu : Turned wr w2 base g gc' t2 wv) (hv : Kp.run t rest = Kp.run t2 (rest.drop 0)) : Reading W w2 base g gc wv S t0 t2 all rest A := by
  obtain ⟨gc2, h1, h2⟩ := htu.at_
  refine ⟨⟨gc2, ?_, h2⟩, h.rb.kept htu.kept (fun ad e hs => ?_), h.kept.then_ htu.kept (fun k hk => ?_), h.below.trans htu.below, h.val.trans (by rw [hv, List.drop_zero])⟩
  · rcases h1 with rfl | h1
    · exact hgc
    · exact .inr (Nat.le_trans h.kept.1 h1)
  · rcases hs with hs | hs
    · exact h.rb.ne hat.blk (by decide) ad e hs
    · exact h.rb.ne hat.cells (by decide) ad e hs
  · rcases hk with rfl | rfl
    · exact .inl hS1
    · rcases hgc with rfl | e
      · exact .inl hS2
      · exact .inr e
theorem Reading.cut {W wr : World} {base g gc : Nat} {wv : Value} {S : Nat → Prop} {t0 t : Kp.Tm} {all rest q : List UInt8} {A A' : Option Addr} (h : Reading W wr base g gc wv S t0 t all rest A) (hrb : RB5 wr A' q) (hv : Kp.run t rest = Kp.run t q) : Reading W wr base g gc wv S t0 t all q A' :=
  ⟨h.at_, hrb, h.kept, h.below, h.val.trans hv⟩
/-- What Write comes to. -/
structure Written (W w' : World) (base g gc : Nat) (wv : Value) (t' : Kp.Tm) (rest : List UInt8) : Prop where
  at_ : ∃ gc' v', (gc' = gc ∨ W.heap.size ≤ gc') ∧ TermAt w' base g gc' t' v' ∧ w'.ownsRow base 5 1 v' (bz rest).length (nums .u8 (bz rest)) ∧ ∀ k, v'.ownBlock = some k → W.heap.size ≤ k
  kept : Kept W w' (fun k => k = g ∨ k = gc ∨ some k = wv.ownBlock)
  below : Below base W w'
def WrittenPost (W : World) (base g gc : Nat) (wv : Value) (t' : Kp.Tm) (rest : List UInt8) (e : Ending) (w' : World) : Prop := e = .returned (.tuple #[]) ∧ Written W w' base g gc wv t' rest
theorem TermAt.set6 {w : World} {base g gc : Nat} {t : Kp.Tm} {wv : Value} (h : TermAt w base g gc t wv) (v : Value) : TermAt (w.setCell ⟨g, 6, none⟩ v) base g gc t v :=
  ⟨blk_put h.blk 6 _ rfl, h.cells.kept (S := fun k => k = g) (Kept.setCell (Kept.refl w (fun k => k = g)) (p := ⟨g, 6, none⟩) (.inl rfl) _) (fun e => h.ne e.symm), h.ge, h.ok⟩
/-- The end: what waits is laid into a row of its own. -/
theorem Reading.done {W wr w5 : World} {base g gc r : Nat} {wv v5 : Value} {t0 t : Kp.Tm} {all rest : List UInt8} {A : Option Addr} (h : Reading W wr base g gc wv (fun k => k = g ∨ k = gc ∨ some k = wv.ownBlock) t0 t all rest A) (hB : base ≤ W.heap.size) (hr : r = wr.heap.size)
    (hg5 : (wr.alloc (.cells #[] 5)).grownBy w5 (Value.slice (some ⟨r, 0, none⟩) 0 0).ownBlock) (o5 : w5.ownsRow wr.heap.size 5 1 v5 ([] ++ bz rest).length (nums .u8 ([] ++ bz rest)))
    (ob : v5.ownBlock = (Value.slice (some ⟨r, 0, none⟩) 0 0).ownBlock ∨ ∃ b, v5.ownBlock = some b ∧ (wr.alloc (.cells #[] 5)).heap.size ≤ b) :
    Hid (w5.cell? ⟨g, 6, none⟩ = some wv) ∧ Hid (w5.frozen? ⟨g, 6, none⟩ = false) ∧ Hid (Written W (w5.setCell ⟨g, 6, none⟩ v5) base g gc wv t rest) := by
  subst hr
  obtain ⟨gc', h1, hat⟩ := h.at_
  have hk5 : Kept wr w5 (fun _ => False) := Kept.of_grown hg5 ((Kept.refl wr _).alloc _) (fun k hk => by
    simp only [Value.ownBlock, Option.some.injEq] at hk
    exact .inr (by omega))
  have hat5 := hat.kept hk5 (fun h => h) (fun h => h)
  have hb5 : Below wr.heap.size wr w5 := Below.grown (below_alloc (Below.refl wr.heap.size wr) (.cells #[] 5)) hg5 (by simp) (fun k hk => by
    simp only [Value.ownBlock, Option.some.injEq] at hk; omega)
  have obk : ∀ k, v5.ownBlock = some k → wr.heap.size ≤ k := fun k hk => (o5.lt k hk).1
  have hWr : W.heap.size ≤ wr.heap.size := h.kept.1
  have hgl : g < wr.heap.size := blk_lt hat.blk
  have kg : Kept w5 (w5.setCell ⟨g, 6, none⟩ v5) (fun k => k = g) := Kept.setCell (S := fun k => k = g) (Kept.refl w5 _) (p := ⟨g, 6, none⟩) (.inl rfl) _
  refine ⟨(blk_cell hat5.blk 6).trans rfl, blk_frozen hat5.blk 6, ⟨⟨gc', v5, h1, hat5.set6 v5, ?_, fun k hk => Nat.le_trans hWr (obk k hk)⟩, ?_, ?_⟩⟩
  · rw [List.nil_append] at o5
    exact own_kept (own_less o5 (Nat.le_trans hB hWr)) kg (fun k hk e => by have := obk k hk; omega)
  · exact (h.kept.then_ hk5 (fun k hk => hk.elim)).setCell (p := ⟨g, 6, none⟩) (.inl (.inl rfl)) _
  · exact (h.below.trans (hb5.mono (Nat.le_trans hB hWr))).setCell (p := ⟨g, 6, none⟩) hat.ge.1 _
set_option maxRecDepth 100000 in
set_option maxHeartbeats 4000000 in
theorem Write_calls (W : World) (base g gc : Nat) (t : Kp.Tm) (wA : Option Addr) (wc : Nat) (wl bs : List UInt8) (A : Option Addr) (c : Nat) (m : Int) (h : TermAt W base g gc t (.slice wA wl.length wc))
    (ho : W.ownsRow base 5 1 (.slice wA wl.length wc) (bz wl).length (nums .u8 (bz wl))) (hr : RB W A bs) (hL : wl.length + bs.length ≤ 1000000) (h3 : 5 < base) (hm : W.cell? ⟨5, 0, none⟩ = some (.int .i64 m)) :
    Calls Tryz.prog 12 #[.pointer (some ⟨g, 0, none⟩), .slice A bs.length c] W (WrittenPost W base g gc (.slice wA wl.length wc) (Kp.run t (wl ++ bs)).1 (Kp.run t (wl ++ bs)).2) := by
  have hgW : base ≤ W.heap.size := Nat.le_trans h.ge.1 (Nat.le_of_lt (blk_lt h.blk))
  obtain ⟨⟨_, _, _, _, _, _, c6⟩, _⟩ := h.rules
  have H := Lib.hid h
  have HO := Lib.hid ho
  have HR := Lib.hid hr
  have HM := Lib.hid hm
  clear h ho hr hm
  go_enter Tryz.func12, Tryz.ntmps12
  go_wp2_with (at_builtin; refine print_append_row (w0 := W) base rfl _ _ 26 5 .u8 1 rfl Tryz.underlying26 Tryz.info5 (by decide) (.slice wA wl.length wc) (bz wl) (bz bs) A bs.length c rfl rfl HO.out HR.out.ints (Below.refl _ _) hgW (by rw [bz_length]; omega) ?_; intro v1 w1 hown hB1 hg hat; have HO1 := Lib.hid hown; have HB1 := Lib.hid hB1; have HG1 := Lib.hid hg; clear hown hB1 hg hat)
  obtain ⟨all, hall⟩ : ∃ all, wl ++ bs = all := ⟨_, rfl⟩
  have hallL : all.length ≤ 1000000 := by rw [← hall, List.length_append]; exact hL
  have ho1 : w1.ownsRow base 5 1 v1 (bz all).length (nums .u8 (bz all)) := by rw [← hall, bz_append]; exact HO1.out
  obtain ⟨A1, c1, rfl, hc1, hrb⟩ := own_RB5 ho1
  have hk1 : Kept W w1 (fun k => k = g ∨ k = gc ∨ some k = (Value.slice wA wl.length wc).ownBlock) := Kept.of_grown HG1.out (Kept.refl W _) (fun k hk => .inl (.inr (.inr hk.symm)))
  have hne1 := own_ne_blk HO.out H.out.blk (by decide)
  have hne2 := own_ne_blk HO.out H.out.cells (by decide)
  have hat1 : TermAt w1 base g gc t (.slice wA wl.length wc) := H.out.kept (S := fun k => some k = (Value.slice wA wl.length wc).ownBlock) (Kept.of_grown HG1.out (Kept.refl W _) (fun k hk => .inl hk.symm)) (fun e => hne1 _ e.symm rfl) (fun e => hne2 _ e.symm rfl)
  have hstart : Reading W w1 base g gc (.slice wA wl.length wc) (fun k => k = g ∨ k = gc ∨ some k = (Value.slice wA wl.length wc).ownBlock) t t all all A1 := ⟨⟨gc, .inl rfl, hat1⟩, hrb, hk1, HB1.out, rfl⟩
  have HSt := Lib.hid hstart
  have HAll := Lib.hid hall
  clear ho1 hrb hk1 hne1 hne2 hat1 hstart hall HO1 c6
  go_loopw [4, 5] (fun v4 v5 wr => ∃ (A2 : Option Addr) (c2 : Nat) (rest : List UInt8) (t2 : Kp.Tm), v4 = .slice A2 rest.length c2 ∧ rest.length ≤ c2 ∧ rest.length ≤ 1000000 ∧ Hid (Reading W wr base g gc (.slice wA wl.length wc) (fun k => k = g ∨ k = gc ∨ some k = (Value.slice wA wl.length wc).ownBlock) t t2 all rest A2)) (fun v4 _ _ => lenOfV v4)
  case atStart => exact ⟨A1, c1, all, t, rfl, hc1, hallL, HSt.out⟩
  case round =>
    clear HSt
    obtain ⟨A2, c2, rest, t2, rfl, hc2, hlen, HRd⟩ := hrel
    by_cases hr0 : 0 < rest.length
    · obtain ⟨gc2, hgc2, hat2⟩ := HRd.out.at_
      have hm2 : wr.cell? ⟨5, 0, none⟩ = some (.int .i64 m) := (HRd.out.below.cell (p := ⟨5, 0, none⟩) h3).trans HM.out
      have hst := step_calls wr base g gc2 t2 _ A2 c2 rest m hat2 HRd.out.rb.rb hc2 (by omega) hr0 hm2
      have HSt := Lib.hid hst
      have HAt2 := Lib.hid hat2
      have HGc2 := Lib.hid hgc2
      clear hst hat2 hgc2 hm2
      go_wp2_with fail
      refine HSt.out.mono ?_
      rintro e w2 ⟨rfl, htu⟩
      have hle := Kp.stepT_le t2 rest hr0
      obtain ⟨n, hn⟩ : ∃ n, (Kp.stepT t2 rest).1 = n := ⟨_, rfl⟩
      rw [hn] at hle ⊢
      by_cases hn0 : n = 0
      · have hz := Kp.stepT_zero t2 rest (by rw [hn, hn0])
        rw [hz] at htu
        have hrd := HRd.out.next HAt2.out HGc2.out (.inl rfl) (.inr (.inl rfl)) htu (by rw [List.drop_zero])
        have hstop := Kp.run_stop t2 rest (.inr (by rw [hn, hn0]))
        have hfin : Kp.run t all = (t2, rest) := hrd.val.trans hstop
        have HRd2 := Lib.hid hrd
        have HFin := Lib.hid hfin
        have b0 : ((n : Int) == 0) = true := by simp [hn0]
        have hs2 : base ≤ w2.heap.size := Nat.le_trans hgW hrd.kept.1
        clear hrd hstop hfin hz htu hn hn0 HRd HSt
        go_wp2_with (at_builtin; refine print_append_row (w0 := w2.alloc (.cells #[] 5)) w2.heap.size rfl _ _ 26 5 .u8 1 rfl Tryz.underlying26 Tryz.info5 (by decide) (.slice (some ⟨w2.heap.size, 0, none⟩) 0 0) [] (bz rest) A2 rest.length c2 rfl rfl (own_empty (Nat.le_refl _) rfl) (RB.ints (HRd2.out.rb.rb.below (below_alloc (Below.refl _ _) _))) (Below.refl _ _) (by simp) (by first | omega | (simp; omega)) ?_; intro v5 w5 hown _ hg hat; obtain ⟨A5, c5, rfl⟩ := own_slice hown; obtain ⟨Hc, Hf, HW⟩ := HRd2.out.done hgW rfl hg hown hat; have hcg := Hc.out; have hfg := Hf.out; clear hown hg hat)
        go_end0
        exact ⟨rfl, by rw [HAll.out, HFin.out]; exact HW.out⟩
      · have b0 : ((n : Int) == 0) = false := by simp; omega
        have hrun := Kp.run_step t2 rest hr0 (by rw [hn]; exact hn0)
        rw [hn] at hrun
        obtain ⟨A3, hcut, hA3⟩ := rb5_cut A2 rest.length c2 n hle
        obtain ⟨q, hq⟩ : ∃ q, rest.drop n = q := ⟨_, rfl⟩
        have hql : rest.length - n = q.length := by rw [← hq, List.length_drop]
        rw [hql] at hcut
        have htu2 := htu
        obtain ⟨gc3, hg3, hat3⟩ := htu.at_
        have hrb2 : RB5 w2 A2 rest := HRd.out.rb.kept htu.kept (fun ad e hs => by
          rcases hs with hs | hs
          · exact HRd.out.rb.ne HAt2.out.blk (by decide) ad e hs
          · exact HRd.out.rb.ne HAt2.out.cells (by decide) ad e hs)
        have hrb3 := hA3 w2 rest rfl hc2 hrb2
        rw [hq] at hrb3 hrun
        have hrd : Reading W w2 base g gc (.slice wA wl.length wc) (fun k => k = g ∨ k = gc ∨ some k = (Value.slice wA wl.length wc).ownBlock) t (Kp.stepT t2 rest).2 all q A3 := by
          refine ⟨⟨gc3, ?_, hat3⟩, hrb3, HRd.out.kept.then_ htu.kept (fun k hk => ?_), HRd.out.below.trans htu.below, HRd.out.val.trans hrun⟩
          · rcases hg3 with e | e
            · rw [e]; exact HGc2.out
            · exact .inr (Nat.le_trans HRd.out.kept.1 e)
          · rcases hk with rfl | rfl
            · exact .inl (.inl rfl)
            · rcases HGc2.out with e | e
              · exact .inl (.inr (.inl e))
              · exact .inr e
        have HRd2 := Lib.hid hrd
        have hqc : q.length ≤ c2 - n := by omega
        have hq1 : q.length + 1 ≤ rest.length := by omega
        have hnI : (n : Int) ≤ rest.length := by omega
        clear hrd hrun hA3 hq hql htu htu2 hg3 hat3 hrb2 hrb3 hn hn0 HRd HSt
        go_wp2_with fail
        go_roundw
        case rel => exact ⟨A3, c2 - n, q, _, rfl, hqc, by omega, HRd2.out⟩
        case measure => simp [lenOfV]; omega
    · have hstop := Kp.run_stop t2 rest (.inl (by omega))
      have hfin : Kp.run t all = (t2, rest) := HRd.out.val.trans hstop
      have HFin := Lib.hid hfin
      have hs2 : base ≤ wr.heap.size := Nat.le_trans hgW HRd.out.kept.1
      have hr00 : rest.length = 0 := by omega
      clear hstop hfin
      go_wp2_with (at_builtin; refine print_append_row (w0 := wr.alloc (.cells #[] 5)) wr.heap.size rfl _ _ 26 5 .u8 1 rfl Tryz.underlying26 Tryz.info5 (by decide) (.slice (some ⟨wr.heap.size, 0, none⟩) 0 0) [] (bz rest) A2 rest.length c2 rfl rfl (own_empty (Nat.le_refl _) rfl) (RB.ints (HRd.out.rb.rb.below (below_alloc (Below.refl _ _) _))) (Below.refl _ _) (by simp) (by first | omega | (simp; omega)) ?_; intro v5 w5 hown _ hg hat; obtain ⟨A5, c5, rfl⟩ := own_slice hown; obtain ⟨Hc, Hf, HW⟩ := HRd.out.done hgW rfl hg hown hat; have hcg := Hc.out; have hfg := Hf.out; clear hown hg hat)
      go_end0
      exact ⟨rfl, by rw [HAll.out, HFin.out]; exact HW.out⟩
end Go.Proofs.YtbjckccgbmimpabGreatDoor
