/- The walk of put. -/
import Derived.Test.YtbjckccgbmimpabDoorV16
import Derived.Deep.MidRow
namespace Go.Proofs.YtbjckccgbmimpabDoor
open Go.RowKit Go.Proofs.YtbjckccgbmimpabDoorW.PrintWords Go.Proofs.YtbjckccgbmimpabDoorW.PrintLast Go.Proofs.YtbjckccgbmimpabDoorW.PrintMore
theorem odd_true (c : Int) (hc : -2147483648 ≤ c ∧ c ≤ 2147483647) (W : World) (h : Kp.odd c) : Calls Tryd.prog 20 #[.int .i32 c] W fun e w' => e = .returned (.bool true) ∧ Below W.heap.size W w' :=
  (odd_calls c hc W).mono fun _ _ ⟨b, he, hi, hb⟩ => ⟨by rw [he, hi.2 h], hb⟩
theorem odd_false (c : Int) (hc : -2147483648 ≤ c ∧ c ≤ 2147483647) (W : World) (h : ¬ Kp.odd c) : Calls Tryd.prog 20 #[.int .i32 c] W fun e w' => e = .returned (.bool false) ∧ Below W.heap.size W w' :=
  (odd_calls c hc W).mono fun _ _ ⟨b, he, hi, hb⟩ => ⟨by
    cases b
    · rw [he]
    · exact absurd (hi.1 rfl) h, hb⟩
/-- A terminal while a rune is put. -/
structure Putting (W w : World) (base g gc : Nat) (t : Kp.Tm) (wv : Value) (l : List Cell) : Prop where
  blk : w.heap[g]? = some (.cells (termCells t gc wv) 62 (0, 0))
  cells : CellsAt w gc l
  kept : Kept W w (fun k => k = g ∨ k = gc)
  below : Below base W w
  len : l.length = t.l.length
  ne : g ≠ gc
  ge : base ≤ g ∧ base ≤ gc
theorem Putting.start {W w : World} {base g gc : Nat} {t : Kp.Tm} {wv : Value} (h : TermAt W base g gc t wv) (hb : Below W.heap.size W w) (hB : base ≤ W.heap.size) : Putting W w base g gc t wv t.l :=
  ⟨(h.below hb).blk, (h.below hb).cells, Kept.of_below hb _, hb.mono hB, rfl, h.ne, h.ge⟩
theorem Putting.below_ {W w w' : World} {base g gc : Nat} {t : Kp.Tm} {wv : Value} {l : List Cell} (h : Putting W w base g gc t wv l) (hB : base ≤ w.heap.size) (hb : Below w.heap.size w w') : Putting W w' base g gc t wv l :=
  ⟨blk_below h.blk hb, h.cells.kept (S := fun _ => False) ((Kept.refl w _).below hb) (fun h => h), h.kept.below hb, h.below.trans (hb.mono hB), h.len, h.ne, h.ge⟩
theorem Putting.drew_ {W w : World} {base g gc : Nat} {t : Kp.Tm} {wv : Value} {l : List Cell} (h : Putting W w base g gc t wv l) : Putting W w.drew base g gc t wv l := ⟨h.blk, h.cells, h.kept, below_drew h.below, h.len, h.ne, h.ge⟩
theorem Putting.drewN {W w : World} {base g gc : Nat} {t : Kp.Tm} {wv : Value} {l : List Cell} (h : Putting W w base g gc t wv l) (n : Nat) : Putting W (w.drewN n) base g gc t wv l := ⟨h.blk, h.cells, h.kept, pw_below_drewN h.below n, h.len, h.ne, h.ge⟩
theorem Putting.rules {W w : World} {base g gc : Nat} {t : Kp.Tm} {wv : Value} {l : List Cell} (h : Putting W w base g gc t wv l) :
    (w.cell? ⟨g, 0, none⟩ = some (.int .i64 t.R) ∧ w.cell? ⟨g, 1, none⟩ = some (.int .i64 t.C) ∧ w.cell? ⟨g, 2, none⟩ = some (.slice (some ⟨gc, 0, none⟩) (t.R * t.C) (t.R * t.C)) ∧ w.cell? ⟨g, 3, none⟩ = some (.int .i64 t.row)
    ∧ w.cell? ⟨g, 4, none⟩ = some (.int .i64 t.col) ∧ w.cell? ⟨g, 5, none⟩ = some (.int .i64 t.st)) ∧ w.frozen? ⟨g, 4, none⟩ = false :=
  ⟨⟨(blk_cell h.blk 0).trans rfl, (blk_cell h.blk 1).trans rfl, (blk_cell h.blk 2).trans rfl, (blk_cell h.blk 3).trans rfl, (blk_cell h.blk 4).trans rfl, (blk_cell h.blk 5).trans rfl⟩, blk_frozen h.blk 4⟩
theorem ccs_set (l : List Cell) (i : Nat) (r s : Int) (h : i < l.length) : ((ccs l).set (i * 2) (.int .i32 r)).set (i * 2 + 1) (.int .i64 s) = ccs (l.set i (r, s)) := by
  rw [ccs_set_r l i r h, ccs_set_s _ i s (by simpa using h)]
  have e : Kp.gr (l.set i (r, Kp.gs l i)) i = r := by rw [Kp.gr_set _ _ _ _ h, if_pos rfl]
  rw [e, List.set_set]
theorem info57s : (Tryd.prog.info? 57).map (·.size) = some 2 := by kernel_rfl
theorem store_put {W w : World} {base g gc : Nat} {t : Kp.Tm} {wv : Value} {l : List Cell} {i : Nat} {r s : Int} {ops : Array Oper} {rest : List Oper} {o : Oper} {a : Act} {Q : Exit → Act → World → Prop} (hgd : o.guard = none) (x y : Operand) (ho : o.op = .store 57 x y)
    (hx : a.eval x = .pointer (some ⟨gc, i * 2, none⟩)) (hy : a.eval y = .agg #[.int .i32 r, .int .i64 s]) (h : Putting W w base g gc t wv l) (hi : i < t.l.length)
    (hk : ∀ W2, Putting W W2 base g gc t wv (l.set i (r, s)) → wpList Tryd.prog ops Q rest (a.put o.dst undef) W2) : wpList Tryd.prog ops Q (o :: rest) a w := by
  have hil : i < l.length := by rw [h.len]; exact hi
  obtain ⟨a1, a2⟩ := h.cells.cell i hil
  refine wpList_store_mid hgd 57 x y ho gc (i * 2) #[.int .i32 r, .int .i64 s] hx hy (fun j hj => ?_) info57s (by simp [Value.oneCell']) (hk _ ?_)
  · have hj2 : j = 0 ∨ j = 1 := by simp at hj; omega
    rcases hj2 with rfl | rfl
    · exact ⟨by rw [Nat.add_zero, a1]; rfl, h.cells.free _⟩
    · exact ⟨by rw [a2]; rfl, h.cells.free _⟩
  · have e : w.setCells gc (i * 2) [.int .i32 r, .int .i64 s] = (w.setCell ⟨gc, i * 2, none⟩ (.int .i32 r)).setCell ⟨gc, i * 2 + 1, none⟩ (.int .i64 s) := rfl
    show Putting W (w.setCells gc (i * 2) [.int .i32 r, .int .i64 s]) base g gc t wv (l.set i (r, s))
    rw [e]
    refine ⟨blk_far (blk_far h.blk (p := ⟨gc, i * 2, none⟩) h.ne _) (p := ⟨gc, i * 2 + 1, none⟩) h.ne _, ?_, (h.kept.setCell (p := ⟨gc, i * 2, none⟩) (.inl (.inr rfl)) _).setCell (p := ⟨gc, i * 2 + 1, none⟩) (.inl (.inr rfl)) _,
      (h.below.setCell (p := ⟨gc, i * 2, none⟩) h.ge.2 _).setCell (p := ⟨gc, i * 2 + 1, none⟩) h.ge.2 _, by simpa using h.len, h.ne, h.ge⟩
    refine blk_put (cs := ((ccs l).set (i * 2) (.int .i32 r)).toArray) (blk_put h.cells (i * 2) _ (by simp)) (i * 2 + 1) _ ?_
    rw [← ccs_set l i r s hil]
    simp
theorem Putting.finish {W w : World} {base g gc : Nat} {t : Kp.Tm} {wv : Value} {l : List Cell} (h : Putting W w base g gc t wv l) (m : Nat) (hok : Kp.Tm.OK { t with l := l, col := m }) : Turned W (w.setCell ⟨g, 4, none⟩ (.int .i64 m)) base g gc { t with l := l, col := m } wv :=
  ⟨⟨gc, .inl rfl, ⟨blk_put h.blk 4 _ rfl, h.cells.kept (S := fun k => k = g) (Kept.setCell (Kept.refl w (fun k => k = g)) (p := ⟨g, 4, none⟩) (.inl rfl) _) (fun e => h.ne e.symm), h.ge, hok⟩⟩, term_kept h.kept, h.below.setCell (p := ⟨g, 4, none⟩) h.ge.1 _⟩
set_option maxRecDepth 100000 in
set_option maxHeartbeats 8000000 in
theorem put_calls (W : World) (base g gc : Nat) (t : Kp.Tm) (wv : Value) (c : Int) (hc : -2147483648 ≤ c ∧ c ≤ 2147483647) (h : TermAt W base g gc t wv) :
    Calls Tryd.prog 36 #[.pointer (some ⟨g, 0, none⟩), .int .i32 c] W (TermPost W base g gc (Kp.put t c) wv (.tuple #[])) := by
  have H := Lib.hid h
  have hgW : base ≤ W.heap.size := Nat.le_trans H.out.ge.1 (Nat.le_of_lt (blk_lt H.out.blk))
  clear h
  go_enter Tryd.func36, Tryd.ntmps36
  go_wp2_with fail
  refine (of_calls c hc W).mono ?_
  rintro e W2 ⟨rfl, hb2⟩
  have HB2 := Lib.hid hb2
  clear hb2
  by_cases ho : Kp.odd c
  · have hq : Kp.put t c = t := by unfold Kp.put; rw [if_pos (.inl ho)]
    have HQ := Lib.hid hq
    have HO := Lib.hid ho
    clear hq ho
    go_wp2_with fail
    refine start_ (n := 16) (S := fun _ => True) (ds := []) #[false, false, false, false, false, false, false, false, false, false, false, false, false, false, false, false] (by kernel_rfl) rfl rfl trivial (fun _ => ?_)
    refine pure_ (i := 0) (N := some 10) (v := ?_) (a' := ?_) #[true, false, false, false, false, false, false, false, false, false, false, false, false, false, false, false] rfl rfl (by kernel_rfl) (fun _ _ _ h => h) (Or.inl ⟨by rfl, ?_⟩) ?_ ?_
    rotate_left
    · intro w'
      go_simp
      with_reducible rfl
    rotate_left
    · simp only [Act.put, List.setIfInBounds_toArray, List.set_cons_zero, List.set_cons_succ]
      rfl
    refine one_ (i := 1) (N := some 11) #[true, true, false, false, false, false, false, false, false, false, false, false, false, false, false, false] rfl rfl (by kernel_rfl) (by decide) (fun K hK => ?_)
    refine goes_ Tryd.func20 (by kernel_rfl) rfl #[.int .i32 c] (by rfl) rfl rfl (by simp [Act.eval]) ?_
    refine (odd_true c hc _ HO.out).mono ?_
    rintro e W3 ⟨rfl, hb3⟩
    have HB3 := Lib.hid (below_step (below_drew HB2.out) hb3)
    clear hb3
    refine ⟨_, rfl, hK _ _ trivial (fun _ => ?_)⟩
    clear hK K
    refine norm_ (by simp only [Act.put, List.setIfInBounds_toArray, List.set_cons_zero, List.set_cons_succ]; rfl) ?_
    refine pure_ (i := 2) (N := some 12) (v := ?_) (a' := ?_) #[true, true, true, false, false, false, false, false, false, false, false, false, false, false, false, false] rfl rfl (by kernel_rfl) (fun _ _ _ h => h) (Or.inl ⟨by rfl, ?_⟩) ?_ ?_
    rotate_left
    · intro w'
      go_simp
      with_reducible rfl
    rotate_left
    · simp only [Act.put, List.setIfInBounds_toArray, List.set_cons_zero, List.set_cons_succ]
      rfl
    refine pure_ (i := 3) (N := some 13) (v := undef) (a' := ?_) #[true, true, true, true, false, false, false, false, false, false, false, false, false, false, false, false] rfl rfl (by kernel_rfl) (fun _ _ _ h => h) (Or.inr ⟨by rfl, rfl⟩) ?_ ?_
    rotate_left
    · simp only [Act.put, List.setIfInBounds_toArray, List.set_cons_zero, List.set_cons_succ]
      rfl
    refine pure_ (i := 4) (N := some 14) (v := undef) (a' := ?_) #[true, true, true, true, true, false, false, false, false, false, false, false, false, false, false, false] rfl rfl (by kernel_rfl) (fun _ _ _ h => h) (Or.inr ⟨by rfl, rfl⟩) ?_ ?_
    rotate_left
    · simp only [Act.put, List.setIfInBounds_toArray, List.set_cons_zero, List.set_cons_succ]
      rfl
    refine pure_ (i := 5) (N := some 15) (v := undef) (a' := ?_) #[true, true, true, true, true, true, false, false, false, false, false, false, false, false, false, false] rfl rfl (by kernel_rfl) (fun _ _ _ h => h) (Or.inr ⟨by rfl, rfl⟩) ?_ ?_
    rotate_left
    · simp only [Act.put, List.setIfInBounds_toArray, List.set_cons_zero, List.set_cons_succ]
      rfl
    refine pure_ (i := 6) (N := some 16) (v := undef) (a' := ?_) #[true, true, true, true, true, true, true, false, false, false, false, false, false, false, false, false] rfl rfl (by kernel_rfl) (fun _ _ _ h => h) (Or.inr ⟨by rfl, rfl⟩) ?_ ?_
    rotate_left
    · simp only [Act.put, List.setIfInBounds_toArray, List.set_cons_zero, List.set_cons_succ]
      rfl
    refine pure_ (i := 7) (N := some 17) (v := undef) (a' := ?_) #[true, true, true, true, true, true, true, true, false, false, false, false, false, false, false, false] rfl rfl (by kernel_rfl) (fun _ _ _ h => h) (Or.inr ⟨by rfl, rfl⟩) ?_ ?_
    rotate_left
    · simp only [Act.put, List.setIfInBounds_toArray, List.set_cons_zero, List.set_cons_succ]
      rfl
    refine pure_ (i := 8) (N := some 18) (v := undef) (a' := ?_) #[true, true, true, true, true, true, true, true, true, false, false, false, false, false, false, false] rfl rfl (by kernel_rfl) (fun _ _ _ h => h) (Or.inr ⟨by rfl, rfl⟩) ?_ ?_
    rotate_left
    · simp only [Act.put, List.setIfInBounds_toArray, List.set_cons_zero, List.set_cons_succ]
      rfl
    refine pure_ (i := 9) (N := some 19) (v := undef) (a' := ?_) #[true, true, true, true, true, true, true, true, true, true, false, false, false, false, false, false] rfl rfl (by kernel_rfl) (fun _ _ _ h => h) (Or.inr ⟨by rfl, rfl⟩) ?_ ?_
    rotate_left
    · simp only [Act.put, List.setIfInBounds_toArray, List.set_cons_zero, List.set_cons_succ]
      rfl
    refine pure_ (i := 10) (N := some 20) (v := undef) (a' := ?_) #[true, true, true, true, true, true, true, true, true, true, true, false, false, false, false, false] rfl rfl (by kernel_rfl) (fun _ _ _ h => h) (Or.inr ⟨by rfl, rfl⟩) ?_ ?_
    rotate_left
    · simp only [Act.put, List.setIfInBounds_toArray, List.set_cons_zero, List.set_cons_succ]
      rfl
    refine pure_ (i := 11) (N := some 21) (v := undef) (a' := ?_) #[true, true, true, true, true, true, true, true, true, true, true, true, false, false, false, false] rfl rfl (by kernel_rfl) (fun _ _ _ h => h) (Or.inr ⟨by rfl, rfl⟩) ?_ ?_
    rotate_left
    · simp only [Act.put, List.setIfInBounds_toArray, List.set_cons_zero, List.set_cons_succ]
      rfl
    refine pure_ (i := 12) (N := some 22) (v := undef) (a' := ?_) #[true, true, true, true, true, true, true, true, true, true, true, true, true, false, false, false] rfl rfl (by kernel_rfl) (fun _ _ _ h => h) (Or.inr ⟨by rfl, rfl⟩) ?_ ?_
    rotate_left
    · simp only [Act.put, List.setIfInBounds_toArray, List.set_cons_zero, List.set_cons_succ]
      rfl
    refine pure_ (i := 13) (N := some 23) (v := undef) (a' := ?_) #[true, true, true, true, true, true, true, true, true, true, true, true, true, true, false, false] rfl rfl (by kernel_rfl) (fun _ _ _ h => h) (Or.inr ⟨by rfl, rfl⟩) ?_ ?_
    rotate_left
    · simp only [Act.put, List.setIfInBounds_toArray, List.set_cons_zero, List.set_cons_succ]
      rfl
    refine pure_ (i := 14) (N := some 24) (v := undef) (a' := ?_) #[true, true, true, true, true, true, true, true, true, true, true, true, true, true, true, false] rfl rfl (by kernel_rfl) (fun _ _ _ h => h) (Or.inr ⟨by rfl, rfl⟩) ?_ ?_
    rotate_left
    · simp only [Act.put, List.setIfInBounds_toArray, List.set_cons_zero, List.set_cons_succ]
      rfl
    refine pure_ (i := 15) (N := some 25) (v := ?_) (a' := ?_) #[true, true, true, true, true, true, true, true, true, true, true, true, true, true, true, true] rfl rfl (by kernel_rfl) (fun _ _ _ h => h) (Or.inl ⟨by rfl, ?_⟩) ?_ ?_
    rotate_left
    · intro w'
      go_simp
      with_reducible rfl
    rotate_left
    · simp only [Act.put, List.setIfInBounds_toArray, List.set_cons_zero, List.set_cons_succ]
      rfl
    refine done_ (by kernel_rfl) ?_
    go_wp2_with fail
    go_end0
    exact ⟨rfl, by rw [HQ.out]; exact (Turned.refl H.out).post hgW HB3.out⟩
  · have HO := Lib.hid ho
    obtain ⟨hrt, h32, _, hw12⟩ := Kp.not_odd ho
    obtain ⟨n, hn⟩ : ∃ n : Nat, Kp.wid c = n := ⟨(Kp.wid c).toNat, by omega⟩
    have hn12 : n = 1 ∨ n = 2 := by omega
    have hq : Kp.put t c = if (t.C : Int) - t.col < n then t else { t with l := Kp.putL t.C t.l (t.row * t.C + t.col) t.col n c t.st, col := t.col + n } := by
      unfold Kp.put
      rw [hn, Int.toNat_natCast]
      by_cases h1 : (t.C : Int) - t.col < n
      · rw [if_pos (.inr h1), if_pos h1]
      · rw [if_neg (by intro e; rcases e with e | e; exact ho e; exact h1 e), if_neg h1]
    have HQ := Lib.hid hq
    have HNw := Lib.hid hn
    rw [hn]
    have hp2 := (Putting.start H.out HB2.out hgW).drew_
    obtain ⟨⟨c0, c1, c2, c3, c4, c5⟩, f4⟩ := hp2.rules
    have HP2 := Lib.hid hp2
    have hCs : 1 ≤ t.C ∧ t.C ≤ 60 := H.out.ok.C1
    have hRs : 1 ≤ t.R ∧ t.R ≤ 60 := H.out.ok.R1
    have hcol : t.col ≤ t.C := H.out.ok.col
    have w1 : IntKind.i64.wrap ((t.C : Int) - t.col) = (t.C : Int) - t.col := by rw [IntKind.wrap_i64]; omega
    clear hp2 hq hn ho hw12 hrt
    by_cases hfit : (t.C : Int) - t.col < n
    · have hd : decide ((t.C : Int) - t.col < n) = true := by simp; omega
      have HFit := Lib.hid hfit
      clear hfit
      go_wp2_with fail
      go_region_held3 (fun w' => w'.cell? ⟨g, 1, none⟩ = some (.int .i64 t.C) ∧ w'.cell? ⟨g, 4, none⟩ = some (.int .i64 t.col)) (first | (with_reducible assumption) | (with_reducible exact ⟨d1, d4⟩) | exact ⟨c1, c4⟩) (first | (go_at_call 20; (with_reducible refine (odd_false c hc _ HO.out).mono ?_); rintro e W3 ⟨rfl, hb3⟩; obtain ⟨⟨d0, d1, d2, d3, d4, d5⟩, df4⟩ := (HP2.out.below_ (Nat.le_trans hgW HB2.out.size) hb3).rules))
      have HP3 := Lib.hid (HP2.out.below_ (Nat.le_trans hgW HB2.out.size) hb3)
      clear hb3 d0 d1 d2 d3 d4 d5 df4
      go_wp2_with fail
      go_end0
      have hp3 := HP3.out
      exact ⟨rfl, by rw [HQ.out, if_pos HFit.out]; exact ⟨⟨gc, .inl rfl, ⟨hp3.blk, hp3.cells, hp3.ge, H.out.ok⟩⟩, hp3.kept, hp3.below⟩⟩
    · have hd : decide ((t.C : Int) - t.col < n) = false := by simp; omega
      have HQ2 : Hid (Kp.put t c = { t with l := Kp.putL t.C t.l (t.row * t.C + t.col) t.col n c t.st, col := t.col + n }) := Lib.hid (by rw [HQ.out, if_neg hfit])
      have hfit2 : t.col + n ≤ t.C := by omega
      clear hfit
      go_wp2_with fail
      go_region_held3 (fun w' => w'.cell? ⟨g, 1, none⟩ = some (.int .i64 t.C) ∧ w'.cell? ⟨g, 4, none⟩ = some (.int .i64 t.col)) (first | (with_reducible assumption) | (with_reducible exact ⟨d1, d4⟩) | exact ⟨c1, c4⟩) (first | (go_at_call 20; (with_reducible refine (odd_false c hc _ HO.out).mono ?_); rintro e W3 ⟨rfl, hb3⟩; obtain ⟨⟨d0, d1, d2, d3, d4, d5⟩, df4⟩ := (HP2.out.below_ (Nat.le_trans hgW HB2.out.size) hb3).rules))
      have hp3 := HP2.out.below_ (Nat.le_trans hgW HB2.out.size) hb3
      have HP3 := Lib.hid hp3
      obtain ⟨N, hN⟩ : ∃ N, t.R * t.C = N := ⟨_, rfl⟩
      obtain ⟨a0, ha0⟩ : ∃ a0, t.row * t.C = a0 := ⟨_, rfl⟩
      obtain ⟨a, ha⟩ : ∃ a, a0 + t.col = a := ⟨_, rfl⟩
      have hlen := H.out.ok.len
      rw [hN] at hlen
      have hN36 : N ≤ 3600 := by rw [← hN]; exact Nat.mul_le_mul hRs.2 hCs.2
      have haN : a < N := by rw [← ha, ← ha0, ← hN]; exact Kp.at_lt H.out.ok.row (by omega)
      have heN : t.col + n < t.C → a + n < N := fun h => by rw [← ha, ← ha0, ← hN, Nat.add_assoc]; exact Kp.at_lt H.out.ok.row h
      have haN2 : n = 2 → a + 1 < N := fun h => by rw [← ha, ← ha0, ← hN, Nat.add_assoc]; exact Kp.at_lt H.out.ok.row (by omega)
      have hz0 : Kp.gr t.l a = 0 → 0 < a := fun h => by
        have := H.out.ok.zero0 (by rw [ha0, ha]; exact h)
        omega
      rw [ha0, ha] at HQ2
      have w1' : IntKind.i64.wrap ((t.row : Int) * t.C) = (a0 : Int) := by
        rw [show (t.row : Int) * t.C = ((t.row * t.C : Nat) : Int) by push_cast; rfl, ha0, IntKind.wrap_i64]; omega
      have w2' : IntKind.i64.wrap ((a0 : Int) + t.col) = (a : Int) := by rw [IntKind.wrap_i64]; omega
      clear d0 d1 d2 d3 d4 d5 df4 c0 c1 c2 c3 c4 c5 f4 w1 hd hb3
      obtain ⟨⟨c0, c1, c2, c3, c4, c5⟩, f4⟩ := hp3.rules
      rw [hN] at c2
      have HNN := Lib.hid hN
      have HLen := Lib.hid hlen
      have HZ0 := Lib.hid hz0
      have HeN := Lib.hid heN
      have HaN2 := Lib.hid haN2
      clear hp3 hN ha0 ha hlen hz0 heN haN2
      go_wp2_with fail
      go_quiet (fail)
      have hp4 := HP3.out.drewN nq
      generalize W3.drewN nq = W4 at hp4 ⊢
      obtain ⟨l1, hl1⟩ : ∃ l1, (if Kp.gr t.l a = 0 then t.l.set (a - 1) (32, 0) else t.l) = l1 := ⟨_, rfl⟩
      obtain ⟨l2, hl2⟩ : ∃ l2, (if t.col + n < t.C ∧ Kp.gr l1 (a + n) = 0 then l1.set (a + n) (32, 0) else l1) = l2 := ⟨_, rfl⟩
      have hput : Kp.putL t.C t.l a t.col n c t.st = if n = 2 then (l2.set a (c, (t.st : Int))).set (a + 1) (0, (t.st : Int)) else l2.set a (c, (t.st : Int)) := by
        simp only [Kp.putL]
        rw [hl1, hl2]
      rw [hput] at HQ2
      obtain ⟨r0, hr0⟩ : ∃ r0, Kp.gr t.l a = r0 := ⟨_, rfl⟩
      rw [hr0] at hl1 HZ0
      obtain ⟨k0, _⟩ := hp4.cells.cell a (by rw [HLen.out]; exact haN)
      rw [hr0] at k0
      obtain ⟨⟨d0, d1, d2, d3, d4, d5⟩, df4⟩ := hp4.rules
      rw [HNN.out] at d2
      have HP4 := Lib.hid hp4
      have HR0 := Lib.hid hr0
      have HL1 := Lib.hid hl1
      have HL2 := Lib.hid hl2
      clear hp4 hr0 hl1 hl2 hput c0 c1 c2 c3 c4 c5 f4 w1' w2'
      obtain ⟨e, he⟩ : ∃ e, a + n = e := ⟨_, rfl⟩
      have hae : (a : Int) + n = (e : Int) := by omega
      obtain ⟨q, hq⟩ : ∃ q, a + 1 = q := ⟨_, rfl⟩
      have haq : (a : Int) + 1 = (q : Int) := by omega
      have HEe := Lib.hid he
      have HQq := Lib.hid hq
      clear he hq
      by_cases hz : r0 = 0
      · have e0 : (r0 == 0) = true := by simp [hz]
        have ha1 := HZ0.out hz
        obtain ⟨p, hp⟩ : ∃ p, a = p + 1 := ⟨a - 1, by omega⟩
        have hp1 : (a : Int) - 1 = (p : Int) := by omega
        have hpN : p < N := by omega
        have HPp := Lib.hid hp
        have HZ := Lib.hid hz
        clear hz hp ha1
        go_wp2_with ((with_reducible refine gate_store (t := 57) rfl ?_); refine store_put rfl _ _ rfl rfl rfl HP4.out (by rw [HLen.out]; exact hpN) ?_; intro W5 hp5; obtain ⟨⟨d0, d1, d2, d3, d4, d5⟩, df4⟩ := hp5.rules; rw [HNN.out] at d2; have HP5 := Lib.hid hp5; clear hp5)
        have HPc : Hid (Putting W W5 base g gc t wv l1) := Lib.hid (by have h := HP5.out; rwa [show p = a - 1 by have := HPp.out; omega, show t.l.set (a - 1) (32, 0) = l1 by rw [← HL1.out, if_pos HZ.out]] at h)
        by_cases hc2 : t.col + n < t.C
        · have heN : e < N := by rw [← HEe.out]; exact HeN.out hc2
          have b1 : decide ((t.col : Int) + n < t.C) = true := by simp; omega
          obtain ⟨k1, _⟩ := HPc.out.cells.cell e (by rw [HPc.out.len, HLen.out]; exact heN)
          obtain ⟨r1, hr1⟩ : ∃ r1, Kp.gr l1 e = r1 := ⟨_, rfl⟩
          rw [hr1] at k1
          by_cases hz1 : r1 = 0
          · have b3 : (r1 == 0) = true := by simp [hz1]
            have HL2c : Hid (l1.set e (32, 0) = l2) := Lib.hid (by rw [← HL2.out, HEe.out, if_pos ⟨hc2, hr1.trans hz1⟩])
            clear hr1 hz1 hc2
            go_quiet (fail)
            have hp6 := HPc.out.drewN nq
            generalize W5.drewN nq = W6 at hp6 ⊢
            obtain ⟨⟨d0, d1, d2, d3, d4, d5⟩, df4⟩ := hp6.rules
            rw [HNN.out] at d2
            have HPc := Lib.hid hp6
            clear hp6 k1
            by_cases hn2 : n = 2
            · have b2 : ((n : Int) == 2) = true := by simp; omega
              have hqN : q < N := by rw [← HQq.out]; exact HaN2.out hn2
              have HN2 := Lib.hid hn2
              clear hn2
              go_wp2_with ((with_reducible refine gate_store (t := 57) rfl ?_); refine store_put rfl _ _ rfl rfl rfl HPc.out (by rw [HLen.out]; omega) ?_; intro W7 hp7; obtain ⟨⟨d0, d1, d2, d3, d4, d5⟩, df4⟩ := hp7.rules; rw [HNN.out] at d2; have HPc := Lib.hid hp7; clear hp7)
              have hq2 := HQ2.out
              rw [if_pos HN2.out, ← HL2c.out, HQq.out] at hq2
              have hfin := HPc.out.finish (t.col + n) (by rw [← hq2]; exact Kp.put_ok H.out.ok c)
              go_end0
              refine ⟨rfl, ?_⟩
              rw [hq2]
              exact hfin
            · have b2 : ((n : Int) == 2) = false := by simp; omega
              have HN2 := Lib.hid hn2
              clear hn2
              go_wp2_with ((with_reducible refine gate_store (t := 57) rfl ?_); refine store_put rfl _ _ rfl rfl rfl HPc.out (by rw [HLen.out]; omega) ?_; intro W7 hp7; obtain ⟨⟨d0, d1, d2, d3, d4, d5⟩, df4⟩ := hp7.rules; rw [HNN.out] at d2; have HPc := Lib.hid hp7; clear hp7)
              have hq2 := HQ2.out
              rw [if_neg HN2.out, ← HL2c.out] at hq2
              have hfin := HPc.out.finish (t.col + n) (by rw [← hq2]; exact Kp.put_ok H.out.ok c)
              go_end0
              refine ⟨rfl, ?_⟩
              rw [hq2]
              exact hfin
          · have b3 : (r1 == 0) = false := by simp [hz1]
            have HL2c : Hid (l1 = l2) := Lib.hid (by rw [← HL2.out, HEe.out, if_neg (fun h => hz1 (hr1.symm.trans h.2))])
            clear hr1 hz1 hc2
            go_quiet (fail)
            have hp6 := HPc.out.drewN nq
            generalize W5.drewN nq = W6 at hp6 ⊢
            obtain ⟨⟨d0, d1, d2, d3, d4, d5⟩, df4⟩ := hp6.rules
            rw [HNN.out] at d2
            have HPc := Lib.hid hp6
            clear hp6 k1
            by_cases hn2 : n = 2
            · have b2 : ((n : Int) == 2) = true := by simp; omega
              have hqN : q < N := by rw [← HQq.out]; exact HaN2.out hn2
              have HN2 := Lib.hid hn2
              clear hn2
              go_wp2_with ((with_reducible refine gate_store (t := 57) rfl ?_); refine store_put rfl _ _ rfl rfl rfl HPc.out (by rw [HLen.out]; omega) ?_; intro W7 hp7; obtain ⟨⟨d0, d1, d2, d3, d4, d5⟩, df4⟩ := hp7.rules; rw [HNN.out] at d2; have HPc := Lib.hid hp7; clear hp7)
              have hq2 := HQ2.out
              rw [if_pos HN2.out, ← HL2c.out, HQq.out] at hq2
              have hfin := HPc.out.finish (t.col + n) (by rw [← hq2]; exact Kp.put_ok H.out.ok c)
              go_end0
              refine ⟨rfl, ?_⟩
              rw [hq2]
              exact hfin
            · have b2 : ((n : Int) == 2) = false := by simp; omega
              have HN2 := Lib.hid hn2
              clear hn2
              go_wp2_with ((with_reducible refine gate_store (t := 57) rfl ?_); refine store_put rfl _ _ rfl rfl rfl HPc.out (by rw [HLen.out]; omega) ?_; intro W7 hp7; obtain ⟨⟨d0, d1, d2, d3, d4, d5⟩, df4⟩ := hp7.rules; rw [HNN.out] at d2; have HPc := Lib.hid hp7; clear hp7)
              have hq2 := HQ2.out
              rw [if_neg HN2.out, ← HL2c.out] at hq2
              have hfin := HPc.out.finish (t.col + n) (by rw [← hq2]; exact Kp.put_ok H.out.ok c)
              go_end0
              refine ⟨rfl, ?_⟩
              rw [hq2]
              exact hfin
        · have b1 : decide ((t.col : Int) + n < t.C) = false := by simp; omega
          have HL2c : Hid (l1 = l2) := Lib.hid (by rw [← HL2.out, if_neg (fun h => hc2 h.1)])
          clear hc2
          go_quiet (fail)
          have hp6 := HPc.out.drewN nq
          generalize W5.drewN nq = W6 at hp6 ⊢
          obtain ⟨⟨d0, d1, d2, d3, d4, d5⟩, df4⟩ := hp6.rules
          rw [HNN.out] at d2
          have HPc := Lib.hid hp6
          clear hp6
          by_cases hn2 : n = 2
          · have b2 : ((n : Int) == 2) = true := by simp; omega
            have hqN : q < N := by rw [← HQq.out]; exact HaN2.out hn2
            have HN2 := Lib.hid hn2
            clear hn2
            go_wp2_with ((with_reducible refine gate_store (t := 57) rfl ?_); refine store_put rfl _ _ rfl rfl rfl HPc.out (by rw [HLen.out]; omega) ?_; intro W7 hp7; obtain ⟨⟨d0, d1, d2, d3, d4, d5⟩, df4⟩ := hp7.rules; rw [HNN.out] at d2; have HPc := Lib.hid hp7; clear hp7)
            have hq2 := HQ2.out
            rw [if_pos HN2.out, ← HL2c.out, HQq.out] at hq2
            have hfin := HPc.out.finish (t.col + n) (by rw [← hq2]; exact Kp.put_ok H.out.ok c)
            go_end0
            refine ⟨rfl, ?_⟩
            rw [hq2]
            exact hfin
          · have b2 : ((n : Int) == 2) = false := by simp; omega
            have HN2 := Lib.hid hn2
            clear hn2
            go_wp2_with ((with_reducible refine gate_store (t := 57) rfl ?_); refine store_put rfl _ _ rfl rfl rfl HPc.out (by rw [HLen.out]; omega) ?_; intro W7 hp7; obtain ⟨⟨d0, d1, d2, d3, d4, d5⟩, df4⟩ := hp7.rules; rw [HNN.out] at d2; have HPc := Lib.hid hp7; clear hp7)
            have hq2 := HQ2.out
            rw [if_neg HN2.out, ← HL2c.out] at hq2
            have hfin := HPc.out.finish (t.col + n) (by rw [← hq2]; exact Kp.put_ok H.out.ok c)
            go_end0
            refine ⟨rfl, ?_⟩
            rw [hq2]
            exact hfin
      · have e0 : (r0 == 0) = false := by simp [hz]
        have hp5 : Putting W W4 base g gc t wv l1 := by have h := HP4.out; rwa [show t.l = l1 by rw [← HL1.out, if_neg hz]] at h
        clear hz
        go_wp2_with fail
        generalize W4 = W5 at *
        have HPc := Lib.hid hp5
        clear hp5
        by_cases hc2 : t.col + n < t.C
        · have heN : e < N := by rw [← HEe.out]; exact HeN.out hc2
          have b1 : decide ((t.col : Int) + n < t.C) = true := by simp; omega
          obtain ⟨k1, _⟩ := HPc.out.cells.cell e (by rw [HPc.out.len, HLen.out]; exact heN)
          obtain ⟨r1, hr1⟩ : ∃ r1, Kp.gr l1 e = r1 := ⟨_, rfl⟩
          rw [hr1] at k1
          by_cases hz1 : r1 = 0
          · have b3 : (r1 == 0) = true := by simp [hz1]
            have HL2c : Hid (l1.set e (32, 0) = l2) := Lib.hid (by rw [← HL2.out, HEe.out, if_pos ⟨hc2, hr1.trans hz1⟩])
            clear hr1 hz1 hc2
            go_quiet (fail)
            have hp6 := HPc.out.drewN nq
            generalize W5.drewN nq = W6 at hp6 ⊢
            obtain ⟨⟨d0, d1, d2, d3, d4, d5⟩, df4⟩ := hp6.rules
            rw [HNN.out] at d2
            have HPc := Lib.hid hp6
            clear hp6 k1
            by_cases hn2 : n = 2
            · have b2 : ((n : Int) == 2) = true := by simp; omega
              have hqN : q < N := by rw [← HQq.out]; exact HaN2.out hn2
              have HN2 := Lib.hid hn2
              clear hn2
              go_wp2_with ((with_reducible refine gate_store (t := 57) rfl ?_); refine store_put rfl _ _ rfl rfl rfl HPc.out (by rw [HLen.out]; omega) ?_; intro W7 hp7; obtain ⟨⟨d0, d1, d2, d3, d4, d5⟩, df4⟩ := hp7.rules; rw [HNN.out] at d2; have HPc := Lib.hid hp7; clear hp7)
              have hq2 := HQ2.out
              rw [if_pos HN2.out, ← HL2c.out, HQq.out] at hq2
              have hfin := HPc.out.finish (t.col + n) (by rw [← hq2]; exact Kp.put_ok H.out.ok c)
              go_end0
              refine ⟨rfl, ?_⟩
              rw [hq2]
              exact hfin
            · have b2 : ((n : Int) == 2) = false := by simp; omega
              have HN2 := Lib.hid hn2
              clear hn2
              go_wp2_with ((with_reducible refine gate_store (t := 57) rfl ?_); refine store_put rfl _ _ rfl rfl rfl HPc.out (by rw [HLen.out]; omega) ?_; intro W7 hp7; obtain ⟨⟨d0, d1, d2, d3, d4, d5⟩, df4⟩ := hp7.rules; rw [HNN.out] at d2; have HPc := Lib.hid hp7; clear hp7)
              have hq2 := HQ2.out
              rw [if_neg HN2.out, ← HL2c.out] at hq2
              have hfin := HPc.out.finish (t.col + n) (by rw [← hq2]; exact Kp.put_ok H.out.ok c)
              go_end0
              refine ⟨rfl, ?_⟩
              rw [hq2]
              exact hfin
          · have b3 : (r1 == 0) = false := by simp [hz1]
            have HL2c : Hid (l1 = l2) := Lib.hid (by rw [← HL2.out, HEe.out, if_neg (fun h => hz1 (hr1.symm.trans h.2))])
            clear hr1 hz1 hc2
            go_quiet (fail)
            have hp6 := HPc.out.drewN nq
            generalize W5.drewN nq = W6 at hp6 ⊢
            obtain ⟨⟨d0, d1, d2, d3, d4, d5⟩, df4⟩ := hp6.rules
            rw [HNN.out] at d2
            have HPc := Lib.hid hp6
            clear hp6 k1
            by_cases hn2 : n = 2
            · have b2 : ((n : Int) == 2) = true := by simp; omega
              have hqN : q < N := by rw [← HQq.out]; exact HaN2.out hn2
              have HN2 := Lib.hid hn2
              clear hn2
              go_wp2_with ((with_reducible refine gate_store (t := 57) rfl ?_); refine store_put rfl _ _ rfl rfl rfl HPc.out (by rw [HLen.out]; omega) ?_; intro W7 hp7; obtain ⟨⟨d0, d1, d2, d3, d4, d5⟩, df4⟩ := hp7.rules; rw [HNN.out] at d2; have HPc := Lib.hid hp7; clear hp7)
              have hq2 := HQ2.out
              rw [if_pos HN2.out, ← HL2c.out, HQq.out] at hq2
              have hfin := HPc.out.finish (t.col + n) (by rw [← hq2]; exact Kp.put_ok H.out.ok c)
              go_end0
              refine ⟨rfl, ?_⟩
              rw [hq2]
              exact hfin
            · have b2 : ((n : Int) == 2) = false := by simp; omega
              have HN2 := Lib.hid hn2
              clear hn2
              go_wp2_with ((with_reducible refine gate_store (t := 57) rfl ?_); refine store_put rfl _ _ rfl rfl rfl HPc.out (by rw [HLen.out]; omega) ?_; intro W7 hp7; obtain ⟨⟨d0, d1, d2, d3, d4, d5⟩, df4⟩ := hp7.rules; rw [HNN.out] at d2; have HPc := Lib.hid hp7; clear hp7)
              have hq2 := HQ2.out
              rw [if_neg HN2.out, ← HL2c.out] at hq2
              have hfin := HPc.out.finish (t.col + n) (by rw [← hq2]; exact Kp.put_ok H.out.ok c)
              go_end0
              refine ⟨rfl, ?_⟩
              rw [hq2]
              exact hfin
        · have b1 : decide ((t.col : Int) + n < t.C) = false := by simp; omega
          have HL2c : Hid (l1 = l2) := Lib.hid (by rw [← HL2.out, if_neg (fun h => hc2 h.1)])
          clear hc2
          go_quiet (fail)
          have hp6 := HPc.out.drewN nq
          generalize W5.drewN nq = W6 at hp6 ⊢
          obtain ⟨⟨d0, d1, d2, d3, d4, d5⟩, df4⟩ := hp6.rules
          rw [HNN.out] at d2
          have HPc := Lib.hid hp6
          clear hp6
          by_cases hn2 : n = 2
          · have b2 : ((n : Int) == 2) = true := by simp; omega
            have hqN : q < N := by rw [← HQq.out]; exact HaN2.out hn2
            have HN2 := Lib.hid hn2
            clear hn2
            go_wp2_with ((with_reducible refine gate_store (t := 57) rfl ?_); refine store_put rfl _ _ rfl rfl rfl HPc.out (by rw [HLen.out]; omega) ?_; intro W7 hp7; obtain ⟨⟨d0, d1, d2, d3, d4, d5⟩, df4⟩ := hp7.rules; rw [HNN.out] at d2; have HPc := Lib.hid hp7; clear hp7)
            have hq2 := HQ2.out
            rw [if_pos HN2.out, ← HL2c.out, HQq.out] at hq2
            have hfin := HPc.out.finish (t.col + n) (by rw [← hq2]; exact Kp.put_ok H.out.ok c)
            go_end0
            refine ⟨rfl, ?_⟩
            rw [hq2]
            exact hfin
          · have b2 : ((n : Int) == 2) = false := by simp; omega
            have HN2 := Lib.hid hn2
            clear hn2
            go_wp2_with ((with_reducible refine gate_store (t := 57) rfl ?_); refine store_put rfl _ _ rfl rfl rfl HPc.out (by rw [HLen.out]; omega) ?_; intro W7 hp7; obtain ⟨⟨d0, d1, d2, d3, d4, d5⟩, df4⟩ := hp7.rules; rw [HNN.out] at d2; have HPc := Lib.hid hp7; clear hp7)
            have hq2 := HQ2.out
            rw [if_neg HN2.out, ← HL2c.out] at hq2
            have hfin := HPc.out.finish (t.col + n) (by rw [← hq2]; exact Kp.put_ok H.out.ok c)
            go_end0
            refine ⟨rfl, ?_⟩
            rw [hq2]
            exact hfin
end Go.Proofs.YtbjckccgbmimpabDoor
