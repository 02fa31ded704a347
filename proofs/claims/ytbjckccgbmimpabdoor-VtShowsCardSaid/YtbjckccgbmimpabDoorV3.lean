/- The walks of utf.Right, vt.odd and vt.side. -/
import Derived.Test.YtbjckccgbmimpabDoorV1
namespace Go.Proofs.YtbjckccgbmimpabDoor
open Go.RowKit Go.Proofs.YtbjckccgbmimpabDoorW.PrintWords Go.Proofs.YtbjckccgbmimpabDoorW.PrintLast Go.Proofs.YtbjckccgbmimpabDoorW.PrintMore
/-- Is a rune right? -/
def Kp.right (c : Int) : Prop := 0 ≤ c ∧ c ≤ 1114111 ∧ (c < 55296 ∨ 57343 < c)
instance (c : Int) : Decidable (Kp.right c) := by unfold Kp.right; infer_instance
/-- May a rune not be shown? -/
def Kp.odd (c : Int) : Prop := ¬ Kp.right c ∨ c < 32 ∨ (127 ≤ c ∧ c < 160) ∨ Kp.wid c < 1
instance (c : Int) : Decidable (Kp.odd c) := by unfold Kp.odd; infer_instance
def Kp.side (n : Int) : Prop := 1 ≤ n ∧ n ≤ 60
instance (c : Int) : Decidable (Kp.side c) := by unfold Kp.side; infer_instance

/-- A test's answer. -/
def IfPost (W : World) (p : Prop) (e : Ending) (w' : World) : Prop := ∃ b, e = .returned (.bool b) ∧ (b = true ↔ p) ∧ Below W.heap.size W w'
theorem IfPost.mk {W w' : World} {p : Prop} {b : Bool} (h : Below W.heap.size W w') (hb : b = true ↔ p) : IfPost W p (.returned (.bool b)) w' := ⟨b, rfl, hb, h⟩

theorem side_calls (n : Int) (W : World) : Calls Tryd.prog 19 #[.int .i64 n] W (IfPost W (Kp.side n)) := by
  go_enter Tryd.func19, Tryd.ntmps19
  go_wp2_with fail
  all_goals
    go_ret
    refine IfPost.mk (Below.refl _ _) ?_
    simp [Kp.side]
    try omega
theorem right_calls (c : Int) (W : World) : Calls Tryd.prog 29 #[.int .i32 c] W (IfPost W (Kp.right c)) := by
  go_enter Tryd.func29, Tryd.ntmps29
  go_wp2_with fail
  all_goals
    go_ret
    refine IfPost.mk (Below.refl _ _) ?_
    simp [Kp.right]
    try omega
theorem odd_calls (c : Int) (hc : -2147483648 ≤ c ∧ c ≤ 2147483647) (W : World) : Calls Tryd.prog 20 #[.int .i32 c] W (IfPost W (Kp.odd c)) := by
  go_enter Tryd.func20, Tryd.ntmps20
  go_wp2_with fail
  refine (right_calls c W).mono ?_
  rintro e w ⟨b, rfl, hiff, hb⟩
  have HB := Lib.hid hb
  clear hb
  have hwid : (decide (Kp.wid c < 1) = true ↔ Kp.wid c < 1) := by simp
  have HO : Hid (Kp.odd c ↔ (¬ Kp.right c ∨ c < 32 ∨ (127 ≤ c ∧ c < 160) ∨ Kp.wid c < 1)) := Lib.hid Iff.rfl
  cases b
  · have hr : ¬ Kp.right c := fun h => by simpa using hiff.2 h
    go_wp2_with fail
    all_goals
      go_ret
      exact IfPost.mk HB.out (by rw [HO.out]; simp [hr])
  · have hr : Kp.right c := hiff.1 rfl
    clear hiff
    by_cases h : c < 32 ∨ (127 ≤ c ∧ c < 160)
    · go_wp2_with fail
      all_goals first
        | (exfalso; omega)
        | (go_ret; exact IfPost.mk HB.out (by rw [HO.out]; simp; omega))
    · go_wp2_with fail
      all_goals
        refine (of_calls c hc w).mono ?_
        rintro e w2 ⟨rfl, hb2⟩
        have HB2 := Lib.hid (below_step HB.out hb2)
        clear hb2
        go_wp2_with fail
        go_ret
        exact IfPost.mk HB2.out (by rw [HO.out]; simp [hr]; omega)
end Go.Proofs.YtbjckccgbmimpabDoor

/- Cells that are read; the walk of vt.Proper. -/
namespace Go.Proofs.YtbjckccgbmimpabDoor
open Go.RowKit Go.Proofs.YtbjckccgbmimpabDoorW.PrintWords Go.Proofs.YtbjckccgbmimpabDoorW.PrintLast Go.Proofs.YtbjckccgbmimpabDoorW.PrintMore
abbrev Cell := Int × Int
def Kp.gr (l : List Cell) (i : Nat) : Int := (l.getD i (0, 0)).1
def Kp.gs (l : List Cell) (i : Nat) : Int := (l.getD i (0, 0)).2
/-- A row of cells, read. -/
structure RC (w : World) (A : Option Addr) (l : List Cell) : Prop where
  len : l.length ≤ 140737488355328
  at_ : ∀ i, i < l.length → ∃ b o, A = some ⟨b, o, none⟩ ∧ w.cell? ⟨b, o + i * 2, none⟩ = some (.int .i32 (Kp.gr l i)) ∧ w.cell? ⟨b, o + i * 2 + 1, none⟩ = some (.int .i64 (Kp.gs l i))
def Kp.wf (l : List Cell) : Prop := ∀ i, (-2147483648 ≤ Kp.gr l i ∧ Kp.gr l i ≤ 2147483647) ∧ (-9223372036854775808 ≤ Kp.gs l i ∧ Kp.gs l i ≤ 9223372036854775807)
theorem RC.below {w w' : World} {A : Option Addr} {l : List Cell} (h : RC w A l) (hb : Below w.heap.size w w') : RC w' A l := ⟨h.len, fun i hi => by
  obtain ⟨b, o, e, h1, h2⟩ := h.at_ i hi
  exact ⟨b, o, e, pw_cell_below hb h1, pw_cell_below hb h2⟩⟩
theorem RC.drewN {w : World} {A : Option Addr} {l : List Cell} (h : RC w A l) (n : Nat) : RC (w.drewN n) A l := ⟨h.len, h.at_⟩

/-- What Proper does at one cell. -/
def Kp.okAt (cols : Nat) (l : List Cell) (i : Nat) (half : Bool) : Option Bool :=
  if Kp.gs l i < 0 ∨ 8 ≤ Kp.gs l i ∨ ¬ (half = true ↔ Kp.gr l i = 0) ∨ (half = true ∧ (i % cols = 0 ∨ Kp.gs l i ≠ Kp.gs l (i - 1))) then none
  else if half then some false
  else if Kp.odd (Kp.gr l i) then none
  else some (decide (Kp.wid (Kp.gr l i) = 2))
def Kp.properGo (cols : Nat) (l : List Cell) : Nat → Nat → Bool → Prop
  | 0, _, half => half = false
  | n + 1, i, half => match Kp.okAt cols l i half with
    | none => False
    | some h => Kp.properGo cols l n (i + 1) h
/-- Is a grid proper? -/
def Kp.proper (rows cols : Int) (l : List Cell) : Prop := Kp.side rows ∧ Kp.side cols ∧ (l.length : Int) = rows * cols ∧ Kp.properGo cols.toNat l l.length 0 false

def gridV (rows cols : Int) (A : Option Addr) (n c : Nat) : Value := .agg #[.int .i64 rows, .int .i64 cols, .slice A n c]

/-- A grid in memory. -/
structure GridAt (w : World) (g : Nat) (rows cols : Int) (A : Option Addr) (n c : Nat) : Prop where
  blk : w.heap[g]? = some (.cells #[.int .i64 rows, .int .i64 cols, .slice A n c] 34 (0, 0))
theorem GridAt.cells {w : World} {g : Nat} {rows cols : Int} {A : Option Addr} {n c : Nat} (h : GridAt w g rows cols A n c) :
    w.cell? ⟨g, 0, none⟩ = some (.int .i64 rows) ∧ w.cell? ⟨g, 1, none⟩ = some (.int .i64 cols) ∧ w.cell? ⟨g, 2, none⟩ = some (.slice A n c) :=
  ⟨blk_cell h.blk 0, blk_cell h.blk 1, blk_cell h.blk 2⟩
theorem GridAt.below {w w' : World} {g : Nat} {rows cols : Int} {A : Option Addr} {n c : Nat} (h : GridAt w g rows cols A n c) (hb : Below w.heap.size w w') : GridAt w' g rows cols A n c := ⟨blk_below h.blk hb⟩
theorem GridAt.alloc {w : World} {g : Nat} {rows cols : Int} {A : Option Addr} {n c : Nat} (h : GridAt w g rows cols A n c) (o : Obj) : GridAt (w.alloc o) g rows cols A n c := ⟨blk_alloc h.blk o⟩
theorem GridAt.new (W : World) (rows cols : Int) (A : Option Addr) (n c : Nat) : GridAt (W.alloc (.cells #[.int .i64 rows, .int .i64 cols, .slice A n c] 34)) W.heap.size rows cols A n c := ⟨heap_alloc_new W _⟩

set_option maxRecDepth 100000 in
set_option maxHeartbeats 16000000 in
theorem proper_calls (rows cols : Int) (A : Option Addr) (l : List Cell) (c : Nat) (W : World) (hr : RC W A l) (hwf : Kp.wf l) : Calls Tryd.prog 9 #[gridV rows cols A l.length c] W (IfPost W (Kp.proper rows cols l)) := by
  have HR := Lib.hid hr
  have HP : Hid (Kp.proper rows cols l ↔ (Kp.side rows ∧ Kp.side cols ∧ (l.length : Int) = rows * cols ∧ Kp.properGo cols.toNat l l.length 0 false)) := Lib.hid Iff.rfl
  clear hr
  unfold gridV
  go_enter Tryd.func9, Tryd.ntmps9
  go_wp2_with fail
  have hg := GridAt.new W rows cols A l.length c
  have hb1 := below_alloc (Below.refl W.heap.size W) (.cells #[.int .i64 rows, .int .i64 cols, .slice A l.length c] 34)
  have hr1 := HR.out.below hb1
  generalize W.alloc (.cells #[.int .i64 rows, .int .i64 cols, .slice A l.length c] 34) = W1 at hg hb1 hr1 ⊢
  generalize W.heap.size = g at hg ⊢
  have HB1 := Lib.hid hb1
  have HG1 := Lib.hid hg
  clear HR
  have HR := Lib.hid hr1
  clear hb1 hg hr1
  refine (side_calls rows W1).mono ?_
  rintro e W2 ⟨b, rfl, hiff, hb⟩
  have HB2 := Lib.hid (below_step HB1.out hb)
  have HG2 := Lib.hid (HG1.out.below hb)
  have HR2 := Lib.hid (HR.out.below hb)
  obtain ⟨q0, q1, q2⟩ := HG2.out.cells
  clear hb HR HG1 HB1
  cases b
  · have hns : ¬ Kp.side rows := fun h => by simpa using hiff.2 h
    go_wp2_with fail
    all_goals
      go_ret
      exact IfPost.mk HB2.out (by rw [HP.out]; simp [hns])
  · have hs : Kp.side rows := hiff.1 rfl
    clear hiff
    go_wp2_with fail
    refine (side_calls cols W2).mono ?_
    rintro e W3 ⟨b, rfl, hiff, hb⟩
    have HB3 := Lib.hid (below_step HB2.out hb)
    have HG3 := Lib.hid (HG2.out.below hb)
    have HR3 := Lib.hid (HR2.out.below hb)
    clear q0 q1 q2
    obtain ⟨q0, q1, q2⟩ := HG3.out.cells
    clear hb HR2 HG2 HB2
    cases b
    · have hns : ¬ Kp.side cols := fun h => by simpa using hiff.2 h
      go_wp2_with fail
      all_goals
        go_ret
        exact IfPost.mk HB3.out (by rw [HP.out]; simp [hns])
    · have hs2 : Kp.side cols := hiff.1 rfl
      clear hiff
      obtain ⟨R, rfl⟩ : ∃ R : Nat, rows = R := ⟨rows.toNat, by unfold Kp.side at hs; omega⟩
      obtain ⟨C, rfl⟩ : ∃ C : Nat, cols = C := ⟨cols.toNat, by unfold Kp.side at hs2; omega⟩
      have hR : 1 ≤ R ∧ R ≤ 60 := by unfold Kp.side at hs; omega
      have hC : 1 ≤ C ∧ C ≤ 60 := by unfold Kp.side at hs2; omega
      have hRC : R * C ≤ 3600 := Nat.mul_le_mul hR.2 hC.2
      have hcast : (R : Int) * C = ((R * C : Nat) : Int) := by push_cast; rfl
      obtain ⟨N, hN⟩ : ∃ N, R * C = N := ⟨_, rfl⟩
      rw [hN] at hcast hRC
      have hw : IntKind.i64.wrap ((R : Int) * C) = (N : Int) := by rw [hcast, IntKind.wrap_i64]; omega
      have HP2 : Hid (Kp.proper (R : Int) (C : Int) l ↔ (l.length = N ∧ Kp.properGo C l l.length 0 false)) := Lib.hid (by
        rw [HP.out]
        simp only [hs, hs2, true_and, hcast, Int.toNat_natCast]
        exact_mod_cast Iff.rfl)
      clear HP
      by_cases hlen : l.length = N
      · have hnb : ((l.length : Int) != (N : Int)) = false := by simp [hlen]
        have hnb2 : ((l.length : Int) == (N : Int)) = true := by simp [hlen]
        subst hlen
        go_wp2_with fail
        clear q0 q1 q2
        go_loopw [3, 30] (fun v3 v30 wr => ∃ (i : Nat) (half : Bool), v3 = .bool half ∧ v30 = .int .i64 i ∧ i ≤ l.length ∧ (half = true → 1 ≤ i) ∧ Hid (Kp.properGo C l (l.length - i) i half ↔ Kp.properGo C l l.length 0 false) ∧ Hid (GridAt wr g (R : Int) (C : Int) A l.length c) ∧ Hid (RC wr A l) ∧ Hid (Below W.heap.size W wr)) (fun _ v30 _ => l.length - (intOf v30).toNat)
        case atStart => exact ⟨0, false, rfl, rfl, by omega, by simp, Lib.hid Iff.rfl, HG3, HR3, HB3⟩
        case round =>
          clear HR3 HG3 HB3
          obtain ⟨i, half, rfl, rfl, hi, hh, HV, HG3, HR3, HB3⟩ := hrel
          obtain ⟨q0, q1, q2⟩ := HG3.out.cells
          by_cases hlt : i < l.length
          · obtain ⟨b, o, hA, r1, r2⟩ := HR3.out.at_ i hlt
            obtain ⟨hw1, hw2⟩ := hwf i
            obtain ⟨x, hx⟩ : ∃ x, Kp.gr l i = x := ⟨_, rfl⟩
            obtain ⟨s, hs'⟩ : ∃ x, Kp.gs l i = x := ⟨_, rfl⟩
            have hgo : Kp.properGo C l (l.length - i) i half = match Kp.okAt C l i half with | none => False | some h => Kp.properGo C l (l.length - (i + 1)) (i + 1) h := by
              rw [show l.length - i = (l.length - (i + 1)) + 1 by omega]; rfl
            simp only [Kp.okAt, hx, hs'] at hgo
            rw [hx] at r1 hw1
            rw [hs'] at r2 hw2
            subst hA
            clear hw hcast hN hnb hnb2
            have hm : (i : Int).tmod C = ((i % C : Nat) : Int) := by rw [Int.tmod_eq_emod_of_nonneg (by omega)]; rfl
            have hCz : ((C : Int) == 0) = false := by simp; omega
            go_wp2_with fail
            have hc0 := heap_alloc_new wr (.cells #[.int .i32 x, .int .i64 s] 57)
            have HB4 := Lib.hid (below_alloc HB3.out (.cells #[.int .i32 x, .int .i64 s] 57))
            have HG4 := Lib.hid (HG3.out.alloc (.cells #[.int .i32 x, .int .i64 s] 57))
            have HR4 := Lib.hid (HR3.out.below (below_alloc (Below.refl _ _) (.cells #[.int .i32 x, .int .i64 s] 57)))
            generalize wr.alloc (.cells #[.int .i32 x, .int .i64 s] 57) = W4 at hc0 HB4 HG4 HR4 ⊢
            generalize wr.heap.size = cb at hc0 ⊢
            have HC := Lib.hid hc0
            have k0 : W4.cell? ⟨cb, 0, none⟩ = some (.int .i32 x) := blk_cell hc0 0
            have k1 : W4.cell? ⟨cb, 1, none⟩ = some (.int .i64 s) := blk_cell hc0 1
            clear HR3 HG3 HB3 q0 q1 q2 r1 r2 hc0
            obtain ⟨q0, q1, q2⟩ := HG4.out.cells
            by_cases h1 : s < 0
            · have HF : Hid (¬ Kp.properGo C l l.length 0 false) := Lib.hid (by rw [← HV.out, hgo, if_pos (by omega)]; simp)
              clear hgo
              go_quiet (fail)
              go_wp2_with fail
              all_goals
                go_ret
                exact IfPost.mk (pw_below_drewN HB4.out _) (by rw [HP2.out]; simp [HF.out])
            · have h1' : 0 ≤ s := by omega
              clear h1
              by_cases h2 : 8 ≤ s
              · have HF : Hid (¬ Kp.properGo C l l.length 0 false) := Lib.hid (by rw [← HV.out, hgo, if_pos (by omega)]; simp)
                have e1 : decide (s < 0) = false := by simp; omega
                have e2 : decide (8 ≤ s) = true := by simp; omega
                clear hgo h1' h2
                go_quiet (fail)
                go_wp2_with fail
                all_goals
                  go_ret
                  exact IfPost.mk (pw_below_drewN HB4.out _) (by rw [HP2.out]; simp [HF.out])
              · have e1 : decide (s < 0) = false := by simp; omega
                have e2 : decide (8 ≤ s) = false := by simp; omega
                have HS : Hid (0 ≤ s ∧ s < 8) := Lib.hid (by omega)
                clear h1' h2
                by_cases h3 : x = 0
                · have e3 : (x == 0) = true := by simp [h3]
                  cases half
                  · have HF : Hid (¬ Kp.properGo C l l.length 0 false) := Lib.hid (by rw [← HV.out, hgo, if_pos (by simp [h3])]; simp)
                    clear hgo
                    go_quiet (fail)
                    go_wp2_with fail
                    all_goals
                      go_ret
                      exact IfPost.mk (pw_below_drewN HB4.out _) (by rw [HP2.out]; simp [HF.out])
                  · have hi1 := hh rfl
                    clear hh
                    by_cases h4 : i % C = 0
                    · have HF : Hid (¬ Kp.properGo C l l.length 0 false) := Lib.hid (by rw [← HV.out, hgo, if_pos (by simp [h4])]; simp)
                      rw [h4] at hm
                      clear h3 h4
                      clear hgo
                      go_quiet (fail)
                      go_wp2_with fail
                      all_goals
                        go_ret
                        exact IfPost.mk (pw_below_drewN HB4.out _) (by rw [HP2.out]; simp [HF.out])
                    · have hrl := Nat.mod_lt i (show C > 0 by omega)
                      obtain ⟨rm, hrm⟩ : ∃ rm, i % C = rm := ⟨_, rfl⟩
                      rw [hrm] at hm h4 hgo hrl
                      have e4 : ((rm : Int) == 0) = false := by simp; omega
                      clear hrm
                      obtain ⟨k, hk⟩ : ∃ k : Nat, i = k + 1 := ⟨i - 1, by omega⟩
                      have hk1 : (i : Int) - 1 = (k : Int) := by omega
                      obtain ⟨b', o', hA', _, r3⟩ := HR4.out.at_ k (by omega)
                      injection hA' with hA'
                      injection hA' with hA1 hA2
                      subst hA1 hA2
                      have hki : i - 1 = k := by omega
                      rw [hki] at hgo
                      have hkl : (k : Int) < l.length := by omega
                      have HK := Lib.hid hk
                      clear hk hki hi1
                      by_cases h5 : s = Kp.gs l k
                      · have e5 : (s != Kp.gs l k) = false := by simp [h5]
                        have HF : Hid (Kp.properGo C l (l.length - (i + 1)) (i + 1) false ↔ Kp.properGo C l l.length 0 false) := Lib.hid (by
                          have hs2 := HS.out
                          rw [← HV.out, hgo, if_neg (by simp [h3, h4, ← h5]; omega)]; simp)
                        clear hgo h3 h4 h5
                        go_quiet (fail)
                        go_wp2_with fail
                        refine ⟨⟨i + 1, false, rfl, by go_num, by omega, by simp, HF, Lib.hid ⟨HG4.out.blk⟩, Lib.hid (HR4.out.drewN _), Lib.hid (pw_below_drewN HB4.out _)⟩, ?_⟩
                        simp [intOf]; omega
                      · have e5 : (s != Kp.gs l k) = true := by simp [h5]
                        have HF : Hid (¬ Kp.properGo C l l.length 0 false) := Lib.hid (by rw [← HV.out, hgo, if_pos (by simp [h5])]; simp)
                        clear h3 h4 h5
                        clear hgo
                        go_quiet (fail)
                        go_wp2_with fail
                        all_goals
                          go_ret
                          exact IfPost.mk (pw_below_drewN HB4.out _) (by rw [HP2.out]; simp [HF.out])
                · have e3 : (x == 0) = false := by simp [h3]
                  cases half
                  · have HG : Hid (Kp.properGo C l l.length 0 false ↔ if Kp.odd x then False else Kp.properGo C l (l.length - (i + 1)) (i + 1) (decide (Kp.wid x = 2))) := Lib.hid (by
                      have hs2 := HS.out
                      rw [← HV.out, hgo, if_neg (by simp [h3]; omega)]
                      by_cases ho : Kp.odd x <;> simp [ho])
                    clear hgo h3
                    go_quiet (fail)
                    go_wp2_with fail
                    refine (odd_calls x hw1 _).mono ?_
                    rintro e W6 ⟨b6, rfl, hiff, hb6⟩
                    have HB6 := Lib.hid (below_step (pw_below_drewN HB4.out nq) hb6)
                    have HG6 : Hid (GridAt W6 g (R : Int) (C : Int) (some ⟨b, o, none⟩) l.length c) := Lib.hid (GridAt.below (w := W4.drewN nq) ⟨HG4.out.blk⟩ hb6)
                    have HR6 := Lib.hid ((HR4.out.drewN nq).below hb6)
                    clear k0 k1 q0 q1 q2
                    have k0 : W6.cell? ⟨cb, 0, none⟩ = some (.int .i32 x) := blk_cell (blk_below (blk_drewN HC.out nq) hb6) 0
                    clear hb6 HB4 HG4 HR4 HC
                    cases b6
                    · have hno : ¬ Kp.odd x := fun h => by simpa using hiff.2 h
                      have HG' : Hid (Kp.properGo C l (l.length - (i + 1)) (i + 1) (decide (Kp.wid x = 2)) ↔ Kp.properGo C l l.length 0 false) := Lib.hid (by rw [HG.out, if_neg hno])
                      clear hiff
                      go_wp2_with fail
                      refine (of_calls x hw1 W6).mono ?_
                      rintro e W7 ⟨rfl, hb7⟩
                      have HB7 := Lib.hid (below_step HB6.out hb7)
                      have HG7 := Lib.hid (HG6.out.below hb7)
                      have HR7 := Lib.hid (HR6.out.below hb7)
                      clear hb7 HB6 HG6 HR6 k0
                      by_cases hw2' : Kp.wid x = 2
                      · have e6 : (Kp.wid x == 2) = true := by simp [hw2']
                        have HG'' : Hid (Kp.properGo C l (l.length - (i + 1)) (i + 1) true ↔ Kp.properGo C l l.length 0 false) := Lib.hid (by rw [← HG'.out]; simp [hw2'])
                        clear hw2'
                        go_wp2_with fail
                        refine ⟨⟨i + 1, true, rfl, by go_num, by omega, by simp, HG'', HG7, HR7, HB7⟩, ?_⟩
                        simp [intOf]; omega
                      · have e6 : (Kp.wid x == 2) = false := by simp [hw2']
                        have HG'' : Hid (Kp.properGo C l (l.length - (i + 1)) (i + 1) false ↔ Kp.properGo C l l.length 0 false) := Lib.hid (by rw [← HG'.out]; simp [hw2'])
                        clear hw2'
                        go_wp2_with fail
                        refine ⟨⟨i + 1, false, rfl, by go_num, by omega, by simp, HG'', HG7, HR7, HB7⟩, ?_⟩
                        simp [intOf]; omega
                    · have ho : Kp.odd x := hiff.1 rfl
                      have HF : Hid (¬ Kp.properGo C l l.length 0 false) := Lib.hid (by rw [HG.out, if_pos ho]; simp)
                      clear hiff
                      go_wp2_with fail
                      go_ret
                      exact IfPost.mk HB6.out (by rw [HP2.out]; simp [HF.out])
                  · have HF : Hid (¬ Kp.properGo C l l.length 0 false) := Lib.hid (by rw [← HV.out, hgo, if_pos (by simp [h3])]; simp)
                    clear hh h3
                    clear hgo
                    go_quiet (fail)
                    go_wp2_with fail
                    all_goals
                      go_ret
                      exact IfPost.mk (pw_below_drewN HB4.out _) (by rw [HP2.out]; simp [HF.out])
          · obtain rfl : i = l.length := by omega
            have HF : Hid (half = false ↔ Kp.properGo C l l.length 0 false) := Lib.hid (by rw [← HV.out, Nat.sub_self]; rfl)
            clear hw hcast hN hnb hnb2
            cases half
            · go_wp2_with fail
              go_ret
              exact IfPost.mk HB3.out (by rw [HP2.out, ← HF.out]; simp)
            · go_wp2_with fail
              go_ret
              exact IfPost.mk HB3.out (by rw [HP2.out, ← HF.out]; simp)
      · have hnb : ((l.length : Int) != (N : Int)) = true := by simp; omega
        have hnb2 : ((l.length : Int) == (N : Int)) = false := by simp; omega
        go_wp2_with fail
        all_goals
          go_ret
          exact IfPost.mk HB3.out (by rw [HP2.out]; simp [hlen])
end Go.Proofs.YtbjckccgbmimpabDoor
