-- PRINTED BY print.sh 35421559b90ae4d0a3588c463048766b98c2df88dd9212a6774a882060cdf62d: not written by this session
import Derived.Test.YtbjckccgbmimpabGreatDoorPProperx0
import Derived.Test.YtbjckccgbmimpabGreatDoorPProperx1
namespace Go.Proofs.YtbjckccgbmimpabGreatDoor.PProper
open Go.RowKit Go.Proofs.YtbjckccgbmimpabGreatDoorW.PrintWords Go.Proofs.YtbjckccgbmimpabGreatDoorW.PrintLast Go.Proofs.YtbjckccgbmimpabGreatDoorW.PrintMore
attribute [local go_sem] max2_int min2_int max_two min_two max_three min_three max_four min_four   -- for this text's walks alone
set_option linter.unusedVariables false
set_option linter.unusedSimpArgs false

/-! ### stylusref23_Proper: function 6 -/
mutual
def stylusref23_Proper.j0 : Nat → Int → List (S45) → Bool → Option (Bool)
  | 0, _, _, _ => none
  | k + 1, x1, x2, x31 => if x31 = true then (some false) else (stylusref23_Proper.l0 k x1 x2 0)
def stylusref23_Proper.l0 : Nat → Int → List (S45) → Int → Option (Bool)
  | 0, _, _, _ => none
  | k + 1, x1, x2, x7 => if x7 < (x2.length : Int) then (if 0 ≤ x7 then (if ((rd_T45 x2 x7).f1) < 0 then (stylusref23_Proper.j2 k x1 x2 x7 true ((rd_T45 x2 x7).f0) ((rd_T45 x2 x7).f1)) else (stylusref23_Proper.j2 k x1 x2 x7 (decide (((rd_T45 x2 x7).f1) > 7)) ((rd_T45 x2 x7).f0) ((rd_T45 x2 x7).f1))) else (none)) else (some true)
def stylusref23_Proper.j2 : Nat → Int → List (S45) → Int → Bool → Int → Int → Option (Bool)
  | 0, _, _, _, _, _, _ => none
  | k + 1, x1, x2, x7, x49, x121000, x121001 => if x49 = true then (some false) else (if x121000 = 0 then (if x1 = 0 then (none) else (if (Int.tmod x7 x1) = 0 then (some false) else (if 0 ≤ (wrap64 (x7 - 1)) then (if (wrap64 (x7 - 1)) < (x2.length : Int) then (if ((rd_T45 x2 (wrap64 (x7 - 1))).f0) = 0 then (some false) else ((stylusref02_Of.f k ((rd_T45 x2 (wrap64 (x7 - 1))).f0)).bind fun t123 => (if t123 = 2 then (if ((rd_T45 x2 (wrap64 (x7 - 1))).f1) = x121001 then (stylusref23_Proper.l0 k x1 x2 (wrap64 (x7 + 1))) else (some false)) else (some false)))) else (none)) else (none)))) else ((stylusref23_Rune.f k x121000).bind fun t125 => (if t125 = true then ((stylusref02_Of.f k x121000).bind fun t126 => (if t126 = 2 then (if x1 = 0 then (none) else (if (Int.tmod x7 x1) = (wrap64 (x1 - 1)) then (some false) else (if 0 ≤ (wrap64 (x7 + 1)) then (if (wrap64 (x7 + 1)) < (x2.length : Int) then (if ((rd_T45 x2 (wrap64 (x7 + 1))).f0) = 0 then (stylusref23_Proper.l0 k x1 x2 (wrap64 (x7 + 1))) else (some false)) else (none)) else (none)))) else (stylusref23_Proper.l0 k x1 x2 (wrap64 (x7 + 1))))) else (some false))))
end
def stylusref23_Proper.f (k : Nat) (a0 : Int) (a1 : Int) (l2 : List (S45)) : Option (Bool) := if a0 < 1 then (stylusref23_Proper.j0 k a1 l2 true) else (if a0 > 60 then (stylusref23_Proper.j0 k a1 l2 true) else (if a1 < 1 then (stylusref23_Proper.j0 k a1 l2 true) else (if a1 > 60 then (stylusref23_Proper.j0 k a1 l2 true) else (stylusref23_Proper.j0 k a1 l2 ((l2.length : Int) != (wrap64 (a0 * a1)))))))
theorem stylusref23_Proper.mono_l : ∀ k, (∀ y0 y1 y2, LeO (stylusref23_Proper.j0 k y0 y1 y2) (stylusref23_Proper.j0 (k + 1) y0 y1 y2)) ∧ (∀ y0 y1 y2, LeO (stylusref23_Proper.l0 k y0 y1 y2) (stylusref23_Proper.l0 (k + 1) y0 y1 y2)) ∧ (∀ y0 y1 y2 y3 y4 y5, LeO (stylusref23_Proper.j2 k y0 y1 y2 y3 y4 y5) (stylusref23_Proper.j2 (k + 1) y0 y1 y2 y3 y4 y5))
  | 0 => ⟨fun _ _ _ r h => by simp [stylusref23_Proper.j0] at h, fun _ _ _ r h => by simp [stylusref23_Proper.l0] at h, fun _ _ _ _ _ _ r h => by simp [stylusref23_Proper.j2] at h⟩
  | k + 1 => by
    obtain ⟨ih0, ih1, ih2⟩ := stylusref23_Proper.mono_l k
    refine ⟨?_, ?_, ?_⟩
    · intro y0 y1 y2
      unfold stylusref23_Proper.j0
      repeat' first
      | (with_reducible exact ih0 _ _ _)
      | (with_reducible exact ih1 _ _ _)
      | (with_reducible exact ih2 _ _ _ _ _ _)
      | (with_reducible exact stylusref02_Of.mono _ _)
      | (with_reducible exact stylusref23_Rune.mono _ _)
      | (with_reducible exact LeO.refl _)
      | (with_reducible exact LeO.none _)
      | (with_reducible refine LeO.ite ?_ ?_)
      | (with_reducible refine LeO.bind ?_ (fun _ => ?_))
      | exact ih0 _ _ _
      | exact ih1 _ _ _
      | exact ih2 _ _ _ _ _ _
      | exact stylusref02_Of.mono _ _
      | exact stylusref23_Rune.mono _ _
      | exact LeO.none _
      | refine LeO.ite ?_ ?_
      | refine LeO.bind ?_ (fun _ => ?_)
    · intro y0 y1 y2
      unfold stylusref23_Proper.l0
      repeat' first
      | (with_reducible exact ih0 _ _ _)
      | (with_reducible exact ih1 _ _ _)
      | (with_reducible exact ih2 _ _ _ _ _ _)
      | (with_reducible exact stylusref02_Of.mono _ _)
      | (with_reducible exact stylusref23_Rune.mono _ _)
      | (with_reducible exact LeO.refl _)
      | (with_reducible exact LeO.none _)
      | (with_reducible refine LeO.ite ?_ ?_)
      | (with_reducible refine LeO.bind ?_ (fun _ => ?_))
      | exact ih0 _ _ _
      | exact ih1 _ _ _
      | exact ih2 _ _ _ _ _ _
      | exact stylusref02_Of.mono _ _
      | exact stylusref23_Rune.mono _ _
      | exact LeO.none _
      | refine LeO.ite ?_ ?_
      | refine LeO.bind ?_ (fun _ => ?_)
    · intro y0 y1 y2 y3 y4 y5
      unfold stylusref23_Proper.j2
      repeat' first
      | (with_reducible exact ih0 _ _ _)
      | (with_reducible exact ih1 _ _ _)
      | (with_reducible exact ih2 _ _ _ _ _ _)
      | (with_reducible exact stylusref02_Of.mono _ _)
      | (with_reducible exact stylusref23_Rune.mono _ _)
      | (with_reducible exact LeO.refl _)
      | (with_reducible exact LeO.none _)
      | (with_reducible refine LeO.ite ?_ ?_)
      | (with_reducible refine LeO.bind ?_ (fun _ => ?_))
      | exact ih0 _ _ _
      | exact ih1 _ _ _
      | exact ih2 _ _ _ _ _ _
      | exact stylusref02_Of.mono _ _
      | exact stylusref23_Rune.mono _ _
      | exact LeO.none _
      | refine LeO.ite ?_ ?_
      | refine LeO.bind ?_ (fun _ => ?_)
theorem stylusref23_Proper.mono : ∀ a0 a1 a2 k, LeO (stylusref23_Proper.f k a0 a1 a2) (stylusref23_Proper.f (k + 1) a0 a1 a2) := by
  intro a0 a1 a2 k
  obtain ⟨ih0, ih1, ih2⟩ := stylusref23_Proper.mono_l k
  unfold stylusref23_Proper.f
  repeat' first
      | (with_reducible exact ih0 _ _ _)
      | (with_reducible exact ih1 _ _ _)
      | (with_reducible exact ih2 _ _ _ _ _ _)
      | (with_reducible exact stylusref02_Of.mono _ _)
      | (with_reducible exact stylusref23_Rune.mono _ _)
      | (with_reducible exact LeO.refl _)
      | (with_reducible exact LeO.none _)
      | (with_reducible refine LeO.ite ?_ ?_)
      | (with_reducible refine LeO.bind ?_ (fun _ => ?_))
      | exact ih0 _ _ _
      | exact ih1 _ _ _
      | exact ih2 _ _ _ _ _ _
      | exact stylusref02_Of.mono _ _
      | exact stylusref23_Rune.mono _ _
      | exact LeO.none _
      | refine LeO.ite ?_ ?_
      | refine LeO.bind ?_ (fun _ => ?_)
set_option maxHeartbeats 8000000 in
set_option maxRecDepth 100000 in
theorem stylusref23_Proper.calls (k : Nat) (a0 : Int) (a1 : Int) (A2 : Option Addr) (c2 : Nat) (l2 : List (S45)) (r : Bool) (w : World) (hr2 : Kd.C k45 w A2 l2.length l2) (hc2 : l2.length ≤ c2) (h : stylusref23_Proper.f k a0 a1 l2 = some r) :
    Calls Tryz.prog 6 #[.int .i64 a0, .int .i64 a1, .slice A2 l2.length c2] w fun e w' => e = .returned (.bool r) ∧ Below w.heap.size w w' := by
  have hu45 := Tryz.underlying45
  have HR2 := Aside0.mk hr2
  have HC2 := Aside0.mk hc2
  clear hr2 hc2
  have HB := Aside0.mk (Below.refl w.heap.size w)
  have H : (if a0 < 1 then (stylusref23_Proper.j0 k a1 l2 true) else (if a0 > 60 then (stylusref23_Proper.j0 k a1 l2 true) else (if a1 < 1 then (stylusref23_Proper.j0 k a1 l2 true) else (if a1 > 60 then (stylusref23_Proper.j0 k a1 l2 true) else (stylusref23_Proper.j0 k a1 l2 ((l2.length : Int) != (wrap64 (a0 * a1)))))))) = some r := h
  clear h
  have HC4 := Aside0.mk H
  clear H
  go_enter Tryz.func6, Tryz.ntmps6
  go_upto_region 1 with (fail)
  repeat (go_quiet (fail); go_upto_region 1 with (fail))
  go_cut [31] (fun v31 wc => ∃ (kq : Nat) (x31_3 : Bool), v31 = .bool x31_3 ∧ Aside0 (stylusref23_Proper.j0 kq a1 l2 x31_3 = some r) ∧ Aside0 (kq ≤ k) ∧ Aside0 (Below w.heap.size w wc))
  case first =>
    have H := HC4.out
    clear HC4
    by_cases c5 : a0 < 1
    · rw [if_pos c5] at H
      have c5b0 : decide (a0 < 1) = true := decide_eq_true c5
      clear c5
      (first | rw [c5b0] | (simp only [i64_w, i32_w]; rw [c5b0]) | skip)
      have H' := Aside0.mk H
      clear H
      go_wp2
      repeat (go_quiet (fail); try go_wp2)
      go_meet
      case rel => exact ⟨_, (true), (by first | rfl | (simp; done) | (simp [*]; done)), H', ⟨by first | omega | exact Nat.le_refl _⟩, ⟨by repeat (first | (with_reducible first | exact HB.out | apply below_alloc | apply pw_below_drewN | apply below_drew1) | exact HB.out)⟩⟩
    · rw [if_neg c5] at H
      have c5b0 : decide (a0 < 1) = false := decide_eq_false c5
      clear c5
      (first | rw [c5b0] | (simp only [i64_w, i32_w]; rw [c5b0]) | skip)
      by_cases c6 : a0 > 60
      · rw [if_pos c6] at H
        have c6b0 : decide (60 < a0) = true := decide_eq_true c6
        clear c6
        have H' := Aside0.mk H
        clear H
        go_wp2
        repeat (go_quiet (fail); try go_wp2)
        go_meet
        case rel => exact ⟨_, (true), (by first | rfl | (simp; done) | (simp [*]; done)), H', ⟨by first | omega | exact Nat.le_refl _⟩, ⟨by repeat (first | (with_reducible first | exact HB.out | apply below_alloc | apply pw_below_drewN | apply below_drew1) | exact HB.out)⟩⟩
      · rw [if_neg c6] at H
        have c6b0 : decide (60 < a0) = false := decide_eq_false c6
        clear c6
        by_cases c7 : a1 < 1
        · rw [if_pos c7] at H
          have c7b0 : decide (a1 < 1) = true := decide_eq_true c7
          clear c7
          have H' := Aside0.mk H
          clear H
          go_wp2
          repeat (go_quiet (fail); try go_wp2)
          go_meet
          case rel => exact ⟨_, (true), (by first | rfl | (simp; done) | (simp [*]; done)), H', ⟨by first | omega | exact Nat.le_refl _⟩, ⟨by repeat (first | (with_reducible first | exact HB.out | apply below_alloc | apply pw_below_drewN | apply below_drew1) | exact HB.out)⟩⟩
        · rw [if_neg c7] at H
          have c7b0 : decide (a1 < 1) = false := decide_eq_false c7
          clear c7
          by_cases c8 : a1 > 60
          · rw [if_pos c8] at H
            have c8b0 : decide (60 < a1) = true := decide_eq_true c8
            clear c8
            have H' := Aside0.mk H
            clear H
            go_wp2
            repeat (go_quiet (fail); try go_wp2)
            go_meet
            case rel => exact ⟨_, (true), (by first | rfl | (simp; done) | (simp [*]; done)), H', ⟨by first | omega | exact Nat.le_refl _⟩, ⟨by repeat (first | (with_reducible first | exact HB.out | apply below_alloc | apply pw_below_drewN | apply below_drew1) | exact HB.out)⟩⟩
          · rw [if_neg c8] at H
            have c8b0 : decide (60 < a1) = false := decide_eq_false c8
            clear c8
            have H' := Aside0.mk H
            clear H
            go_wp2
            repeat (go_quiet (fail); try go_wp2)
            go_meet
            case rel => exact ⟨_, (((l2.length : Int) != (wrap64 (a0 * a1)))), (by first | rfl | (simp; done) | (simp [*]; done)), H', ⟨by first | omega | exact Nat.le_refl _⟩, ⟨by repeat (first | (with_reducible first | exact HB.out | apply below_alloc | apply pw_below_drewN | apply below_drew1) | exact HB.out)⟩⟩
  case rest =>
    clear HC4
    try clear c2
    try clear p2
    try clear c5
    try clear c5b0
    try clear c6
    try clear c6b0
    try clear p6
    try clear c7
    try clear c7b0
    try clear c8
    try clear c8b0
    obtain ⟨kq, x31_3, rfl, HA, HJ3, HB⟩ := hcut
    cases kq with
    | zero => exact absurd HA.out (by simp [stylusref23_Proper.j0])
    | succ kj3 =>
      have H := HA.out
      clear HA
      simp only [stylusref23_Proper.j0] at H
      by_cases c9 : x31_3 = true
      · subst c9
        have H1 : (some false) = some r := by rw [if_pos rfl] at H; exact H
        clear H
        have H := H1
        clear H1
        obtain rfl := Option.some.inj H
        go_wp2
        repeat (go_quiet (fail); try go_wp2)
        go_ret
        exact ⟨by first | rfl | (simp [errW_none, errW_some] <;> rfl) | (simp [*, errW_none, errW_some] <;> rfl), by repeat (first | (with_reducible first | exact HB.out | apply below_alloc | apply pw_below_drewN | apply below_drew1) | exact HB.out)⟩
      · replace c9 := Bool.eq_false_iff.mpr c9
        subst c9
        have H1 : (stylusref23_Proper.l0 kj3 a1 l2 0) = some r := by rw [if_neg (show ¬ (false = true) by decide)] at H; exact H
        clear H
        have H := H1
        clear H1
        have H' := Aside0.mk H
        clear H
        go_wp2
        repeat (go_quiet (fail); try go_wp2)
        go_loopg [7] kj3 (fun kq v7 w' => ∃ (x7_2 : Int), v7 = .int .i64 x7_2 ∧ Aside0 (stylusref23_Proper.l0 kq a1 l2 x7_2 = some r) ∧ Aside0 (kq ≤ kj3) ∧ Aside0 (Below w.heap.size w w'))
        case atStart => exact ⟨(0), (by first | rfl | (simp; done) | (simp [*]; done)), H', ⟨Nat.le_refl _⟩, ⟨by repeat (first | (with_reducible first | exact HB.out | apply below_alloc | apply pw_below_drewN | apply below_drew1) | exact HB.out)⟩⟩
        case round =>
          clear H'
          try clear c2
          try clear p2
          try clear c5
          try clear c5b0
          try clear c6
          try clear c6b0
          try clear p6
          try clear c7
          try clear c7b0
          try clear c8
          try clear c8b0
          try clear c9
          try clear p2
          try clear p6
          obtain ⟨x7_2, rfl, HA, HK2, HB⟩ := hrel
          cases gk with
          | zero => exact absurd HA.out (by simp [stylusref23_Proper.l0])
          | succ k2 =>
            have H := HA.out
            clear HA
            simp only [stylusref23_Proper.l0] at H
            by_cases c10 : x7_2 < (l2.length : Int)
            · rw [if_pos c10] at H
              have c10b0 : decide (x7_2 < (l2.length : Int)) = true := decide_eq_true c10
              clear c10
              by_cases c11 : 0 ≤ x7_2
              · rw [if_pos c11] at H
                have c11b0 : decide (0 ≤ x7_2) = true := decide_eq_true c11
                clear c11
                have HC12 := Aside0.mk H
                clear H
                have p119 : 0 ≤ (x7_2 : Int) := of_decide_eq_true (by first | (with_reducible assumption) | assumption)
                have q119 : x7_2 < (l2.length : Int) := of_decide_eq_true (by first | (with_reducible assumption) | assumption)
                obtain ⟨ad119, e119, hx119_0, hx119_1⟩ := at_T45 HR2.out x7_2 p119 q119
                cases e119
                replace hx119_0 := (HB.out.cell (World.block_lt_of_cell? w _ hx119_0)).trans hx119_0
                replace hx119_1 := (HB.out.cell (World.block_lt_of_cell? w _ hx119_1)).trans hx119_1
                replace p119 := eq_true p119
                replace q119 := eq_true q119
                go_upto_region 7 with (first | ((with_reducible refine gate_dst (N := 8) rfl ?_); (try (refine gate_guard (by rfl) ?_; dsimp only)); refine box_event ?hg (N := 8) ?hd (cs := #[.int .i32 0, .int .i64 0]) (t := 45) ?hr ?_; (case hd => rfl); (case hg => rfl); (case hr => first | (go_simp; done) | (go_simp; rfl)); intro gb120 hg w13 hbox hb; have n0_ := Aside0.mk (below_step (by repeat (first | (with_reducible first | exact HB.out | apply below_alloc | apply pw_below_drewN | apply below_drew1) | exact HB.out)) hb); have n1_ := Aside0.mk (hbox); have n2_ := Aside0.mk ((by rw [hg]; exact (below_size (by repeat (first | (with_reducible first | exact HB.out | apply below_alloc | apply pw_below_drewN | apply below_drew1) | exact HB.out))) : w.heap.size ≤ gb120)); have n3_ := Aside0.mk ((by rw [hg]; exact (below_size (by repeat (first | (with_reducible first | exact HB.out | apply below_alloc | apply pw_below_drewN | apply below_drew1) | exact HB.out))) : w.heap.size ≤ gb120)); clear HB; have HB := n0_; have BK120 := n1_; have GW120 := n2_; have GE120 := n3_; clear n0_ n1_ n2_ n3_; clear hb hbox hg; have hcz14_0 : w13.cell? ⟨gb120, 0, none⟩ = some (.int .i32 0) := (blk_cell BK120.out 0).trans rfl; have hcz14_1 : w13.cell? ⟨gb120, 1, none⟩ = some (.int .i64 0) := (blk_cell BK120.out 1).trans rfl; have hfz14_0 := blk_frozen BK120.out 0; have hfz14_1 := blk_frozen BK120.out 1))
                repeat (go_quiet (first | ((with_reducible refine gate_dst (N := 8) rfl ?_); (try (refine gate_guard (by rfl) ?_; dsimp only)); refine box_event ?hg (N := 8) ?hd (cs := #[.int .i32 0, .int .i64 0]) (t := 45) ?hr ?_; (case hd => rfl); (case hg => rfl); (case hr => first | (go_simp; done) | (go_simp; rfl)); intro gb120 hg w13 hbox hb; have n0_ := Aside0.mk (below_step (by repeat (first | (with_reducible first | exact HB.out | apply below_alloc | apply pw_below_drewN | apply below_drew1) | exact HB.out)) hb); have n1_ := Aside0.mk (hbox); have n2_ := Aside0.mk ((by rw [hg]; exact (below_size (by repeat (first | (with_reducible first | exact HB.out | apply below_alloc | apply pw_below_drewN | apply below_drew1) | exact HB.out))) : w.heap.size ≤ gb120)); have n3_ := Aside0.mk ((by rw [hg]; exact (below_size (by repeat (first | (with_reducible first | exact HB.out | apply below_alloc | apply pw_below_drewN | apply below_drew1) | exact HB.out))) : w.heap.size ≤ gb120)); clear HB; have HB := n0_; have BK120 := n1_; have GW120 := n2_; have GE120 := n3_; clear n0_ n1_ n2_ n3_; clear hb hbox hg; have hcz14_0 : w13.cell? ⟨gb120, 0, none⟩ = some (.int .i32 0) := (blk_cell BK120.out 0).trans rfl; have hcz14_1 : w13.cell? ⟨gb120, 1, none⟩ = some (.int .i64 0) := (blk_cell BK120.out 1).trans rfl; have hfz14_0 := blk_frozen BK120.out 0; have hfz14_1 := blk_frozen BK120.out 1)); go_upto_region 7 with (first | ((with_reducible refine gate_dst (N := 8) rfl ?_); (try (refine gate_guard (by rfl) ?_; dsimp only)); refine box_event ?hg (N := 8) ?hd (cs := #[.int .i32 0, .int .i64 0]) (t := 45) ?hr ?_; (case hd => rfl); (case hg => rfl); (case hr => first | (go_simp; done) | (go_simp; rfl)); intro gb120 hg w13 hbox hb; have n0_ := Aside0.mk (below_step (by repeat (first | (with_reducible first | exact HB.out | apply below_alloc | apply pw_below_drewN | apply below_drew1) | exact HB.out)) hb); have n1_ := Aside0.mk (hbox); have n2_ := Aside0.mk ((by rw [hg]; exact (below_size (by repeat (first | (with_reducible first | exact HB.out | apply below_alloc | apply pw_below_drewN | apply below_drew1) | exact HB.out))) : w.heap.size ≤ gb120)); have n3_ := Aside0.mk ((by rw [hg]; exact (below_size (by repeat (first | (with_reducible first | exact HB.out | apply below_alloc | apply pw_below_drewN | apply below_drew1) | exact HB.out))) : w.heap.size ≤ gb120)); clear HB; have HB := n0_; have BK120 := n1_; have GW120 := n2_; have GE120 := n3_; clear n0_ n1_ n2_ n3_; clear hb hbox hg; have hcz14_0 : w13.cell? ⟨gb120, 0, none⟩ = some (.int .i32 0) := (blk_cell BK120.out 0).trans rfl; have hcz14_1 : w13.cell? ⟨gb120, 1, none⟩ = some (.int .i64 0) := (blk_cell BK120.out 1).trans rfl; have hfz14_0 := blk_frozen BK120.out 0; have hfz14_1 := blk_frozen BK120.out 1)))
                (try simp only [Act.put, List.setIfInBounds_toArray, List.set_cons_zero, List.set_cons_succ])
                go_cut [49] (fun v49 wc => ∃ (kq : Nat) (x49_11 : Bool), v49 = .bool x49_11 ∧ Aside0 (stylusref23_Proper.j2 kq a1 l2 x7_2 x49_11 ((rd_T45 l2 x7_2).f0) ((rd_T45 l2 x7_2).f1) = some r) ∧ Aside0 (kq ≤ k2) ∧ Aside0 (wc.heap[gb120]? = some (.cells #[.int .i32 ((rd_T45 l2 x7_2).f0), .int .i64 ((rd_T45 l2 x7_2).f1)] 45 (0, 0))) ∧ Aside0 (Below w.heap.size w wc))
                case first =>
                  have H := HC12.out
                  clear HC12
                  by_cases c15 : ((rd_T45 l2 x7_2).f1) < 0
                  · rw [if_pos c15] at H
                    have c15b0 : decide (((rd_T45 l2 x7_2).f1) < 0) = true := decide_eq_true c15
                    clear c15
                    (first | rw [c15b0] | (simp only [i64_w, i32_w]; rw [c15b0]) | skip)
                    have H' := Aside0.mk H
                    clear H
                    have hcz16_0 : w13.cell? ⟨gb120, 0, none⟩ = some (.int .i32 0) := (blk_cell BK120.out 0).trans rfl
                    have hcz16_1 : w13.cell? ⟨gb120, 1, none⟩ = some (.int .i64 0) := (blk_cell BK120.out 1).trans rfl
                    have hfz16_0 := blk_frozen BK120.out 0
                    have hfz16_1 := blk_frozen BK120.out 1
                    go_wp2
                    repeat (go_quiet (fail); try go_wp2)
                    go_meet
                    case rel => exact ⟨_, (true), (by first | rfl | (simp; done) | (simp [*]; done)), H', ⟨by have := HJ3.out; have := HK2.out; first | omega | exact Nat.le_refl _⟩, ⟨by (with_reducible repeat (first | refine blk_drewN ?_ _ | refine blk_drew ?_ | refine blk_alloc ?_ _)); refine blk_put (cs := #[.int .i32 ((rd_T45 l2 x7_2).f0), .int .i64 0]) ?_ 1 _ rfl; (with_reducible repeat (first | refine blk_drewN ?_ _ | refine blk_drew ?_ | refine blk_alloc ?_ _)); refine blk_put (cs := #[.int .i32 0, .int .i64 0]) ?_ 0 _ rfl; (with_reducible repeat (first | refine blk_drewN ?_ _ | refine blk_drew ?_ | refine blk_alloc ?_ _)); exact BK120.out⟩, ⟨by repeat (first | (with_reducible first | exact HB.out | apply below_alloc | apply pw_below_drewN | apply below_drew1 | refine below_set ?_ GE120.out) | exact HB.out)⟩⟩
                  · rw [if_neg c15] at H
                    have c15b0 : decide (((rd_T45 l2 x7_2).f1) < 0) = false := decide_eq_false c15
                    clear c15
                    (first | rw [c15b0] | (simp only [i64_w, i32_w]; rw [c15b0]) | skip)
                    have H' := Aside0.mk H
                    clear H
                    have hcz17_0 : w13.cell? ⟨gb120, 0, none⟩ = some (.int .i32 0) := (blk_cell BK120.out 0).trans rfl
                    have hcz17_1 : w13.cell? ⟨gb120, 1, none⟩ = some (.int .i64 0) := (blk_cell BK120.out 1).trans rfl
                    have hfz17_0 := blk_frozen BK120.out 0
                    have hfz17_1 := blk_frozen BK120.out 1
                    go_wp2
                    repeat (go_quiet (fail); try go_wp2)
                    go_meet
                    case rel => exact ⟨_, (decide (((rd_T45 l2 x7_2).f1) > 7)), (by first | rfl | (simp; done) | (simp [*]; done)), H', ⟨by have := HJ3.out; have := HK2.out; first | omega | exact Nat.le_refl _⟩, ⟨by (with_reducible repeat (first | refine blk_drewN ?_ _ | refine blk_drew ?_ | refine blk_alloc ?_ _)); refine blk_put (cs := #[.int .i32 ((rd_T45 l2 x7_2).f0), .int .i64 0]) ?_ 1 _ rfl; (with_reducible repeat (first | refine blk_drewN ?_ _ | refine blk_drew ?_ | refine blk_alloc ?_ _)); refine blk_put (cs := #[.int .i32 0, .int .i64 0]) ?_ 0 _ rfl; (with_reducible repeat (first | refine blk_drewN ?_ _ | refine blk_drew ?_ | refine blk_alloc ?_ _)); exact BK120.out⟩, ⟨by repeat (first | (with_reducible first | exact HB.out | apply below_alloc | apply pw_below_drewN | apply below_drew1 | refine below_set ?_ GE120.out) | exact HB.out)⟩⟩
                case rest =>
                  clear HC12
                  try clear c1
                  try clear p1
                  try clear q1
                  try clear hx1
                  try clear c2
                  try clear p2
                  try clear c5
                  try clear c5b0
                  try clear c6
                  try clear c6b0
                  try clear p6
                  try clear c7
                  try clear c7b0
                  try clear c8
                  try clear c8b0
                  try clear c9
                  try clear c10
                  try clear c10b0
                  try clear c11
                  try clear c11b0
                  try clear p11
                  try clear q11
                  try clear hx11
                  try clear c15
                  try clear c15b0
                  try clear hcz14_0
                  try clear hcz14_1
                  try clear hcz16_0
                  try clear hcz16_1
                  try clear hcz17_0
                  try clear hcz17_1
                  try clear hfz14_0
                  try clear hfz14_1
                  try clear hfz16_0
                  try clear hfz16_1
                  try clear hfz17_0
                  try clear hfz17_1
                  try clear hx119_0
                  try clear hx119_1
                  try clear p119
                  try clear p2
                  try clear p6
                  try clear q119
                  obtain ⟨kq, x49_11, rfl, HA, HJ11, BK120, HB⟩ := hcut
                  cases kq with
                  | zero => exact absurd HA.out (by simp [stylusref23_Proper.j2])
                  | succ kj11 =>
                    have H := HA.out
                    clear HA
                    simp only [stylusref23_Proper.j2] at H
                    by_cases c18 : x49_11 = true
                    · subst c18
                      have H1 : (some false) = some r := by rw [if_pos rfl] at H; exact H
                      clear H
                      have H := H1
                      clear H1
                      obtain rfl := Option.some.inj H
                      go_wp2
                      repeat (go_quiet (fail); try go_wp2)
                      go_ret
                      exact ⟨by first | rfl | (simp [errW_none, errW_some] <;> rfl) | (simp [*, errW_none, errW_some] <;> rfl), by repeat (first | (with_reducible first | exact HB.out | apply below_alloc | apply pw_below_drewN | apply below_drew1 | refine below_set ?_ GE120.out) | exact HB.out)⟩
                    · replace c18 := Bool.eq_false_iff.mpr c18
                      subst c18
                      have H1 : (if ((rd_T45 l2 x7_2).f0) = 0 then (if a1 = 0 then (none) else (if (Int.tmod x7_2 a1) = 0 then (some false) else (if 0 ≤ (wrap64 (x7_2 - 1)) then (if (wrap64 (x7_2 - 1)) < (l2.length : Int) then (if ((rd_T45 l2 (wrap64 (x7_2 - 1))).f0) = 0 then (some false) else ((stylusref02_Of.f kj11 ((rd_T45 l2 (wrap64 (x7_2 - 1))).f0)).bind fun t123 => (if t123 = 2 then (if ((rd_T45 l2 (wrap64 (x7_2 - 1))).f1) = ((rd_T45 l2 x7_2).f1) then (stylusref23_Proper.l0 kj11 a1 l2 (wrap64 (x7_2 + 1))) else (some false)) else (some false)))) else (none)) else (none)))) else ((stylusref23_Rune.f kj11 ((rd_T45 l2 x7_2).f0)).bind fun t125 => (if t125 = true then ((stylusref02_Of.f kj11 ((rd_T45 l2 x7_2).f0)).bind fun t126 => (if t126 = 2 then (if a1 = 0 then (none) else (if (Int.tmod x7_2 a1) = (wrap64 (a1 - 1)) then (some false) else (if 0 ≤ (wrap64 (x7_2 + 1)) then (if (wrap64 (x7_2 + 1)) < (l2.length : Int) then (if ((rd_T45 l2 (wrap64 (x7_2 + 1))).f0) = 0 then (stylusref23_Proper.l0 kj11 a1 l2 (wrap64 (x7_2 + 1))) else (some false)) else (none)) else (none)))) else (stylusref23_Proper.l0 kj11 a1 l2 (wrap64 (x7_2 + 1))))) else (some false)))) = some r := by rw [if_neg (show ¬ (false = true) by decide)] at H; exact H
                      clear H
                      have H := H1
                      clear H1
                      by_cases c19 : ((rd_T45 l2 x7_2).f0) = 0
                      · rw [if_pos c19] at H
                        have c19b0 : (((rd_T45 l2 x7_2).f0) == 0) = true := beq_iff_eq.mpr c19
                        have c19b1 : (((rd_T45 l2 x7_2).f0) != 0) = false := bne_eq_false_iff_eq.mpr c19
                        clear c19
                        by_cases c20 : a1 = 0
                        · rw [if_pos c20] at H
                          exact absurd H (by simp)
                        · rw [if_neg c20] at H
                          have c20b0 : (a1 == 0) = false := beq_eq_false_iff_ne.mpr c20
                          have c20b1 : (a1 != 0) = true := bne_iff_ne.mpr c20
                          by_cases c21 : (Int.tmod x7_2 a1) = 0
                          · rw [if_pos c21] at H
                            have c21b0 : ((Int.tmod x7_2 a1) == 0) = true := beq_iff_eq.mpr c21
                            have c21b1 : ((Int.tmod x7_2 a1) != 0) = false := bne_eq_false_iff_eq.mpr c21
                            clear c21
                            obtain rfl := Option.some.inj H
                            have hcz22_0 : wc.cell? ⟨gb120, 0, none⟩ = some (.int .i32 ((rd_T45 l2 x7_2).f0)) := (blk_cell BK120.out 0).trans rfl
                            have hcz22_1 : wc.cell? ⟨gb120, 1, none⟩ = some (.int .i64 ((rd_T45 l2 x7_2).f1)) := (blk_cell BK120.out 1).trans rfl
                            have hfz22_0 := blk_frozen BK120.out 0
                            have hfz22_1 := blk_frozen BK120.out 1
                            go_wp2
                            repeat (go_quiet (fail); try go_wp2)
                            go_ret
                            exact ⟨by first | rfl | (simp [errW_none, errW_some] <;> rfl) | (simp [*, errW_none, errW_some] <;> rfl), by repeat (first | (with_reducible first | exact HB.out | apply below_alloc | apply pw_below_drewN | apply below_drew1 | refine below_set ?_ GE120.out) | exact HB.out)⟩
                          · rw [if_neg c21] at H
                            have c21b0 : ((Int.tmod x7_2 a1) == 0) = false := beq_eq_false_iff_ne.mpr c21
                            have c21b1 : ((Int.tmod x7_2 a1) != 0) = true := bne_iff_ne.mpr c21
                            obtain ⟨ji23, hji23⟩ : ∃ j_ : Int, (wrap64 (x7_2 - 1)) = j_ := ⟨_, rfl⟩
                            replace H : (if 0 ≤ (ji23) then (if (ji23) < (l2.length : Int) then (if ((rd_T45 l2 (ji23)).f0) = 0 then (some false) else ((stylusref02_Of.f kj11 ((rd_T45 l2 (ji23)).f0)).bind fun t123 => (if t123 = 2 then (if ((rd_T45 l2 (ji23)).f1) = ((rd_T45 l2 x7_2).f1) then (stylusref23_Proper.l0 kj11 a1 l2 (wrap64 (x7_2 + 1))) else (some false)) else (some false)))) else (none)) else (none)) = some r := by first | (rw [hji23] at H; exact H) | (simp only [hji23] at H ⊢; exact H)
                            have hji23w : (IntKind.i64.wrap (x7_2 - 1)) = ji23 := (i64_w _).trans hji23
                            by_cases c24 : 0 ≤ (ji23)
                            · rw [if_pos c24] at H
                              have c24b0 : decide (0 ≤ (ji23)) = true := decide_eq_true c24
                              clear c24
                              by_cases c25 : (ji23) < (l2.length : Int)
                              · rw [if_pos c25] at H
                                have c25b0 : decide ((ji23) < (l2.length : Int)) = true := decide_eq_true c25
                                clear c25
                                by_cases c26 : ((rd_T45 l2 (ji23)).f0) = 0
                                · rw [if_pos c26] at H
                                  have c26b0 : (((rd_T45 l2 (ji23)).f0) == 0) = true := beq_iff_eq.mpr c26
                                  have c26b1 : (((rd_T45 l2 (ji23)).f0) != 0) = false := bne_eq_false_iff_eq.mpr c26
                                  clear c26
                                  obtain rfl := Option.some.inj H
                                  have hcz27_0 : wc.cell? ⟨gb120, 0, none⟩ = some (.int .i32 ((rd_T45 l2 x7_2).f0)) := (blk_cell BK120.out 0).trans rfl
                                  have hcz27_1 : wc.cell? ⟨gb120, 1, none⟩ = some (.int .i64 ((rd_T45 l2 x7_2).f1)) := (blk_cell BK120.out 1).trans rfl
                                  have hfz27_0 := blk_frozen BK120.out 0
                                  have hfz27_1 := blk_frozen BK120.out 1
                                  have p121 : 0 ≤ ((ji23) : Int) := of_decide_eq_true (by first | (with_reducible assumption) | assumption)
                                  have q121 : (ji23) < (l2.length : Int) := of_decide_eq_true (by first | (with_reducible assumption) | assumption)
                                  obtain ⟨ad121, e121, hx121_0, hx121_1⟩ := at_T45 HR2.out (ji23) p121 q121
                                  obtain rfl : ad119 = ad121 := (by injection e121)
                                  replace hx121_0 := (HB.out.cell (World.block_lt_of_cell? w _ hx121_0)).trans hx121_0
                                  replace hx121_1 := (HB.out.cell (World.block_lt_of_cell? w _ hx121_1)).trans hx121_1
                                  replace p121 := eq_true p121
                                  replace q121 := eq_true q121
                                  go_wp2
                                  repeat (go_quiet (fail); try go_wp2)
                                  go_ret
                                  exact ⟨by first | rfl | (simp [errW_none, errW_some] <;> rfl) | (simp only [← hji23]; first | rfl | (simp [errW_none, errW_some] <;> rfl)) | (simp [*, errW_none, errW_some] <;> rfl), by repeat (first | (with_reducible first | exact HB.out | apply below_alloc | apply pw_below_drewN | apply below_drew1 | refine below_set ?_ GE120.out) | exact HB.out)⟩
                                · rw [if_neg c26] at H
                                  have c26b0 : (((rd_T45 l2 (ji23)).f0) == 0) = false := beq_eq_false_iff_ne.mpr c26
                                  have c26b1 : (((rd_T45 l2 (ji23)).f0) != 0) = true := bne_iff_ne.mpr c26
                                  replace H := Option.bind_eq_some_iff.mp H
                                  obtain ⟨t123, A280, H⟩ := H
                                  replace H : (if t123 = 2 then (if ((rd_T45 l2 (ji23)).f1) = ((rd_T45 l2 x7_2).f1) then (stylusref23_Proper.l0 kj11 a1 l2 (wrap64 (x7_2 + 1))) else (some false)) else (some false)) = some r := H
                                  have A28 := Aside0.mk A280
                                  clear A280
                                  by_cases c29 : t123 = 2
                                  · rw [if_pos c29] at H
                                    have c29b0 : (t123 == 2) = true := beq_iff_eq.mpr c29
                                    have c29b1 : (t123 != 2) = false := bne_eq_false_iff_eq.mpr c29
                                    clear c29
                                    by_cases c30 : ((rd_T45 l2 (ji23)).f1) = ((rd_T45 l2 x7_2).f1)
                                    · rw [if_pos c30] at H
                                      have c30b0 : (((rd_T45 l2 (ji23)).f1) == ((rd_T45 l2 x7_2).f1)) = true := beq_iff_eq.mpr c30
                                      have c30b1 : (((rd_T45 l2 (ji23)).f1) != ((rd_T45 l2 x7_2).f1)) = false := bne_eq_false_iff_eq.mpr c30
                                      clear c30
                                      have H' := Aside0.mk H
                                      clear H
                                      have hcz31_0 : wc.cell? ⟨gb120, 0, none⟩ = some (.int .i32 ((rd_T45 l2 x7_2).f0)) := (blk_cell BK120.out 0).trans rfl
                                      have hcz31_1 : wc.cell? ⟨gb120, 1, none⟩ = some (.int .i64 ((rd_T45 l2 x7_2).f1)) := (blk_cell BK120.out 1).trans rfl
                                      have hfz31_0 := blk_frozen BK120.out 0
                                      have hfz31_1 := blk_frozen BK120.out 1
                                      have p121 : 0 ≤ ((ji23) : Int) := of_decide_eq_true (by first | (with_reducible assumption) | assumption)
                                      have q121 : (ji23) < (l2.length : Int) := of_decide_eq_true (by first | (with_reducible assumption) | assumption)
                                      obtain ⟨ad121, e121, hx121_0, hx121_1⟩ := at_T45 HR2.out (ji23) p121 q121
                                      obtain rfl : ad119 = ad121 := (by injection e121)
                                      replace hx121_0 := (HB.out.cell (World.block_lt_of_cell? w _ hx121_0)).trans hx121_0
                                      replace hx121_1 := (HB.out.cell (World.block_lt_of_cell? w _ hx121_1)).trans hx121_1
                                      replace p121 := eq_true p121
                                      replace q121 := eq_true q121
                                      have p122 : 0 ≤ ((ji23) : Int) := of_decide_eq_true (by first | (with_reducible assumption) | assumption)
                                      have q122 : (ji23) < (l2.length : Int) := of_decide_eq_true (by first | (with_reducible assumption) | assumption)
                                      obtain ⟨ad122, e122, hx122_0, hx122_1⟩ := at_T45 HR2.out (ji23) p122 q122
                                      obtain rfl : ad119 = ad122 := (by injection e122)
                                      replace hx122_0 := (HB.out.cell (World.block_lt_of_cell? w _ hx122_0)).trans hx122_0
                                      replace hx122_1 := (HB.out.cell (World.block_lt_of_cell? w _ hx122_1)).trans hx122_1
                                      replace p122 := eq_true p122
                                      replace q122 := eq_true q122
                                      go_wp2_with (first | (go_at_call 15; (with_reducible refine (stylusref02_Of.calls kj11 ((rd_T45 l2 (ji23)).f0) t123 _ A28.out).mono ?_); rintro e w' ⟨rfl, ⟨nd, rfl⟩⟩; (try first | exact ⟨rfl, _, World.drewN_drewN _ _ _⟩ | exact ⟨rfl, _, Eq.trans (World.drewN_drewN _ _ _) (congrArg (World.drewN _) (Nat.add_assoc _ _ _))⟩); have p124 : 0 ≤ ((ji23) : Int) := of_decide_eq_true (by first | (with_reducible assumption) | assumption); have q124 : (ji23) < (l2.length : Int) := of_decide_eq_true (by first | (with_reducible assumption) | assumption); obtain ⟨ad124, e124, hx124_0, hx124_1⟩ := at_T45 HR2.out (ji23) p124 q124; obtain rfl : ad119 = ad124 := (by injection e124); replace hx124_0 := (HB.out.cell (World.block_lt_of_cell? w _ hx124_0)).trans hx124_0; replace hx124_1 := (HB.out.cell (World.block_lt_of_cell? w _ hx124_1)).trans hx124_1; replace p124 := eq_true p124; replace q124 := eq_true q124))
                                      repeat (go_quiet (first | (go_at_call 15; (with_reducible refine (stylusref02_Of.calls kj11 ((rd_T45 l2 (ji23)).f0) t123 _ A28.out).mono ?_); rintro e w' ⟨rfl, ⟨nd, rfl⟩⟩; (try first | exact ⟨rfl, _, World.drewN_drewN _ _ _⟩ | exact ⟨rfl, _, Eq.trans (World.drewN_drewN _ _ _) (congrArg (World.drewN _) (Nat.add_assoc _ _ _))⟩); have p124 : 0 ≤ ((ji23) : Int) := of_decide_eq_true (by first | (with_reducible assumption) | assumption); have q124 : (ji23) < (l2.length : Int) := of_decide_eq_true (by first | (with_reducible assumption) | assumption); obtain ⟨ad124, e124, hx124_0, hx124_1⟩ := at_T45 HR2.out (ji23) p124 q124; obtain rfl : ad119 = ad124 := (by injection e124); replace hx124_0 := (HB.out.cell (World.block_lt_of_cell? w _ hx124_0)).trans hx124_0; replace hx124_1 := (HB.out.cell (World.block_lt_of_cell? w _ hx124_1)).trans hx124_1; replace p124 := eq_true p124; replace q124 := eq_true q124)); try go_wp2_with (first | (go_at_call 15; (with_reducible refine (stylusref02_Of.calls kj11 ((rd_T45 l2 (ji23)).f0) t123 _ A28.out).mono ?_); rintro e w' ⟨rfl, ⟨nd, rfl⟩⟩; (try first | exact ⟨rfl, _, World.drewN_drewN _ _ _⟩ | exact ⟨rfl, _, Eq.trans (World.drewN_drewN _ _ _) (congrArg (World.drewN _) (Nat.add_assoc _ _ _))⟩); have p124 : 0 ≤ ((ji23) : Int) := of_decide_eq_true (by first | (with_reducible assumption) | assumption); have q124 : (ji23) < (l2.length : Int) := of_decide_eq_true (by first | (with_reducible assumption) | assumption); obtain ⟨ad124, e124, hx124_0, hx124_1⟩ := at_T45 HR2.out (ji23) p124 q124; obtain rfl : ad119 = ad124 := (by injection e124); replace hx124_0 := (HB.out.cell (World.block_lt_of_cell? w _ hx124_0)).trans hx124_0; replace hx124_1 := (HB.out.cell (World.block_lt_of_cell? w _ hx124_1)).trans hx124_1; replace p124 := eq_true p124; replace q124 := eq_true q124)))
                                      go_roundg kj11
                                      case measure => have := HJ3.out; have := HK2.out; have := HJ11.out; omega
                                      case rel => exact ⟨(wrap64 (x7_2 + 1)), (by first | rfl | (simp; done) | (simp [*]; done)), H', ⟨by have := HJ3.out; have := HK2.out; have := HJ11.out; omega⟩, ⟨by repeat (first | (with_reducible first | exact HB.out | apply below_alloc | apply pw_below_drewN | apply below_drew1 | refine below_set ?_ GE120.out) | exact HB.out)⟩⟩
                                    · rw [if_neg c30] at H
                                      have c30b0 : (((rd_T45 l2 (ji23)).f1) == ((rd_T45 l2 x7_2).f1)) = false := beq_eq_false_iff_ne.mpr c30
                                      have c30b1 : (((rd_T45 l2 (ji23)).f1) != ((rd_T45 l2 x7_2).f1)) = true := bne_iff_ne.mpr c30
                                      obtain rfl := Option.some.inj H
                                      have hcz32_0 : wc.cell? ⟨gb120, 0, none⟩ = some (.int .i32 ((rd_T45 l2 x7_2).f0)) := (blk_cell BK120.out 0).trans rfl
                                      have hcz32_1 : wc.cell? ⟨gb120, 1, none⟩ = some (.int .i64 ((rd_T45 l2 x7_2).f1)) := (blk_cell BK120.out 1).trans rfl
                                      have hfz32_0 := blk_frozen BK120.out 0
                                      have hfz32_1 := blk_frozen BK120.out 1
                                      have p121 : 0 ≤ ((ji23) : Int) := of_decide_eq_true (by first | (with_reducible assumption) | assumption)
                                      have q121 : (ji23) < (l2.length : Int) := of_decide_eq_true (by first | (with_reducible assumption) | assumption)
                                      obtain ⟨ad121, e121, hx121_0, hx121_1⟩ := at_T45 HR2.out (ji23) p121 q121
                                      obtain rfl : ad119 = ad121 := (by injection e121)
                                      replace hx121_0 := (HB.out.cell (World.block_lt_of_cell? w _ hx121_0)).trans hx121_0
                                      replace hx121_1 := (HB.out.cell (World.block_lt_of_cell? w _ hx121_1)).trans hx121_1
                                      replace p121 := eq_true p121
                                      replace q121 := eq_true q121
                                      have p122 : 0 ≤ ((ji23) : Int) := of_decide_eq_true (by first | (with_reducible assumption) | assumption)
                                      have q122 : (ji23) < (l2.length : Int) := of_decide_eq_true (by first | (with_reducible assumption) | assumption)
                                      obtain ⟨ad122, e122, hx122_0, hx122_1⟩ := at_T45 HR2.out (ji23) p122 q122
                                      obtain rfl : ad119 = ad122 := (by injection e122)
                                      replace hx122_0 := (HB.out.cell (World.block_lt_of_cell? w _ hx122_0)).trans hx122_0
                                      replace hx122_1 := (HB.out.cell (World.block_lt_of_cell? w _ hx122_1)).trans hx122_1
                                      replace p122 := eq_true p122
                                      replace q122 := eq_true q122
                                      go_wp2_with (first | (go_at_call 15; (with_reducible refine (stylusref02_Of.calls kj11 ((rd_T45 l2 (ji23)).f0) t123 _ A28.out).mono ?_); rintro e w' ⟨rfl, ⟨nd, rfl⟩⟩; (try first | exact ⟨rfl, _, World.drewN_drewN _ _ _⟩ | exact ⟨rfl, _, Eq.trans (World.drewN_drewN _ _ _) (congrArg (World.drewN _) (Nat.add_assoc _ _ _))⟩); have p124 : 0 ≤ ((ji23) : Int) := of_decide_eq_true (by first | (with_reducible assumption) | assumption); have q124 : (ji23) < (l2.length : Int) := of_decide_eq_true (by first | (with_reducible assumption) | assumption); obtain ⟨ad124, e124, hx124_0, hx124_1⟩ := at_T45 HR2.out (ji23) p124 q124; obtain rfl : ad119 = ad124 := (by injection e124); replace hx124_0 := (HB.out.cell (World.block_lt_of_cell? w _ hx124_0)).trans hx124_0; replace hx124_1 := (HB.out.cell (World.block_lt_of_cell? w _ hx124_1)).trans hx124_1; replace p124 := eq_true p124; replace q124 := eq_true q124))
                                      repeat (go_quiet (first | (go_at_call 15; (with_reducible refine (stylusref02_Of.calls kj11 ((rd_T45 l2 (ji23)).f0) t123 _ A28.out).mono ?_); rintro e w' ⟨rfl, ⟨nd, rfl⟩⟩; (try first | exact ⟨rfl, _, World.drewN_drewN _ _ _⟩ | exact ⟨rfl, _, Eq.trans (World.drewN_drewN _ _ _) (congrArg (World.drewN _) (Nat.add_assoc _ _ _))⟩); have p124 : 0 ≤ ((ji23) : Int) := of_decide_eq_true (by first | (with_reducible assumption) | assumption); have q124 : (ji23) < (l2.length : Int) := of_decide_eq_true (by first | (with_reducible assumption) | assumption); obtain ⟨ad124, e124, hx124_0, hx124_1⟩ := at_T45 HR2.out (ji23) p124 q124; obtain rfl : ad119 = ad124 := (by injection e124); replace hx124_0 := (HB.out.cell (World.block_lt_of_cell? w _ hx124_0)).trans hx124_0; replace hx124_1 := (HB.out.cell (World.block_lt_of_cell? w _ hx124_1)).trans hx124_1; replace p124 := eq_true p124; replace q124 := eq_true q124)); try go_wp2_with (first | (go_at_call 15; (with_reducible refine (stylusref02_Of.calls kj11 ((rd_T45 l2 (ji23)).f0) t123 _ A28.out).mono ?_); rintro e w' ⟨rfl, ⟨nd, rfl⟩⟩; (try first | exact ⟨rfl, _, World.drewN_drewN _ _ _⟩ | exact ⟨rfl, _, Eq.trans (World.drewN_drewN _ _ _) (congrArg (World.drewN _) (Nat.add_assoc _ _ _))⟩); have p124 : 0 ≤ ((ji23) : Int) := of_decide_eq_true (by first | (with_reducible assumption) | assumption); have q124 : (ji23) < (l2.length : Int) := of_decide_eq_true (by first | (with_reducible assumption) | assumption); obtain ⟨ad124, e124, hx124_0, hx124_1⟩ := at_T45 HR2.out (ji23) p124 q124; obtain rfl : ad119 = ad124 := (by injection e124); replace hx124_0 := (HB.out.cell (World.block_lt_of_cell? w _ hx124_0)).trans hx124_0; replace hx124_1 := (HB.out.cell (World.block_lt_of_cell? w _ hx124_1)).trans hx124_1; replace p124 := eq_true p124; replace q124 := eq_true q124)))
                                      go_ret
                                      exact ⟨by first | rfl | (simp [errW_none, errW_some] <;> rfl) | (simp only [← hji23]; first | rfl | (simp [errW_none, errW_some] <;> rfl)) | (simp [*, errW_none, errW_some] <;> rfl), by repeat (first | (with_reducible first | exact HB.out | apply below_alloc | apply pw_below_drewN | apply below_drew1 | refine below_set ?_ GE120.out) | exact HB.out)⟩
                                  · rw [if_neg c29] at H
                                    have c29b0 : (t123 == 2) = false := beq_eq_false_iff_ne.mpr c29
                                    have c29b1 : (t123 != 2) = true := bne_iff_ne.mpr c29
                                    obtain rfl := Option.some.inj H
                                    have hcz33_0 : wc.cell? ⟨gb120, 0, none⟩ = some (.int .i32 ((rd_T45 l2 x7_2).f0)) := (blk_cell BK120.out 0).trans rfl
                                    have hcz33_1 : wc.cell? ⟨gb120, 1, none⟩ = some (.int .i64 ((rd_T45 l2 x7_2).f1)) := (blk_cell BK120.out 1).trans rfl
                                    have hfz33_0 := blk_frozen BK120.out 0
                                    have hfz33_1 := blk_frozen BK120.out 1
                                    have p121 : 0 ≤ ((ji23) : Int) := of_decide_eq_true (by first | (with_reducible assumption) | assumption)
                                    have q121 : (ji23) < (l2.length : Int) := of_decide_eq_true (by first | (with_reducible assumption) | assumption)
                                    obtain ⟨ad121, e121, hx121_0, hx121_1⟩ := at_T45 HR2.out (ji23) p121 q121
                                    obtain rfl : ad119 = ad121 := (by injection e121)
                                    replace hx121_0 := (HB.out.cell (World.block_lt_of_cell? w _ hx121_0)).trans hx121_0
                                    replace hx121_1 := (HB.out.cell (World.block_lt_of_cell? w _ hx121_1)).trans hx121_1
                                    replace p121 := eq_true p121
                                    replace q121 := eq_true q121
                                    have p122 : 0 ≤ ((ji23) : Int) := of_decide_eq_true (by first | (with_reducible assumption) | assumption)
                                    have q122 : (ji23) < (l2.length : Int) := of_decide_eq_true (by first | (with_reducible assumption) | assumption)
                                    obtain ⟨ad122, e122, hx122_0, hx122_1⟩ := at_T45 HR2.out (ji23) p122 q122
                                    obtain rfl : ad119 = ad122 := (by injection e122)
                                    replace hx122_0 := (HB.out.cell (World.block_lt_of_cell? w _ hx122_0)).trans hx122_0
                                    replace hx122_1 := (HB.out.cell (World.block_lt_of_cell? w _ hx122_1)).trans hx122_1
                                    replace p122 := eq_true p122
                                    replace q122 := eq_true q122
                                    go_wp2_with (first | (go_at_call 15; (with_reducible refine (stylusref02_Of.calls kj11 ((rd_T45 l2 (ji23)).f0) t123 _ A28.out).mono ?_); rintro e w' ⟨rfl, ⟨nd, rfl⟩⟩; (try first | exact ⟨rfl, _, World.drewN_drewN _ _ _⟩ | exact ⟨rfl, _, Eq.trans (World.drewN_drewN _ _ _) (congrArg (World.drewN _) (Nat.add_assoc _ _ _))⟩)))
                                    repeat (go_quiet (first | (go_at_call 15; (with_reducible refine (stylusref02_Of.calls kj11 ((rd_T45 l2 (ji23)).f0) t123 _ A28.out).mono ?_); rintro e w' ⟨rfl, ⟨nd, rfl⟩⟩; (try first | exact ⟨rfl, _, World.drewN_drewN _ _ _⟩ | exact ⟨rfl, _, Eq.trans (World.drewN_drewN _ _ _) (congrArg (World.drewN _) (Nat.add_assoc _ _ _))⟩))); try go_wp2_with (first | (go_at_call 15; (with_reducible refine (stylusref02_Of.calls kj11 ((rd_T45 l2 (ji23)).f0) t123 _ A28.out).mono ?_); rintro e w' ⟨rfl, ⟨nd, rfl⟩⟩; (try first | exact ⟨rfl, _, World.drewN_drewN _ _ _⟩ | exact ⟨rfl, _, Eq.trans (World.drewN_drewN _ _ _) (congrArg (World.drewN _) (Nat.add_assoc _ _ _))⟩))))
                                    go_ret
                                    exact ⟨by first | rfl | (simp [errW_none, errW_some] <;> rfl) | (simp only [← hji23]; first | rfl | (simp [errW_none, errW_some] <;> rfl)) | (simp [*, errW_none, errW_some] <;> rfl), by repeat (first | (with_reducible first | exact HB.out | apply below_alloc | apply pw_below_drewN | apply below_drew1 | refine below_set ?_ GE120.out) | exact HB.out)⟩
                              · rw [if_neg c25] at H
                                exact absurd H (by simp)
                            · rw [if_neg c24] at H
                              exact absurd H (by simp)
                      · rw [if_neg c19] at H
                        have c19b0 : (((rd_T45 l2 x7_2).f0) == 0) = false := beq_eq_false_iff_ne.mpr c19
                        have c19b1 : (((rd_T45 l2 x7_2).f0) != 0) = true := bne_iff_ne.mpr c19
                        replace H := Option.bind_eq_some_iff.mp H
                        obtain ⟨t125, A340, H⟩ := H
                        replace H : (if t125 = true then ((stylusref02_Of.f kj11 ((rd_T45 l2 x7_2).f0)).bind fun t126 => (if t126 = 2 then (if a1 = 0 then (none) else (if (Int.tmod x7_2 a1) = (wrap64 (a1 - 1)) then (some false) else (if 0 ≤ (wrap64 (x7_2 + 1)) then (if (wrap64 (x7_2 + 1)) < (l2.length : Int) then (if ((rd_T45 l2 (wrap64 (x7_2 + 1))).f0) = 0 then (stylusref23_Proper.l0 kj11 a1 l2 (wrap64 (x7_2 + 1))) else (some false)) else (none)) else (none)))) else (stylusref23_Proper.l0 kj11 a1 l2 (wrap64 (x7_2 + 1))))) else (some false)) = some r := H
                        have A34 := Aside0.mk A340
                        clear A340
                        by_cases c35 : t125 = true
                        · subst c35
                          have H1 : ((stylusref02_Of.f kj11 ((rd_T45 l2 x7_2).f0)).bind fun t126 => (if t126 = 2 then (if a1 = 0 then (none) else (if (Int.tmod x7_2 a1) = (wrap64 (a1 - 1)) then (some false) else (if 0 ≤ (wrap64 (x7_2 + 1)) then (if (wrap64 (x7_2 + 1)) < (l2.length : Int) then (if ((rd_T45 l2 (wrap64 (x7_2 + 1))).f0) = 0 then (stylusref23_Proper.l0 kj11 a1 l2 (wrap64 (x7_2 + 1))) else (some false)) else (none)) else (none)))) else (stylusref23_Proper.l0 kj11 a1 l2 (wrap64 (x7_2 + 1))))) = some r := by rw [if_pos rfl] at H; exact H
                          clear H
                          have H := H1
                          clear H1
                          replace H := Option.bind_eq_some_iff.mp H
                          obtain ⟨t126, A360, H⟩ := H
                          replace H : (if t126 = 2 then (if a1 = 0 then (none) else (if (Int.tmod x7_2 a1) = (wrap64 (a1 - 1)) then (some false) else (if 0 ≤ (wrap64 (x7_2 + 1)) then (if (wrap64 (x7_2 + 1)) < (l2.length : Int) then (if ((rd_T45 l2 (wrap64 (x7_2 + 1))).f0) = 0 then (stylusref23_Proper.l0 kj11 a1 l2 (wrap64 (x7_2 + 1))) else (some false)) else (none)) else (none)))) else (stylusref23_Proper.l0 kj11 a1 l2 (wrap64 (x7_2 + 1)))) = some r := H
                          have A36 := Aside0.mk A360
                          clear A360
                          by_cases c37 : t126 = 2
                          · rw [if_pos c37] at H
                            have c37b0 : (t126 == 2) = true := beq_iff_eq.mpr c37
                            have c37b1 : (t126 != 2) = false := bne_eq_false_iff_eq.mpr c37
                            clear c37
                            by_cases c38 : a1 = 0
                            · rw [if_pos c38] at H
                              exact absurd H (by simp)
                            · rw [if_neg c38] at H
                              have c38b0 : (a1 == 0) = false := beq_eq_false_iff_ne.mpr c38
                              have c38b1 : (a1 != 0) = true := bne_iff_ne.mpr c38
                              by_cases c39 : (Int.tmod x7_2 a1) = (wrap64 (a1 - 1))
                              · rw [if_pos c39] at H
                                have c39b0 : ((Int.tmod x7_2 a1) == (wrap64 (a1 - 1))) = true := beq_iff_eq.mpr c39
                                have c39b1 : ((Int.tmod x7_2 a1) != (wrap64 (a1 - 1))) = false := bne_eq_false_iff_eq.mpr c39
                                clear c39
                                obtain rfl := Option.some.inj H
                                have hcz40_0 : wc.cell? ⟨gb120, 0, none⟩ = some (.int .i32 ((rd_T45 l2 x7_2).f0)) := (blk_cell BK120.out 0).trans rfl
                                have hcz40_1 : wc.cell? ⟨gb120, 1, none⟩ = some (.int .i64 ((rd_T45 l2 x7_2).f1)) := (blk_cell BK120.out 1).trans rfl
                                have hfz40_0 := blk_frozen BK120.out 0
                                have hfz40_1 := blk_frozen BK120.out 1
                                go_wp2_with (first | (go_at_call 16; (with_reducible refine (stylusref23_Rune.calls kj11 ((rd_T45 l2 x7_2).f0) true _ A34.out).mono ?_); rintro e w' ⟨rfl, ⟨nd, rfl⟩⟩; (try first | exact ⟨rfl, _, World.drewN_drewN _ _ _⟩ | exact ⟨rfl, _, Eq.trans (World.drewN_drewN _ _ _) (congrArg (World.drewN _) (Nat.add_assoc _ _ _))⟩)) | (go_at_call 15; (with_reducible refine (stylusref02_Of.calls kj11 ((rd_T45 l2 x7_2).f0) t126 _ A36.out).mono ?_); rintro e w' ⟨rfl, ⟨nd, rfl⟩⟩; (try first | exact ⟨rfl, _, World.drewN_drewN _ _ _⟩ | exact ⟨rfl, _, Eq.trans (World.drewN_drewN _ _ _) (congrArg (World.drewN _) (Nat.add_assoc _ _ _))⟩)))
                                repeat (go_quiet (first | (go_at_call 16; (with_reducible refine (stylusref23_Rune.calls kj11 ((rd_T45 l2 x7_2).f0) true _ A34.out).mono ?_); rintro e w' ⟨rfl, ⟨nd, rfl⟩⟩; (try first | exact ⟨rfl, _, World.drewN_drewN _ _ _⟩ | exact ⟨rfl, _, Eq.trans (World.drewN_drewN _ _ _) (congrArg (World.drewN _) (Nat.add_assoc _ _ _))⟩)) | (go_at_call 15; (with_reducible refine (stylusref02_Of.calls kj11 ((rd_T45 l2 x7_2).f0) t126 _ A36.out).mono ?_); rintro e w' ⟨rfl, ⟨nd, rfl⟩⟩; (try first | exact ⟨rfl, _, World.drewN_drewN _ _ _⟩ | exact ⟨rfl, _, Eq.trans (World.drewN_drewN _ _ _) (congrArg (World.drewN _) (Nat.add_assoc _ _ _))⟩))); try go_wp2_with (first | (go_at_call 16; (with_reducible refine (stylusref23_Rune.calls kj11 ((rd_T45 l2 x7_2).f0) true _ A34.out).mono ?_); rintro e w' ⟨rfl, ⟨nd, rfl⟩⟩; (try first | exact ⟨rfl, _, World.drewN_drewN _ _ _⟩ | exact ⟨rfl, _, Eq.trans (World.drewN_drewN _ _ _) (congrArg (World.drewN _) (Nat.add_assoc _ _ _))⟩)) | (go_at_call 15; (with_reducible refine (stylusref02_Of.calls kj11 ((rd_T45 l2 x7_2).f0) t126 _ A36.out).mono ?_); rintro e w' ⟨rfl, ⟨nd, rfl⟩⟩; (try first | exact ⟨rfl, _, World.drewN_drewN _ _ _⟩ | exact ⟨rfl, _, Eq.trans (World.drewN_drewN _ _ _) (congrArg (World.drewN _) (Nat.add_assoc _ _ _))⟩))))
                                go_ret
                                exact ⟨by first | rfl | (simp [errW_none, errW_some] <;> rfl) | (simp [*, errW_none, errW_some] <;> rfl), by repeat (first | (with_reducible first | exact HB.out | apply below_alloc | apply pw_below_drewN | apply below_drew1 | refine below_set ?_ GE120.out) | exact HB.out)⟩
                              · rw [if_neg c39] at H
                                have c39b0 : ((Int.tmod x7_2 a1) == (wrap64 (a1 - 1))) = false := beq_eq_false_iff_ne.mpr c39
                                have c39b1 : ((Int.tmod x7_2 a1) != (wrap64 (a1 - 1))) = true := bne_iff_ne.mpr c39
                                obtain ⟨ji41, hji41⟩ : ∃ j_ : Int, (wrap64 (x7_2 + 1)) = j_ := ⟨_, rfl⟩
                                replace H : (if 0 ≤ (ji41) then (if (ji41) < (l2.length : Int) then (if ((rd_T45 l2 (ji41)).f0) = 0 then (stylusref23_Proper.l0 kj11 a1 l2 ji41) else (some false)) else (none)) else (none)) = some r := by first | (rw [hji41] at H; exact H) | (simp only [hji41] at H ⊢; exact H)
                                (try rw [hji41] at A34)
                                (try rw [hji41] at A36)
                                have hji41w : (IntKind.i64.wrap (x7_2 + 1)) = ji41 := (i64_w _).trans hji41
                                by_cases c42 : 0 ≤ (ji41)
                                · rw [if_pos c42] at H
                                  have c42b0 : decide (0 ≤ (ji41)) = true := decide_eq_true c42
                                  clear c42
                                  by_cases c43 : (ji41) < (l2.length : Int)
                                  · rw [if_pos c43] at H
                                    have c43b0 : decide ((ji41) < (l2.length : Int)) = true := decide_eq_true c43
                                    clear c43
                                    by_cases c44 : ((rd_T45 l2 (ji41)).f0) = 0
                                    · rw [if_pos c44] at H
                                      have c44b0 : (((rd_T45 l2 (ji41)).f0) == 0) = true := beq_iff_eq.mpr c44
                                      have c44b1 : (((rd_T45 l2 (ji41)).f0) != 0) = false := bne_eq_false_iff_eq.mpr c44
                                      clear c44
                                      have H' := Aside0.mk H
                                      clear H
                                      have hcz45_0 : wc.cell? ⟨gb120, 0, none⟩ = some (.int .i32 ((rd_T45 l2 x7_2).f0)) := (blk_cell BK120.out 0).trans rfl
                                      have hcz45_1 : wc.cell? ⟨gb120, 1, none⟩ = some (.int .i64 ((rd_T45 l2 x7_2).f1)) := (blk_cell BK120.out 1).trans rfl
                                      have hfz45_0 := blk_frozen BK120.out 0
                                      have hfz45_1 := blk_frozen BK120.out 1
                                      go_wp2_with (first | (go_at_call 16; (with_reducible refine (stylusref23_Rune.calls kj11 ((rd_T45 l2 x7_2).f0) true _ A34.out).mono ?_); rintro e w' ⟨rfl, ⟨nd, rfl⟩⟩; (try first | exact ⟨rfl, _, World.drewN_drewN _ _ _⟩ | exact ⟨rfl, _, Eq.trans (World.drewN_drewN _ _ _) (congrArg (World.drewN _) (Nat.add_assoc _ _ _))⟩)) | (go_at_call 15; (with_reducible refine (stylusref02_Of.calls kj11 ((rd_T45 l2 x7_2).f0) t126 _ A36.out).mono ?_); rintro e w' ⟨rfl, ⟨nd, rfl⟩⟩; (try first | exact ⟨rfl, _, World.drewN_drewN _ _ _⟩ | exact ⟨rfl, _, Eq.trans (World.drewN_drewN _ _ _) (congrArg (World.drewN _) (Nat.add_assoc _ _ _))⟩); have p127 : 0 ≤ ((ji41) : Int) := of_decide_eq_true (by first | (with_reducible assumption) | assumption); have q127 : (ji41) < (l2.length : Int) := of_decide_eq_true (by first | (with_reducible assumption) | assumption); obtain ⟨ad127, e127, hx127_0, hx127_1⟩ := at_T45 HR2.out (ji41) p127 q127; obtain rfl : ad119 = ad127 := (by injection e127); replace hx127_0 := (HB.out.cell (World.block_lt_of_cell? w _ hx127_0)).trans hx127_0; replace hx127_1 := (HB.out.cell (World.block_lt_of_cell? w _ hx127_1)).trans hx127_1; replace p127 := eq_true p127; replace q127 := eq_true q127))
                                      repeat (go_quiet (first | (go_at_call 16; (with_reducible refine (stylusref23_Rune.calls kj11 ((rd_T45 l2 x7_2).f0) true _ A34.out).mono ?_); rintro e w' ⟨rfl, ⟨nd, rfl⟩⟩; (try first | exact ⟨rfl, _, World.drewN_drewN _ _ _⟩ | exact ⟨rfl, _, Eq.trans (World.drewN_drewN _ _ _) (congrArg (World.drewN _) (Nat.add_assoc _ _ _))⟩)) | (go_at_call 15; (with_reducible refine (stylusref02_Of.calls kj11 ((rd_T45 l2 x7_2).f0) t126 _ A36.out).mono ?_); rintro e w' ⟨rfl, ⟨nd, rfl⟩⟩; (try first | exact ⟨rfl, _, World.drewN_drewN _ _ _⟩ | exact ⟨rfl, _, Eq.trans (World.drewN_drewN _ _ _) (congrArg (World.drewN _) (Nat.add_assoc _ _ _))⟩); have p127 : 0 ≤ ((ji41) : Int) := of_decide_eq_true (by first | (with_reducible assumption) | assumption); have q127 : (ji41) < (l2.length : Int) := of_decide_eq_true (by first | (with_reducible assumption) | assumption); obtain ⟨ad127, e127, hx127_0, hx127_1⟩ := at_T45 HR2.out (ji41) p127 q127; obtain rfl : ad119 = ad127 := (by injection e127); replace hx127_0 := (HB.out.cell (World.block_lt_of_cell? w _ hx127_0)).trans hx127_0; replace hx127_1 := (HB.out.cell (World.block_lt_of_cell? w _ hx127_1)).trans hx127_1; replace p127 := eq_true p127; replace q127 := eq_true q127)); try go_wp2_with (first | (go_at_call 16; (with_reducible refine (stylusref23_Rune.calls kj11 ((rd_T45 l2 x7_2).f0) true _ A34.out).mono ?_); rintro e w' ⟨rfl, ⟨nd, rfl⟩⟩; (try first | exact ⟨rfl, _, World.drewN_drewN _ _ _⟩ | exact ⟨rfl, _, Eq.trans (World.drewN_drewN _ _ _) (congrArg (World.drewN _) (Nat.add_assoc _ _ _))⟩)) | (go_at_call 15; (with_reducible refine (stylusref02_Of.calls kj11 ((rd_T45 l2 x7_2).f0) t126 _ A36.out).mono ?_); rintro e w' ⟨rfl, ⟨nd, rfl⟩⟩; (try first | exact ⟨rfl, _, World.drewN_drewN _ _ _⟩ | exact ⟨rfl, _, Eq.trans (World.drewN_drewN _ _ _) (congrArg (World.drewN _) (Nat.add_assoc _ _ _))⟩); have p127 : 0 ≤ ((ji41) : Int) := of_decide_eq_true (by first | (with_reducible assumption) | assumption); have q127 : (ji41) < (l2.length : Int) := of_decide_eq_true (by first | (with_reducible assumption) | assumption); obtain ⟨ad127, e127, hx127_0, hx127_1⟩ := at_T45 HR2.out (ji41) p127 q127; obtain rfl : ad119 = ad127 := (by injection e127); replace hx127_0 := (HB.out.cell (World.block_lt_of_cell? w _ hx127_0)).trans hx127_0; replace hx127_1 := (HB.out.cell (World.block_lt_of_cell? w _ hx127_1)).trans hx127_1; replace p127 := eq_true p127; replace q127 := eq_true q127)))
                                      go_roundg kj11
                                      case measure => have := HJ3.out; have := HK2.out; have := HJ11.out; omega
                                      case rel => exact ⟨(ji41), (by first | rfl | (simp; done) | (simp only [← hji41] <;> (first | rfl | simp)) | (simp [*]; done)), H', ⟨by have := HJ3.out; have := HK2.out; have := HJ11.out; omega⟩, ⟨by repeat (first | (with_reducible first | exact HB.out | apply below_alloc | apply pw_below_drewN | apply below_drew1 | refine below_set ?_ GE120.out) | exact HB.out)⟩⟩
                                    · rw [if_neg c44] at H
                                      have c44b0 : (((rd_T45 l2 (ji41)).f0) == 0) = false := beq_eq_false_iff_ne.mpr c44
                                      have c44b1 : (((rd_T45 l2 (ji41)).f0) != 0) = true := bne_iff_ne.mpr c44
                                      obtain rfl := Option.some.inj H
                                      have hcz46_0 : wc.cell? ⟨gb120, 0, none⟩ = some (.int .i32 ((rd_T45 l2 x7_2).f0)) := (blk_cell BK120.out 0).trans rfl
                                      have hcz46_1 : wc.cell? ⟨gb120, 1, none⟩ = some (.int .i64 ((rd_T45 l2 x7_2).f1)) := (blk_cell BK120.out 1).trans rfl
                                      have hfz46_0 := blk_frozen BK120.out 0
                                      have hfz46_1 := blk_frozen BK120.out 1
                                      go_wp2_with (first | (go_at_call 16; (with_reducible refine (stylusref23_Rune.calls kj11 ((rd_T45 l2 x7_2).f0) true _ A34.out).mono ?_); rintro e w' ⟨rfl, ⟨nd, rfl⟩⟩; (try first | exact ⟨rfl, _, World.drewN_drewN _ _ _⟩ | exact ⟨rfl, _, Eq.trans (World.drewN_drewN _ _ _) (congrArg (World.drewN _) (Nat.add_assoc _ _ _))⟩)) | (go_at_call 15; (with_reducible refine (stylusref02_Of.calls kj11 ((rd_T45 l2 x7_2).f0) t126 _ A36.out).mono ?_); rintro e w' ⟨rfl, ⟨nd, rfl⟩⟩; (try first | exact ⟨rfl, _, World.drewN_drewN _ _ _⟩ | exact ⟨rfl, _, Eq.trans (World.drewN_drewN _ _ _) (congrArg (World.drewN _) (Nat.add_assoc _ _ _))⟩); have p127 : 0 ≤ ((ji41) : Int) := of_decide_eq_true (by first | (with_reducible assumption) | assumption); have q127 : (ji41) < (l2.length : Int) := of_decide_eq_true (by first | (with_reducible assumption) | assumption); obtain ⟨ad127, e127, hx127_0, hx127_1⟩ := at_T45 HR2.out (ji41) p127 q127; obtain rfl : ad119 = ad127 := (by injection e127); replace hx127_0 := (HB.out.cell (World.block_lt_of_cell? w _ hx127_0)).trans hx127_0; replace hx127_1 := (HB.out.cell (World.block_lt_of_cell? w _ hx127_1)).trans hx127_1; replace p127 := eq_true p127; replace q127 := eq_true q127))
                                      repeat (go_quiet (first | (go_at_call 16; (with_reducible refine (stylusref23_Rune.calls kj11 ((rd_T45 l2 x7_2).f0) true _ A34.out).mono ?_); rintro e w' ⟨rfl, ⟨nd, rfl⟩⟩; (try first | exact ⟨rfl, _, World.drewN_drewN _ _ _⟩ | exact ⟨rfl, _, Eq.trans (World.drewN_drewN _ _ _) (congrArg (World.drewN _) (Nat.add_assoc _ _ _))⟩)) | (go_at_call 15; (with_reducible refine (stylusref02_Of.calls kj11 ((rd_T45 l2 x7_2).f0) t126 _ A36.out).mono ?_); rintro e w' ⟨rfl, ⟨nd, rfl⟩⟩; (try first | exact ⟨rfl, _, World.drewN_drewN _ _ _⟩ | exact ⟨rfl, _, Eq.trans (World.drewN_drewN _ _ _) (congrArg (World.drewN _) (Nat.add_assoc _ _ _))⟩); have p127 : 0 ≤ ((ji41) : Int) := of_decide_eq_true (by first | (with_reducible assumption) | assumption); have q127 : (ji41) < (l2.length : Int) := of_decide_eq_true (by first | (with_reducible assumption) | assumption); obtain ⟨ad127, e127, hx127_0, hx127_1⟩ := at_T45 HR2.out (ji41) p127 q127; obtain rfl : ad119 = ad127 := (by injection e127); replace hx127_0 := (HB.out.cell (World.block_lt_of_cell? w _ hx127_0)).trans hx127_0; replace hx127_1 := (HB.out.cell (World.block_lt_of_cell? w _ hx127_1)).trans hx127_1; replace p127 := eq_true p127; replace q127 := eq_true q127)); try go_wp2_with (first | (go_at_call 16; (with_reducible refine (stylusref23_Rune.calls kj11 ((rd_T45 l2 x7_2).f0) true _ A34.out).mono ?_); rintro e w' ⟨rfl, ⟨nd, rfl⟩⟩; (try first | exact ⟨rfl, _, World.drewN_drewN _ _ _⟩ | exact ⟨rfl, _, Eq.trans (World.drewN_drewN _ _ _) (congrArg (World.drewN _) (Nat.add_assoc _ _ _))⟩)) | (go_at_call 15; (with_reducible refine (stylusref02_Of.calls kj11 ((rd_T45 l2 x7_2).f0) t126 _ A36.out).mono ?_); rintro e w' ⟨rfl, ⟨nd, rfl⟩⟩; (try first | exact ⟨rfl, _, World.drewN_drewN _ _ _⟩ | exact ⟨rfl, _, Eq.trans (World.drewN_drewN _ _ _) (congrArg (World.drewN _) (Nat.add_assoc _ _ _))⟩); have p127 : 0 ≤ ((ji41) : Int) := of_decide_eq_true (by first | (with_reducible assumption) | assumption); have q127 : (ji41) < (l2.length : Int) := of_decide_eq_true (by first | (with_reducible assumption) | assumption); obtain ⟨ad127, e127, hx127_0, hx127_1⟩ := at_T45 HR2.out (ji41) p127 q127; obtain rfl : ad119 = ad127 := (by injection e127); replace hx127_0 := (HB.out.cell (World.block_lt_of_cell? w _ hx127_0)).trans hx127_0; replace hx127_1 := (HB.out.cell (World.block_lt_of_cell? w _ hx127_1)).trans hx127_1; replace p127 := eq_true p127; replace q127 := eq_true q127)))
                                      go_ret
                                      exact ⟨by first | rfl | (simp [errW_none, errW_some] <;> rfl) | (simp only [← hji41]; first | rfl | (simp [errW_none, errW_some] <;> rfl)) | (simp [*, errW_none, errW_some] <;> rfl), by repeat (first | (with_reducible first | exact HB.out | apply below_alloc | apply pw_below_drewN | apply below_drew1 | refine below_set ?_ GE120.out) | exact HB.out)⟩
                                  · rw [if_neg c43] at H
                                    exact absurd H (by simp)
                                · rw [if_neg c42] at H
                                  exact absurd H (by simp)
                          · rw [if_neg c37] at H
                            have c37b0 : (t126 == 2) = false := beq_eq_false_iff_ne.mpr c37
                            have c37b1 : (t126 != 2) = true := bne_iff_ne.mpr c37
                            have H' := Aside0.mk H
                            clear H
                            have hcz47_0 : wc.cell? ⟨gb120, 0, none⟩ = some (.int .i32 ((rd_T45 l2 x7_2).f0)) := (blk_cell BK120.out 0).trans rfl
                            have hcz47_1 : wc.cell? ⟨gb120, 1, none⟩ = some (.int .i64 ((rd_T45 l2 x7_2).f1)) := (blk_cell BK120.out 1).trans rfl
                            have hfz47_0 := blk_frozen BK120.out 0
                            have hfz47_1 := blk_frozen BK120.out 1
                            go_wp2_with (first | (go_at_call 16; (with_reducible refine (stylusref23_Rune.calls kj11 ((rd_T45 l2 x7_2).f0) true _ A34.out).mono ?_); rintro e w' ⟨rfl, ⟨nd, rfl⟩⟩; (try first | exact ⟨rfl, _, World.drewN_drewN _ _ _⟩ | exact ⟨rfl, _, Eq.trans (World.drewN_drewN _ _ _) (congrArg (World.drewN _) (Nat.add_assoc _ _ _))⟩)) | (go_at_call 15; (with_reducible refine (stylusref02_Of.calls kj11 ((rd_T45 l2 x7_2).f0) t126 _ A36.out).mono ?_); rintro e w' ⟨rfl, ⟨nd, rfl⟩⟩; (try first | exact ⟨rfl, _, World.drewN_drewN _ _ _⟩ | exact ⟨rfl, _, Eq.trans (World.drewN_drewN _ _ _) (congrArg (World.drewN _) (Nat.add_assoc _ _ _))⟩)))
                            repeat (go_quiet (first | (go_at_call 16; (with_reducible refine (stylusref23_Rune.calls kj11 ((rd_T45 l2 x7_2).f0) true _ A34.out).mono ?_); rintro e w' ⟨rfl, ⟨nd, rfl⟩⟩; (try first | exact ⟨rfl, _, World.drewN_drewN _ _ _⟩ | exact ⟨rfl, _, Eq.trans (World.drewN_drewN _ _ _) (congrArg (World.drewN _) (Nat.add_assoc _ _ _))⟩)) | (go_at_call 15; (with_reducible refine (stylusref02_Of.calls kj11 ((rd_T45 l2 x7_2).f0) t126 _ A36.out).mono ?_); rintro e w' ⟨rfl, ⟨nd, rfl⟩⟩; (try first | exact ⟨rfl, _, World.drewN_drewN _ _ _⟩ | exact ⟨rfl, _, Eq.trans (World.drewN_drewN _ _ _) (congrArg (World.drewN _) (Nat.add_assoc _ _ _))⟩))); try go_wp2_with (first | (go_at_call 16; (with_reducible refine (stylusref23_Rune.calls kj11 ((rd_T45 l2 x7_2).f0) true _ A34.out).mono ?_); rintro e w' ⟨rfl, ⟨nd, rfl⟩⟩; (try first | exact ⟨rfl, _, World.drewN_drewN _ _ _⟩ | exact ⟨rfl, _, Eq.trans (World.drewN_drewN _ _ _) (congrArg (World.drewN _) (Nat.add_assoc _ _ _))⟩)) | (go_at_call 15; (with_reducible refine (stylusref02_Of.calls kj11 ((rd_T45 l2 x7_2).f0) t126 _ A36.out).mono ?_); rintro e w' ⟨rfl, ⟨nd, rfl⟩⟩; (try first | exact ⟨rfl, _, World.drewN_drewN _ _ _⟩ | exact ⟨rfl, _, Eq.trans (World.drewN_drewN _ _ _) (congrArg (World.drewN _) (Nat.add_assoc _ _ _))⟩))))
                            go_roundg kj11
                            case measure => have := HJ3.out; have := HK2.out; have := HJ11.out; omega
                            case rel => exact ⟨(wrap64 (x7_2 + 1)), (by first | rfl | (simp; done) | (simp [*]; done)), H', ⟨by have := HJ3.out; have := HK2.out; have := HJ11.out; omega⟩, ⟨by repeat (first | (with_reducible first | exact HB.out | apply below_alloc | apply pw_below_drewN | apply below_drew1 | refine below_set ?_ GE120.out) | exact HB.out)⟩⟩
                        · replace c35 := Bool.eq_false_iff.mpr c35
                          subst c35
                          have H1 : (some false) = some r := by rw [if_neg (show ¬ (false = true) by decide)] at H; exact H
                          clear H
                          have H := H1
                          clear H1
                          obtain rfl := Option.some.inj H
                          have hcz48_0 : wc.cell? ⟨gb120, 0, none⟩ = some (.int .i32 ((rd_T45 l2 x7_2).f0)) := (blk_cell BK120.out 0).trans rfl
                          have hcz48_1 : wc.cell? ⟨gb120, 1, none⟩ = some (.int .i64 ((rd_T45 l2 x7_2).f1)) := (blk_cell BK120.out 1).trans rfl
                          have hfz48_0 := blk_frozen BK120.out 0
                          have hfz48_1 := blk_frozen BK120.out 1
                          go_wp2_with (first | (go_at_call 16; (with_reducible refine (stylusref23_Rune.calls kj11 ((rd_T45 l2 x7_2).f0) false _ A34.out).mono ?_); rintro e w' ⟨rfl, ⟨nd, rfl⟩⟩; (try first | exact ⟨rfl, _, World.drewN_drewN _ _ _⟩ | exact ⟨rfl, _, Eq.trans (World.drewN_drewN _ _ _) (congrArg (World.drewN _) (Nat.add_assoc _ _ _))⟩)))
                          repeat (go_quiet (first | (go_at_call 16; (with_reducible refine (stylusref23_Rune.calls kj11 ((rd_T45 l2 x7_2).f0) false _ A34.out).mono ?_); rintro e w' ⟨rfl, ⟨nd, rfl⟩⟩; (try first | exact ⟨rfl, _, World.drewN_drewN _ _ _⟩ | exact ⟨rfl, _, Eq.trans (World.drewN_drewN _ _ _) (congrArg (World.drewN _) (Nat.add_assoc _ _ _))⟩))); try go_wp2_with (first | (go_at_call 16; (with_reducible refine (stylusref23_Rune.calls kj11 ((rd_T45 l2 x7_2).f0) false _ A34.out).mono ?_); rintro e w' ⟨rfl, ⟨nd, rfl⟩⟩; (try first | exact ⟨rfl, _, World.drewN_drewN _ _ _⟩ | exact ⟨rfl, _, Eq.trans (World.drewN_drewN _ _ _) (congrArg (World.drewN _) (Nat.add_assoc _ _ _))⟩))))
                          go_ret
                          exact ⟨by first | rfl | (simp [errW_none, errW_some] <;> rfl) | (simp [*, errW_none, errW_some] <;> rfl), by repeat (first | (with_reducible first | exact HB.out | apply below_alloc | apply pw_below_drewN | apply below_drew1 | refine below_set ?_ GE120.out) | exact HB.out)⟩
              · rw [if_neg c11] at H
                exact absurd H (by simp)
            · rw [if_neg c10] at H
              have c10b0 : decide (x7_2 < (l2.length : Int)) = false := decide_eq_false c10
              clear c10
              obtain rfl := Option.some.inj H
              go_wp2
              repeat (go_quiet (fail); try go_wp2)
              go_ret
              exact ⟨by first | rfl | (simp [errW_none, errW_some] <;> rfl) | (simp [*, errW_none, errW_some] <;> rfl), by repeat (first | (with_reducible first | exact HB.out | apply below_alloc | apply pw_below_drewN | apply below_drew1) | exact HB.out)⟩

end Go.Proofs.YtbjckccgbmimpabGreatDoor.PProper
