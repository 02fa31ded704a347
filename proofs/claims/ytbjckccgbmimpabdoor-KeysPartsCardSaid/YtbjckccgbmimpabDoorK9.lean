/- The walks of keys.first and keys.behind. -/
import Derived.Test.YtbjckccgbmimpabDoorK8
namespace Go.Proofs.YtbjckccgbmimpabDoor
open Go.RowKit Go.Proofs.YtbjckccgbmimpabDoorW.PrintWords Go.Proofs.YtbjckccgbmimpabDoorW.PrintLast Go.Proofs.YtbjckccgbmimpabDoorW.PrintMore
namespace Kp
/-- What bytes begin with, of which the first one is no escape. -/
def plainF (l : List UInt8) : Step :=
  if gb l 0 = 13 then (1, 2, 0, 0) else if gb l 0 = 10 then (1, 2, 0, 4) else if gb l 0 = 9 then (1, 3, 0, 0) else if gb l 0 = 8 ∨ gb l 0 = 127 then (1, 4, 0, 0)
  else if gb l 0 < 32 then (1, 1, gb l 0 + 96, 4) else ((firstF l).2, 1, (firstF l).1, 0)
/-- What begins with an escape. -/
def behindF (l : List UInt8) : Step :=
  if l.length = 1 then (0, 0, 0, 0) else if gb l 1 = 27 then (1, 0, 0, 0) else if gb l 1 = 91 then seqF l
  else if gb l 1 = 79 then (if l.length = 2 then (0, 0, 0, 0) else if lastB (gb l 2) = true then (3, toldF ⟨#[]⟩ (gb l 2)) else (2, 0, 0, 0))
  else if 0 < (plainF (l.drop 1)).1 then ((plainF (l.drop 1)).1 + 1, (plainF (l.drop 1)).2.1, (plainF (l.drop 1)).2.2.1, Go.bits .or .i64 (plainF (l.drop 1)).2.2.2 2) else plainF (l.drop 1)
def keyF (l : List UInt8) : Step := if gb l 0 = 27 then behindF l else plainF l
theorem firstF_n (l : List UInt8) : 0 ≤ (firstF l).2 ∧ (firstF l).2 ≤ 4 := by
  have h := shp_n (gb l 0)
  unfold firstF
  by_cases h0 : l.length = 0
  · rw [if_pos h0]; decide
  · rw [if_neg h0]
    simp only
    (repeat' split) <;> simp <;> omega
theorem plainF_n (l : List UInt8) : 0 ≤ (plainF l).1 ∧ (plainF l).1 ≤ 4 := by
  have h := firstF_n l
  unfold plainF
  (repeat' split) <;> simp <;> omega
theorem gb_drop (l : List UInt8) (k i : Nat) : gb (l.drop k) i = gb l (k + i) := by
  simp [gb, List.getD_eq_getElem?_getD]
end Kp

/-- The first byte's cell. -/
theorem RB.head {w : World} {A : Option Addr} {l : List UInt8} (h : RB w A l) (hp : 0 < l.length) : ∃ ad, A = some ad ∧ w.cell? ad = some (.int .u8 (Kp.gb l 0)) := by
  obtain ⟨ad, he, hc⟩ := h.2.2 hp
  exact ⟨ad, he, by have := hc 0 hp; rwa [Addr.add_zero'] at this⟩
theorem RB.at_ {w : World} {A : Option Addr} {l : List UInt8} (h : RB w A l) (i : Nat) (hp : i < l.length) : ∃ ad, A = some ad ∧ w.cell? (ad.add i) = some (.int .u8 (Kp.gb l i)) := by
  obtain ⟨ad, he, hc⟩ := h.2.2 (by omega)
  exact ⟨ad, he, hc i hp⟩

set_option maxRecDepth 100000 in
set_option maxHeartbeats 2000000 in
theorem plain_calls (A : Option Addr) (c : Nat) (l : List UInt8) (w : World) (hr : RB w A l) (hc : l.length ≤ c) (hL : l.length ≤ 140737488355328) (hp : 0 < l.length) (h27 : Kp.gb l 0 ≠ 27) :
    Calls Tryd.prog 18 #[.slice A l.length c] w (StepPost (Kp.plainF l) w) := by
  obtain ⟨ad, rfl, hcell⟩ := hr.head hp
  obtain ⟨x, hx⟩ : ∃ x, Kp.gb l 0 = x := ⟨_, rfl⟩
  have hx1 := (Kp.gb_range l 0).1
  have hx2 := (Kp.gb_range l 0).2
  rw [hx] at hcell h27 hx1 hx2
  have hb27 : (x == 27) = false := beq_eq_false_iff_ne.2 h27
  have hP : Kp.plainF l = if x = 13 then (1, 2, 0, 0) else if x = 10 then (1, 2, 0, 4) else if x = 9 then (1, 3, 0, 0) else if x = 8 ∨ x = 127 then (1, 4, 0, 0)
      else if x < 32 then (1, 1, x + 96, 4) else ((Kp.firstF l).2, 1, (Kp.firstF l).1, 0) := by unfold Kp.plainF; rw [hx]
  have key : (x = 13 ∧ Kp.plainF l = (1, 2, 0, 0)) ∨ (x = 10 ∧ Kp.plainF l = (1, 2, 0, 4)) ∨ (x = 9 ∧ Kp.plainF l = (1, 3, 0, 0)) ∨ ((x = 8 ∨ x = 127) ∧ Kp.plainF l = (1, 4, 0, 0))
      ∨ (x ≠ 13 ∧ x ≠ 10 ∧ x ≠ 9 ∧ x ≠ 8 ∧ x < 32 ∧ Kp.plainF l = (1, 1, x + 96, 4)) ∨ (32 ≤ x ∧ x ≠ 127 ∧ Kp.plainF l = ((Kp.firstF l).2, 1, (Kp.firstF l).1, 0)) := by
    rw [hP]
    by_cases c1 : x = 13
    · exact .inl ⟨c1, by rw [if_pos c1]⟩
    by_cases c2 : x = 10
    · exact .inr (.inl ⟨c2, by rw [if_neg c1, if_pos c2]⟩)
    by_cases c3 : x = 9
    · exact .inr (.inr (.inl ⟨c3, by rw [if_neg c1, if_neg c2, if_pos c3]⟩))
    by_cases c4 : x = 8 ∨ x = 127
    · exact .inr (.inr (.inr (.inl ⟨c4, by rw [if_neg c1, if_neg c2, if_neg c3, if_pos c4]⟩)))
    by_cases c5 : x < 32
    · exact .inr (.inr (.inr (.inr (.inl ⟨c1, c2, c3, fun h => c4 (.inl h), c5, by rw [if_neg c1, if_neg c2, if_neg c3, if_neg c4, if_pos c5]⟩))))
    · exact .inr (.inr (.inr (.inr (.inr ⟨by omega, fun h => c4 (.inr h), by rw [if_neg c1, if_neg c2, if_neg c3, if_neg c4, if_neg c5]⟩))))
  have HKey := Lib.hid key
  have HX := Lib.hid hx
  have HR := Lib.hid hr
  have hal : ∀ o : Obj, (w.alloc o).cell? ad = some (.int .u8 x) := fun o => pw_cell_below (below_alloc (Below.refl _ _) o) hcell
  clear hx hP hr h27 hcell key
  go_enter Tryd.func18, Tryd.ntmps18
  go_wp2_with fail
  rotate_right 1
  · refine (first_calls (some ad) c l _ (HR.out.below (below_alloc (Below.refl _ _) _)) hc hL).mono ?_
    rintro e w2 ⟨rfl, hb2⟩
    have HB2 := Lib.hid (below_step (below_alloc (Below.refl w.heap.size w) _) hb2)
    have hr2 := blk_below (heap_alloc_new w _) hb2
    have hF : Kp.plainF l = ((Kp.firstF l).2, 1, (Kp.firstF l).1, 0) := by
      simp only [beq_eq_false_iff_ne] at *
      rcases HKey.out with ⟨k, h⟩ | ⟨k, h⟩ | ⟨k, h⟩ | ⟨k, h⟩ | ⟨_, _, _, _, k, h⟩ | ⟨k, _, h⟩
      · omega
      · omega
      · omega
      · omega
      · omega
      · exact h
    obtain ⟨⟨r, n⟩, hrn⟩ : ∃ y, Kp.firstF l = y := ⟨_, rfl⟩
    rw [hrn] at hF ⊢
    have HF := Lib.hid hF
    have hc0 : w2.cell? ⟨w.heap.size, 0, none⟩ = some (.int .i64 0) := (blk_cell hr2 0).trans rfl
    have hc1 : w2.cell? ⟨w.heap.size, 1, none⟩ = some (.int .i64 0) := (blk_cell hr2 1).trans rfl
    have hc2 : w2.cell? ⟨w.heap.size, 2, none⟩ = some (.int .i32 0) := (blk_cell hr2 2).trans rfl
    have hc3 : w2.cell? ⟨w.heap.size, 3, none⟩ = some (.int .i64 0) := (blk_cell hr2 3).trans rfl
    have hf0 := blk_frozen hr2 0
    have hf1 := blk_frozen hr2 1
    have hf2 := blk_frozen hr2 2
    have hf3 := blk_frozen hr2 3
    clear hF hrn hb2 hr2
    go_wp2_with fail
    refine bodyPost_ret ?_ rfl (StepPost.mk HF.out ((((HB2.out.setCell (Nat.le_refl _) _).setCell (Nat.le_refl _) _).setCell (Nat.le_refl _) _).setCell (Nat.le_refl _) _))
    simp [results, Tryd.results18, go_sem, hc0, hc1, hc2, hc3]
  all_goals
    (try simp only [beq_iff_eq, beq_eq_false_iff_ne] at *)
    rcases HKey.out with ⟨k, h⟩ | ⟨k, h⟩ | ⟨k, h⟩ | ⟨k, h⟩ | ⟨_, _, _, _, k, h⟩ | ⟨k, _, h⟩ <;> first
      | (exfalso; omega)
      | (refine bodyPost_ret ?_ rfl (StepPost.mk h (below_alloc (Below.refl _ _) _)); simp [results, Tryd.results18, go_sem]; done)

set_option maxRecDepth 100000 in
set_option maxHeartbeats 2000000 in
theorem behind_calls (A : Option Addr) (c : Nat) (l : List UInt8) (m : Int) (w : World) (hr : RB w A l) (hc : l.length ≤ c) (hL : l.length ≤ 140737488355328) (hp : 0 < l.length) (hm : w.cell? ⟨3, 0, none⟩ = some (.int .i64 m)) :
    Calls Tryd.prog 27 #[.slice A l.length c] w (StepPost (Kp.behindF l) w) := by
  have HR := Lib.hid hr
  have HM := Lib.hid hm
  clear hr hm
  by_cases h1 : l.length = 1
  · have hF : Kp.behindF l = (0, 0, 0, 0) := by rw [Kp.behindF, if_pos h1]
    have HF := Lib.hid hF
    have h1' : ((l.length : Int) == 1) = true := by rw [beq_iff_eq]; omega
    clear hF h1
    go_enter Tryd.func27, Tryd.ntmps27
    go_wp2_with fail
    refine bodyPost_ret ?_ rfl (StepPost.mk HF.out (below_alloc (Below.refl _ _) _))
    simp [results, Tryd.results27, go_sem]
  · obtain ⟨ad, rfl, hcell⟩ := HR.out.at_ 1 (by omega)
    obtain ⟨x, hx⟩ : ∃ x, Kp.gb l 1 = x := ⟨_, rfl⟩
    rw [hx, show ad.add 1 = ⟨ad.block, ad.off + 1, none⟩ from rfl] at hcell
    have h1' : ((l.length : Int) == 1) = false := by rw [beq_eq_false_iff_ne]; omega
    have hl2 : 1 < l.length := by omega
    have hal : ∀ o : Obj, (w.alloc o).cell? ⟨ad.block, ad.off + 1, none⟩ = some (.int .u8 x) := fun o => pw_cell_below (below_alloc (Below.refl _ _) o) hcell
    have HX := Lib.hid hx
    have hN : Kp.behindF l = if x = 27 then (1, 0, 0, 0) else if x = 91 then Kp.seqF l
        else if x = 79 then (if l.length = 2 then (0, 0, 0, 0) else if Kp.lastB (Kp.gb l 2) = true then (3, Kp.toldF ⟨#[]⟩ (Kp.gb l 2)) else (2, 0, 0, 0))
        else if 0 < (Kp.plainF (l.drop 1)).1 then ((Kp.plainF (l.drop 1)).1 + 1, (Kp.plainF (l.drop 1)).2.1, (Kp.plainF (l.drop 1)).2.2.1, Go.bits .or .i64 (Kp.plainF (l.drop 1)).2.2.2 2) else Kp.plainF (l.drop 1) := by
      rw [Kp.behindF, if_neg h1, hx]
    clear hcell hx h1
    by_cases x27 : x = 27
    · have hF : Kp.behindF l = (1, 0, 0, 0) := by rw [hN, if_pos x27]
      have HF := Lib.hid hF
      have hb : (x == 27) = true := beq_iff_eq.2 x27
      clear hF hN x27
      go_enter Tryd.func27, Tryd.ntmps27
      go_wp2_with fail
      refine bodyPost_ret ?_ rfl (StepPost.mk HF.out (below_alloc (Below.refl _ _) _))
      simp [results, Tryd.results27, go_sem]
    have hb27 : (x == 27) = false := beq_eq_false_iff_ne.2 x27
    rw [if_neg x27] at hN
    clear x27
    by_cases x91 : x = 91
    · rw [if_pos x91] at hN
      have HF := Lib.hid hN
      have hb : (x == 91) = true := beq_iff_eq.2 x91
      clear hN x91
      go_enter Tryd.func27, Tryd.ntmps27
      go_wp2_with fail
      refine (sequence_calls (some ad) c l m _ (HR.out.below (below_alloc (Below.refl _ _) _)) hc hL (by omega) (pw_cell_below (below_alloc (Below.refl _ _) _) HM.out)).mono ?_
      rintro e w2 ⟨rfl, hb2⟩
      have HB2 := Lib.hid (below_step (below_alloc (Below.refl w.heap.size w) _) hb2)
      have hr2 := blk_below (heap_alloc_new w _) hb2
      obtain ⟨⟨n, k1, k2, k3⟩, hs⟩ : ∃ y, Kp.seqF l = y := ⟨_, rfl⟩
      have hF := HF.out
      rw [hs] at hF ⊢
      have HF2 := Lib.hid hF
      have hc0 : w2.cell? ⟨w.heap.size, 0, none⟩ = some (.int .i64 0) := (blk_cell hr2 0).trans rfl
      have hc1 : w2.cell? ⟨w.heap.size, 1, none⟩ = some (.int .i64 0) := (blk_cell hr2 1).trans rfl
      have hc2 : w2.cell? ⟨w.heap.size, 2, none⟩ = some (.int .i32 0) := (blk_cell hr2 2).trans rfl
      have hc3 : w2.cell? ⟨w.heap.size, 3, none⟩ = some (.int .i64 0) := (blk_cell hr2 3).trans rfl
      have hf0 := blk_frozen hr2 0
      have hf1 := blk_frozen hr2 1
      have hf2 := blk_frozen hr2 2
      have hf3 := blk_frozen hr2 3
      clear hF hs hb2 hr2
      go_wp2_with fail
      refine bodyPost_ret ?_ rfl (StepPost.mk HF2.out ((((HB2.out.setCell (Nat.le_refl _) _).setCell (Nat.le_refl _) _).setCell (Nat.le_refl _) _).setCell (Nat.le_refl _) _))
      simp [results, Tryd.results27, go_sem, hc0, hc1, hc2, hc3]
    have hb91 : (x == 91) = false := beq_eq_false_iff_ne.2 x91
    rw [if_neg x91] at hN
    clear x91
    by_cases x79 : x = 79
    · rw [if_pos x79] at hN
      have hb : (x == 79) = true := beq_iff_eq.2 x79
      clear x79
      by_cases h2 : l.length = 2
      · rw [if_pos h2] at hN
        have HF := Lib.hid hN
        have h2' : ((l.length : Int) == 2) = true := by rw [beq_iff_eq]; omega
        clear hN h2
        go_enter Tryd.func27, Tryd.ntmps27
        go_wp2_with fail
        refine bodyPost_ret ?_ rfl (StepPost.mk HF.out (below_alloc (Below.refl _ _) _))
        simp [results, Tryd.results27, go_sem]
      · rw [if_neg h2] at hN
        have h2' : ((l.length : Int) == 2) = false := by rw [beq_eq_false_iff_ne]; omega
        have hl3 : 2 < l.length := by omega
        obtain ⟨ad', he, hcell⟩ := HR.out.at_ 2 (by omega)
        cases he
        obtain ⟨y, hy⟩ : ∃ y, Kp.gb l 2 = y := ⟨_, rfl⟩
        rw [hy] at hcell hN
        rw [show ad.add 2 = ⟨ad.block, ad.off + 2, none⟩ from rfl] at hcell
        have hal2 : ∀ o : Obj, (w.alloc o).cell? ⟨ad.block, ad.off + 2, none⟩ = some (.int .u8 y) := fun o => pw_cell_below (below_alloc (Below.refl _ _) o) hcell
        have HY := Lib.hid hy
        clear hy hcell h2
        cases hlast : Kp.lastB y with
        | true =>
          rw [if_pos hlast] at hN
          have HF := Lib.hid hN
          clear hN
          go_enter Tryd.func27, Tryd.ntmps27
          go_wp2_with fail
          refine (last_calls y _).mono ?_
          rintro e w' ⟨rfl, rfl⟩
          go_wp2_with fail
          refine (told_calls ⟨#[]⟩ y m _ (by decide) (pw_cell_below (below_alloc (Below.refl _ _) _) HM.out)).mono ?_
          rintro e w2 ⟨rfl, hb2⟩
          have HB2 := Lib.hid (below_step (below_alloc (Below.refl w.heap.size w) _) hb2)
          have hr2 := blk_below (heap_alloc_new w _) hb2
          obtain ⟨⟨k1, k2, k3⟩, hs⟩ : ∃ z, Kp.toldF ⟨#[]⟩ y = z := ⟨_, rfl⟩
          have hF := HF.out
          rw [hs] at hF ⊢
          have HF2 := Lib.hid hF
          have hc0 : w2.cell? ⟨w.heap.size, 0, none⟩ = some (.int .i64 0) := (blk_cell hr2 0).trans rfl
          have hc1 : w2.cell? ⟨w.heap.size, 1, none⟩ = some (.int .i64 0) := (blk_cell hr2 1).trans rfl
          have hc2 : w2.cell? ⟨w.heap.size, 2, none⟩ = some (.int .i32 0) := (blk_cell hr2 2).trans rfl
          have hc3 : w2.cell? ⟨w.heap.size, 3, none⟩ = some (.int .i64 0) := (blk_cell hr2 3).trans rfl
          have hf0 := blk_frozen hr2 0
          have hf1 := blk_frozen hr2 1
          have hf2 := blk_frozen hr2 2
          have hf3 := blk_frozen hr2 3
          clear hF hs hb2 hr2
          go_wp2_with fail
          refine bodyPost_ret ?_ rfl (StepPost.mk HF2.out ((((HB2.out.setCell (Nat.le_refl _) _).setCell (Nat.le_refl _) _).setCell (Nat.le_refl _) _).setCell (Nat.le_refl _) _))
          simp [results, Tryd.results27, go_sem, hc0, hc1, hc2, hc3]
        | false =>
          rw [if_neg (by rw [hlast]; decide)] at hN
          have HF := Lib.hid hN
          clear hN
          go_enter Tryd.func27, Tryd.ntmps27
          go_wp2_with fail
          refine (last_calls y _).mono ?_
          rintro e w' ⟨rfl, rfl⟩
          go_wp2_with fail
          refine bodyPost_ret ?_ rfl (StepPost.mk HF.out (below_alloc (Below.refl _ _) _))
          simp [results, Tryd.results27, go_sem]
    have hb79 : (x == 79) = false := beq_eq_false_iff_ne.2 x79
    rw [if_neg x79] at hN
    clear x79
    obtain ⟨i0, hi0, _, hsz, _⟩ := info_parts Tryd.info5
    obtain ⟨A1, hcut, hA1⟩ := print_cut_of (P := Tryd.prog) eb 0 22 5 .i64 Tryd.underlying22 hi0 hsz (some ad) l.length c 1 (by omega)
    have hcut' : ∀ W : World, (Instr.slice 22 (.slice (some ad) l.length c) (some (.int .i64 1)) none none).run Tryd.prog W = .ok (.slice A1 (l.length - 1) (c - 1)) W := hcut
    obtain ⟨q, hq⟩ : ∃ q, l.drop 1 = q := ⟨_, rfl⟩
    have hql : l.length - 1 = q.length := by rw [← hq, List.length_drop]
    have hr1 := hA1 w l hc HR.out
    have hq27 : Kp.gb q 0 ≠ 27 := by rw [← hq, Kp.gb_drop, HX.out]; exact beq_eq_false_iff_ne.1 hb27
    rw [hq] at hr1 hN
    rw [hql] at hcut' hr1
    have HR1 : Hid (RB w A1 q) := hr1
    have hn := Kp.plainF_n q
    have HQ27 := Lib.hid hq27
    have hqL : q.length ≤ 140737488355328 := by omega
    have hqp : 0 < q.length := by omega
    have hqc : q.length ≤ c - 1 := by omega
    obtain ⟨⟨n, k1, k2, k3⟩, hs⟩ : ∃ y, Kp.plainF q = y := ⟨_, rfl⟩
    rw [hs] at hN hn
    have hn1 : 0 ≤ n := hn.1
    have hn2 : n ≤ 4 := hn.2
    have HN := Lib.hid hN
    have HS := Lib.hid hs
    clear hA1 hcut hr1 hq hql hq27 hN hs hn
    go_enter Tryd.func27, Tryd.ntmps27
    go_wp2_with fail
    refine (plain_calls A1 (c - 1) q _ (HR1.out.below (below_alloc (Below.refl _ _) _)) hqc hqL hqp HQ27.out).mono ?_
    rintro e w2 ⟨rfl, hb2⟩
    rw [HS.out]
    have HB2 := Lib.hid (below_step (below_alloc (Below.refl w.heap.size w) _) hb2)
    have hr2 := blk_below (heap_alloc_new w _) hb2
    have hra : ∀ o : Obj, (w2.alloc o).heap[w.heap.size]? = _ := fun o => blk_alloc hr2 o
    have hc0 : ∀ o : Obj, (w2.alloc o).cell? ⟨w.heap.size, 0, none⟩ = some (.int .i64 0) := fun o => (blk_cell (hra o) 0).trans rfl
    have hc1 : ∀ o : Obj, (w2.alloc o).cell? ⟨w.heap.size, 1, none⟩ = some (.int .i64 0) := fun o => (blk_cell (hra o) 1).trans rfl
    have hc2 : ∀ o : Obj, (w2.alloc o).cell? ⟨w.heap.size, 2, none⟩ = some (.int .i32 0) := fun o => (blk_cell (hra o) 2).trans rfl
    have hc3 : ∀ o : Obj, (w2.alloc o).cell? ⟨w.heap.size, 3, none⟩ = some (.int .i64 0) := fun o => (blk_cell (hra o) 3).trans rfl
    have hf0 := fun o => blk_frozen (hra o) 0
    have hf1 := fun o => blk_frozen (hra o) 1
    have hf2 := fun o => blk_frozen (hra o) 2
    have hf3 := fun o => blk_frozen (hra o) 3
    have hne : ¬ w.heap.size = w2.heap.size := by have := blk_lt hr2; omega
    have hne' : ¬ w2.heap.size = w.heap.size := fun h => hne h.symm
    clear hb2 hr2 hra hcut'
    by_cases hn0 : 0 < n
    · have hF : Kp.behindF l = (n + 1, k1, k2, Go.bits .or .i64 k3 2) := by rw [HN.out, if_pos hn0]
      have HF := Lib.hid hF
      clear hF
      go_wp2_with fail
      refine bodyPost_ret ?_ rfl (StepPost.mk HF.out (((((below_alloc HB2.out _).setCell (Nat.le_refl _) _).setCell (Nat.le_refl _) _).setCell (Nat.le_refl _) _).setCell (Nat.le_refl _) _))
      simp [results, Tryd.results27, go_sem, hc0, hc1, hc2, hc3]
    · have hF : Kp.behindF l = (n, k1, k2, k3) := by rw [HN.out, if_neg hn0]
      have HF := Lib.hid hF
      clear hF
      go_wp2_with fail
      refine bodyPost_ret ?_ rfl (StepPost.mk HF.out (((((below_alloc HB2.out _).setCell (Nat.le_refl _) _).setCell (Nat.le_refl _) _).setCell (Nat.le_refl _) _).setCell (Nat.le_refl _) _))
      simp [results, Tryd.results27, go_sem, hc0, hc1, hc2, hc3]

set_option maxRecDepth 100000 in
set_option maxHeartbeats 2000000 in
theorem key_calls (A : Option Addr) (c : Nat) (l : List UInt8) (m : Int) (w : World) (hr : RB w A l) (hc : l.length ≤ c) (hL : l.length ≤ 140737488355328) (hp : 0 < l.length) (hm : w.cell? ⟨3, 0, none⟩ = some (.int .i64 m)) :
    Calls Tryd.prog 18 #[.slice A l.length c] w (StepPost (Kp.keyF l) w) := by
  by_cases h27 : Kp.gb l 0 = 27
  · have hF : Kp.keyF l = Kp.behindF l := by rw [Kp.keyF, if_pos h27]
    rw [hF]
    have HR := Lib.hid hr
    have HM := Lib.hid hm
    obtain ⟨ad, rfl, hcell⟩ := hr.head hp
    rw [h27] at hcell
    have hal : ∀ o : Obj, (w.alloc o).cell? ad = some (.int .u8 27) := fun o => pw_cell_below (below_alloc (Below.refl _ _) o) hcell
    clear hcell h27 hF hr hm
    go_enter Tryd.func18, Tryd.ntmps18
    go_wp2_with fail
    refine (behind_calls (some ad) c l m _ (HR.out.below (below_alloc (Below.refl _ _) _)) hc hL hp (pw_cell_below (below_alloc (Below.refl _ _) _) HM.out)).mono ?_
    rintro e w2 ⟨rfl, hb2⟩
    have HB2 := Lib.hid (below_step (below_alloc (Below.refl w.heap.size w) _) hb2)
    have hr2 := blk_below (heap_alloc_new w _) hb2
    obtain ⟨⟨n, k1, k2, k3⟩, hs⟩ : ∃ y, Kp.behindF l = y := ⟨_, rfl⟩
    rw [hs]
    have HS := Lib.hid hs
    have hc0 : w2.cell? ⟨w.heap.size, 0, none⟩ = some (.int .i64 0) := (blk_cell hr2 0).trans rfl
    have hc1 : w2.cell? ⟨w.heap.size, 1, none⟩ = some (.int .i64 0) := (blk_cell hr2 1).trans rfl
    have hc2 : w2.cell? ⟨w.heap.size, 2, none⟩ = some (.int .i32 0) := (blk_cell hr2 2).trans rfl
    have hc3 : w2.cell? ⟨w.heap.size, 3, none⟩ = some (.int .i64 0) := (blk_cell hr2 3).trans rfl
    have hf0 := blk_frozen hr2 0
    have hf1 := blk_frozen hr2 1
    have hf2 := blk_frozen hr2 2
    have hf3 := blk_frozen hr2 3
    clear hs hb2 hr2
    go_wp2_with fail
    refine bodyPost_ret ?_ rfl (StepPost.mk HS.out ((((HB2.out.setCell (Nat.le_refl _) _).setCell (Nat.le_refl _) _).setCell (Nat.le_refl _) _).setCell (Nat.le_refl _) _))
    simp [results, Tryd.results18, go_sem, hc0, hc1, hc2, hc3]
  · have hF : Kp.keyF l = Kp.plainF l := by rw [Kp.keyF, if_neg h27]
    rw [hF]
    exact plain_calls A c l w hr hc hL hp h27
end Go.Proofs.YtbjckccgbmimpabDoor
