/- The walks of keys.first and keys.behind. -/
import Derived.Test.YtbjckccgbmimpabDoorK8
namespace Go.Proofs.YtbjckccgbmimpabDoor
open Go.RowKit Go.Proofs.YtbjckccgbmimpabDoorW.PrintWords Go.Proofs.YtbjckccgbmimpabDoorW.PrintLast Go.Proofs.YtbjckccgbmimpabDoorW.PrintMore
namespace Kp
/-- What bytes begin with, of which the first one is no escape. -/
def plainF (l : List UInt8) : Step :=
  if gb l 0 = 13 then (1, 2, 0, 0) else if gb l 0 = 10 then (1, 2, 0, 4) else if gb l 0 = 9 then (1, 3, 0, 0) else if gb l 0 = 8 ∨ gb l 0 = 127 then (1, 4, 0, 0)
  else if gb l 0 < 32 then (1, 1, gb l 0 + 96, 4) else ((firstF l).2, 1, (firstF l).1, 0)
/-- What begins with an escape. -/
def behindF (l : List UInt8) : Step :=
  if l.length = 1 then (0, 0, 0, 0) else if gb l 1 = 27 then (1, 0, 0, 0) else if gb l 1 = 91 then seqF l
  else if gb l 1 = 79 then (if l.length = 2 then (0, 0, 0, 0) else if lastB (gb l 2) = true then (3, toldF ⟨#[]⟩ (gb l 2)) else (2, 0, 0, 0))
  else if 0 < (plainF (l.drop 1)).1 then ((plainF (l.drop 1)).1 + 1, (plainF (l.drop 1)).2.1, (plainF (l.drop 1)).2.2.1, Go.bits .or .i64 (plainF (l.drop 1)).2.2.2 2) else plainF (l.drop 1)
def keyF (l : List UInt8) : Step := if gb l 0 = 27 then behindF l else plainF l
theorem firstF_n (l : List UInt8) : 0 ≤ (firstF l).2 ∧ (firstF l).2 ≤ 4 := by
  have h := shp_n (gb l 0)
  unfold firstF
  by_cases h0 : l.length = 0
  · rw [if_pos h0]; decide
  · rw [if_neg h0]
    simp only
    (repeat' split) <;> simp <;> omega
theorem plainF_n (l : List UInt8) : 0 ≤ (plainF l).1 ∧ (plainF l).1 ≤ 4 := by
  have h := firstF_n l
  unfold plainF
  (repeat' split) <;> simp <;> omega
theorem gb_drop (l : List UInt8) (k i : Nat) : gb (l.drop k) i = gb l (k + i) := by
  simp [gb, List.getD_eq_getElem?_getD]
end Kp

/-- The first byte's cell. -/
theorem RB.head {w : World} {A : Option Addr} {l : List UInt8} (h : RB w A l) (hp : 0 < l.length) : ∃ ad, A = some ad ∧ w.cell? ad = some (.int .u8 (Kp.gb l 0)) := by
  obtain ⟨ad, he, hc⟩ := h.2.2 hp
  exact ⟨ad, he, by have := hc 0 hp; rwa [Addr.add_zero'] at this⟩
theorem RB.at_ {w : World} {A : Option Addr} {l : List UInt8} (h : RB w A l) (i : Nat) (hp : i < l.length) : ∃ ad, A = some ad ∧ w.cell? (ad.add i) = some (.int .u8 (Kp.gb l i)) := by
  obtain ⟨ad, he, hc⟩ := h.2.2 (by omega)
  exact ⟨ad, he, hc i hp⟩

set_option maxRecDepth 100000 in
set_option maxHeartbeats 2000000 in
theorem plain_calls (A : Option Addr) (c : Nat) (l : List UInt8) (w : World) (hr : RB w A l) (hc : l.length ≤ c) (hL : l.length ≤ 140737488355328) (hp : 0 < l.length) (h27 : Kp.gb l 0 ≠ 27) :
    Calls Tryd.prog 18 #[.slice A l.length c] w (StepPost (Kp.plainF l) w) := by
  obtain ⟨ad, rfl, hcell⟩ := hr.head hp
  obtain ⟨x, hx⟩ : ∃ x, Kp.gb l 0 = x := ⟨_, rfl⟩
  have hx1 := (Kp.gb_range l 0).1
  have hx2 := (Kp.gb_range l 0).2
  rw [hx] at hcell h27 hx1 hx2
  have hb27 : (x == 27) = false := beq_eq_false_iff_ne.2 h27
  have hP : Kp.plainF l = if x = 13 then (1, 2, 0, 0) else if x = 10 then (1, 2, 0, 4) else if x = 9 then (1, 3, 0, 0) else if x = 8 ∨ x = 127 then (1, 4, 0, 0)
      else if x < 32 then (1, 1, x + 96, 4) else ((Kp.firstF l).2, 1, (Kp.firstF l).1, 0) := by unfold Kp.plainF; rw [hx]
  have key : (x = 13 ∧ Kp.plainF l = (1, 2, 0, 0)) ∨ (x = 10 ∧ Kp.plainF l = (1, 2, 0, 4)) ∨ (x = 9 ∧ Kp.plainF l = (1, 3, 0, 0)) ∨ ((x = 8 ∨ x = 127) ∧ Kp.plainF l = (1, 4, 0, 0))
      ∨ (x ≠ 13 ∧ x ≠ 10 ∧ x ≠ 9 ∧ x ≠ 8 ∧ x < 32 ∧ Kp.plainF l = (1, 1, x + 96, 4)) ∨ (32 ≤ x ∧ x ≠ 127 ∧ Kp.plainF l = ((Kp.firstF l).2, 1, (Kp.firstF l).1, 0)) := by
    rw [hP]
    by_cases c1 : x = 13
    · exact .inl ⟨c1, by rw [if_pos c1]⟩
    by_cases c2 : x = 10
    · exact .inr (.inl ⟨c2, by rw [if_neg c1, if_pos c2]⟩)
    by_cases c3 : x = 9
    · exact .inr (.inr (.inl ⟨c3, by rw [if_neg c1, if_neg c2, if_pos c3]⟩))
    by_cases c4 : x = 8 ∨ x = 127
    · exact .inr (.inr (.inr (.inl ⟨c4, by rw [if_neg c1, if_neg c2, if_neg c3, if_pos c4]⟩)))
    by_cases c5 : x < 32
    · exact .inr (.inr (.inr (.inr (.inl ⟨c1, c2, c3, fun h => c4 (.inl h), c5, by rw [if_neg c1, if_neg c2, if_neg c3, if_neg c4, if_pos c5]⟩))))
    · exact .inr (.inr (.inr (.inr (.inr ⟨by omega, fun h => c4 (.inr h), by rw [if_neg c1, if_neg c2, if_neg c3, if_neg c4, if_neg c5]⟩))))
  have HKey := Lib.hid key
  have HX := Lib.hid hx
  have HR := Lib.hid hr
  have hal : ∀ o : Obj, (w.alloc o).cell? ad = some (.int .u8 x) := fun o => pw_cell_below (below_alloc (Below.refl _ _) o) hcell
  clear hx hP hr h27 hcell key
  go_enter Tryd.func18, Tryd.ntmps18
  go_wp2_with fail
  rotate_right 1
  · refine (first_calls (some ad) c l _ (HR.out.below (below_alloc (Below.refl _ _) _)) hc hL).mono ?_
    rintro e w2 ⟨rfl, hb2⟩
    have HB2 := Lib.hid (below_step (below_alloc (Below.refl w.heap.size w) _) hb2)
    have hr2 := blk_below (heap_alloc_new w _) hb2
    have hF : Kp.plainF l = ((Kp.firstF l).2, 1, (Kp.firstF l).1, 0) := by
      simp only [beq_eq_false_iff_ne] at *
      rcases HKey.out with ⟨k, h⟩ | ⟨k, h⟩ | ⟨k, h⟩ | ⟨k, h⟩ | ⟨_, _, _, _, k, h⟩ | ⟨k, _, h⟩
      · omega
      · omega
      · omega
      · omega
      · omega
      · exact h
    obtain ⟨⟨r, n⟩, hrn⟩ : ∃ y, Kp.firstF l = y := ⟨_, rfl⟩
    rw [hrn] at hF ⊢
    have HF := Lib.hid hF
    have hc0 : w2.cell? ⟨w.heap.size, 0, none⟩ = some (.int .i64 0) := (blk_cell hr2 0).trans rfl
    have hc1 : w2.cell? ⟨w.heap.size, 1, none⟩ = some (.int .i64 0) := (blk_cell hr2 1).trans rfl
    have hc2 : w2.cell? ⟨w.heap.size, 2, none⟩ = some (.int .i32 0) := (blk_cell hr2 2).trans rfl
    have hc3 : w2.cell? ⟨w.heap.size, 3, none⟩ = some (.int .i64 0) := (blk_cell hr2 3).trans rfl
    have hf0 := blk_frozen hr2 0
    have hf1 := blk_frozen hr2 1
    have hf2 := blk_frozen hr2 2
    have hf3 := blk_frozen hr2 3
    clear hF hrn hb2 hr2
    go_wp2_with fail
    refine bodyPost_ret ?_ rfl (StepPost.mk HF.out ((((HB2.out.setCell (Nat.le_refl _) _).setCell (Nat.le_refl _) _).setCell (Nat.le_refl _) _).setCell (Nat.le_refl _) _))
    simp [results, Tryd.results18, go_sem, hc0, hc1, hc2, hc3]
  all_goals
    (try simp only [beq_iff_eq, beq_eq_false_iff_ne] at *)
    rcases HKey.out with ⟨k, h⟩ | ⟨k, h⟩ | ⟨k, h⟩ | ⟨k, h⟩ | ⟨_, _, _, _, k, h⟩ | ⟨k, _, h⟩ <;> first
      | (exfalso; omega)
      | (refine bodyPost_ret ?_ rfl (StepPost.mk h (below_alloc (Below.refl _ _) _)); simp [results, Tryd.results18, go_sem]; done)

set_option maxRecDepth 100000 in
set_option maxHeartbeats 2000000 in
theorem behind_calls (A : Option Addr) (c : Nat) (l : List UInt8) (m : Int) (w : World) (hr : RB w A l) (hc : l.length ≤ c) (hL : l.length ≤ 140737488355328) (hp : 0 < l.length) (hm : w.cell? ⟨3, 0, none⟩ = some (.int .i64 m)) :
    Calls Tryd.prog 27 #[.slice A l.length c] w (StepPost (Kp.behindF l) w) := by
  have HR := Lib.hid hr
  have HM := Lib.hid hm
  clear hr hm
  by_cases h1 : l.length = 1
  · have hF : Kp.behindF l = (0, 0, 0, 0) := by rw [Kp.behindF, if_pos h1]
    have HF := Lib.hid hF
    have h1' : ((l.length : Int) == 1) = true := by rw [beq_iff_eq]; omega
    clear hF h1
    go_enter Tryd.func27, Tryd.ntmps27
    go_wp2_with fail
    refine bodyPost_ret ?_ rfl (StepPost.mk HF.out (below_alloc (Below.refl _ _) _))
    simp [results, Tryd.results27, go_sem]
  · obtain ⟨ad, rfl, hcell⟩ := HR.out.at_ 1 (by omega)
    obtain ⟨x, hx⟩ : ∃ x, Kp.gb l 1 = x := ⟨_, rfl⟩
    rw [hx, show ad.add 1 = ⟨ad.block, ad.off + 1, none⟩ from rfl] at hcell
    have h1' : ((l.length : Int) == 1) = false := by rw [beq_eq_false_iff_ne]; omega
    have hl2 : 1 < l.length := by omega
    have hal : ∀ o : Obj, (w.alloc o).cell? ⟨ad.block, ad.off + 1, none⟩ = some (.int .u8 x) := fun o => pw_cell_below (below_alloc (Below.refl _ _) o) hcell
    have HX := Lib.hid hx
    have hN : Kp.behindF l = if x = 27 then (1, 0, 0, 0) else if x = 91 then Kp.seqF l
        else if x = 79 then (if l.length = 2 then (0, 0, 0, 0) else if Kp.lastB (Kp.gb l 2) = true then (3, Kp.toldF ⟨#[]⟩ (Kp.gb l 2)) else (2, 0, 0, 0))
        else if 0 < (Kp.plainF (l.drop 1)).1 then ((Kp.plainF (l.drop 1)).1 + 1, (Kp.plainF (l.drop 1)).2.1, (Kp.plainF (l.drop 1)).2.2.1, Go.bits .or .i64 (Kp.plainF (l.drop 1)).2.2.2 2) else Kp.plainF (l.drop 1) := by
      rw [Kp.behindF, if_neg h1, hx]
    clear hcell hx h1
    by_cases x27 : x = 27
    · have hF : Kp.behindF l = (1, 0, 0, 0) := by rw [hN, if_pos x27]
      have HF := Lib.hid hF
      have hb : (x == 27) = true := beq_iff_eq.2 x27
      clear hF hN x27
      go_enter Tryd.func27, Tryd.ntmps27
      go_wp2_with fail
      refine bodyPost_ret ?_ rfl (StepPost.mk HF.out (below_alloc (Below.refl _ _) _))
      simp [results, Tryd.results27, go_sem]
    have hb27 : (x == 27) = false := beq_eq_false_iff_ne.2 x27
    rw [if_neg x27] at hN
    clear x27
    by_cases x91 : x = 91
    · rw [if_pos x91] at hN
      have HF := Lib.hid hN
      have hb : (x == 91) = true := beq_iff_eq.2 x91
      clear hN x91
      go_enter Tryd.func27, Tryd.ntmps27
      go_wp2_with fail
      refine (sequence_calls (some ad) c l m _ (HR.out.below (below_alloc (Below.refl _ _) _)) hc hL (by omega) (pw_cell_below (below_alloc (Below.refl _ _) _) HM.out)).mono ?_
      rintro e w2 ⟨rfl, hb2⟩
      have HB2 := Lib.hid (below_step (below_alloc (Below.refl w.heap.size w) _) hb2)
      have hr2 := blk_below (heap_alloc_new w _) hb2
      obtain ⟨⟨n, k1, k2, k3⟩, hs⟩ : ∃ y, Kp.seqF l = y := ⟨_, rfl⟩
      have hF := HF.out
      rw [hs] at hF ⊢
      have HF2 := Lib.hid hF
      have hc0 : w2.cell? ⟨w.heap.size, 0, none⟩ = some (.int .i64 0) := (blk_cell hr2 0).trans rfl
      have hc1 : w2.cell? ⟨w.heap.size, 1, none⟩ = some (.int .i64 0) := (blk_cell hr2 1).trans rfl
      have hc2 : w2.cell? ⟨w.heap.size, 2, none⟩ = some (.int .i32 0) := (blk_cell hr2 2).trans rfl
      have hc3 : w2.cell? ⟨w.heap.size, 3, none⟩ = some (.int .i64 0) := (blk_cell hr2 3).trans rfl
      have hf0 := blk_frozen hr2 0
      have hf1 := blk_frozen hr2 1
      have hf2 := blk_frozen hr2 2
      have hf3 := blk_frozen hr2 3
      clear hF hs hb2 hr2
      go_wp2_with fail
      refine bodyPost_ret ?_ rfl (StepPost.mk HF2.out ((((HB2.out.setCell (Nat.le_refl _) _).setCell (Nat.le_refl _) _).setCell (Nat.le_refl _) _).setCell (Nat.le_refl _) _))
      simp [results, Tryd.results27, go_sem, hc0, hc1, hc2, hc3]
    have hb91 : (x == 91) = false := beq_eq_false_iff_ne.2 x91
    rw [if_neg x91] at hN
    clear x91
    by_cases x79 : x = 79
    · rw [if_pos x79] at hN
      have hb : (x == 79) = true := beq_iff_eq.2 x79
      clear x79
      by_cases h2 : l.length = 2
      · rw [if_pos h2] at hN
        have HF := Lib.hid hN
        have h2' : ((l.length : Int) == 2) = true := by rw [beq_iff_eq]; omega
        clear hN h2
        go_enter Tryd.func27, Tryd.ntmps27
        go_wp2_with fail
        refine bodyPost_ret ?_ rfl (StepPost.mk HF.out (below_alloc (Below.refl _ _) _))
        simp [results, Tryd.results27, go_sem]
      · rw [if_neg h2] at hN
        have h2' : ((l.length : Int) == 2) = false := by rw [beq_eq_false_iff_ne]; omega
        have hl3 : 2 < l.length := by omega
        obtain ⟨ad', he, hcell⟩ := HR.out.at_ 2 (by omega)
        cases he
        obtain ⟨y, hy⟩ : ∃ y, Kp.gb l 2 = y := ⟨_, rfl⟩
        rw [hy] at hcell hN
        rw [show ad.add 2 = ⟨ad.block, ad.off + 2, none⟩ from rfl] at hcell
        have hal2 : ∀ o : Obj, (w.alloc o).cell? ⟨ad.block, ad.off + 2, none⟩ = some (.int .u8 y) := fun o => pw_cell_below (below_alloc (Below.refl _ _) o) hcell
        have HY := Lib.hid hy
        clear hy hcell h2
        cases hlast : Kp.lastB y with
        | true =>
          rw [if_pos hlast] at hN
          have HF := Lib.hid hN
          clear hN
          go_enter Tryd.func27, Tryd.ntmps27
          go_wp2_with fail
          refine (last_calls y _).mono ?_
          rintro e w' ⟨rfl, rfl⟩
          go_wp2_with fail
          refine (told_calls ⟨#[]⟩ y m _ (by decide) (pw_cell_below (below_alloc (Below.refl _ _) _) HM.out)).mono ?_
          rintro e w2 ⟨rfl, hb2⟩
          have HB2 := Lib.hid (below_step (below_alloc (Below.refl w.heap.size w) _) hb2)
          have hr2 := blk_below (heap_alloc_new w _) hb2
          obtain ⟨⟨k1, k2, k3⟩, hs⟩ : ∃ z, Kp.toldF ⟨#[]⟩ y = z := ⟨_, rfl⟩
          have hF := HF.out
          rw [hs] at hF ⊢
          have HF2 := Lib.hid hF
          have hc0 : w2.cell? ⟨w.heap.size, 0, none⟩ = some (.int .i64 0) := (blk_cell hr2 0).trans rfl
          have hc1 : w2.cell? ⟨w.heap.size, 1, none⟩ = some (.int .i64 0) := (blk_cell hr2 1).trans rfl
          have hc2 : w2.cell? ⟨w.heap.size, 2, none⟩ = some (.int .i32 0) := (blk_cell hr2 2).trans rfl
          have hc3 : w2.cell? ⟨w.heap.size, 3, none⟩ = some (.int .i64 0) := (blk_cell hr2 3).trans rfl
          have hf0 := blk_frozen hr2 0
          have hf1 := blk_frozen hr2 1
          have hf2 := blk_frozen hr2 2
          have hf3 := blk_frozen hr2 3
          clear hF hs hb2 hr2
          go_wp2_with fail
          refine bodyPost_ret ?_ rfl (StepPost.mk HF2.out ((((HB2.out.setCell (Nat.le_refl _) _).setCell (Nat.le_refl _) _).setCell (Nat.le_refl _) _).setCell (Nat.le_refl _) _))
          simp [results, Tryd.results27, go_sem, hc0, hc1, hc2, hc3]
        | false =>
          rw [if_neg (by rw [hlast]; decide)] at hN
          have HF := Lib.hid hN
          clear hN
          go_enter Tryd.func27, Tryd.ntmps27
          go_wp2_with fail
          refine (last_calls y _).mono ?_
          rintro e w' ⟨rfl, rfl⟩
          go_wp2_with fail
          refine bodyPost_ret ?_ rfl (StepPost.mk HF.out (below_alloc (Below.refl _ _) _))
          simp [results, Tryd.results27, go_sem]
    have hb79 : (x == 79) = false := beq_eq_false_iff_ne.2 x79
    rw [if_neg x79] at hN
    clear x79
    obtain ⟨i0, hi0, _, hsz, _⟩ := info_parts Tryd.info5
    obtain ⟨A1, hcut, hA1⟩ := print_cut_of (P := Tryd.prog) eb 0 22 5 .i64 Tryd.underlying22 hi0 hsz (some ad) l.length c 1 (by omega)
    have hcut' : ∀ W : World, (Instr.slice 22 (.slice (some ad) l.length c) (some (.int .i64 1)) none none).run Tryd.prog W = .ok (.slice A1 (l.length - 1) (c - 1)) W := hcut
    obtain ⟨q, hq⟩ : ∃ q, l.drop 1 = q := ⟨_, rfl⟩
    have hql : l.length - 1 = q.length := by rw [← hq, List.length_drop]
    have hr1 := hA1 w l hc HR.out
    have hq27 : Kp.gb q 0 ≠ 27 := by rw [← hq, Kp.gb_drop, HX.out]; exact beq_eq_false_iff_ne.1 hb27
    rw [hq] at hr1 hN
    rw [hql] at hcut' hr1
    have HR1 : Hid (RB w A1 q) := hr1
    have hn := Kp.plainF_n q
    have HQ27 := Lib.hid hq27
    have hqL : q.length ≤ 140737488355328 := by omega
    have hqp : 0 < q.length := by omega
    have hqc : q.length ≤ c - 1 := by omega
    obtain ⟨⟨n, k1, k2, k3⟩, hs⟩ : ∃ y, Kp.plainF q = y := ⟨_, rfl⟩
    rw [hs] at hN hn
    have hn1 : 0 ≤ n := hn.1
    have hn2 : n ≤ 4 := hn.2
    have HN := Lib.hid hN
    have HS := Lib.hid hs
    clear hA1 hcut hr1 hq hql hq27 hN hs hn
    go_enter Tryd.func27, Tryd.ntmps27
    go_wp2_with fail
    refine (plain_calls A1 (c - 1) q _ (HR1.out.below (below_alloc (Below.refl _ _) _)) hqc hqL hqp HQ27.out).mono ?_
    rintro e w2 ⟨rfl, hb2⟩
    rw [HS.out]
    have HB2 := Lib.hid (below_step (below_alloc (Below.refl w.heap.size w) _) hb2)
    have hr2 := blk_below (heap_alloc_new w _) hb2
    have hra : ∀ o : Obj, (w2.alloc o).heap[w.heap.size]? = _ := fun o => blk_alloc hr2 o
    have hc0 : ∀ o : Obj, (w2.alloc o).cell? ⟨w.heap.size, 0, none⟩ = some (.int .i64 0) := fun o => (blk_cell (hra o) 0).trans rfl
    have hc1 : ∀ o : Obj, (w2.alloc o).cell? ⟨w.heap.size, 1, none⟩ = some (.int .i64 0) := fun o => (blk_cell (hra o) 1).trans rfl
    have hc2 : ∀ o : Obj, (w2.alloc o).cell? ⟨w.heap.size, 2, none⟩ = some (.int .i32 0) := fun o => (blk_cell (hra o) 2).trans rfl
    have hc3 : ∀ o : Obj, (w2.alloc o).cell? ⟨w.heap.size, 3, none⟩ = some (.int .i64 0) := fun o => (blk_cell (hra o) 3).trans rfl
    have hf0 := fun o => blk_frozen (hra o) 0
    have hf1 := fun o => blk_frozen (hra o) 1
    have hf2 := fun o => blk_frozen (hra o) 2
    have hf3 := fun o => blk_frozen (hra o) 3
    have hne : ¬ w.heap.size = w2.heap.size := by have := blk_lt hr2; omega
    have hne' : ¬ w2.heap.size = w.heap.size := fun h => hne h.symm
    clear hb2 hr2 hra hcut'
    by_cases hn0 : 0 < n
    · have hF : Kp.behindF l = (n + 1, k1, k2, Go.bits .or .i64 k3 2) := by rw [HN.out, if_pos hn0]
      have HF := Lib.hid hF
      clear hF
      go_wp2_with fail
      refine bodyPost_ret ?_ rfl (StepPost.mk HF.out (((((below_alloc HB2.out _).setCell (Nat.le_refl _) _).setCell (Nat.le_refl _) _).setCell (Nat.le_refl _) _).setCell (Nat.le_refl _) _))
      simp [results, Tryd.results27, go_sem, hc0, hc1, hc2, hc3]
    · have hF : Kp.behindF l = (n, k1, k2, k3) := by rw [HN.out, if_neg hn0]
      have HF := Lib.hid hF
      clear hF
      go_wp2_with fail
      refine bodyPost_ret ?_ rfl (StepPost.mk HF.out (((((below_alloc HB2.out _).setCell (Nat.le_refl _) _).setCell (Nat.le_refl _) _).setCell (Nat.le_refl _) _).setCell (Nat.le_refl _) _))
      simp [results, Tryd.results27, go_sem, hc0, hc1, hc2, hc3]

set_option maxRecDepth 100000 in
set_option maxHeartbeats 2000000 in
theorem key_calls (A : Option Addr) (c : Nat) (l : List UInt8) (m : Int) (w : World) (hr : RB w A l) (hc : l.length ≤ c) (hL : l.length ≤ 140737488355328) (hp : 0 < l.length) (hm : w.cell? ⟨3, 0, none⟩ = some (.int .i64 m)) :
    Calls Tryd.prog 18 #[.slice A l.length c] w (StepPost (Kp.keyF l) w) := by
  by_cases h27 : Kp.gb l 0 = 27
  · have hF : Kp.keyF l = Kp.behindF l := by rw [Kp.keyF, if_pos h27]
    rw [hF]
    have HR := Lib.hid hr
    have HM := Lib.hid hm
    obtain ⟨ad, rfl, hcell⟩ := hr.head hp
    rw [h27] at hcell
    have hal : ∀ o : Obj, (w.alloc o).cell? ad = some (.int .u8 27) := fun o => pw_cell_below (below_alloc (Below.refl _ _) o) hcell
    clear hcell h27 hF hr hm
    go_enter Tryd.func18, Tryd.ntmps18
    go_wp2_with fail
    refine (behind_calls (some ad) c l m _ (HR.out.below (below_alloc (Below.refl _ _) _)) hc hL hp (pw_cell_below (below_alloc (Below.refl _ _) _) HM.out)).mono ?_
    rintro e w2 ⟨rfl, hb2⟩
    have HB2 := Lib.hid (below_step (below_alloc (Below.refl w.heap.size w) _) hb2)
    have hr2 := blk_below (heap_alloc_new w _) hb2
    obtain ⟨⟨n, k1, k2, k3⟩, hs⟩ : ∃ y, Kp.behindF l = y := ⟨_, rfl⟩
    rw [hs]
    have HS := Lib.hid hs
    have hc0 : w2.cell? ⟨w.heap.size, 0, none⟩ = some (.int .i64 0) := (blk_cell hr2 0).trans rfl
    have hc1 : w2.cell? ⟨w.heap.size, 1, none⟩ = some (.int .i64 0) := (blk_cell hr2 1).trans rfl
    have hc2 : w2.cell? ⟨w.heap.size, 2, none⟩ = some (.int .i32 0) := (blk_cell hr2 2).trans rfl
    have hc3 : w2.cell? ⟨w.heap.size, 3, none⟩ = some (.int .i64 0) := (blk_cell hr2 3).trans rfl
    have hf0 := blk_frozen hr2 0
    have hf1 := blk_frozen hr2 1
    have hf2 := blk_frozen hr2 2
    have hf3 := blk_frozen hr2 3
    clear hs hb2 hr2
    go_wp2_with fail
    refine bodyPost_ret ?_ rfl (StepPost.mk HS.out ((((HB2.out.setCell (Nat.le_refl _) _).setCell (Nat.le_refl _) _).setCell (Nat.le_refl _) _).setCell (Nat.le_refl _) _))
    simp [results, Tryd.results18, go_sem, hc0, hc1, hc2, hc3]
  · have hF : Kp.keyF l = Kp.plainF l := by rw [Kp.keyF, if_neg h27]
    rw [hF]
    exact plain_calls A c l w hr hc hL hp h27
end Go.Proofs.YtbjckccgbmimpabDoor

/- Plain laws: what bytes begin with stays so, whatever comes behind, once it is whole; so bytes in parts tell what they tell at once. -/
namespace Go.Proofs.YtbjckccgbmimpabDoor
namespace Kp
theorem firstF_eq {l : List UInt8} {N F T : Int} (h : 0 < l.length) (hs : shp (gb l 0) = (N, F, T)) :
    firstF l = if badTail F T ((l.take (look N l.length)).drop 1) = true then (65533, 1) else if N = 0 then (65533, 1) else if (l.length : Int) < N then (0, 0)
      else if N = 1 then (gb l 0, 1) else (acc (lead N (gb l 0)) ((l.take N.toNat).drop 1) (N.toNat - 1), N) := by
  unfold firstF
  rw [if_neg (by omega)]
  simp only [hs]
theorem firstF_le (l : List UInt8) (h : 0 < l.length) : (firstF l).2 ≤ l.length := by
  obtain ⟨⟨N, F, T⟩, hs⟩ : ∃ x, shp (gb l 0) = x := ⟨_, rfl⟩
  rw [firstF_eq h hs]
  (repeat' split) <;> simp <;> omega

theorem look_le (n : Int) (len : Nat) : look n len ≤ len := by unfold look; omega
theorem badTail_more {f t : Int} {u v : List UInt8} (h : badTail f t u = true) : badTail f t (u ++ v) = true := by
  obtain ⟨k, hk, hb⟩ := List.any_eq_true.1 h
  have hk := List.mem_range.1 hk
  refine badTail_true k (by rw [List.length_append]; omega) ?_
  rw [gb_append _ _ _ hk]; exact hb

theorem firstF_more (l r : List UInt8) (h : 0 < (firstF l).2) : firstF (l ++ r) = firstF l := by
  have hl : 0 < l.length := by
    rcases Nat.eq_zero_or_pos l.length with h0 | h0
    · rw [firstF, if_pos h0] at h; exact absurd h (by decide)
    · exact h0
  have hg : gb (l ++ r) 0 = gb l 0 := gb_append _ _ _ hl
  have hn := shp_n (gb l 0)
  obtain ⟨⟨N, F, T⟩, hs⟩ : ∃ x, shp (gb l 0) = x := ⟨_, rfl⟩
  have e0 := firstF_eq (l := l ++ r) (N := N) (F := F) (T := T) (by rw [List.length_append]; omega) (by rw [hg]; exact hs)
  rw [hg] at e0
  rw [firstF_eq hl hs] at h
  rw [e0, firstF_eq hl hs]
  rw [hs] at hn
  simp only at hn
  by_cases hb : badTail F T ((l.take (look N l.length)).drop 1) = true
  · have hle : look N l.length ≤ look N (l ++ r).length := by unfold look; rw [List.length_append]; omega
    have h1 : 1 ≤ look N l.length := by unfold look; omega
    have e : ((l ++ r).take (look N (l ++ r).length)).take (look N l.length) = l.take (look N l.length) := by
      rw [List.take_take, Nat.min_eq_left hle, List.take_append_of_le_length (look_le _ _)]
    have hv : ((l ++ r).take (look N (l ++ r).length)).drop 1 = ((l.take (look N l.length)).drop 1) ++ ((l ++ r).take (look N (l ++ r).length)).drop (look N l.length) := by
      conv => lhs; rw [← List.take_append_drop (look N l.length) ((l ++ r).take (look N (l ++ r).length)), e]
      rw [List.drop_append_of_le_length (by rw [List.length_take]; have := look_le N l.length; omega)]
    rw [hv, if_pos (badTail_more hb), if_pos hb]
  · rw [if_neg hb] at h
    rw [if_neg hb]
    by_cases hN0 : N = 0
    · subst hN0
      rw [if_pos rfl, if_pos rfl]
      split <;> rfl
    · rw [if_neg hN0] at h
      by_cases hsh : (l.length : Int) < N
      · rw [if_pos hsh] at h; exact absurd h (by decide)
      · have e1 : look N (l ++ r).length = look N l.length := by unfold look; rw [List.length_append]; omega
        have e2 : (l ++ r).take (look N l.length) = l.take (look N l.length) := List.take_append_of_le_length (look_le _ _)
        have e3 : (l ++ r).take N.toNat = l.take N.toNat := List.take_append_of_le_length (by omega)
        rw [e1, e2, if_neg hb, if_neg hN0, if_neg hN0, if_neg hsh, if_neg (by rw [List.length_append]; omega), e3]

theorem plainF_le (l : List UInt8) (h : 0 < l.length) : (plainF l).1 ≤ l.length := by
  have := firstF_le l h
  unfold plainF
  (repeat' split) <;> simp <;> omega
theorem plainF_more (l r : List UInt8) (hl : 0 < l.length) (h : 0 < (plainF l).1) : plainF (l ++ r) = plainF l := by
  have hg : gb (l ++ r) 0 = gb l 0 := gb_append _ _ _ hl
  unfold plainF at h ⊢
  rw [hg]
  by_cases c1 : gb l 0 = 13
  · rw [if_pos c1, if_pos c1]
  rw [if_neg c1] at h ⊢
  rw [if_neg c1]
  by_cases c2 : gb l 0 = 10
  · rw [if_pos c2, if_pos c2]
  rw [if_neg c2] at h ⊢
  rw [if_neg c2]
  by_cases c3 : gb l 0 = 9
  · rw [if_pos c3, if_pos c3]
  rw [if_neg c3] at h ⊢
  rw [if_neg c3]
  by_cases c4 : gb l 0 = 8 ∨ gb l 0 = 127
  · rw [if_pos c4, if_pos c4]
  rw [if_neg c4] at h ⊢
  rw [if_neg c4]
  by_cases c5 : gb l 0 < 32
  · rw [if_pos c5, if_pos c5]
  rw [if_neg c5] at h ⊢
  rw [if_neg c5, firstF_more l r h]

theorem seqGo_le (l : List UInt8) (h2 : 2 ≤ l.length) : ∀ (f i : Nat), 0 ≤ (seqGo l f i).1 ∧ (seqGo l f i).1 ≤ l.length
  | 0, _ => by simp [seqGo]
  | f + 1, i => by
    unfold seqGo
    split
    · split
      · simp only; omega
      · split
        · simp only; omega
        · exact seqGo_le l h2 f (i + 1)
    · simp
theorem seqGo_more (l r : List UInt8) : ∀ (f i : Nat), 0 < (seqGo l f i).1 → seqGo (l ++ r) f i = seqGo l f i
  | 0, _ => fun h => absurd h (by simp [seqGo])
  | f + 1, i => fun h => by
    unfold seqGo at h ⊢
    by_cases hl : 2 + i < l.length
    · rw [if_pos hl] at h
      rw [if_pos (by rw [List.length_append]; omega), if_pos hl, gb_append _ _ _ hl, List.take_append_of_le_length (by omega)]
      by_cases c1 : lastB (gb l (2 + i)) = true
      · rw [if_pos c1, if_pos c1]
      · rw [if_neg c1] at h
        rw [if_neg c1, if_neg c1]
        by_cases c2 : gb l (2 + i) < 48 ∨ 63 < gb l (2 + i) ∨ 12 ≤ i
        · rw [if_pos c2, if_pos c2]
        · rw [if_neg c2] at h
          rw [if_neg c2, if_neg c2]
          exact seqGo_more l r f (i + 1) h
    · rw [if_neg hl] at h; exact absurd h (by decide)

theorem behindF_le (l : List UInt8) (h : 0 < l.length) : 0 ≤ (behindF l).1 ∧ (behindF l).1 ≤ l.length := by
  unfold behindF
  by_cases c0 : l.length = 1
  · rw [if_pos c0]; simp
  rw [if_neg c0]
  by_cases c1 : gb l 1 = 27
  · rw [if_pos c1]; simp only; omega
  rw [if_neg c1]
  by_cases c2 : gb l 1 = 91
  · rw [if_pos c2]; exact seqGo_le l (by omega) 14 0
  rw [if_neg c2]
  by_cases c3 : gb l 1 = 79
  · rw [if_pos c3]
    by_cases c4 : l.length = 2
    · rw [if_pos c4]; simp
    · rw [if_neg c4]
      split <;> simp only <;> omega
  rw [if_neg c3]
  have h1 := plainF_n (l.drop 1)
  have h2 := plainF_le (l.drop 1) (by rw [List.length_drop]; omega)
  rw [List.length_drop] at h2
  split
  · simp only; omega
  · omega
theorem behindF_more (l r : List UInt8) (hl : 0 < l.length) (h : 0 < (behindF l).1) : behindF (l ++ r) = behindF l := by
  unfold behindF at h ⊢
  by_cases c0 : l.length = 1
  · rw [if_pos c0] at h; exact absurd h (by decide)
  rw [if_neg c0] at h
  rw [if_neg (by rw [List.length_append]; omega), if_neg c0, gb_append l r 1 (by omega)]
  by_cases c1 : gb l 1 = 27
  · rw [if_pos c1, if_pos c1]
  rw [if_neg c1] at h
  rw [if_neg c1, if_neg c1]
  by_cases c2 : gb l 1 = 91
  · rw [if_pos c2] at h
    rw [if_pos c2, if_pos c2]
    exact seqGo_more l r 14 0 h
  rw [if_neg c2] at h
  rw [if_neg c2, if_neg c2]
  by_cases c3 : gb l 1 = 79
  · rw [if_pos c3] at h
    rw [if_pos c3, if_pos c3]
    by_cases c4 : l.length = 2
    · rw [if_pos c4] at h; exact absurd h (by decide)
    · rw [if_neg c4] at h
      rw [if_neg (by rw [List.length_append]; omega), if_neg c4, gb_append l r 2 (by omega)]
  rw [if_neg c3] at h
  rw [if_neg c3, if_neg c3, List.drop_append_of_le_length (by omega)]
  by_cases c5 : 0 < (plainF (l.drop 1)).1
  · rw [plainF_more _ r (by rw [List.length_drop]; omega) c5]
  · rw [if_neg c5] at h; exact absurd h c5

theorem keyF_le (l : List UInt8) (h : 0 < l.length) : 0 ≤ (keyF l).1 ∧ (keyF l).1 ≤ l.length := by
  unfold keyF
  split
  · exact behindF_le l h
  · exact ⟨(plainF_n l).1, plainF_le l h⟩
theorem keyF_more (l r : List UInt8) (hl : 0 < l.length) (h : 0 < (keyF l).1) : keyF (l ++ r) = keyF l := by
  unfold keyF at h ⊢
  rw [gb_append _ _ _ hl]
  split
  · rename_i c; rw [if_pos c] at h; exact behindF_more l r hl h
  · rename_i c; rw [if_neg c] at h; exact plainF_more l r hl h

/-- The keys of bytes, and what waits. -/
def runK : Nat → List UInt8 → List (Int × Int × Int) × List UInt8
  | 0, l => ([], l)
  | f + 1, l =>
    if l.length = 0 then ([], l) else if (keyF l).1 = 0 then ([], l)
    else ((if (keyF l).2.1 ≠ 0 then [(keyF l).2] else []) ++ (runK f (l.drop (keyF l).1.toNat)).1, (runK f (l.drop (keyF l).1.toNat)).2)
theorem runK_fuel : ∀ (f f' : Nat) (l : List UInt8), l.length ≤ f → l.length ≤ f' → runK f l = runK f' l
  | 0, f', l, h, _ => by
    have h0 : l.length = 0 := by omega
    cases f' with
    | zero => rfl
    | succ f' =>
      have e : runK (f' + 1) l = ([], l) := by rw [runK, if_pos h0]
      rw [e]; rfl
  | f + 1, 0, l, _, h => by
    have h0 : l.length = 0 := by omega
    have e : runK (f + 1) l = ([], l) := by rw [runK, if_pos h0]
    rw [e]; rfl
  | f + 1, f' + 1, l, h, h' => by
    rw [runK, runK]
    by_cases h0 : l.length = 0
    · rw [if_pos h0, if_pos h0]
    · rw [if_neg h0, if_neg h0]
      by_cases hk : (keyF l).1 = 0
      · rw [if_pos hk, if_pos hk]
      · have hn := keyF_le l (by omega)
        have hd : (l.drop (keyF l).1.toNat).length ≤ l.length - 1 := by rw [List.length_drop]; omega
        rw [if_neg hk, if_neg hk, runK_fuel f f' _ (by omega) (by omega)]
def keysOf (l : List UInt8) : List (Int × Int × Int) × List UInt8 := runK l.length l
theorem keysOf_stop (l : List UInt8) (h : l.length = 0 ∨ (keyF l).1 = 0) : keysOf l = ([], l) := by
  unfold keysOf
  cases hl : l.length with
  | zero => rfl
  | succ n =>
    rw [runK, if_neg (by omega), if_pos (by rcases h with h | h <;> omega)]
theorem keysOf_step (l : List UInt8) (h0 : 0 < l.length) (h : (keyF l).1 ≠ 0) :
    keysOf l = ((if (keyF l).2.1 ≠ 0 then [(keyF l).2] else []) ++ (keysOf (l.drop (keyF l).1.toNat)).1, (keysOf (l.drop (keyF l).1.toNat)).2) := by
  have hn := keyF_le l h0
  have hd : (l.drop (keyF l).1.toNat).length ≤ l.length - 1 := by rw [List.length_drop]; omega
  obtain ⟨n, hl⟩ : ∃ n, l.length = n + 1 := ⟨l.length - 1, by omega⟩
  unfold keysOf
  rw [hl, runK, if_neg (by omega), if_neg h, runK_fuel n _ _ (by omega) (Nat.le_refl _)]

/-- BYTES IN PARTS: the keys of the first part, and then those of what waits with the second part behind. -/
theorem keysOf_append : ∀ (n : Nat) (x y : List UInt8), x.length ≤ n → keysOf (x ++ y) = ((keysOf x).1 ++ (keysOf ((keysOf x).2 ++ y)).1, (keysOf ((keysOf x).2 ++ y)).2)
  | 0, x, y, h => by
    have : x = [] := List.eq_nil_of_length_eq_zero (by omega)
    subst this
    simp [keysOf, runK]
  | n + 1, x, y, h => by
    by_cases hs : x.length = 0 ∨ (keyF x).1 = 0
    · rw [keysOf_stop x hs]; simp
    · have h0 : 0 < x.length := by omega
      have hk : (keyF x).1 ≠ 0 := fun e => hs (.inr e)
      have hn := keyF_le x h0
      have hm := keyF_more x y h0 (by omega)
      have hd : (x.drop (keyF x).1.toNat).length ≤ n := by rw [List.length_drop]; omega
      rw [keysOf_step x h0 hk, keysOf_step (x ++ y) (by rw [List.length_append]; omega) (by rw [hm]; exact hk), hm, List.drop_append_of_le_length (by omega), keysOf_append n _ y hd]
      simp only [List.append_assoc]
theorem keysOf_rest_le : ∀ (n : Nat) (x : List UInt8), x.length ≤ n → (keysOf x).2.length ≤ x.length ∧ (keysOf x).1.length ≤ x.length
  | 0, x, h => by
    have : x = [] := List.eq_nil_of_length_eq_zero (by omega)
    subst this
    simp [keysOf, runK]
  | n + 1, x, h => by
    by_cases hs : x.length = 0 ∨ (keyF x).1 = 0
    · rw [keysOf_stop x hs]; simp
    · have h0 : 0 < x.length := by omega
      have hk : (keyF x).1 ≠ 0 := fun e => hs (.inr e)
      have hn := keyF_le x h0
      have hd : (x.drop (keyF x).1.toNat).length ≤ x.length - 1 := by rw [List.length_drop]; omega
      have ih := keysOf_rest_le n (x.drop (keyF x).1.toNat) (by omega)
      rw [keysOf_step x h0 hk]
      constructor
      · simp only; omega
      · simp only [List.length_append]
        split <;> simp <;> omega
end Kp
end Go.Proofs.YtbjckccgbmimpabDoor

/- What a decoder holds; keys in a row of their own. -/
namespace Go.Proofs.YtbjckccgbmimpabDoor
open Go.RowKit Go.Proofs.YtbjckccgbmimpabDoorW.PrintWords Go.Proofs.YtbjckccgbmimpabDoorW.PrintLast Go.Proofs.YtbjckccgbmimpabDoorW.PrintMore

abbrev Key := Int × Int × Int
def keyVals (k : Key) : List Value := [.int .i64 k.1, .int .i32 k.2.1, .int .i64 k.2.2]
def kcs (ks : List Key) : List Value := ks.flatMap keyVals
theorem kcs_snoc (ks : List Key) (k : Key) : kcs (ks ++ [k]) = kcs ks ++ keyVals k := by simp [kcs]
theorem kcs_length (ks : List Key) : (kcs ks).length = ks.length * 3 := by
  induction ks with
  | nil => rfl
  | cons a r ih => simp only [kcs, List.flatMap_cons, List.length_append, List.length_cons] at ih ⊢; simp only [keyVals, List.length_cons, List.length_nil]; omega
def bz (l : List UInt8) : List Int := l.map fun b => (b.toNat : Int)
theorem bz_length (l : List UInt8) : (bz l).length = l.length := by simp [bz]
theorem bz_append (l r : List UInt8) : bz (l ++ r) = bz l ++ bz r := by simp [bz]
theorem Tryd.info30 : (Tryd.prog.info? 30).map (fun i => (i.zero, i.size, i.bytes)) = some (some (.agg #[.int .i64 0, .int .i32 0, .int .i64 0]), 3, 24) := by kernel_rfl

theorem append_key {ops : Array Oper} {rest : List Oper} {o : Oper} {a : Act} {Q : Exit → Act → World → Prop} {w0 W : World} (base : Nat) (hgd : o.guard = none) (s x : Operand)
    (ho : o.op = .call { callee := .builtin .append, args := #[s, x], argTypes := #[26, 26] }) (v : Value) (ks : List Key) (k : Key) (r : Nat) (hs : a.eval s = v) (hx : a.eval x = .slice (some ⟨r, 0, none⟩) 1 1) (hr : r = W.heap.size)
    (HO : W.ownsRow base 30 3 v ks.length (kcs ks)) (HB : Below base w0 W) (hbase : base ≤ W.heap.size) (hl : ks.length + 1 ≤ 1000000000)
    (h : ∀ v1 w1, w1.ownsRow base 30 3 v1 (ks ++ [k]).length (kcs (ks ++ [k])) → Below base w0 w1 → W.grownBy w1 v.ownBlock → wpList Tryd.prog ops Q rest (a.put o.dst v1) w1) :
    wpList Tryd.prog ops Q (o :: rest) a (W.alloc (.cells #[.int .i64 k.1, .int .i32 k.2.1, .int .i64 k.2.2] 30)) := by
  subst hr
  obtain ⟨i0, hi, hz0, hz1, hz2⟩ := info_parts Tryd.info30
  refine wpList_append_own_at (W.alloc (.cells #[.int .i64 k.1, .int .i32 k.2.1, .int .i64 k.2.2] 30)) hgd s x 26 ho base 30 i0 _ 3 24 Tryd.underlying26 hi hz0 hz1 hz2 rfl (by omega) v ks.length (kcs ks) hs (HO.alloc _) ⟨W.heap.size, 0, none⟩ 1 1 (keyVals k) hx rfl
    (World.news_of_block (cs := #[.int .i64 k.1, .int .i32 k.2.1, .int .i64 k.2.2]) (t := 30) (fr := (0, 0)) (heap_alloc_new W _)) (by intro u hu; simp only [keyVals, List.mem_cons, List.not_mem_nil, or_false] at hu; rcases hu with rfl | rfl | rfl <;> rfl)
    (by simp only [maxLen]; omega) (by omega) (by simp; omega) ?_
  intro v1 w1 hown hg _ _
  exact h v1 w1 (by rw [kcs_snoc, List.length_append]; exact hown) ((HB.alloc hbase _).grown hg (by simp; omega) (own_base HO)) (World.grownBy.trans (World.grownBy_alloc W _ _) hg)

/-- A row of bytes of one's own, read. -/
theorem own_RB {w : World} {base : Nat} {v : Value} {l : List UInt8} (h : w.ownsRow base 5 1 v (bz l).length (nums .u8 (bz l))) : ∃ A c, v = .slice A l.length c ∧ l.length ≤ c ∧ RB w A l := by
  obtain ⟨A, c, rfl, hr⟩ := own_reads h
  rw [bz_length] at hr h ⊢
  refine ⟨A, c, rfl, ?_, rfl, hr.2.1, fun hp => ?_⟩
  · rcases h.2 with ⟨he, hn⟩ | ⟨g, cap, cur, he, _, _, hc, _⟩
    · omega
    · injection he with _ _ he; omega
  · obtain ⟨ad, he, hc⟩ := hr.2.2 hp
    refine ⟨ad, he, fun j hj => ?_⟩
    rw [hc j hj]
    simp [bz, List.getD_eq_getElem?_getD, List.getElem?_eq_getElem hj]

/-- A decoder, and what waits. -/
structure Dec (W : World) (base g : Nat) (v : Value) (l : List UInt8) : Prop where
  blk : W.heap[g]? = some (.cells #[v] 51 (0, 0))
  ge : base ≤ g
  own : W.ownsRow base 5 1 v (bz l).length (nums .u8 (bz l))
theorem own_blk {w : World} {base e size n : Nat} {v : Value} {xs : List Value} (h : w.ownsRow base e size v n xs) {k : Nat} (hk : v.ownBlock = some k) : ∃ cur, w.heap[k]? = some (.cells cur e (0, 0)) := by
  rcases h.2 with ⟨rfl, _⟩ | ⟨g, cap, cur, rfl, _, hh, _⟩
  · simp [Value.ownBlock] at hk
  · simp only [Value.ownBlock, Option.some.injEq] at hk
    subst hk
    exact ⟨cur, hh⟩
theorem Dec.ne {W : World} {base g : Nat} {v : Value} {l : List UInt8} (h : Dec W base g v l) : some g ≠ v.ownBlock := fun e => by
  obtain ⟨cur, hc⟩ := own_blk h.own e.symm
  rw [h.blk] at hc
  injection hc with hc
  injection hc with _ ht
  exact absurd ht (by decide)
/-- What is written elsewhere leaves a row alone. -/
theorem own_kept {w w' : World} {base e size n : Nat} {v : Value} {xs : List Value} {S : Nat → Prop} (h : w.ownsRow base e size v n xs) (hk : Kept w w' S) (hS : ∀ k, v.ownBlock = some k → ¬ S k) : w'.ownsRow base e size v n xs := by
  refine ⟨h.1, ?_⟩
  rcases h.2 with h2 | ⟨g, cap, cur, rfl, hg, hh, r⟩
  · exact .inl h2
  · exact .inr ⟨g, cap, cur, rfl, hg, blk_kept hh hk (hS g rfl), r⟩
theorem Dec.kept {W W' : World} {base g : Nat} {v : Value} {l : List UInt8} {S : Nat → Prop} (h : Dec W base g v l) (hk : Kept W W' S) (hg : ¬ S g) (hS : ∀ k, v.ownBlock = some k → ¬ S k) : Dec W' base g v l :=
  ⟨blk_kept h.blk hk hg, h.ge, own_kept h.own hk hS⟩
def lenOfV : Value → Nat | .slice _ n _ => n | _ => 0

/-- What Feed comes to. -/
structure Fed (W W' : World) (base g : Nat) (v : Value) (r : List UInt8) (kv : Value) (ks : List Key) : Prop where
  dec : ∃ v', Dec W' base g v' r ∧ ∀ k, v'.ownBlock = some k → W.heap.size ≤ k
  keys : W'.ownsRow W.heap.size 30 3 kv ks.length (kcs ks)
  kept : Kept W W' (fun k => k = g ∨ some k = v.ownBlock)
  below : Below base W W'
def FeedPost (W : World) (base g : Nat) (v : Value) (all : List UInt8) (e : Ending) (W' : World) : Prop :=
  ∃ kv, e = .returned kv ∧ Fed W W' base g v (Kp.keysOf all).2 kv (Kp.keysOf all).1
theorem FeedPost.mk {W : World} {base g : Nat} {v : Value} {all : List UInt8} {kv : Value} {W' : World} (h : Fed W W' base g v (Kp.keysOf all).2 kv (Kp.keysOf all).1) : FeedPost W base g v all (.returned kv) W' := ⟨kv, rfl, h⟩
theorem own_ne_blk {w : World} {base e size n : Nat} {v : Value} {xs : List Value} (h : w.ownsRow base e size v n xs) {g t : Nat} {cs : Array Value} (hg : w.heap[g]? = some (.cells cs t (0, 0))) (ht : e ≠ t) : ∀ k, v.ownBlock = some k → k ≠ g := fun k hk hkg => by
  subst hkg
  obtain ⟨cur, hc⟩ := own_blk h hk
  rw [hg] at hc
  injection hc with hc
  injection hc with _ h2
  exact ht h2.symm
theorem blk_set {w : World} {g t : Nat} {v : Value} (h : w.heap[g]? = some (.cells #[v] t (0, 0))) (u : Value) : (w.setCell ⟨g, 0, none⟩ u).heap[g]? = some (.cells #[u] t (0, 0)) := by
  simp only [World.setCell, Array.getElem?_modify, h]
  simp
theorem fed_done {W w1 wr w5 : World} {base g : Nat} {v v5 vo : Value} {l r : List UInt8} {ks : List Key} (hd : Dec W base g v l) (hg1 : W.grownBy w1 v.ownBlock) (hb1 : Below base W w1) (hbase : base ≤ W.heap.size)
    (hb : Below w1.heap.size w1 wr) (ho : wr.ownsRow w1.heap.size 30 3 vo ks.length (kcs ks)) (hg5 : (wr.alloc (.cells #[] 5)).grownBy w5 (some wr.heap.size))
    (o5 : w5.ownsRow W.heap.size 5 1 v5 (bz r).length (nums .u8 (bz r))) (ob : v5.ownBlock = some wr.heap.size ∨ ∃ b, v5.ownBlock = some b ∧ wr.heap.size ≤ b) :
    w5.heap[g]? = some (.cells #[v] 51 (0, 0)) ∧ Fed W (w5.setCell ⟨g, 0, none⟩ v5) base g v r vo ks := by
  have s1 : W.heap.size ≤ w1.heap.size := hb1.size
  have s2 : w1.heap.size ≤ wr.heap.size := hb.size
  have g1 := blk_grown hd.blk hg1 hd.ne
  have gr := blk_below g1 hb
  have gz := blk_alloc gr (.cells #[] 5)
  have hgl := blk_lt gr
  have g5 := blk_grown gz hg5 (by simp; omega)
  have obk : ∀ k, v5.ownBlock = some k → wr.heap.size ≤ k := fun k hk => by
    rcases ob with h | ⟨b, h, hle⟩
    · rw [h] at hk; injection hk with hk; omega
    · rw [h] at hk; injection hk with hk; omega
  have kg : Kept w5 (w5.setCell ⟨g, 0, none⟩ v5) (fun k => k = g) := Kept.setCell (S := fun k => k = g) (Kept.refl w5 _) (p := ⟨g, 0, none⟩) (.inl rfl) _
  refine ⟨g5, ⟨v5, ⟨blk_set g5 v5, hd.ge, own_kept (own_less o5 hbase) kg (fun k hk => by have := obk k hk; omega)⟩, fun k hk => by have := obk k hk; omega⟩, ?_, ?_, ?_⟩
  · have oz := ho.alloc (.cells #[] 5)
    have o6 : w5.ownsRow w1.heap.size 30 3 vo ks.length (kcs ks) := by
      refine oz.kept hg5 ?_
      cases hvo : vo.ownBlock with
      | none => exact .inl rfl
      | some k => exact .inr (fun h => by
          injection h with h
          have := own_lt ho k hvo
          omega)
    exact own_less (own_kept o6 kg (own_ne_blk o6 g5 (by decide))) s1
  · refine Kept.setCell ?_ (.inl (.inl rfl)) _
    refine Kept.of_grown hg5 ((((Kept.of_grown hg1 (Kept.refl W _) (fun k hk => .inl (.inr hk.symm))).below hb)).alloc _) (fun k hk => .inr ?_)
    injection hk with hk
    omega
  · refine Below.setCell ?_ hd.ge _
    refine Below.grown (((hb1.trans (hb.mono (Nat.le_trans hbase s1)))).alloc (by omega) (.cells #[] 5)) hg5 (by simp; omega) (fun k hk => ?_)
    injection hk with hk
    omega
theorem own_empty {W : World} {base r : Nat} (hb : base ≤ W.heap.size) (hr : r = W.heap.size) : (W.alloc (.cells #[] 5)).ownsRow base 5 1 (.slice (some ⟨r, 0, none⟩) 0 0) ([] : List Int).length (nums .u8 []) := by
  subst hr
  exact own_lit W base 5 .u8 [] hb (by decide)
theorem fed_done' {W w1 wr w5 : World} {base g r : Nat} {v v5 vo : Value} {l rest : List UInt8} {ks : List Key} (hr : r = wr.heap.size) (hd : Dec W base g v l) (hg1 : W.grownBy w1 v.ownBlock) (hb1 : Below base W w1) (hbase : base ≤ W.heap.size)
    (hb : Below w1.heap.size w1 wr) (ho : wr.ownsRow w1.heap.size 30 3 vo ks.length (kcs ks)) (hg5 : (wr.alloc (.cells #[] 5)).grownBy w5 (Value.slice (some ⟨r, 0, none⟩) 0 0).ownBlock)
    (o5 : w5.ownsRow W.heap.size 5 1 v5 ([] ++ bz rest).length (nums .u8 ([] ++ bz rest))) (ob : v5.ownBlock = (Value.slice (some ⟨r, 0, none⟩) 0 0).ownBlock ∨ ∃ b, v5.ownBlock = some b ∧ (wr.alloc (.cells #[] 5)).heap.size ≤ b) :
    Hid (w5.cell? ⟨g, 0, none⟩ = some v) ∧ Hid (w5.frozen? ⟨g, 0, none⟩ = false) ∧ Hid (Fed W (w5.setCell ⟨g, 0, none⟩ v5) base g v rest vo ks) := by
  subst hr
  obtain ⟨h1, h2⟩ := fed_done hd hg1 hb1 hbase hb ho hg5 o5 (by
    rcases ob with h | ⟨b, h, hle⟩
    · exact .inl h
    · refine .inr ⟨b, h, ?_⟩
      have e : (wr.alloc (.cells #[] 5)).heap.size = wr.heap.size + 1 := by simp
      omega)
  exact ⟨(blk_cell h1 0).trans rfl, blk_frozen h1 0, h2⟩
end Go.Proofs.YtbjckccgbmimpabDoor
