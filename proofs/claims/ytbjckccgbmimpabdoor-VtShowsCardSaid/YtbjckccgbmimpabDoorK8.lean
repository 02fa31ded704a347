/- The walks of keys.last and keys.sequence. -/
import Derived.Test.YtbjckccgbmimpabDoorK4
import Derived.Test.YtbjckccgbmimpabDoorK7
import Derived.Lib.LazyBuf
namespace Go.Proofs.YtbjckccgbmimpabDoor
open Go.RowKit Go.Proofs.YtbjckccgbmimpabDoorW.PrintWords Go.Proofs.YtbjckccgbmimpabDoorW.PrintLast Go.Proofs.YtbjckccgbmimpabDoorW.PrintMore
namespace Kp
def lastB (c : Int) : Bool := decide (64 ≤ c) && decide (c ≤ 126)
abbrev Step := Int × Int × Int × Int
def seqGo (l : List UInt8) : Nat → Nat → Step
  | 0, _ => (0, 0, 0, 0)
  | f + 1, i =>
    if 2 + i < l.length then
      if lastB (gb l (2 + i)) = true then (((i : Int) + 3, toldF ⟨((l.take (2 + i)).drop 2).toArray⟩ (gb l (2 + i))))
      else if gb l (2 + i) < 48 ∨ 63 < gb l (2 + i) ∨ 12 ≤ i then ((i : Int) + 2, 0, 0, 0) else seqGo l f (i + 1)
    else (0, 0, 0, 0)
/-- What begins with an escape and a bracket. -/
def seqF (l : List UInt8) : Step := seqGo l 14 0
end Kp
def LastPost (c : Int) (w : World) (e : Ending) (w' : World) : Prop := e = .returned (.bool (Kp.lastB c)) ∧ w = w'
theorem last_calls (c : Int) (w : World) : Calls Tryd.prog 39 #[.int .u8 c] w (LastPost c w) := by
  by_cases h : 64 ≤ c
  · go_enter Tryd.func39, Tryd.ntmps39
    go_wp2
    go_ret
    exact ⟨by simp [Kp.lastB, h], rfl⟩
  · go_enter Tryd.func39, Tryd.ntmps39
    go_wp2
    go_ret
    exact ⟨by simp [Kp.lastB]; omega, rfl⟩

theorem RB.ints {w : World} {A : Option Addr} {l : List UInt8} (h : RB w A l) : ReadsInt w .u8 A l.length (l.map fun b => (b.toNat : Int)) := by
  refine ⟨by simp, h.2.1, fun hn => ?_⟩
  obtain ⟨ad, e, hc⟩ := h.2.2 hn
  refine ⟨ad, e, fun j hj => ?_⟩
  rw [hc j hj]
  simp [List.getD_eq_getElem?_getD, List.getElem?_eq_getElem hj]
/-- string(b) of bytes that are read. -/
theorem run_string_of {W : World} {A : Option Addr} {l : List UInt8} (c : Nat) (h : RB W A l) : (convert 22 9 (.slice A l.length c)).run Tryd.prog W = .ok (.string ⟨l.toArray⟩) W := by
  have := string_of_reads (P := Tryd.prog) (src := 22) (dst := 9) (e := 5) (c := c) Tryd.underlying22 Tryd.underlying5 Tryd.underlying9 h.ints
  have e : strOfNums (l.map fun b => (b.toNat : Int)) = ⟨l.toArray⟩ := by
    apply WideShapes.bytes_inj
    rw [strOfNums_data]
    show List.map (fun n : Int => UInt8.ofNat n.toNat) (List.map (fun b : UInt8 => (b.toNat : Int)) l) = l
    rw [List.map_map]
    exact (List.map_congr_left fun b _ => by simp).trans (List.map_id l)
  rw [this, e]

abbrev stepVal (s : Kp.Step) : Value := .agg #[.int .i64 s.1, .int .i64 s.2.1, .int .i32 s.2.2.1, .int .i64 s.2.2.2]
def StepPost (s : Kp.Step) (w : World) (e : Ending) (w' : World) : Prop := e = .returned (stepVal s) ∧ Below w.heap.size w w'
theorem StepPost.mk {s : Kp.Step} {w w' : World} {n x y z : Int} (h : s = (n, x, y, z)) (hb : Below w.heap.size w w') : StepPost s w (.returned (.agg #[.int .i64 n, .int .i64 x, .int .i32 y, .int .i64 z])) w' := by
  subst h; exact ⟨rfl, hb⟩

set_option maxRecDepth 100000 in
set_option maxHeartbeats 2000000 in
theorem sequence_calls (A : Option Addr) (c : Nat) (l : List UInt8) (m : Int) (w : World) (hr : RB w A l) (hc : l.length ≤ c) (hL : l.length ≤ 140737488355328) (h2 : 2 ≤ l.length) (hm : w.cell? ⟨3, 0, none⟩ = some (.int .i64 m)) :
    Calls Tryd.prog 38 #[.slice A l.length c] w (StepPost (Kp.seqF l) w) := by
  obtain ⟨i0, hi0, _, hsz, _⟩ := info_parts Tryd.info5
  obtain ⟨A1, hcut, hA1⟩ := print_cut_of (P := Tryd.prog) eb 0 22 5 .i64 Tryd.underlying22 hi0 hsz A l.length c 2 h2
  have hcut' : ∀ W : World, (Instr.slice 22 (.slice A l.length c) (some (.int .i64 2)) none none).run Tryd.prog W = .ok (.slice A1 (l.length - 2) (c - 2)) W := hcut
  obtain ⟨q, hq⟩ : ∃ q, l.drop 2 = q := ⟨_, rfl⟩
  have hql : l.length - 2 = q.length := by rw [← hq, List.length_drop]
  have hr1 := hA1 w l hc hr
  rw [hq] at hr1
  rw [hql] at hcut' hr1
  have HR := Lib.hid hr
  have HR1 : Hid (RB w A1 q) := hr1
  have HM := Lib.hid hm
  have HQ := Lib.hid hq
  have hqL : q.length ≤ 140737488355328 := by omega
  have HQL := Lib.hid hql
  clear hr hA1 hm hcut hr1 hq hql
  go_enter Tryd.func38, Tryd.ntmps38
  go_wp2_with fail
  obtain ⟨W0, hW0⟩ : ∃ W0, w.alloc (Obj.cells #[Value.int IntKind.i64 0, Value.int IntKind.i64 0, Value.int IntKind.i32 0, Value.int IntKind.i64 0] 53) = W0 := ⟨_, rfl⟩
  have HSZ : Hid (W0.heap.size = w.heap.size + 1) := by show _ = _; rw [← hW0]; simp
  have HRES : Hid (W0.heap[w.heap.size]? = some (.cells #[Value.int IntKind.i64 0, Value.int IntKind.i64 0, Value.int IntKind.i32 0, Value.int IntKind.i64 0] 53 (0, 0))) := by
    rw [← hW0]; exact heap_alloc_new w _
  have HB0 : Hid (Below w.heap.size w W0) := by rw [← hW0]; exact below_alloc (Below.refl _ _) _
  rw [hW0]
  clear hW0 hcut'
  go_loopw [8] (fun v wr => ∃ i : Nat, i ≤ q.length ∧ i ≤ 12 ∧ v = .int .i64 i ∧ Hid (Kp.seqF l = Kp.seqGo l (14 - i) i) ∧ Hid (Below W0.heap.size W0 wr)) (fun v _ => q.length - (intOf v).toNat)
  case atStart => exact ⟨0, by omega, by omega, rfl, rfl, Below.refl _ _⟩
  case round =>
    obtain ⟨i, hi1, hi2, rfl, HS, HB⟩ := hrel
    have HBw : Hid (Below w.heap.size w wr) := HB0.out.trans (HB.out.mono (by have := HSZ.out; omega))
    have hres := blk_below HRES.out HB.out
    have HRES2 := Lib.hid hres
    clear hres
    by_cases hlt : i < q.length
    · obtain ⟨x, hx⟩ : ∃ x, Kp.gb l (2 + i) = x := ⟨_, rfl⟩
      obtain ⟨ad1, rfl, hcell⟩ := (HR1.out.below HBw.out).2.2 (by omega)
      have hcx : wr.cell? (ad1.add i) = some (.int .u8 x) := by
        rw [hcell i hlt, ← hx, ← HQ.out]
        simp [Kp.gb, List.getD_eq_getElem?_getD]
      have hstep : Kp.seqF l = (if Kp.lastB x = true then (((i : Int) + 3, Kp.toldF ⟨((l.take (2 + i)).drop 2).toArray⟩ x)) else if x < 48 ∨ 63 < x ∨ 12 ≤ i then ((i : Int) + 2, 0, 0, 0) else Kp.seqGo l (14 - (i + 1)) (i + 1)) := by
        rw [HS.out, show 14 - i = (14 - (i + 1)) + 1 from by omega, Kp.seqGo, if_pos (by have := HQL.out; omega), hx]
      have HStep := Lib.hid hstep
      have HX := Lib.hid hx
      clear hx hcell hstep HS
      go_wp2_with fail
      refine (last_calls x _).mono ?_
      rintro e w' ⟨rfl, rfl⟩
      by_cases hlast : Kp.lastB x = true
      · obtain ⟨A2, hcut2, hA2, hC2⟩ := print_mid_of (P := Tryd.prog) eb 0 22 5 .i64 .i64 Tryd.underlying22 hi0 hsz A c l 2 (2 + (i : Int)) (by omega) (by omega) (by have := HQL.out; omega) hc
        obtain ⟨u, hu⟩ : ∃ u, (l.take (2 + i)).drop 2 = u := ⟨_, rfl⟩
        have hu' : (l.take (Int.toNat (2 + (i : Int)))).drop (Int.toNat 2) = u := by
          rw [← hu, show Int.toNat (2 + (i : Int)) = 2 + i from by omega, show Int.toNat 2 = 2 from rfl]
        have hul : u.length ≤ 12 := by rw [← hu, List.length_drop, List.length_take]; omega
        rw [hu'] at hcut2 hA2 hC2
        have hstr := run_string_of (W := wr) (c - 2) (hA2 wr (HR.out.below HBw.out))
        have hF : Kp.seqF l = ((i : Int) + 3, Kp.toldF ⟨u.toArray⟩ x) := by rw [HStep.out, if_pos hlast, hu]
        have HF := Lib.hid hF
        clear hA2 hu hu' hF hC2
        go_wp2_with fail
        refine (told_calls ⟨u.toArray⟩ x m _ (by show u.toArray.size ≤ 1000; rw [List.size_toArray]; omega) (pw_cell_below (w := w) HBw.out HM.out)).mono ?_
        rintro e w2 ⟨rfl, hb2⟩
        obtain ⟨⟨k1, k2, k3⟩, hk⟩ : ∃ k, Kp.toldF ⟨u.toArray⟩ x = k := ⟨_, rfl⟩
        have hF2 : Kp.seqF l = ((i : Int) + 3, k1, k2, k3) := by rw [HF.out, hk]
        rw [hk]
        have HF2 := Lib.hid hF2
        have HB2 := Lib.hid (below_step HBw.out hb2)
        have hr2 := blk_below HRES2.out hb2
        have hc0 : w2.cell? ⟨w.heap.size, 0, none⟩ = some (.int .i64 0) := (blk_cell hr2 0).trans rfl
        have hc1 : w2.cell? ⟨w.heap.size, 1, none⟩ = some (.int .i64 0) := (blk_cell hr2 1).trans rfl
        have hc2 : w2.cell? ⟨w.heap.size, 2, none⟩ = some (.int .i32 0) := (blk_cell hr2 2).trans rfl
        have hc3 : w2.cell? ⟨w.heap.size, 3, none⟩ = some (.int .i64 0) := (blk_cell hr2 3).trans rfl
        have hf0 := blk_frozen hr2 0
        have hf1 := blk_frozen hr2 1
        have hf2 := blk_frozen hr2 2
        have hf3 := blk_frozen hr2 3
        clear hF2 hb2 hr2 hk
        go_wp2_with fail
        refine bodyPost_ret ?_ rfl (StepPost.mk HF2.out ((((HB2.out.setCell (Nat.le_refl _) _).setCell (Nat.le_refl _) _).setCell (Nat.le_refl _) _).setCell (Nat.le_refl _) _))
        simp [results, Tryd.results38, go_sem, hc0, hc1, hc2, hc3]
      · have hlast' : Kp.lastB x = false := by simpa using hlast
        by_cases hend : x < 48 ∨ 63 < x ∨ 12 ≤ i
        · have hF : Kp.seqF l = ((i : Int) + 2, 0, 0, 0) := by rw [HStep.out, if_neg hlast, if_pos hend]
          have HF := Lib.hid hF
          clear hF
          have hc0 : wr.cell? ⟨w.heap.size, 0, none⟩ = some (.int .i64 0) := (blk_cell HRES2.out 0).trans rfl
          have hc1 : wr.cell? ⟨w.heap.size, 1, none⟩ = some (.int .i64 0) := (blk_cell HRES2.out 1).trans rfl
          have hc2 : wr.cell? ⟨w.heap.size, 2, none⟩ = some (.int .i32 0) := (blk_cell HRES2.out 2).trans rfl
          have hc3 : wr.cell? ⟨w.heap.size, 3, none⟩ = some (.int .i64 0) := (blk_cell HRES2.out 3).trans rfl
          have hf0 := blk_frozen HRES2.out 0
          have hf1 := blk_frozen HRES2.out 1
          have hf2 := blk_frozen HRES2.out 2
          have hf3 := blk_frozen HRES2.out 3
          clear hlast
          go_wp2_with fail
          all_goals first
            | (exfalso; omega)
            | (refine bodyPost_ret ?_ rfl (StepPost.mk HF.out ((((HBw.out.setCell (Nat.le_refl _) _).setCell (Nat.le_refl _) _).setCell (Nat.le_refl _) _).setCell (Nat.le_refl _) _)); simp [results, Tryd.results38, go_sem, hc0, hc1, hc2, hc3]; done)
        · have hS2 : Kp.seqF l = Kp.seqGo l (14 - (i + 1)) (i + 1) := by rw [HStep.out, if_neg hlast, if_neg hend]
          have HS2 := Lib.hid hS2
          have he1 : decide (x < 48) = false := by simp; omega
          have he2 : decide (63 < x) = false := by simp; omega
          have he3 : decide (12 ≤ (i : Int)) = false := by simp; omega
          clear hS2 hlast
          go_wp2_with fail
          go_roundw
          case rel => exact ⟨i + 1, by omega, by omega, by go_num, HS2.out, HB.out⟩
          case measure => simp [intOf]; omega
    · have hie : i = q.length := by omega
      have hF : Kp.seqF l = (0, 0, 0, 0) := by
        rw [HS.out, show 14 - i = (14 - (i + 1)) + 1 from by omega, Kp.seqGo, if_neg (by have := HQL.out; omega)]
      have HF := Lib.hid hF
      have hc0 : wr.cell? ⟨w.heap.size, 0, none⟩ = some (.int .i64 0) := (blk_cell HRES2.out 0).trans rfl
      have hc1 : wr.cell? ⟨w.heap.size, 1, none⟩ = some (.int .i64 0) := (blk_cell HRES2.out 1).trans rfl
      have hc2 : wr.cell? ⟨w.heap.size, 2, none⟩ = some (.int .i32 0) := (blk_cell HRES2.out 2).trans rfl
      have hc3 : wr.cell? ⟨w.heap.size, 3, none⟩ = some (.int .i64 0) := (blk_cell HRES2.out 3).trans rfl
      have hf0 := blk_frozen HRES2.out 0
      have hf1 := blk_frozen HRES2.out 1
      have hf2 := blk_frozen HRES2.out 2
      have hf3 := blk_frozen HRES2.out 3
      clear hF hie
      go_wp2_with fail
      refine bodyPost_ret ?_ rfl (StepPost.mk HF.out ((((HBw.out.setCell (Nat.le_refl _) _).setCell (Nat.le_refl _) _).setCell (Nat.le_refl _) _).setCell (Nat.le_refl _) _))
      simp [results, Tryd.results38, go_sem, hc0, hc1, hc2, hc3]
end Go.Proofs.YtbjckccgbmimpabDoor
