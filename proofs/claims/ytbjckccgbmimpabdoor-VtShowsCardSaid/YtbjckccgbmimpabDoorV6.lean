/- The walks of strings.Builder's WriteString and WriteRune. -/
import Derived.Test.YtbjckccgbmimpabDoorV3
import Derived.Test.YtbjckccgbmimpabDoorShelf
import Derived.Test.YtbjckccgbmimpabDoorK11
import Derived.Test.YtbjckccgbmimpabDoorShelf2
import Derived.Shelf.Utf8.AppendRunePlain
import Derived.Test.YtbjckccgbmimpabDoorPdressx1
namespace Go.Proofs.YtbjckccgbmimpabDoor
open Go.RowKit Go.Proofs.YtbjckccgbmimpabDoorW.PrintWords Go.Proofs.YtbjckccgbmimpabDoorW.PrintLast Go.Proofs.YtbjckccgbmimpabDoorW.PrintMore
theorem Tryd.sizeBuilder : (Tryd.prog.info? 78).map (·.size) = some 2 := by kernel_rfl
theorem Tryd.liesBuilder : liesAt Tryd.prog Tryd.prog.depth 78 (2 / Tryd.prog.cellsOf 78) 0 78 1 = true := by kernel_rfl
set_option maxHeartbeats 1000000 in
set_option maxRecDepth 100000 in
theorem copy_fresh (b : Nat) (w : World) (h0 : w.cell? ⟨b, 0, none⟩ = some (.pointer none)) (hsh : w.shape? b = some (78, 2)) (hfz : w.frozen? ⟨b, 0, none⟩ = false) :
    Calls Tryd.prog 42 #[.pointer (some ⟨b, 0, none⟩)] w fun e w' => e = .returned (.tuple #[]) ∧ w' = w.setCell ⟨b, 0, none⟩ (.pointer (some ⟨b, 0, none⟩)) := by
  obtain ⟨j, hj, hjs⟩ := Option.map_eq_some_iff.1 Tryd.sizeBuilder
  go_enter Tryd.func42, Tryd.ntmps42
  go_wp2
  rw [Lib.run_to_unsafe w ⟨b, 0, none⟩ Tryd.underlying76 Tryd.underlying109 hj (by rw [hjs]; decide) hsh (Nat.zero_lt_succ 1)]
  simp only [Result.andThen]
  rw [Oper.upon_value]
  go_wp2
  rw [run_callFunc_extern Tryd.func51 (by kernel_rfl) (by kernel_rfl) (by kernel_rfl) (e := Extern.AbiNoEscape.same) (by kernel_rfl)]
  rw [Lib.run_noEscape]
  simp only [Result.andThen]
  rw [Oper.upon_value]
  go_wp2
  rw [Lib.run_from_unsafe w ⟨b, 0, none⟩ Tryd.underlying109 Tryd.underlying76 hj hsh Tryd.liesBuilder]
  simp only [Result.andThen]
  rw [Oper.upon_value]
  go_wp2
  go_end0
  exact ⟨rfl, rfl⟩

set_option maxRecDepth 100000 in
theorem copy_used (b : Nat) (w : World) (h0 : w.cell? ⟨b, 0, none⟩ = some (.pointer (some ⟨b, 0, none⟩))) :
    Calls Tryd.prog 42 #[.pointer (some ⟨b, 0, none⟩)] w fun e w' => e = .returned (.tuple #[]) ∧ w' = w := by
  obtain ⟨j, hj, hjs⟩ := Option.map_eq_some_iff.1 Tryd.sizeBuilder
  go_enter Tryd.func42, Tryd.ntmps42
  go_wp2
  rw [Lib.run_neq_ptr_same w _ Tryd.underlying76 hj]
  go_wp2
  go_end0
  exact ⟨rfl, rfl⟩

/-- A builder that holds bytes. -/
def Bld (B b : Nat) (l : List UInt8) (w : World) : Prop := Lib.IsBuilder 78 5 B b (Lib.byteCells l) w
/-- .. and has been written. -/
def BldAt (B b : Nat) (v : Value) (l : List UInt8) (w : World) : Prop :=
  B ≤ b ∧ w.heap[b]? = some (.cells #[.pointer (some ⟨b, 0, none⟩), v] 78 (0, 0)) ∧ w.ownsRow B 5 1 v (Lib.byteCells l).length (Lib.byteCells l) ∧ v.ownBlock ≠ some b
/-- What a builder's writes leave: every block that is not its own and is no row of uint8. -/
def Others (b : Nat) (w w' : World) : Prop := ∀ (k : Nat) (cs : Array Value) (t : TypeId) (fr : Nat × Nat), w.heap[k]? = some (.cells cs t fr) → t ≠ 5 → k ≠ b → w'.heap[k]? = some (.cells cs t fr)
theorem Others.refl (b : Nat) (w : World) : Others b w w := fun _ _ _ _ h _ _ => h
theorem Others.trans {b : Nat} {w w' w'' : World} (h : Others b w w') (h' : Others b w' w'') : Others b w w'' := fun k cs t fr hk ht hb => h' k cs t fr (h k cs t fr hk ht hb) ht hb
theorem Others.set (b i : Nat) (w : World) (v : Value) : Others b w (w.setCell ⟨b, i, none⟩ v) := fun k cs t fr hk _ hb => by
  rw [Below.heap_setCell _ _ _ _ hb]
  exact hk
theorem Others.grown {B b n : Nat} {v : Value} {xs : List Value} {w w' : World} (hown : w.ownsRow B 5 1 v n xs) (hg : w.grownBy w' v.ownBlock) : Others b w w' := fun k cs t fr hk ht _ => by
  rw [hg.block k (blk_lt hk) (fun e => ?_)]
  · exact hk
  · obtain ⟨cur, hc⟩ := own_blk hown e.symm
    rw [hk] at hc
    injection hc with hc
    injection hc with _ hc2
    exact ht hc2
theorem Others.alloc (b : Nat) (w : World) (o : Obj) : Others b w (w.alloc o) := fun _ _ _ _ hk _ _ => blk_alloc hk o
theorem copy_calls (B b : Nat) (l : List UInt8) (w : World) (h : Bld B b l w) :
    Calls Tryd.prog 42 #[.pointer (some ⟨b, 0, none⟩)] w fun e w' => e = .returned (.tuple #[]) ∧ ∃ v, BldAt B b v l w' ∧ Below B w w' ∧ Others b w w' := by
  rcases h with h | h
  · refine (copy_fresh b w h.cell0 h.shape h.frozen0).mono ?_
    rintro e w' ⟨rfl, rfl⟩
    obtain ⟨hB, v, hb, hown, hne⟩ := h.used (.pointer (some ⟨b, 0, none⟩))
    exact ⟨rfl, v, ⟨hB, hb, hown, hne⟩, (Below.refl B w).setCell (p := ⟨b, 0, none⟩) h.1 _, Others.set _ _ _ _⟩
  · refine (copy_used b w h.cell0).mono ?_
    rintro e w' ⟨rfl, rfl⟩
    obtain ⟨hB, v, hb, hown, hne⟩ := h
    exact ⟨rfl, v, ⟨hB, hb, hown, hne⟩, Below.refl B _, Others.refl _ _⟩
theorem byteCells_append (l r : List UInt8) : Lib.byteCells (l ++ r) = Lib.byteCells l ++ Lib.byteCells r := by simp [Lib.byteCells]
def WrotePost (B b : Nat) (l : List UInt8) (w : World) (e : Ending) (w' : World) : Prop := ∃ n, e = .returned (.tuple #[.int .i64 n, .nilIface]) ∧ Bld B b l w' ∧ Below B w w' ∧ Others b w w'

set_option maxHeartbeats 1000000 in
set_option maxRecDepth 100000 in
theorem writeString_calls (B b : Nat) (l : List UInt8) (s : ByteArray) (w : World) (h : Bld B b l w) (hlen : l.length + s.size ≤ 1000000000) (hBw : B ≤ w.heap.size) :
    Calls Tryd.prog 31 #[.pointer (some ⟨b, 0, none⟩), .string s] w (WrotePost B b (l ++ s.data.toList) w) := by
  obtain ⟨i0, hi, hz0, hz1, hz2⟩ := info_parts Tryd.info5
  go_enter Tryd.func31, Tryd.ntmps31
  go_wp2_with fail
  refine (copy_calls B b l w h).mono ?_
  rintro e w1 ⟨rfl, v, ⟨hB, hbk, hown, hne⟩, hb1, ho1⟩
  have HO1 := Lib.hid ho1
  clear ho1
  have c0 : w1.cell? ⟨b, 0, none⟩ = some (.pointer (some ⟨b, 0, none⟩)) := blk_cell hbk 0
  have c1 : w1.cell? ⟨b, 1, none⟩ = some v := blk_cell hbk 1
  have hll : (Lib.byteCells l).length = l.length := by simp [Lib.byteCells]
  have HS := hb1.size
  have HO := Lib.hid hown
  have HN := Lib.hid hne
  have HB1 := Lib.hid hb1
  have HBK := Lib.hid hbk
  clear hown hne hb1 hbk
  go_wp2_with (at_builtin; refine Lib.wpList_append_own_string _ rfl _ _ 22 9 rfl B 5 i0 Tryd.underlying22 Tryd.underlying9 hi hz0 hz1 hz2 v _ _ rfl HO.out s rfl (by simp only [maxLen]; omega) (by omega) (by omega) ?_; intro v' w2 hown' hgrow _; obtain ⟨ao, cap, rfl⟩ := own_slice hown'; have hb2 := blk_grown HBK.out hgrow (fun e => HN.out e.symm); have d0 := blk_cell hb2 0; have d1 := blk_cell hb2 1; have f1 := blk_frozen hb2 1; have HB2 := Lib.hid hb2; have HO2 := Lib.hid hown'; have HG := Lib.hid hgrow; clear hb2 hown' hgrow)
  refine bodyPost_ret (results_tmp2 rfl _ _ _) rfl ⟨_, rfl, .inr ?_, ?_, HO1.out.trans ((Others.grown HO.out HG.out).trans (Others.set _ _ _ _))⟩
  · rw [byteCells_append]
    refine Lib.BuilderAt.put (T := 78) (e := 5) hB HB2.out ?_ (by decide)
    have := HO2.out
    simpa [Lib.byteCells, Lib.strCells] using this
  · exact (HB1.out.grown HG.out (by omega) (fun k hk => (HO.out.lt k hk).1)).setCell (p := ⟨b, 1, none⟩) hB _
end Go.Proofs.YtbjckccgbmimpabDoor

/- The walk of strings.Builder's WriteRune. -/
namespace Go.Proofs.YtbjckccgbmimpabDoor
open Go.RowKit Go.Proofs.YtbjckccgbmimpabDoorW.PrintWords Go.Proofs.YtbjckccgbmimpabDoorW.PrintLast Go.Proofs.YtbjckccgbmimpabDoorW.PrintMore
open Go.Shelf
theorem append_rune_calls (B : Nat) (v : Value) (n : Nat) (xs : List Value) (r : Int) (hr : -2147483648 ≤ r ∧ r ≤ 2147483647) (w : World) (hown : w.ownsRow B 5 1 v n xs) (hlen : n ≤ 1000000000) (hBw : B ≤ w.heap.size) :
    Calls Tryd.prog 44 #[v, .int .i32 r] w fun e w' => ∃ v', e = .returned v' ∧ w'.ownsRow B 5 1 v' (n + (Lib.runeCells r).length) (xs ++ Lib.runeCells r) ∧ ∃ o, (w.alloc o).grownBy w' v.ownBlock :=
  Any.utf8_AppendRune_plain Tryd.lays242 Tryd.info5 B v n xs r hr.1 hr.2 w hown (by omega) hBw
theorem runeCells_bytes (r : Int) : Lib.runeCells r = Lib.byteCells (Lib.encodeRune r) := (Lib.byteCells_encodeRune r).symm
theorem encodeRune_len (r : Int) : (Lib.encodeRune r).length ≤ 4 := by
  unfold Lib.encodeRune Lib.encodeRuneZ
  rw [List.length_map]
  split
  · simp
  · split
    · simp
    · split
      · simp
      · split <;> simp

set_option maxHeartbeats 1000000 in
set_option maxRecDepth 100000 in
theorem writeRune_calls (B b : Nat) (l : List UInt8) (r : Int) (hr : -2147483648 ≤ r ∧ r ≤ 2147483647) (w : World) (h : Bld B b l w) (hlen : l.length ≤ 1000000000) (hBw : B ≤ w.heap.size) :
    Calls Tryd.prog 34 #[.pointer (some ⟨b, 0, none⟩), .int .i32 r] w (WrotePost B b (l ++ Lib.encodeRune r) w) := by
  go_enter Tryd.func34, Tryd.ntmps34
  go_wp2_with fail
  refine (copy_calls B b l w h).mono ?_
  rintro e w1 ⟨rfl, v, ⟨hB, hbk, hown, hne⟩, hb1, ho1⟩
  have HO1 := Lib.hid ho1
  clear ho1
  have hll : (Lib.byteCells l).length = l.length := by simp [Lib.byteCells]
  rw [hll] at hown
  obtain ⟨ao, cap, rfl⟩ := own_slice hown
  have c0 : w1.cell? ⟨b, 0, none⟩ = some (.pointer (some ⟨b, 0, none⟩)) := blk_cell hbk 0
  have c1 : w1.cell? ⟨b, 1, none⟩ = some (.slice ao l.length cap) := blk_cell hbk 1
  have HS := hb1.size
  have HO := Lib.hid hown
  have HN := Lib.hid hne
  have HB1 := Lib.hid hb1
  have HBK := Lib.hid hbk
  clear hown hne hb1 hbk
  go_wp2_with fail
  refine (append_rune_calls B _ l.length _ r hr w1 HO.out hlen (by omega)).mono ?_
  rintro e w2 ⟨v', rfl, hown', o, hgrow⟩
  obtain ⟨ao', cap', rfl⟩ := own_slice hown'
  have hb2 := blk_grown (blk_alloc HBK.out o) hgrow (fun e => HN.out e.symm)
  have d0 := blk_cell hb2 0
  have d1 := blk_cell hb2 1
  have f1 := blk_frozen hb2 1
  have HB2 := Lib.hid hb2
  have HO2 := Lib.hid hown'
  have HG := Lib.hid hgrow
  clear hb2 hown' hgrow
  have hl4 := encodeRune_len r
  have hrl : (Lib.runeCells r).length = (Lib.encodeRune r).length := by rw [runeCells_bytes]; simp [Lib.byteCells]
  go_wp2_with fail
  refine bodyPost_ret (results_tmp2 rfl _ _ _) rfl ⟨_, rfl, .inr ?_, ?_, HO1.out.trans ((Others.alloc _ _ o).trans ((Others.grown (HO.out.alloc o) HG.out).trans (Others.set _ _ _ _)))⟩
  · rw [byteCells_append, ← runeCells_bytes]
    refine Lib.BuilderAt.put (T := 78) (e := 5) hB HB2.out ?_ (by decide)
    have h2 := HO2.out
    rw [show (Lib.byteCells l ++ Lib.runeCells r).length = l.length + (Lib.encodeRune r).length by rw [List.length_append, hll, hrl]]
    rw [hrl] at h2
    exact h2
  · have h1 : Below B w (w1.alloc o) := HB1.out.alloc (by omega) o
    exact (h1.grown HG.out (by simp; omega) (fun k hk => (HO.out.lt k hk).1)).setCell (p := ⟨b, 1, none⟩) hB _
end Go.Proofs.YtbjckccgbmimpabDoor

/- The bytes of a style. -/
namespace Go.Proofs.YtbjckccgbmimpabDoor
open Go.RowKit Go.Proofs.YtbjckccgbmimpabDoorW.PrintWords Go.Proofs.YtbjckccgbmimpabDoorW.PrintLast Go.Proofs.YtbjckccgbmimpabDoorW.PrintMore
/-- The bytes of a style. -/
def Kp.dress (s : Nat) : List UInt8 :=
  [27, 91, 48] ++ (if s % 2 = 1 then [59, 55] else []) ++ (if s / 2 % 2 = 1 then [59, 52] else []) ++ (if s / 4 % 2 = 1 then [59, 49] else []) ++ [109]
theorem dress_f0 : Pdress.vt_dress.f 10 ((0 : Nat) : Int) = some ⟨(Kp.dress 0).toArray⟩ := by kernel_rfl
theorem dress_f1 : Pdress.vt_dress.f 10 ((1 : Nat) : Int) = some ⟨(Kp.dress 1).toArray⟩ := by kernel_rfl
theorem dress_f2 : Pdress.vt_dress.f 10 ((2 : Nat) : Int) = some ⟨(Kp.dress 2).toArray⟩ := by kernel_rfl
theorem dress_f3 : Pdress.vt_dress.f 10 ((3 : Nat) : Int) = some ⟨(Kp.dress 3).toArray⟩ := by kernel_rfl
theorem dress_f4 : Pdress.vt_dress.f 10 ((4 : Nat) : Int) = some ⟨(Kp.dress 4).toArray⟩ := by kernel_rfl
theorem dress_f5 : Pdress.vt_dress.f 10 ((5 : Nat) : Int) = some ⟨(Kp.dress 5).toArray⟩ := by kernel_rfl
theorem dress_f6 : Pdress.vt_dress.f 10 ((6 : Nat) : Int) = some ⟨(Kp.dress 6).toArray⟩ := by kernel_rfl
theorem dress_f7 : Pdress.vt_dress.f 10 ((7 : Nat) : Int) = some ⟨(Kp.dress 7).toArray⟩ := by kernel_rfl
theorem dress_calls (s : Nat) (hs : s < 8) (W : World) : Calls Tryd.prog 33 #[.int .i64 s] W fun e w' => e = .returned (.string ⟨(Kp.dress s).toArray⟩) ∧ Below W.heap.size W w' := by
  have h : ∀ s, s < 8 → Pdress.vt_dress.f 10 (s : Nat) = some ⟨(Kp.dress s).toArray⟩ := by
    intro s hs
    have hc : s = 0 ∨ s = 1 ∨ s = 2 ∨ s = 3 ∨ s = 4 ∨ s = 5 ∨ s = 6 ∨ s = 7 := by omega
    rcases hc with rfl | rfl | rfl | rfl | rfl | rfl | rfl | rfl
    · exact dress_f0
    · exact dress_f1
    · exact dress_f2
    · exact dress_f3
    · exact dress_f4
    · exact dress_f5
    · exact dress_f6
    · exact dress_f7
  exact Pdress.vt_dress.calls 10 s _ W (h s hs)
end Go.Proofs.YtbjckccgbmimpabDoor
