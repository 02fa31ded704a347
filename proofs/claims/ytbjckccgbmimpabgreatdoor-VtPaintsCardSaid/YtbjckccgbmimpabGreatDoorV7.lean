/- The walks of strings.Builder's WriteString and WriteRune. -/
import Derived.Test.YtbjckccgbmimpabGreatDoorV3
import Derived.Test.YtbjckccgbmimpabGreatDoorShelf
import Derived.Test.YtbjckccgbmimpabGreatDoorK11
import Derived.Test.YtbjckccgbmimpabGreatDoorShelf2
import Derived.Shelf.Utf8.AppendRunePlain
import Derived.Test.YtbjckccgbmimpabGreatDoorPdressx1
namespace Go.Proofs.YtbjckccgbmimpabGreatDoor
open Go.RowKit Go.Proofs.YtbjckccgbmimpabGreatDoorW.PrintWords Go.Proofs.YtbjckccgbmimpabGreatDoorW.PrintLast Go.Proofs.YtbjckccgbmimpabGreatDoorW.PrintMore
theorem Tryz.sizeBuilder : (Tryz.prog.info? 57).map (·.size) = some 2 := by kernel_rfl
theorem Tryz.liesBuilder : liesAt Tryz.prog Tryz.prog.depth 57 (2 / Tryz.prog.cellsOf 57) 0 57 1 = true := by kernel_rfl
set_option maxHeartbeats 1000000 in
set_option maxRecDepth 100000 in
theorem copy_fresh (b : Nat) (w : World) (h0 : w.cell? ⟨b, 0, none⟩ = some (.pointer none)) (hsh : w.shape? b = some (57, 2)) (hfz : w.frozen? ⟨b, 0, none⟩ = false) :
    Calls Tryz.prog 38 #[.pointer (some ⟨b, 0, none⟩)] w fun e w' => e = .returned (.tuple #[]) ∧ w' = w.setCell ⟨b, 0, none⟩ (.pointer (some ⟨b, 0, none⟩)) := by
  obtain ⟨j, hj, hjs⟩ := Option.map_eq_some_iff.1 Tryz.sizeBuilder
  go_enter Tryz.func38, Tryz.ntmps38
  go_wp2
  rw [Lib.run_to_unsafe w ⟨b, 0, none⟩ Tryz.underlying55 Tryz.underlying94 hj (by rw [hjs]; decide) hsh (Nat.zero_lt_succ 1)]
  simp only [Result.andThen]
  rw [Oper.upon_value]
  go_wp2
  rw [run_callFunc_extern Tryz.func47 (by kernel_rfl) (by kernel_rfl) (by kernel_rfl) (e := Extern.AbiNoEscape.same) (by kernel_rfl)]
  rw [Lib.run_noEscape]
  simp only [Result.andThen]
  rw [Oper.upon_value]
  go_wp2
  rw [Lib.run_from_unsafe w ⟨b, 0, none⟩ Tryz.underlying94 Tryz.underlying55 hj hsh Tryz.liesBuilder]
  simp only [Result.andThen]
  rw [Oper.upon_value]
  go_wp2
  go_end0
  exact ⟨rfl, rfl⟩

set_option maxRecDepth 100000 in
theorem copy_used (b : Nat) (w : World) (h0 : w.cell? ⟨b, 0, none⟩ = some (.pointer (some ⟨b, 0, none⟩))) :
    Calls Tryz.prog 38 #[.pointer (some ⟨b, 0, none⟩)] w fun e w' => e = .returned (.tuple #[]) ∧ w' = w := by
  obtain ⟨j, hj, hjs⟩ := Option.map_eq_some_iff.1 Tryz.sizeBuilder
  go_enter Tryz.func38, Tryz.ntmps38
  go_wp2
  rw [Lib.run_neq_ptr_same w _ Tryz.underlying55 hj]
  go_wp2
  go_end0
  exact ⟨rfl, rfl⟩

/-- A builder that holds bytes. -/
def Bld (B b : Nat) (l : List UInt8) (w : World) : Prop := Lib.IsBuilder 57 5 B b (Lib.byteCells l) w
/-- .. and has been written. -/
def BldAt (B b : Nat) (v : Value) (l : List UInt8) (w : World) : Prop :=
  B ≤ b ∧ w.heap[b]? = some (.cells #[.pointer (some ⟨b, 0, none⟩), v] 57 (0, 0)) ∧ w.ownsRow B 5 1 v (Lib.byteCells l).length (Lib.byteCells l) ∧ v.ownBlock ≠ some b
/-- What a builder's writes leave: every block that is not its own and is no row of uint8. -/
def Others (b : Nat) (w w' : World) : Prop := ∀ (k : Nat) (cs : Array Value) (t : TypeId) (fr : Nat × Nat), w.heap[k]? = some (.cells cs t fr) → t ≠ 5 → k ≠ b → w'.heap[k]? = some (.cells cs t fr)
theorem Others.refl (b : Nat) (w : World) : Others b w w := fun _ _ _ _ h _ _ => h
theorem Others.trans {b : Nat} {w w' w'' : World} (h : Others b w w') (h' : Others b w' w'') : Others b w w'' := fun k cs t fr hk ht hb => h' k cs t fr (h k cs t fr hk ht hb) ht hb
theorem Others.set (b i : Nat) (w : World) (v : Value) : Others b w (w.setCell ⟨b, i, none⟩ v) := fun k cs t fr hk _ hb => by
  rw [Below.heap_setCell _ _ _ _ hb]
  exact hk
theorem Others.grown {B b n : Nat} {v : Value} {xs : List Value} {w w' : World} (hown : w.ownsRow B 5 1 v n xs) (hg : w.grownBy w' v.ownBlock) : Others b w w' := fun k cs t fr hk ht _ => by
  rw [hg.block k (blk_lt hk) (fun e => ?_)]
  · exact hk
  · obtain ⟨cur, hc⟩ := own_blk hown e.symm
    rw [hk] at hc
    injection hc with hc
    injection hc with _ hc2
    exact ht hc2
theorem Others.alloc (b : Nat) (w : World) (o : Obj) : Others b w (w.alloc o) := fun _ _ _ _ hk _ _ => blk_alloc hk o
theorem copy_calls (B b : Nat) (l : List UInt8) (w : World) (h : Bld B b l w) :
    Calls Tryz.prog 38 #[.pointer (some ⟨b, 0, none⟩)] w fun e w' => e = .returned (.tuple #[]) ∧ ∃ v, BldAt B b v l w' ∧ Below B w w' ∧ Others b w w' := by
  rcases h with h | h
  · refine (copy_fresh b w h.cell0 h.shape h.frozen0).mono ?_
    rintro e w' ⟨rfl, rfl⟩
    obtain ⟨hB, v, hb, hown, hne⟩ := h.used (.pointer (some ⟨b, 0, none⟩))
    exact ⟨rfl, v, ⟨hB, hb, hown, hne⟩, (Below.refl B w).setCell (p := ⟨b, 0, none⟩) h.1 _, Others.set _ _ _ _⟩
  · refine (copy_used b w h.cell0).mono ?_
    rintro e w' ⟨rfl, rfl⟩
    obtain ⟨hB, v, hb, hown, hne⟩ := h
    exact ⟨rfl, v, ⟨hB, hb, hown, hne⟩, Below.refl B _, Others.refl _ _⟩
theorem byteCells_append (l r : List UInt8) : Lib.byteCells (l ++ r) = Lib.byteCells l ++ Lib.byteCells r := by simp [Lib.byteCells]
def WrotePost (B b : Nat) (l : List UInt8) (w : World) (e : Ending) (w' : World) : Prop := ∃ n, e = .returned (.tuple #[.int .i64 n, .nilIface]) ∧ Bld B b l w' ∧ Below B w w' ∧ Others b w w'

set_option maxHeartbeats 1000000 in
set_option maxRecDepth 100000 in
theorem writeString_calls (B b : Nat) (l : List UInt8) (s : ByteArray) (w : World) (h : Bld B b l w) (hlen : l.length + s.size ≤ 1000000000) (hBw : B ≤ w.heap.size) :
    Calls Tryz.prog 24 #[.pointer (some ⟨b, 0, none⟩), .string s] w (WrotePost B b (l ++ s.data.toList) w) := by
  obtain ⟨i0, hi, hz0, hz1, hz2⟩ := info_parts Tryz.info5
  go_enter Tryz.func24, Tryz.ntmps24
  go_wp2_with fail
  refine (copy_calls B b l w h).mono ?_
  rintro e w1 ⟨rfl, v, ⟨hB, hbk, hown, hne⟩, hb1, ho1⟩
  have HO1 := Lib.hid ho1
  clear ho1
  have c0 : w1.cell? ⟨b, 0, none⟩ = some (.pointer (some ⟨b, 0, none⟩)) := blk_cell hbk 0
  have c1 : w1.cell? ⟨b, 1, none⟩ = some v := blk_cell hbk 1
  have hll : (Lib.byteCells l).length = l.length := by simp [Lib.byteCells]
  have HS := hb1.size
  have HO := Lib.hid hown
  have HN := Lib.hid hne
  have HB1 := Lib.hid hb1
  have HBK := Lib.hid hbk
  clear hown hne hb1 hbk
  go_wp2_with (at_builtin; refine Lib.wpList_append_own_string _ rfl _ _ 26 9 rfl B 5 i0 Tryz.underlying26 Tryz.underlying9 hi hz0 hz1 hz2 v _ _ rfl HO.out s rfl (by simp only [maxLen]; omega) (by omega) (by omega) ?_; intro v' w2 hown' hgrow _; obtain ⟨ao, cap, rfl⟩ := own_slice hown'; have hb2 := blk_grown HBK.out hgrow (fun e => HN.out e.symm); have d0 := blk_cell hb2 0; have d1 := blk_cell hb2 1; have f1 := blk_frozen hb2 1; have HB2 := Lib.hid hb2; have HO2 := Lib.hid hown'; have HG := Lib.hid hgrow; clear hb2 hown' hgrow)
  refine bodyPost_ret (results_tmp2 rfl _ _ _) rfl ⟨_, rfl, .inr ?_, ?_, HO1.out.trans ((Others.grown HO.out HG.out).trans (Others.set _ _ _ _))⟩
  · rw [byteCells_append]
    refine Lib.BuilderAt.put (T := 57) (e := 5) hB HB2.out ?_ (by decide)
    have := HO2.out
    simpa [Lib.byteCells, Lib.strCells] using this
  · exact (HB1.out.grown HG.out (by omega) (fun k hk => (HO.out.lt k hk).1)).setCell (p := ⟨b, 1, none⟩) hB _
end Go.Proofs.YtbjckccgbmimpabGreatDoor

/- The walk of strings.Builder's WriteRune. -/
namespace Go.Proofs.YtbjckccgbmimpabGreatDoor
open Go.RowKit Go.Proofs.YtbjckccgbmimpabGreatDoorW.PrintWords Go.Proofs.YtbjckccgbmimpabGreatDoorW.PrintLast Go.Proofs.YtbjckccgbmimpabGreatDoorW.PrintMore
open Go.Shelf
theorem append_rune_calls (B : Nat) (v : Value) (n : Nat) (xs : List Value) (r : Int) (hr : -2147483648 ≤ r ∧ r ≤ 2147483647) (w : World) (hown : w.ownsRow B 5 1 v n xs) (hlen : n ≤ 1000000000) (hBw : B ≤ w.heap.size) :
    Calls Tryz.prog 40 #[v, .int .i32 r] w fun e w' => ∃ v', e = .returned v' ∧ w'.ownsRow B 5 1 v' (n + (Lib.runeCells r).length) (xs ++ Lib.runeCells r) ∧ ∃ o, (w.alloc o).grownBy w' v.ownBlock :=
  Any.utf8_AppendRune_plain Tryz.lays242 Tryz.info5 B v n xs r hr.1 hr.2 w hown (by omega) hBw
theorem runeCells_bytes (r : Int) : Lib.runeCells r = Lib.byteCells (Lib.encodeRune r) := (Lib.byteCells_encodeRune r).symm
theorem encodeRune_len (r : Int) : (Lib.encodeRune r).length ≤ 4 := by
  unfold Lib.encodeRune Lib.encodeRuneZ
  rw [List.length_map]
  split
  · simp
  · split
    · simp
    · split
      · simp
      · split <;> simp

set_option maxHeartbeats 1000000 in
set_option maxRecDepth 100000 in
theorem writeRune_calls (B b : Nat) (l : List UInt8) (r : Int) (hr : -2147483648 ≤ r ∧ r ≤ 2147483647) (w : World) (h : Bld B b l w) (hlen : l.length ≤ 1000000000) (hBw : B ≤ w.heap.size) :
    Calls Tryz.prog 27 #[.pointer (some ⟨b, 0, none⟩), .int .i32 r] w (WrotePost B b (l ++ Lib.encodeRune r) w) := by
  go_enter Tryz.func27, Tryz.ntmps27
  go_wp2_with fail
  refine (copy_calls B b l w h).mono ?_
  rintro e w1 ⟨rfl, v, ⟨hB, hbk, hown, hne⟩, hb1, ho1⟩
  have HO1 := Lib.hid ho1
  clear ho1
  have hll : (Lib.byteCells l).length = l.length := by simp [Lib.byteCells]
  rw [hll] at hown
  obtain ⟨ao, cap, rfl⟩ := own_slice hown
  have c0 : w1.cell? ⟨b, 0, none⟩ = some (.pointer (some ⟨b, 0, none⟩)) := blk_cell hbk 0
  have c1 : w1.cell? ⟨b, 1, none⟩ = some (.slice ao l.length cap) := blk_cell hbk 1
  have HS := hb1.size
  have HO := Lib.hid hown
  have HN := Lib.hid hne
  have HB1 := Lib.hid hb1
  have HBK := Lib.hid hbk
  clear hown hne hb1 hbk
  go_wp2_with fail
  refine (append_rune_calls B _ l.length _ r hr w1 HO.out hlen (by omega)).mono ?_
  rintro e w2 ⟨v', rfl, hown', o, hgrow⟩
  obtain ⟨ao', cap', rfl⟩ := own_slice hown'
  have hb2 := blk_grown (blk_alloc HBK.out o) hgrow (fun e => HN.out e.symm)
  have d0 := blk_cell hb2 0
  have d1 := blk_cell hb2 1
  have f1 := blk_frozen hb2 1
  have HB2 := Lib.hid hb2
  have HO2 := Lib.hid hown'
  have HG := Lib.hid hgrow
  clear hb2 hown' hgrow
  have hl4 := encodeRune_len r
  have hrl : (Lib.runeCells r).length = (Lib.encodeRune r).length := by rw [runeCells_bytes]; simp [Lib.byteCells]
  go_wp2_with fail
  refine bodyPost_ret (results_tmp2 rfl _ _ _) rfl ⟨_, rfl, .inr ?_, ?_, HO1.out.trans ((Others.alloc _ _ o).trans ((Others.grown (HO.out.alloc o) HG.out).trans (Others.set _ _ _ _)))⟩
  · rw [byteCells_append, ← runeCells_bytes]
    refine Lib.BuilderAt.put (T := 57) (e := 5) hB HB2.out ?_ (by decide)
    have h2 := HO2.out
    rw [show (Lib.byteCells l ++ Lib.runeCells r).length = l.length + (Lib.encodeRune r).length by rw [List.length_append, hll, hrl]]
    rw [hrl] at h2
    exact h2
  · have h1 : Below B w (w1.alloc o) := HB1.out.alloc (by omega) o
    exact (h1.grown HG.out (by simp; omega) (fun k hk => (HO.out.lt k hk).1)).setCell (p := ⟨b, 1, none⟩) hB _
end Go.Proofs.YtbjckccgbmimpabGreatDoor

/- The bytes of a style. -/
namespace Go.Proofs.YtbjckccgbmimpabGreatDoor
open Go.RowKit Go.Proofs.YtbjckccgbmimpabGreatDoorW.PrintWords Go.Proofs.YtbjckccgbmimpabGreatDoorW.PrintLast Go.Proofs.YtbjckccgbmimpabGreatDoorW.PrintMore
/-- The bytes of a style. -/
def Kp.dress (s : Nat) : List UInt8 :=
  [27, 91, 48] ++ (if s % 2 = 1 then [59, 55] else []) ++ (if s / 2 % 2 = 1 then [59, 52] else []) ++ (if s / 4 % 2 = 1 then [59, 49] else []) ++ [109]
theorem dress_f0 : Pdress.vt_dress.f 10 ((0 : Nat) : Int) = some ⟨(Kp.dress 0).toArray⟩ := by kernel_rfl
theorem dress_f1 : Pdress.vt_dress.f 10 ((1 : Nat) : Int) = some ⟨(Kp.dress 1).toArray⟩ := by kernel_rfl
theorem dress_f2 : Pdress.vt_dress.f 10 ((2 : Nat) : Int) = some ⟨(Kp.dress 2).toArray⟩ := by kernel_rfl
theorem dress_f3 : Pdress.vt_dress.f 10 ((3 : Nat) : Int) = some ⟨(Kp.dress 3).toArray⟩ := by kernel_rfl
theorem dress_f4 : Pdress.vt_dress.f 10 ((4 : Nat) : Int) = some ⟨(Kp.dress 4).toArray⟩ := by kernel_rfl
theorem dress_f5 : Pdress.vt_dress.f 10 ((5 : Nat) : Int) = some ⟨(Kp.dress 5).toArray⟩ := by kernel_rfl
theorem dress_f6 : Pdress.vt_dress.f 10 ((6 : Nat) : Int) = some ⟨(Kp.dress 6).toArray⟩ := by kernel_rfl
theorem dress_f7 : Pdress.vt_dress.f 10 ((7 : Nat) : Int) = some ⟨(Kp.dress 7).toArray⟩ := by kernel_rfl
theorem dress_calls (s : Nat) (hs : s < 8) (W : World) : Calls Tryz.prog 26 #[.int .i64 s] W fun e w' => e = .returned (.string ⟨(Kp.dress s).toArray⟩) ∧ Below W.heap.size W w' := by
  have h : ∀ s, s < 8 → Pdress.vt_dress.f 10 (s : Nat) = some ⟨(Kp.dress s).toArray⟩ := by
    intro s hs
    have hc : s = 0 ∨ s = 1 ∨ s = 2 ∨ s = 3 ∨ s = 4 ∨ s = 5 ∨ s = 6 ∨ s = 7 := by omega
    rcases hc with rfl | rfl | rfl | rfl | rfl | rfl | rfl | rfl
    · exact dress_f0
    · exact dress_f1
    · exact dress_f2
    · exact dress_f3
    · exact dress_f4
    · exact dress_f5
    · exact dress_f6
    · exact dress_f7
  exact Pdress.vt_dress.calls 10 s _ W (h s hs)
end Go.Proofs.YtbjckccgbmimpabGreatDoor

/- The walk of vt.paint. -/
namespace Go.Proofs.YtbjckccgbmimpabGreatDoor
open Go.RowKit Go.Proofs.YtbjckccgbmimpabGreatDoorW.PrintWords Go.Proofs.YtbjckccgbmimpabGreatDoorW.PrintLast Go.Proofs.YtbjckccgbmimpabGreatDoorW.PrintMore
/-- The bytes of cells; last: the style that the terminal has. -/
def Kp.paintCells : Int → List Cell → List UInt8
  | _, [] => []
  | last, c :: r => if c.1 = 0 then Kp.paintCells last r else (if c.2 = last then [] else Kp.dress c.2.toNat) ++ Lib.encodeRune c.1 ++ Kp.paintCells c.2 r
/-- The bytes of a row. -/
def Kp.paintRow (n : Nat) (l : List Cell) : List UInt8 := [27, 91] ++ Lib.decDigits (n + 1) ++ [59, 49, 72] ++ Kp.paintCells (-1) l
theorem Kp.paint_step (l : List Cell) (i : Nat) (last : Int) (h : i < l.length) : Kp.paintCells last (l.drop i) = if Kp.gr l i = 0 then Kp.paintCells last (l.drop (i + 1)) else (if Kp.gs l i = last then [] else Kp.dress (Kp.gs l i).toNat) ++ Lib.encodeRune (Kp.gr l i) ++ Kp.paintCells (Kp.gs l i) (l.drop (i + 1)) := by
  rw [List.drop_eq_getElem_cons h]
  have e1 : Kp.gr l i = l[i].1 := by simp [Kp.gr, h]
  have e2 : Kp.gs l i = l[i].2 := by simp [Kp.gs, h]
  rw [e1, e2]
  rfl
theorem Kp.dress_len (s : Nat) : (Kp.dress s).length ≤ 10 := by
  unfold Kp.dress
  split <;> split <;> split <;> simp
theorem Bld.alloc {B b : Nat} {l : List UInt8} {w : World} (h : Bld B b l w) (o : Obj) : Bld B b l (w.alloc o) := by
  rcases h with ⟨hB, v, hb, hown, hne⟩ | ⟨hB, v, hb, hown, hne⟩
  · exact .inl ⟨hB, v, blk_alloc hb o, hown.alloc o, hne⟩
  · exact .inr ⟨hB, v, blk_alloc hb o, hown.alloc o, hne⟩
theorem Bld.below {B b : Nat} {l : List UInt8} {w w' : World} (h : Bld B b l w) (hb : Below w.heap.size w w') : Bld B b l w' := by
  have hk : Kept w w' (fun _ => False) := (Kept.refl w _).below hb
  rcases h with ⟨hB, v, hbk, hown, hne⟩ | ⟨hB, v, hbk, hown, hne⟩
  · exact .inl ⟨hB, v, blk_below hbk hb, own_kept hown hk (fun _ _ h => h), hne⟩
  · exact .inr ⟨hB, v, blk_below hbk hb, own_kept hown hk (fun _ _ h => h), hne⟩
theorem decDigits_len (u : Nat) (h : u < 100) : (Lib.decDigits u).length ≤ 100 := by
  rw [Lib.decDigits]
  split
  · simp
  · rw [Lib.decDigits]
    split
    · simp
    · omega
theorem Bld.new (W : World) : Bld W.heap.size W.heap.size [] (W.alloc (.cells #[.pointer none, .slice none 0 0] 57)) :=
  .inl ⟨Nat.le_refl _, _, heap_alloc_new W _, own_nil _ _ _ _, by simp [Value.ownBlock]⟩
set_option maxRecDepth 100000 in
set_option maxHeartbeats 4000000 in
theorem paint_calls (n : Nat) (A : Option Addr) (l : List Cell) (c : Nat) (W : World) (hn : n < 60) (hr : RC W A l) (hwf : Kp.wf l) (hst : ∀ i, i < l.length → 0 ≤ Kp.gs l i ∧ Kp.gs l i < 8) (hl : l.length ≤ 60) :
    Calls Tryz.prog 14 #[.int .i64 n, .slice A l.length c] W fun e w' => e = .returned (.string ⟨(Kp.paintRow n l).toArray⟩) ∧ Below W.heap.size W w' := by
  have HR := Lib.hid hr
  clear hr
  go_enter Tryz.func14, Tryz.ntmps14
  go_wp2_with fail
  have hbl := Bld.new W
  have hb1 := below_alloc (Below.refl W.heap.size W) (.cells #[.pointer none, .slice none 0 0] 57)
  generalize W.alloc (.cells #[.pointer none, .slice none 0 0] 57) = W1 at hbl hb1 ⊢
  generalize hg : W.heap.size = g at hbl ⊢
  have HBl := Lib.hid hbl
  have HB1 := Lib.hid hb1
  have HGs := Lib.hid hg
  have hs1 : g ≤ W1.heap.size := by rw [← hg]; exact hb1.size
  clear hbl hb1 hg
  have hn1 : ((n + 1 : Nat) : Int) = (n : Int) + 1 := by push_cast; rfl
  obtain ⟨dd, hdd⟩ : ∃ dd, Lib.decDigits (n + 1) = dd := ⟨_, rfl⟩
  have hd : dd.length ≤ 100 := by rw [← hdd]; exact decDigits_len _ (by omega)
  have hit := Tryz.strconv_Itoa_small (n + 1) (by omega) W1
  rw [hn1, hdd] at hit
  refine hit.mono ?_
  rintro e w ⟨rfl, hww⟩
  subst w
  clear hit hn1
  have HDD := Lib.hid hdd
  clear hdd
  have hstr : ((⟨#[27, 91]⟩ : ByteArray) ++ ⟨dd.toArray⟩ ++ ⟨#[59, 49, 72]⟩).data.toList = [27, 91] ++ dd ++ [59, 49, 72] := by simp
  have hsz : ((⟨#[27, 91]⟩ : ByteArray) ++ ⟨dd.toArray⟩ ++ ⟨#[59, 49, 72]⟩).size ≤ 200 := by simp [ByteArray.size_append]; simp [ByteArray.size]; omega
  have HST := Lib.hid hstr
  clear hstr
  go_wp2_with fail
  refine (writeString_calls g g [] _ W1 HBl.out (by simp only [List.length_nil]; omega) hs1).mono ?_
  rintro e W2 ⟨n2, rfl, hbl2, hb2, _⟩
  rw [HST.out] at hbl2
  clear hsz HST
  have hl2 : ([] ++ ([27, 91] ++ dd ++ [59, 49, 72]) : List UInt8).length ≤ 200 := by simp; omega
  obtain ⟨hd0, hhd0⟩ : ∃ x, ([] ++ ([27, 91] ++ dd ++ [59, 49, 72]) : List UInt8) = x := ⟨_, rfl⟩
  rw [hhd0] at hbl2 hl2
  have HHD := Lib.hid hhd0
  have HBl2 := Lib.hid hbl2
  have HB2 := Lib.hid (HB1.out.trans (by rw [HGs.out]; exact hb2))
  have HR0 := Lib.hid HR.out
  clear HR
  have hs2 : g ≤ W2.heap.size := Nat.le_trans hs1 hb2.size
  clear hhd0 hbl2 hb2 HB1 HBl hs1
  go_wp2_with fail
  go_loopw [6, 17] (fun v6 v17 wr => ∃ (i : Nat) (last : Int) (bs : List UInt8), v6 = .int .i64 last ∧ v17 = .int .i64 i ∧ i ≤ l.length ∧ bs.length ≤ 200 + i * 20 ∧ Hid (bs ++ Kp.paintCells last (l.drop i) = hd0 ++ Kp.paintCells (-1) l) ∧ Hid (Bld g g bs wr) ∧ Hid (Below W.heap.size W wr) ∧ g ≤ wr.heap.size) (fun _ v17 _ => l.length - (intOf v17).toNat)
  case atStart => exact ⟨0, -1, hd0, rfl, rfl, by omega, by omega, Lib.hid rfl, HBl2, HB2, hs2⟩
  case round =>
    clear HB2 HBl2 hs2
    obtain ⟨i, last, bs, rfl, rfl, hi, hbs, HV, HBl, HB, hs⟩ := hrel
    by_cases hlt : i < l.length
    · obtain ⟨b, o, hA, r1, r2⟩ := (HR0.out.below HB.out).at_ i hlt
      subst hA
      obtain ⟨hw1, hw2⟩ := hwf i
      have hs8 := hst i hlt
      have hstep := Kp.paint_step l i last hlt
      obtain ⟨x, hx⟩ : ∃ x, Kp.gr l i = x := ⟨_, rfl⟩
      obtain ⟨s, hs'⟩ : ∃ x, Kp.gs l i = x := ⟨_, rfl⟩
      rw [hx, hs'] at hstep
      rw [hx] at r1 hw1
      rw [hs'] at r2 hw2 hs8
      have HSt := Lib.hid hstep
      clear hstep
      by_cases h0 : x = 0
      · have e0 : (x == 0) = true := by simp [h0]
        have HV2 : Hid (bs ++ Kp.paintCells last (l.drop (i + 1)) = hd0 ++ Kp.paintCells (-1) l) := Lib.hid (by rw [← HV.out, HSt.out, if_pos h0])
        clear h0
        go_wp2_with fail
        refine ⟨⟨i + 1, last, bs, rfl, by go_num, by omega, by omega, HV2, Lib.hid (HBl.out.alloc _), Lib.hid (below_alloc HB.out _), by simp; omega⟩, ?_⟩
        simp [intOf]; omega
      · have e0 : (x == 0) = false := by simp [h0]
        by_cases h1 : s = last
        · subst h1
          have e1 : (s != s) = false := by simp
          have e2 : (s == s) = true := by simp
          have HV2 : Hid ((bs ++ Lib.encodeRune x) ++ Kp.paintCells s (l.drop (i + 1)) = hd0 ++ Kp.paintCells (-1) l) := Lib.hid (by rw [← HV.out, HSt.out, if_neg h0, if_pos rfl]; simp)
          clear h0
          have hbl5 := HBl.out.alloc (.cells #[.int .i32 x, .int .i64 s] 41)
          have hb5 := below_alloc HB.out (.cells #[.int .i32 x, .int .i64 s] 41)
          have hs5 : g ≤ (wr.alloc (.cells #[.int .i32 x, .int .i64 s] 41)).heap.size := by simp; omega
          have k0 : (wr.alloc (.cells #[.int .i32 x, .int .i64 s] 41)).cell? ⟨wr.heap.size, 0, none⟩ = some (.int .i32 x) := blk_cell (heap_alloc_new wr _) 0
          go_wp2_with fail
          refine (writeRune_calls g g bs x hw1 _ hbl5 (by omega) hs5).mono ?_
          rintro e W6 ⟨n6, rfl, hbl6, hb6, _⟩
          have hl4 := encodeRune_len x
          have HB6 : Hid (Below W.heap.size W W6) := Lib.hid (hb5.trans (by rw [HGs.out]; exact hb6))
          have HBl6 := Lib.hid hbl6
          have hs6 : g ≤ W6.heap.size := Nat.le_trans hs5 hb6.size
          clear hbl6 hb6 hbl5 hb5 hs5 k0 HB HBl hs
          go_wp2_with fail
          refine ⟨⟨i + 1, s, bs ++ Lib.encodeRune x, rfl, by go_num, by omega, by rw [List.length_append]; omega, HV2, HBl6, HB6, hs6⟩, ?_⟩
          simp [intOf]; omega
        · have e1 : (s != last) = true := by simp [h1]
          have e2 : (s == last) = false := by simp [h1]
          have HV2 : Hid ((bs ++ Kp.dress s.toNat ++ Lib.encodeRune x) ++ Kp.paintCells s (l.drop (i + 1)) = hd0 ++ Kp.paintCells (-1) l) := Lib.hid (by rw [← HV.out, HSt.out, if_neg h0, if_neg h1]; simp)
          clear h0 h1
          have hbl5 := HBl.out.alloc (.cells #[.int .i32 x, .int .i64 s] 41)
          have hb5 := below_alloc HB.out (.cells #[.int .i32 x, .int .i64 s] 41)
          have hs5 : g ≤ (wr.alloc (.cells #[.int .i32 x, .int .i64 s] 41)).heap.size := by simp; omega
          have hc5 := heap_alloc_new wr (.cells #[.int .i32 x, .int .i64 s] 41)
          obtain ⟨sn, hsn⟩ : ∃ sn : Nat, s = sn := ⟨s.toNat, by omega⟩
          subst hsn
          rw [Int.toNat_natCast] at HV2
          go_wp2_with fail
          generalize wr.alloc (.cells #[.int .i32 x, .int .i64 (sn : Int)] 41) = W4 at hbl5 hb5 hs5 hc5 ⊢
          generalize wr.heap.size = cb at hc5 ⊢
          refine (dress_calls sn (by omega) W4).mono ?_
          rintro e W5 ⟨rfl, hb⟩
          have hbl6 := hbl5.below hb
          have hb6 := below_step hb5 hb
          have hs6 : g ≤ W5.heap.size := Nat.le_trans hs5 hb.size
          have hc6 := blk_below hc5 hb
          clear hb hbl5 hb5 hs5 hc5
          have HC6 := Lib.hid hc6
          have HBl6 := Lib.hid hbl6
          have HB6 := Lib.hid hb6
          clear hc6 hbl6 hb6 HB HBl hs
          go_wp2_with fail
          have hdl := Kp.dress_len sn
          refine (writeString_calls g g bs _ W5 HBl6.out (by simp [ByteArray.size]; omega) hs6).mono ?_
          rintro e W7 ⟨n7, rfl, hbl7, hb7, ho7⟩
          have hst7 : (⟨(Kp.dress sn).toArray⟩ : ByteArray).data.toList = Kp.dress sn := by simp
          rw [hst7] at hbl7
          have hcg : cb ≠ g := fun e => by
            subst e
            rcases HBl6.out with ⟨_, v, hbk, _⟩ | ⟨_, v, hbk, _⟩
            · rw [HC6.out] at hbk; injection hbk with hbk; injection hbk with _ ht; exact absurd ht (by decide)
            · rw [HC6.out] at hbk; injection hbk with hbk; injection hbk with _ ht; exact absurd ht (by decide)
          have k0 : W7.cell? ⟨cb, 0, none⟩ = some (.int .i32 x) := blk_cell (ho7 cb _ _ _ HC6.out (by decide) hcg) 0
          have k1 : W7.cell? ⟨cb, 1, none⟩ = some (.int .i64 (sn : Int)) := blk_cell (ho7 cb _ _ _ HC6.out (by decide) hcg) 1
          have HB7 : Hid (Below W.heap.size W W7) := Lib.hid (HB6.out.trans (by rw [HGs.out]; exact hb7))
          have HBl7 := Lib.hid hbl7
          have hs7 : g ≤ W7.heap.size := Nat.le_trans hs6 hb7.size
          clear hbl7 hb7 ho7 HC6 HBl6 HB6 hs6 hst7
          go_wp2_with fail
          refine (writeRune_calls g g _ x hw1 W7 HBl7.out (by rw [List.length_append]; omega) hs7).mono ?_
          rintro e W8 ⟨n8, rfl, hbl8, hb8, _⟩
          have hl4 := encodeRune_len x
          have HB8 : Hid (Below W.heap.size W W8) := Lib.hid (HB7.out.trans (by rw [HGs.out]; exact hb8))
          have HBl8 := Lib.hid hbl8
          have hs8 : g ≤ W8.heap.size := Nat.le_trans hs7 hb8.size
          clear hbl8 hb8 HB7 HBl7 hs7 k0 k1
          go_wp2_with fail
          refine ⟨⟨i + 1, sn, bs ++ Kp.dress sn ++ Lib.encodeRune x, rfl, by go_num, by omega, by simp only [List.length_append]; omega, HV2, HBl8, HB8, hs8⟩, ?_⟩
          simp [intOf]; omega
    · obtain rfl : i = l.length := by omega
      have HE : Hid (bs = hd0 ++ Kp.paintCells (-1) l) := Lib.hid (by have := HV.out; rw [List.drop_length] at this; simpa [Kp.paintCells] using this)
      go_wp2_with fail
      refine (Tryz.Builder_String_any g g bs wr HBl.out hs).mono ?_
      rintro e W8 ⟨rfl, hb8⟩
      have HB8 : Hid (Below W.heap.size W W8) := Lib.hid (HB.out.trans (by rw [HGs.out]; exact hb8))
      clear hb8
      go_wp2_with fail
      go_ret
      refine ⟨?_, HB8.out⟩
      rw [HE.out, ← HHD.out, ← HDD.out]
      simp [Kp.paintRow]
end Go.Proofs.YtbjckccgbmimpabGreatDoor
