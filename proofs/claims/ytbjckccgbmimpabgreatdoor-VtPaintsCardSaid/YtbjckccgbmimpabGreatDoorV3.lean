/- The walk of width.Of's table. -/
import Derived.Test.YtbjckccgbmimpabGreatDoorK4
import Derived.Laws.Tables
import Derived.Great.Walk
import Derived.Great.BuildSlice
import Derived.Deep.WholeRow
namespace Go.Proofs.YtbjckccgbmimpabGreatDoor
open Go.Great Go.RowKit Go.Proofs.YtbjckccgbmimpabGreatDoorW.PrintWords Go.Proofs.YtbjckccgbmimpabGreatDoorW.PrintLast Go.Proofs.YtbjckccgbmimpabGreatDoorW.PrintMore
def widCells : Array Value := #[.int .i64 768, .int .i64 879, .int .i64 0, .int .i64 4352, .int .i64 4447, .int .i64 2, .int .i64 8203, .int .i64 8207, .int .i64 0, .int .i64 11904, .int .i64 12350, .int .i64 2, .int .i64 12353, .int .i64 19903, .int .i64 2, .int .i64 19968, .int .i64 42191, .int .i64 2, .int .i64 44032, .int .i64 55203, .int .i64 2, .int .i64 63744, .int .i64 64255, .int .i64 2, .int .i64 65024, .int .i64 65039, .int .i64 0, .int .i64 65072, .int .i64 65135, .int .i64 2, .int .i64 65280, .int .i64 65376, .int .i64 2, .int .i64 65504, .int .i64 65510, .int .i64 2, .int .i64 127744, .int .i64 128591, .int .i64 2, .int .i64 129280, .int .i64 129535, .int .i64 2, .int .i64 131072, .int .i64 262141, .int .i64 2]
def widZero : Array Value := #[.int .i64 0, .int .i64 0, .int .i64 0, .int .i64 0, .int .i64 0, .int .i64 0, .int .i64 0, .int .i64 0, .int .i64 0, .int .i64 0, .int .i64 0, .int .i64 0, .int .i64 0, .int .i64 0, .int .i64 0, .int .i64 0, .int .i64 0, .int .i64 0, .int .i64 0, .int .i64 0, .int .i64 0, .int .i64 0, .int .i64 0, .int .i64 0, .int .i64 0, .int .i64 0, .int .i64 0, .int .i64 0, .int .i64 0, .int .i64 0, .int .i64 0, .int .i64 0, .int .i64 0, .int .i64 0, .int .i64 0, .int .i64 0, .int .i64 0, .int .i64 0, .int .i64 0, .int .i64 0, .int .i64 0, .int .i64 0, .int .i64 0, .int .i64 0, .int .i64 0]
set_option maxRecDepth 100000 in
set_option maxHeartbeats 4000000 in
theorem table_calls (W : World) : Calls Tryz.prog 32 #[] W fun e w' => e = .returned (.agg widCells) ∧ (W.alloc (.cells widCells 70)) = w' := by
  refine calls_of_wp Tryz.func32 rfl ?_
  apply wp_seq_k; intro K hK
  apply wp_region_lit
  refine wpList_allocTo rfl (some 0) rfl (.pointer (some ⟨W.heap.size, 0, none⟩)) (.cells widZero 70) rfl ?_
  apply wpList_nil
  refine hK _ _ ?_
  apply wp_seq_k; intro K2 hK2
  apply wp_region_lit
  refine wpList_buildTo rfl 67 _ rfl (some 1) rfl #[.int .i64 768, .int .i64 879] (by kernel_rfl) ?_
  refine wpList_buildTo rfl 69 _ rfl (some 2) rfl #[.int .i64 768, .int .i64 879, .int .i64 0] (by kernel_rfl) ?_
  refine wpList_buildTo rfl 67 _ rfl (some 3) rfl #[.int .i64 4352, .int .i64 4447] (by kernel_rfl) ?_
  refine wpList_buildTo rfl 69 _ rfl (some 4) rfl #[.int .i64 4352, .int .i64 4447, .int .i64 2] (by kernel_rfl) ?_
  refine wpList_buildTo rfl 67 _ rfl (some 5) rfl #[.int .i64 8203, .int .i64 8207] (by kernel_rfl) ?_
  refine wpList_buildTo rfl 69 _ rfl (some 6) rfl #[.int .i64 8203, .int .i64 8207, .int .i64 0] (by kernel_rfl) ?_
  refine wpList_buildTo rfl 67 _ rfl (some 7) rfl #[.int .i64 11904, .int .i64 12350] (by kernel_rfl) ?_
  refine wpList_buildTo rfl 69 _ rfl (some 8) rfl #[.int .i64 11904, .int .i64 12350, .int .i64 2] (by kernel_rfl) ?_
  refine wpList_buildTo rfl 67 _ rfl (some 9) rfl #[.int .i64 12353, .int .i64 19903] (by kernel_rfl) ?_
  refine wpList_buildTo rfl 69 _ rfl (some 10) rfl #[.int .i64 12353, .int .i64 19903, .int .i64 2] (by kernel_rfl) ?_
  refine wpList_buildTo rfl 67 _ rfl (some 11) rfl #[.int .i64 19968, .int .i64 42191] (by kernel_rfl) ?_
  refine wpList_buildTo rfl 69 _ rfl (some 12) rfl #[.int .i64 19968, .int .i64 42191, .int .i64 2] (by kernel_rfl) ?_
  refine wpList_buildTo rfl 67 _ rfl (some 13) rfl #[.int .i64 44032, .int .i64 55203] (by kernel_rfl) ?_
  refine wpList_buildTo rfl 69 _ rfl (some 14) rfl #[.int .i64 44032, .int .i64 55203, .int .i64 2] (by kernel_rfl) ?_
  refine wpList_buildTo rfl 67 _ rfl (some 15) rfl #[.int .i64 63744, .int .i64 64255] (by kernel_rfl) ?_
  refine wpList_buildTo rfl 69 _ rfl (some 16) rfl #[.int .i64 63744, .int .i64 64255, .int .i64 2] (by kernel_rfl) ?_
  refine wpList_buildTo rfl 67 _ rfl (some 17) rfl #[.int .i64 65024, .int .i64 65039] (by kernel_rfl) ?_
  refine wpList_buildTo rfl 69 _ rfl (some 18) rfl #[.int .i64 65024, .int .i64 65039, .int .i64 0] (by kernel_rfl) ?_
  refine wpList_buildTo rfl 67 _ rfl (some 19) rfl #[.int .i64 65072, .int .i64 65135] (by kernel_rfl) ?_
  refine wpList_buildTo rfl 69 _ rfl (some 20) rfl #[.int .i64 65072, .int .i64 65135, .int .i64 2] (by kernel_rfl) ?_
  refine wpList_buildTo rfl 67 _ rfl (some 21) rfl #[.int .i64 65280, .int .i64 65376] (by kernel_rfl) ?_
  refine wpList_buildTo rfl 69 _ rfl (some 22) rfl #[.int .i64 65280, .int .i64 65376, .int .i64 2] (by kernel_rfl) ?_
  refine wpList_buildTo rfl 67 _ rfl (some 23) rfl #[.int .i64 65504, .int .i64 65510] (by kernel_rfl) ?_
  refine wpList_buildTo rfl 69 _ rfl (some 24) rfl #[.int .i64 65504, .int .i64 65510, .int .i64 2] (by kernel_rfl) ?_
  refine wpList_buildTo rfl 67 _ rfl (some 25) rfl #[.int .i64 127744, .int .i64 128591] (by kernel_rfl) ?_
  refine wpList_buildTo rfl 69 _ rfl (some 26) rfl #[.int .i64 127744, .int .i64 128591, .int .i64 2] (by kernel_rfl) ?_
  refine wpList_buildTo rfl 67 _ rfl (some 27) rfl #[.int .i64 129280, .int .i64 129535] (by kernel_rfl) ?_
  refine wpList_buildTo rfl 69 _ rfl (some 28) rfl #[.int .i64 129280, .int .i64 129535, .int .i64 2] (by kernel_rfl) ?_
  refine wpList_buildTo rfl 67 _ rfl (some 29) rfl #[.int .i64 131072, .int .i64 262141] (by kernel_rfl) ?_
  refine wpList_buildTo rfl 69 _ rfl (some 30) rfl #[.int .i64 131072, .int .i64 262141, .int .i64 2] (by kernel_rfl) ?_
  refine wpList_buildTo rfl 70 _ rfl (some 31) rfl widCells (by kernel_rfl) ?_
  refine wpList_store_row rfl 70 _ _ rfl W.heap.size widCells (by kernel_rfl) (by kernel_rfl) 70 widZero (heap_alloc_last W _) (by kernel_rfl) rfl (by kernel_rfl) ?_
  rw [World.setRow_alloc_new]
  apply wpList_nil
  refine hK2 _ _ ?_
  refine wp_ret ?_
  exact bodyPost_ret (results_cell_row (p := 0) (ty := 70) rfl _ _ W.heap.size 70 widCells (0, 0) (.array 15 69) (by kernel_rfl) (heap_alloc_last W _) (by kernel_rfl) (by kernel_rfl) (by kernel_rfl)) rfl ⟨rfl, rfl⟩

def Kp.widRows : List (Int × Int × Int) := [(768, 879, 0), (4352, 4447, 2), (8203, 8207, 0), (11904, 12350, 2), (12353, 19903, 2), (19968, 42191, 2), (44032, 55203, 2), (63744, 64255, 2), (65024, 65039, 0), (65072, 65135, 2), (65280, 65376, 2), (65504, 65510, 2), (127744, 128591, 2), (129280, 129535, 2), (131072, 262141, 2)]
def Kp.widRow (m : Nat) : Int × Int × Int := Kp.widRows.getD m (0, 0, 0)
/-- The binary search. -/
def Kp.widB : Nat → Nat → Nat → Int → Int
  | 0, _, _, _ => 1
  | f + 1, i, j, c => if i < j then (if c < (Kp.widRow ((i + j) / 2)).1 then Kp.widB f i ((i + j) / 2) c else if (Kp.widRow ((i + j) / 2)).2.1 < c then Kp.widB f ((i + j) / 2 + 1) j c else (Kp.widRow ((i + j) / 2)).2.2) else 1
/-- A rune's width. -/
def Kp.wid (c : Int) : Int := Kp.widB 15 0 15 c
theorem Kp.widCells_at : ∀ m, m < 15 → widCells[m * 3]? = some (.int .i64 (Kp.widRow m).1) ∧ widCells[m * 3 + 1]? = some (.int .i64 (Kp.widRow m).2.1) ∧ widCells[m * 3 + 2]? = some (.int .i64 (Kp.widRow m).2.2)
  | 0, _ => ⟨rfl, rfl, rfl⟩
  | 1, _ => ⟨rfl, rfl, rfl⟩
  | 2, _ => ⟨rfl, rfl, rfl⟩
  | 3, _ => ⟨rfl, rfl, rfl⟩
  | 4, _ => ⟨rfl, rfl, rfl⟩
  | 5, _ => ⟨rfl, rfl, rfl⟩
  | 6, _ => ⟨rfl, rfl, rfl⟩
  | 7, _ => ⟨rfl, rfl, rfl⟩
  | 8, _ => ⟨rfl, rfl, rfl⟩
  | 9, _ => ⟨rfl, rfl, rfl⟩
  | 10, _ => ⟨rfl, rfl, rfl⟩
  | 11, _ => ⟨rfl, rfl, rfl⟩
  | 12, _ => ⟨rfl, rfl, rfl⟩
  | 13, _ => ⟨rfl, rfl, rfl⟩
  | 14, _ => ⟨rfl, rfl, rfl⟩
  | m + 15, h => absurd h (by omega)
set_option maxRecDepth 100000 in
theorem alloc_tab {ops : Array Oper} {rest : List Oper} {o : Oper} {a : Act} {w : World} {Q : Exit → Act → World → Prop} (hg : o.guard = none) (ho : o.op = .alloc 70)
    (h : wpList Tryz.prog ops Q rest (a.put o.dst (.pointer (some ⟨w.heap.size, 0, none⟩))) (w.alloc (.cells widZero 70))) : wpList Tryz.prog ops Q (o :: rest) a w := by
  refine wpList_allocTo hg o.dst rfl _ _ ?_ h
  unfold execOp
  rw [ho]
  rfl
theorem store_tab {ops : Array Oper} {rest : List Oper} {o : Oper} {a : Act} {Q : Exit → Act → World → Prop} (W : World) (hgd : o.guard = none) (x y : Operand) (ho : o.op = .store 70 x y)
    (hx : a.eval x = .pointer (some ⟨W.heap.size, 0, none⟩)) (hy : a.eval y = .agg widCells)
    (h : ∀ W2, W2.heap[W.heap.size]? = some (.cells widCells 70 (0, 0)) → Below W.heap.size W W2 → wpList Tryz.prog ops Q rest (a.put o.dst undef) W2) : wpList Tryz.prog ops Q (o :: rest) a (W.alloc (.cells widZero 70)) := by
  refine wpList_store_row hgd 70 x y ho W.heap.size widCells hx hy 70 widZero (heap_alloc_last W _) (by kernel_rfl) rfl (by kernel_rfl) ?_
  rw [World.setRow_alloc_new]
  exact h _ (heap_alloc_last W _) ((Below.refl _ _).alloc (Nat.le_refl _) _)
attribute [local irreducible] widCells widZero Kp.widRow
def WidPost (W : World) (v : Int) (e : Ending) (w' : World) : Prop := e = .returned (.int .i64 v) ∧ Below W.heap.size W w'
set_option maxRecDepth 100000 in
set_option maxHeartbeats 1000000 in
theorem of_calls (c : Int) (hc : -2147483648 ≤ c ∧ c ≤ 2147483647) (W : World) : Calls Tryz.prog 19 #[.int .i32 c] W (WidPost W (Kp.wid c)) := by
  go_enter Tryz.func19, Tryz.ntmps19
  go_wp2_with fail
  refine (table_calls W).mono ?_
  rintro e w ⟨rfl, rfl⟩
  have HB := Lib.hid (below_alloc (Below.refl W.heap.size W) (.cells widCells 70))
  generalize W.alloc (.cells widCells 70) = W1 at HB ⊢
  go_wp2_with (first
    | ((with_reducible refine gate_ (.alloc 70) rfl ?_); refine alloc_tab rfl rfl ?_)
    | ((with_reducible refine gate_store (t := 70) rfl ?_); refine store_tab W1 rfl _ _ rfl rfl rfl ?_; intro W2 hT hb2; have HT := Lib.hid hT; have HB2 := Lib.hid (below_step HB.out hb2); clear hT hb2))
  generalize hg : W1.heap.size = g at HT ⊢
  clear hg
  go_loopw [4, 5] (fun v4 v5 wr => ∃ (f i j : Nat), v4 = .int .i64 i ∧ v5 = .int .i64 j ∧ i ≤ 15 ∧ j ≤ 15 ∧ j - i ≤ f ∧ Hid (Kp.widB f i j c = Kp.wid c) ∧ Hid (wr.heap[g]? = some (.cells widCells 70 (0, 0))) ∧ Hid (Below W.heap.size W wr)) (fun v4 v5 _ => (intOf v5).toNat - (intOf v4).toNat)
  case atStart => exact ⟨15, 0, 15, rfl, rfl, by omega, by omega, by omega, rfl, HT, HB2⟩
  case round =>
    clear HT HB2
    obtain ⟨f, i, j, rfl, rfl, hi, hj, hf, HV, HT, HB2⟩ := hrel
    by_cases hlt : i < j
    · obtain ⟨f', rfl⟩ : ∃ f', f = f' + 1 := ⟨f - 1, by omega⟩
      obtain ⟨m, hm⟩ : ∃ m, (i + j) / 2 = m := ⟨_, rfl⟩
      have hm0 : i ≤ m ∧ m < j := by omega
      obtain ⟨c1, c2, c3⟩ := Kp.widCells_at m (by omega)
      obtain ⟨⟨x, y, z⟩, hrow⟩ : ∃ r, Kp.widRow m = r := ⟨_, rfl⟩
      rw [hrow] at c1 c2 c3
      have k1 : wr.cell? ⟨g, m * 3, none⟩ = some (.int .i64 x) := (blk_cell HT.out _).trans c1
      have k2 : wr.cell? ⟨g, m * 3 + 1, none⟩ = some (.int .i64 y) := (blk_cell HT.out _).trans c2
      have k3 : wr.cell? ⟨g, m * 3 + 2, none⟩ = some (.int .i64 z) := (blk_cell HT.out _).trans c3
      have key : Kp.wid c = if c < x then Kp.widB f' i m c else if y < c then Kp.widB f' (m + 1) j c else z := by
        rw [← HV.out]
        simp only [Kp.widB, hlt, if_true, hm, hrow]
      have hmi : ((i : Int) + j).tdiv 2 = m := by rw [Int.tdiv_eq_ediv_of_nonneg (by omega)]; omega
      have HK := Lib.hid key
      clear key c1 c2 c3
      go_wp2_with fail
      all_goals first
        | (refine ⟨⟨f', i, m, rfl, rfl, by omega, by omega, by omega, Lib.hid (by rw [HK.out, if_pos (by omega)]), Lib.hid (blk_alloc HT.out _), Lib.hid (below_alloc HB2.out _)⟩, ?_⟩; simp [intOf]; omega)
        | (refine ⟨⟨f', m + 1, j, by go_num, rfl, by omega, by omega, by omega, Lib.hid (by rw [HK.out, if_neg (by omega), if_pos (by omega)]), Lib.hid (blk_alloc HT.out _), Lib.hid (below_alloc HB2.out _)⟩, ?_⟩; simp [intOf]; omega)
        | (go_ret; refine ⟨?_, below_alloc HB2.out _⟩; rw [HK.out, if_neg (by omega), if_neg (by omega)]; rfl)
    · have HK : Hid (Kp.wid c = 1) := Lib.hid (by
        rw [← HV.out]
        cases f <;> simp [Kp.widB, hlt])
      go_wp2_with fail
      go_ret
      exact ⟨by rw [HK.out]; rfl, HB2.out⟩
end Go.Proofs.YtbjckccgbmimpabGreatDoor

/- The walks of utf.Right, vt.odd and vt.side. -/
namespace Go.Proofs.YtbjckccgbmimpabGreatDoor
open Go.RowKit Go.Proofs.YtbjckccgbmimpabGreatDoorW.PrintWords Go.Proofs.YtbjckccgbmimpabGreatDoorW.PrintLast Go.Proofs.YtbjckccgbmimpabGreatDoorW.PrintMore
/-- Is a rune right? -/
def Kp.right (c : Int) : Prop := 0 ≤ c ∧ c ≤ 1114111 ∧ (c < 55296 ∨ 57343 < c)
instance (c : Int) : Decidable (Kp.right c) := by unfold Kp.right; infer_instance
/-- May a rune not be shown? -/
def Kp.odd (c : Int) : Prop := ¬ Kp.right c ∨ c < 32 ∨ (127 ≤ c ∧ c < 160) ∨ Kp.wid c < 1
instance (c : Int) : Decidable (Kp.odd c) := by unfold Kp.odd; infer_instance
def Kp.side (n : Int) : Prop := 1 ≤ n ∧ n ≤ 60
instance (c : Int) : Decidable (Kp.side c) := by unfold Kp.side; infer_instance

/-- A test's answer. -/
def IfPost (W : World) (p : Prop) (e : Ending) (w' : World) : Prop := ∃ b, e = .returned (.bool b) ∧ (b = true ↔ p) ∧ Below W.heap.size W w'
theorem IfPost.mk {W w' : World} {p : Prop} {b : Bool} (h : Below W.heap.size W w') (hb : b = true ↔ p) : IfPost W p (.returned (.bool b)) w' := ⟨b, rfl, hb, h⟩

theorem side_calls (n : Int) (W : World) : Calls Tryz.prog 17 #[.int .i64 n] W (IfPost W (Kp.side n)) := by
  go_enter Tryz.func17, Tryz.ntmps17
  go_wp2_with fail
  all_goals
    go_ret
    refine IfPost.mk (Below.refl _ _) ?_
    simp [Kp.side]
    try omega
theorem right_calls (c : Int) (W : World) : Calls Tryz.prog 31 #[.int .i32 c] W (IfPost W (Kp.right c)) := by
  go_enter Tryz.func31, Tryz.ntmps31
  go_wp2_with fail
  all_goals
    go_ret
    refine IfPost.mk (Below.refl _ _) ?_
    simp [Kp.right]
    try omega
theorem odd_calls (c : Int) (hc : -2147483648 ≤ c ∧ c ≤ 2147483647) (W : World) : Calls Tryz.prog 18 #[.int .i32 c] W (IfPost W (Kp.odd c)) := by
  go_enter Tryz.func18, Tryz.ntmps18
  go_wp2_with fail
  refine (right_calls c W).mono ?_
  rintro e w ⟨b, rfl, hiff, hb⟩
  have HB := Lib.hid hb
  clear hb
  have hwid : (decide (Kp.wid c < 1) = true ↔ Kp.wid c < 1) := by simp
  have HO : Hid (Kp.odd c ↔ (¬ Kp.right c ∨ c < 32 ∨ (127 ≤ c ∧ c < 160) ∨ Kp.wid c < 1)) := Lib.hid Iff.rfl
  cases b
  · have hr : ¬ Kp.right c := fun h => by simpa using hiff.2 h
    go_wp2_with fail
    all_goals
      go_ret
      exact IfPost.mk HB.out (by rw [HO.out]; simp [hr])
  · have hr : Kp.right c := hiff.1 rfl
    clear hiff
    by_cases h : c < 32 ∨ (127 ≤ c ∧ c < 160)
    · go_wp2_with fail
      all_goals first
        | (exfalso; omega)
        | (go_ret; exact IfPost.mk HB.out (by rw [HO.out]; simp; omega))
    · go_wp2_with fail
      all_goals
        refine (of_calls c hc w).mono ?_
        rintro e w2 ⟨rfl, hb2⟩
        have HB2 := Lib.hid (below_step HB.out hb2)
        clear hb2
        go_wp2_with fail
        go_ret
        exact IfPost.mk HB2.out (by rw [HO.out]; simp [hr]; omega)
end Go.Proofs.YtbjckccgbmimpabGreatDoor

/- Cells that are read; the walk of vt.Proper. -/
namespace Go.Proofs.YtbjckccgbmimpabGreatDoor
open Go.RowKit Go.Proofs.YtbjckccgbmimpabGreatDoorW.PrintWords Go.Proofs.YtbjckccgbmimpabGreatDoorW.PrintLast Go.Proofs.YtbjckccgbmimpabGreatDoorW.PrintMore
abbrev Cell := Int × Int
def Kp.gr (l : List Cell) (i : Nat) : Int := (l.getD i (0, 0)).1
def Kp.gs (l : List Cell) (i : Nat) : Int := (l.getD i (0, 0)).2
/-- A row of cells, read. -/
structure RC (w : World) (A : Option Addr) (l : List Cell) : Prop where
  len : l.length ≤ 140737488355328
  at_ : ∀ i, i < l.length → ∃ b o, A = some ⟨b, o, none⟩ ∧ w.cell? ⟨b, o + i * 2, none⟩ = some (.int .i32 (Kp.gr l i)) ∧ w.cell? ⟨b, o + i * 2 + 1, none⟩ = some (.int .i64 (Kp.gs l i))
def Kp.wf (l : List Cell) : Prop := ∀ i, (-2147483648 ≤ Kp.gr l i ∧ Kp.gr l i ≤ 2147483647) ∧ (-9223372036854775808 ≤ Kp.gs l i ∧ Kp.gs l i ≤ 9223372036854775807)
theorem RC.below {w w' : World} {A : Option Addr} {l : List Cell} (h : RC w A l) (hb : Below w.heap.size w w') : RC w' A l := ⟨h.len, fun i hi => by
  obtain ⟨b, o, e, h1, h2⟩ := h.at_ i hi
  exact ⟨b, o, e, pw_cell_below hb h1, pw_cell_below hb h2⟩⟩
theorem RC.drewN {w : World} {A : Option Addr} {l : List Cell} (h : RC w A l) (n : Nat) : RC (w.drewN n) A l := ⟨h.len, h.at_⟩

/-- What Proper does at one cell. -/
def Kp.okAt (cols : Nat) (l : List Cell) (i : Nat) (half : Bool) : Option Bool :=
  if Kp.gs l i < 0 ∨ 8 ≤ Kp.gs l i ∨ ¬ (half = true ↔ Kp.gr l i = 0) ∨ (half = true ∧ (i % cols = 0 ∨ Kp.gs l i ≠ Kp.gs l (i - 1))) then none
  else if half then some false
  else if Kp.odd (Kp.gr l i) then none
  else some (decide (Kp.wid (Kp.gr l i) = 2))
def Kp.properGo (cols : Nat) (l : List Cell) : Nat → Nat → Bool → Prop
  | 0, _, half => half = false
  | n + 1, i, half => match Kp.okAt cols l i half with
    | none => False
    | some h => Kp.properGo cols l n (i + 1) h
/-- Is a grid proper? -/
def Kp.proper (rows cols : Int) (l : List Cell) : Prop := Kp.side rows ∧ Kp.side cols ∧ (l.length : Int) = rows * cols ∧ Kp.properGo cols.toNat l l.length 0 false

def gridV (rows cols : Int) (A : Option Addr) (n c : Nat) : Value := .agg #[.int .i64 rows, .int .i64 cols, .slice A n c]

/-- A grid in memory. -/
structure GridAt (w : World) (g : Nat) (rows cols : Int) (A : Option Addr) (n c : Nat) : Prop where
  blk : w.heap[g]? = some (.cells #[.int .i64 rows, .int .i64 cols, .slice A n c] 24 (0, 0))
theorem GridAt.cells {w : World} {g : Nat} {rows cols : Int} {A : Option Addr} {n c : Nat} (h : GridAt w g rows cols A n c) :
    w.cell? ⟨g, 0, none⟩ = some (.int .i64 rows) ∧ w.cell? ⟨g, 1, none⟩ = some (.int .i64 cols) ∧ w.cell? ⟨g, 2, none⟩ = some (.slice A n c) :=
  ⟨blk_cell h.blk 0, blk_cell h.blk 1, blk_cell h.blk 2⟩
theorem GridAt.below {w w' : World} {g : Nat} {rows cols : Int} {A : Option Addr} {n c : Nat} (h : GridAt w g rows cols A n c) (hb : Below w.heap.size w w') : GridAt w' g rows cols A n c := ⟨blk_below h.blk hb⟩
theorem GridAt.alloc {w : World} {g : Nat} {rows cols : Int} {A : Option Addr} {n c : Nat} (h : GridAt w g rows cols A n c) (o : Obj) : GridAt (w.alloc o) g rows cols A n c := ⟨blk_alloc h.blk o⟩
theorem GridAt.new (W : World) (rows cols : Int) (A : Option Addr) (n c : Nat) : GridAt (W.alloc (.cells #[.int .i64 rows, .int .i64 cols, .slice A n c] 24)) W.heap.size rows cols A n c := ⟨heap_alloc_new W _⟩

set_option maxRecDepth 100000 in
set_option maxHeartbeats 16000000 in
theorem proper_calls (rows cols : Int) (A : Option Addr) (l : List Cell) (c : Nat) (W : World) (hr : RC W A l) (hwf : Kp.wf l) : Calls Tryz.prog 8 #[gridV rows cols A l.length c] W (IfPost W (Kp.proper rows cols l)) := by
  have HR := Lib.hid hr
  have HP : Hid (Kp.proper rows cols l ↔ (Kp.side rows ∧ Kp.side cols ∧ (l.length : Int) = rows * cols ∧ Kp.properGo cols.toNat l l.length 0 false)) := Lib.hid Iff.rfl
  clear hr
  unfold gridV
  go_enter Tryz.func8, Tryz.ntmps8
  go_wp2_with fail
  have hg := GridAt.new W rows cols A l.length c
  have hb1 := below_alloc (Below.refl W.heap.size W) (.cells #[.int .i64 rows, .int .i64 cols, .slice A l.length c] 24)
  have hr1 := HR.out.below hb1
  generalize W.alloc (.cells #[.int .i64 rows, .int .i64 cols, .slice A l.length c] 24) = W1 at hg hb1 hr1 ⊢
  generalize W.heap.size = g at hg ⊢
  have HB1 := Lib.hid hb1
  have HG1 := Lib.hid hg
  clear HR
  have HR := Lib.hid hr1
  clear hb1 hg hr1
  refine (side_calls rows W1).mono ?_
  rintro e W2 ⟨b, rfl, hiff, hb⟩
  have HB2 := Lib.hid (below_step HB1.out hb)
  have HG2 := Lib.hid (HG1.out.below hb)
  have HR2 := Lib.hid (HR.out.below hb)
  obtain ⟨q0, q1, q2⟩ := HG2.out.cells
  clear hb HR HG1 HB1
  cases b
  · have hns : ¬ Kp.side rows := fun h => by simpa using hiff.2 h
    go_wp2_with fail
    all_goals
      go_ret
      exact IfPost.mk HB2.out (by rw [HP.out]; simp [hns])
  · have hs : Kp.side rows := hiff.1 rfl
    clear hiff
    go_wp2_with fail
    refine (side_calls cols W2).mono ?_
    rintro e W3 ⟨b, rfl, hiff, hb⟩
    have HB3 := Lib.hid (below_step HB2.out hb)
    have HG3 := Lib.hid (HG2.out.below hb)
    have HR3 := Lib.hid (HR2.out.below hb)
    clear q0 q1 q2
    obtain ⟨q0, q1, q2⟩ := HG3.out.cells
    clear hb HR2 HG2 HB2
    cases b
    · have hns : ¬ Kp.side cols := fun h => by simpa using hiff.2 h
      go_wp2_with fail
      all_goals
        go_ret
        exact IfPost.mk HB3.out (by rw [HP.out]; simp [hns])
    · have hs2 : Kp.side cols := hiff.1 rfl
      clear hiff
      obtain ⟨R, rfl⟩ : ∃ R : Nat, rows = R := ⟨rows.toNat, by unfold Kp.side at hs; omega⟩
      obtain ⟨C, rfl⟩ : ∃ C : Nat, cols = C := ⟨cols.toNat, by unfold Kp.side at hs2; omega⟩
      have hR : 1 ≤ R ∧ R ≤ 60 := by unfold Kp.side at hs; omega
      have hC : 1 ≤ C ∧ C ≤ 60 := by unfold Kp.side at hs2; omega
      have hRC : R * C ≤ 3600 := Nat.mul_le_mul hR.2 hC.2
      have hcast : (R : Int) * C = ((R * C : Nat) : Int) := by push_cast; rfl
      obtain ⟨N, hN⟩ : ∃ N, R * C = N := ⟨_, rfl⟩
      rw [hN] at hcast hRC
      have hw : IntKind.i64.wrap ((R : Int) * C) = (N : Int) := by rw [hcast, IntKind.wrap_i64]; omega
      have HP2 : Hid (Kp.proper (R : Int) (C : Int) l ↔ (l.length = N ∧ Kp.properGo C l l.length 0 false)) := Lib.hid (by
        rw [HP.out]
        simp only [hs, hs2, true_and, hcast, Int.toNat_natCast]
        exact_mod_cast Iff.rfl)
      clear HP
      by_cases hlen : l.length = N
      · have hnb : ((l.length : Int) != (N : Int)) = false := by simp [hlen]
        have hnb2 : ((l.length : Int) == (N : Int)) = true := by simp [hlen]
        subst hlen
        go_wp2_with fail
        clear q0 q1 q2
        go_loopw [3, 30] (fun v3 v30 wr => ∃ (i : Nat) (half : Bool), v3 = .bool half ∧ v30 = .int .i64 i ∧ i ≤ l.length ∧ (half = true → 1 ≤ i) ∧ Hid (Kp.properGo C l (l.length - i) i half ↔ Kp.properGo C l l.length 0 false) ∧ Hid (GridAt wr g (R : Int) (C : Int) A l.length c) ∧ Hid (RC wr A l) ∧ Hid (Below W.heap.size W wr)) (fun _ v30 _ => l.length - (intOf v30).toNat)
        case atStart => exact ⟨0, false, rfl, rfl, by omega, by simp, Lib.hid Iff.rfl, HG3, HR3, HB3⟩
        case round =>
          clear HR3 HG3 HB3
          obtain ⟨i, half, rfl, rfl, hi, hh, HV, HG3, HR3, HB3⟩ := hrel
          obtain ⟨q0, q1, q2⟩ := HG3.out.cells
          by_cases hlt : i < l.length
          · obtain ⟨b, o, hA, r1, r2⟩ := HR3.out.at_ i hlt
            obtain ⟨hw1, hw2⟩ := hwf i
            obtain ⟨x, hx⟩ : ∃ x, Kp.gr l i = x := ⟨_, rfl⟩
            obtain ⟨s, hs'⟩ : ∃ x, Kp.gs l i = x := ⟨_, rfl⟩
            have hgo : Kp.properGo C l (l.length - i) i half = match Kp.okAt C l i half with | none => False | some h => Kp.properGo C l (l.length - (i + 1)) (i + 1) h := by
              rw [show l.length - i = (l.length - (i + 1)) + 1 by omega]; rfl
            simp only [Kp.okAt, hx, hs'] at hgo
            rw [hx] at r1 hw1
            rw [hs'] at r2 hw2
            subst hA
            clear hw hcast hN hnb hnb2
            have hm : (i : Int).tmod C = ((i % C : Nat) : Int) := by rw [Int.tmod_eq_emod_of_nonneg (by omega)]; rfl
            have hCz : ((C : Int) == 0) = false := by simp; omega
            go_wp2_with fail
            have hc0 := heap_alloc_new wr (.cells #[.int .i32 x, .int .i64 s] 41)
            have HB4 := Lib.hid (below_alloc HB3.out (.cells #[.int .i32 x, .int .i64 s] 41))
            have HG4 := Lib.hid (HG3.out.alloc (.cells #[.int .i32 x, .int .i64 s] 41))
            have HR4 := Lib.hid (HR3.out.below (below_alloc (Below.refl _ _) (.cells #[.int .i32 x, .int .i64 s] 41)))
            generalize wr.alloc (.cells #[.int .i32 x, .int .i64 s] 41) = W4 at hc0 HB4 HG4 HR4 ⊢
            generalize wr.heap.size = cb at hc0 ⊢
            have HC := Lib.hid hc0
            have k0 : W4.cell? ⟨cb, 0, none⟩ = some (.int .i32 x) := blk_cell hc0 0
            have k1 : W4.cell? ⟨cb, 1, none⟩ = some (.int .i64 s) := blk_cell hc0 1
            clear HR3 HG3 HB3 q0 q1 q2 r1 r2 hc0
            obtain ⟨q0, q1, q2⟩ := HG4.out.cells
            by_cases h1 : s < 0
            · have HF : Hid (¬ Kp.properGo C l l.length 0 false) := Lib.hid (by rw [← HV.out, hgo, if_pos (by omega)]; simp)
              clear hgo
              go_quiet (fail)
              go_wp2_with fail
              all_goals
                go_ret
                exact IfPost.mk (pw_below_drewN HB4.out _) (by rw [HP2.out]; simp [HF.out])
            · have h1' : 0 ≤ s := by omega
              clear h1
              by_cases h2 : 8 ≤ s
              · have HF : Hid (¬ Kp.properGo C l l.length 0 false) := Lib.hid (by rw [← HV.out, hgo, if_pos (by omega)]; simp)
                have e1 : decide (s < 0) = false := by simp; omega
                have e2 : decide (8 ≤ s) = true := by simp; omega
                clear hgo h1' h2
                go_quiet (fail)
                go_wp2_with fail
                all_goals
                  go_ret
                  exact IfPost.mk (pw_below_drewN HB4.out _) (by rw [HP2.out]; simp [HF.out])
              · have e1 : decide (s < 0) = false := by simp; omega
                have e2 : decide (8 ≤ s) = false := by simp; omega
                have HS : Hid (0 ≤ s ∧ s < 8) := Lib.hid (by omega)
                clear h1' h2
                by_cases h3 : x = 0
                · have e3 : (x == 0) = true := by simp [h3]
                  cases half
                  · have HF : Hid (¬ Kp.properGo C l l.length 0 false) := Lib.hid (by rw [← HV.out, hgo, if_pos (by simp [h3])]; simp)
                    clear hgo
                    go_quiet (fail)
                    go_wp2_with fail
                    all_goals
                      go_ret
                      exact IfPost.mk (pw_below_drewN HB4.out _) (by rw [HP2.out]; simp [HF.out])
                  · have hi1 := hh rfl
                    clear hh
                    by_cases h4 : i % C = 0
                    · have HF : Hid (¬ Kp.properGo C l l.length 0 false) := Lib.hid (by rw [← HV.out, hgo, if_pos (by simp [h4])]; simp)
                      rw [h4] at hm
                      clear h3 h4
                      clear hgo
                      go_quiet (fail)
                      go_wp2_with fail
                      all_goals
                        go_ret
                        exact IfPost.mk (pw_below_drewN HB4.out _) (by rw [HP2.out]; simp [HF.out])
                    · have hrl := Nat.mod_lt i (show C > 0 by omega)
                      obtain ⟨rm, hrm⟩ : ∃ rm, i % C = rm := ⟨_, rfl⟩
                      rw [hrm] at hm h4 hgo hrl
                      have e4 : ((rm : Int) == 0) = false := by simp; omega
                      clear hrm
                      obtain ⟨k, hk⟩ : ∃ k : Nat, i = k + 1 := ⟨i - 1, by omega⟩
                      have hk1 : (i : Int) - 1 = (k : Int) := by omega
                      obtain ⟨b', o', hA', _, r3⟩ := HR4.out.at_ k (by omega)
                      injection hA' with hA'
                      injection hA' with hA1 hA2
                      subst hA1 hA2
                      have hki : i - 1 = k := by omega
                      rw [hki] at hgo
                      have hkl : (k : Int) < l.length := by omega
                      have HK := Lib.hid hk
                      clear hk hki hi1
                      by_cases h5 : s = Kp.gs l k
                      · have e5 : (s != Kp.gs l k) = false := by simp [h5]
                        have HF : Hid (Kp.properGo C l (l.length - (i + 1)) (i + 1) false ↔ Kp.properGo C l l.length 0 false) := Lib.hid (by
                          have hs2 := HS.out
                          rw [← HV.out, hgo, if_neg (by simp [h3, h4, ← h5]; omega)]; simp)
                        clear hgo h3 h4 h5
                        go_quiet (fail)
                        go_wp2_with fail
                        refine ⟨⟨i + 1, false, rfl, by go_num, by omega, by simp, HF, Lib.hid ⟨HG4.out.blk⟩, Lib.hid (HR4.out.drewN _), Lib.hid (pw_below_drewN HB4.out _)⟩, ?_⟩
                        simp [intOf]; omega
                      · have e5 : (s != Kp.gs l k) = true := by simp [h5]
                        have HF : Hid (¬ Kp.properGo C l l.length 0 false) := Lib.hid (by rw [← HV.out, hgo, if_pos (by simp [h5])]; simp)
                        clear h3 h4 h5
                        clear hgo
                        go_quiet (fail)
                        go_wp2_with fail
                        all_goals
                          go_ret
                          exact IfPost.mk (pw_below_drewN HB4.out _) (by rw [HP2.out]; simp [HF.out])
                · have e3 : (x == 0) = false := by simp [h3]
                  cases half
                  · have HG : Hid (Kp.properGo C l l.length 0 false ↔ if Kp.odd x then False else Kp.properGo C l (l.length - (i + 1)) (i + 1) (decide (Kp.wid x = 2))) := Lib.hid (by
                      have hs2 := HS.out
                      rw [← HV.out, hgo, if_neg (by simp [h3]; omega)]
                      by_cases ho : Kp.odd x <;> simp [ho])
                    clear hgo h3
                    go_quiet (fail)
                    go_wp2_with fail
                    refine (odd_calls x hw1 _).mono ?_
                    rintro e W6 ⟨b6, rfl, hiff, hb6⟩
                    have HB6 := Lib.hid (below_step (pw_below_drewN HB4.out nq) hb6)
                    have HG6 : Hid (GridAt W6 g (R : Int) (C : Int) (some ⟨b, o, none⟩) l.length c) := Lib.hid (GridAt.below (w := W4.drewN nq) ⟨HG4.out.blk⟩ hb6)
                    have HR6 := Lib.hid ((HR4.out.drewN nq).below hb6)
                    clear k0 k1 q0 q1 q2
                    have k0 : W6.cell? ⟨cb, 0, none⟩ = some (.int .i32 x) := blk_cell (blk_below (blk_drewN HC.out nq) hb6) 0
                    clear hb6 HB4 HG4 HR4 HC
                    cases b6
                    · have hno : ¬ Kp.odd x := fun h => by simpa using hiff.2 h
                      have HG' : Hid (Kp.properGo C l (l.length - (i + 1)) (i + 1) (decide (Kp.wid x = 2)) ↔ Kp.properGo C l l.length 0 false) := Lib.hid (by rw [HG.out, if_neg hno])
                      clear hiff
                      go_wp2_with fail
                      refine (of_calls x hw1 W6).mono ?_
                      rintro e W7 ⟨rfl, hb7⟩
                      have HB7 := Lib.hid (below_step HB6.out hb7)
                      have HG7 := Lib.hid (HG6.out.below hb7)
                      have HR7 := Lib.hid (HR6.out.below hb7)
                      clear hb7 HB6 HG6 HR6 k0
                      by_cases hw2' : Kp.wid x = 2
                      · have e6 : (Kp.wid x == 2) = true := by simp [hw2']
                        have HG'' : Hid (Kp.properGo C l (l.length - (i + 1)) (i + 1) true ↔ Kp.properGo C l l.length 0 false) := Lib.hid (by rw [← HG'.out]; simp [hw2'])
                        clear hw2'
                        go_wp2_with fail
                        refine ⟨⟨i + 1, true, rfl, by go_num, by omega, by simp, HG'', HG7, HR7, HB7⟩, ?_⟩
                        simp [intOf]; omega
                      · have e6 : (Kp.wid x == 2) = false := by simp [hw2']
                        have HG'' : Hid (Kp.properGo C l (l.length - (i + 1)) (i + 1) false ↔ Kp.properGo C l l.length 0 false) := Lib.hid (by rw [← HG'.out]; simp [hw2'])
                        clear hw2'
                        go_wp2_with fail
                        refine ⟨⟨i + 1, false, rfl, by go_num, by omega, by simp, HG'', HG7, HR7, HB7⟩, ?_⟩
                        simp [intOf]; omega
                    · have ho : Kp.odd x := hiff.1 rfl
                      have HF : Hid (¬ Kp.properGo C l l.length 0 false) := Lib.hid (by rw [HG.out, if_pos ho]; simp)
                      clear hiff
                      go_wp2_with fail
                      go_ret
                      exact IfPost.mk HB6.out (by rw [HP2.out]; simp [HF.out])
                  · have HF : Hid (¬ Kp.properGo C l l.length 0 false) := Lib.hid (by rw [← HV.out, hgo, if_pos (by simp [h3])]; simp)
                    clear hh h3
                    clear hgo
                    go_quiet (fail)
                    go_wp2_with fail
                    all_goals
                      go_ret
                      exact IfPost.mk (pw_below_drewN HB4.out _) (by rw [HP2.out]; simp [HF.out])
          · obtain rfl : i = l.length := by omega
            have HF : Hid (half = false ↔ Kp.properGo C l l.length 0 false) := Lib.hid (by rw [← HV.out, Nat.sub_self]; rfl)
            clear hw hcast hN hnb hnb2
            cases half
            · go_wp2_with fail
              go_ret
              exact IfPost.mk HB3.out (by rw [HP2.out, ← HF.out]; simp)
            · go_wp2_with fail
              go_ret
              exact IfPost.mk HB3.out (by rw [HP2.out, ← HF.out]; simp)
      · have hnb : ((l.length : Int) != (N : Int)) = true := by simp; omega
        have hnb2 : ((l.length : Int) == (N : Int)) = false := by simp; omega
        go_wp2_with fail
        all_goals
          go_ret
          exact IfPost.mk HB3.out (by rw [HP2.out]; simp [hlen])
end Go.Proofs.YtbjckccgbmimpabGreatDoor
