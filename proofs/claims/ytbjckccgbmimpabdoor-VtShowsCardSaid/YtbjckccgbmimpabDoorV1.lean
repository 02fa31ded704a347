/- The walk of width.Of's table. -/
import Derived.Test.YtbjckccgbmimpabDoorK4
import Derived.Laws.Tables
import Derived.Great.Walk
import Derived.Great.BuildSlice
import Derived.Deep.WholeRow
namespace Go.Proofs.YtbjckccgbmimpabDoor
open Go.Great Go.RowKit Go.Proofs.YtbjckccgbmimpabDoorW.PrintWords Go.Proofs.YtbjckccgbmimpabDoorW.PrintLast Go.Proofs.YtbjckccgbmimpabDoorW.PrintMore
def widCells : Array Value := #[.int .i64 768, .int .i64 879, .int .i64 0, .int .i64 4352, .int .i64 4447, .int .i64 2, .int .i64 8203, .int .i64 8207, .int .i64 0, .int .i64 11904, .int .i64 12350, .int .i64 2, .int .i64 12353, .int .i64 19903, .int .i64 2, .int .i64 19968, .int .i64 42191, .int .i64 2, .int .i64 44032, .int .i64 55203, .int .i64 2, .int .i64 63744, .int .i64 64255, .int .i64 2, .int .i64 65024, .int .i64 65039, .int .i64 0, .int .i64 65072, .int .i64 65135, .int .i64 2, .int .i64 65280, .int .i64 65376, .int .i64 2, .int .i64 65504, .int .i64 65510, .int .i64 2, .int .i64 127744, .int .i64 128591, .int .i64 2, .int .i64 129280, .int .i64 129535, .int .i64 2, .int .i64 131072, .int .i64 262141, .int .i64 2]
def widZero : Array Value := #[.int .i64 0, .int .i64 0, .int .i64 0, .int .i64 0, .int .i64 0, .int .i64 0, .int .i64 0, .int .i64 0, .int .i64 0, .int .i64 0, .int .i64 0, .int .i64 0, .int .i64 0, .int .i64 0, .int .i64 0, .int .i64 0, .int .i64 0, .int .i64 0, .int .i64 0, .int .i64 0, .int .i64 0, .int .i64 0, .int .i64 0, .int .i64 0, .int .i64 0, .int .i64 0, .int .i64 0, .int .i64 0, .int .i64 0, .int .i64 0, .int .i64 0, .int .i64 0, .int .i64 0, .int .i64 0, .int .i64 0, .int .i64 0, .int .i64 0, .int .i64 0, .int .i64 0, .int .i64 0, .int .i64 0, .int .i64 0, .int .i64 0, .int .i64 0, .int .i64 0]
set_option maxRecDepth 100000 in
set_option maxHeartbeats 4000000 in
theorem table_calls (W : World) : Calls Tryd.prog 30 #[] W fun e w' => e = .returned (.agg widCells) ∧ (W.alloc (.cells widCells 74)) = w' := by
  refine calls_of_wp Tryd.func30 rfl ?_
  apply wp_seq_k; intro K hK
  apply wp_region_lit
  refine wpList_allocTo rfl (some 0) rfl (.pointer (some ⟨W.heap.size, 0, none⟩)) (.cells widZero 74) rfl ?_
  apply wpList_nil
  refine hK _ _ ?_
  apply wp_seq_k; intro K2 hK2
  apply wp_region_lit
  refine wpList_buildTo rfl 71 _ rfl (some 1) rfl #[.int .i64 768, .int .i64 879] (by kernel_rfl) ?_
  refine wpList_buildTo rfl 73 _ rfl (some 2) rfl #[.int .i64 768, .int .i64 879, .int .i64 0] (by kernel_rfl) ?_
  refine wpList_buildTo rfl 71 _ rfl (some 3) rfl #[.int .i64 4352, .int .i64 4447] (by kernel_rfl) ?_
  refine wpList_buildTo rfl 73 _ rfl (some 4) rfl #[.int .i64 4352, .int .i64 4447, .int .i64 2] (by kernel_rfl) ?_
  refine wpList_buildTo rfl 71 _ rfl (some 5) rfl #[.int .i64 8203, .int .i64 8207] (by kernel_rfl) ?_
  refine wpList_buildTo rfl 73 _ rfl (some 6) rfl #[.int .i64 8203, .int .i64 8207, .int .i64 0] (by kernel_rfl) ?_
  refine wpList_buildTo rfl 71 _ rfl (some 7) rfl #[.int .i64 11904, .int .i64 12350] (by kernel_rfl) ?_
  refine wpList_buildTo rfl 73 _ rfl (some 8) rfl #[.int .i64 11904, .int .i64 12350, .int .i64 2] (by kernel_rfl) ?_
  refine wpList_buildTo rfl 71 _ rfl (some 9) rfl #[.int .i64 12353, .int .i64 19903] (by kernel_rfl) ?_
  refine wpList_buildTo rfl 73 _ rfl (some 10) rfl #[.int .i64 12353, .int .i64 19903, .int .i64 2] (by kernel_rfl) ?_
  refine wpList_buildTo rfl 71 _ rfl (some 11) rfl #[.int .i64 19968, .int .i64 42191] (by kernel_rfl) ?_
  refine wpList_buildTo rfl 73 _ rfl (some 12) rfl #[.int .i64 19968, .int .i64 42191, .int .i64 2] (by kernel_rfl) ?_
  refine wpList_buildTo rfl 71 _ rfl (some 13) rfl #[.int .i64 44032, .int .i64 55203] (by kernel_rfl) ?_
  refine wpList_buildTo rfl 73 _ rfl (some 14) rfl #[.int .i64 44032, .int .i64 55203, .int .i64 2] (by kernel_rfl) ?_
  refine wpList_buildTo rfl 71 _ rfl (some 15) rfl #[.int .i64 63744, .int .i64 64255] (by kernel_rfl) ?_
  refine wpList_buildTo rfl 73 _ rfl (some 16) rfl #[.int .i64 63744, .int .i64 64255, .int .i64 2] (by kernel_rfl) ?_
  refine wpList_buildTo rfl 71 _ rfl (some 17) rfl #[.int .i64 65024, .int .i64 65039] (by kernel_rfl) ?_
  refine wpList_buildTo rfl 73 _ rfl (some 18) rfl #[.int .i64 65024, .int .i64 65039, .int .i64 0] (by kernel_rfl) ?_
  refine wpList_buildTo rfl 71 _ rfl (some 19) rfl #[.int .i64 65072, .int .i64 65135] (by kernel_rfl) ?_
  refine wpList_buildTo rfl 73 _ rfl (some 20) rfl #[.int .i64 65072, .int .i64 65135, .int .i64 2] (by kernel_rfl) ?_
  refine wpList_buildTo rfl 71 _ rfl (some 21) rfl #[.int .i64 65280, .int .i64 65376] (by kernel_rfl) ?_
  refine wpList_buildTo rfl 73 _ rfl (some 22) rfl #[.int .i64 65280, .int .i64 65376, .int .i64 2] (by kernel_rfl) ?_
  refine wpList_buildTo rfl 71 _ rfl (some 23) rfl #[.int .i64 65504, .int .i64 65510] (by kernel_rfl) ?_
  refine wpList_buildTo rfl 73 _ rfl (some 24) rfl #[.int .i64 65504, .int .i64 65510, .int .i64 2] (by kernel_rfl) ?_
  refine wpList_buildTo rfl 71 _ rfl (some 25) rfl #[.int .i64 127744, .int .i64 128591] (by kernel_rfl) ?_
  refine wpList_buildTo rfl 73 _ rfl (some 26) rfl #[.int .i64 127744, .int .i64 128591, .int .i64 2] (by kernel_rfl) ?_
  refine wpList_buildTo rfl 71 _ rfl (some 27) rfl #[.int .i64 129280, .int .i64 129535] (by kernel_rfl) ?_
  refine wpList_buildTo rfl 73 _ rfl (some 28) rfl #[.int .i64 129280, .int .i64 129535, .int .i64 2] (by kernel_rfl) ?_
  refine wpList_buildTo rfl 71 _ rfl (some 29) rfl #[.int .i64 131072, .int .i64 262141] (by kernel_rfl) ?_
  refine wpList_buildTo rfl 73 _ rfl (some 30) rfl #[.int .i64 131072, .int .i64 262141, .int .i64 2] (by kernel_rfl) ?_
  refine wpList_buildTo rfl 74 _ rfl (some 31) rfl widCells (by kernel_rfl) ?_
  refine wpList_store_row rfl 74 _ _ rfl W.heap.size widCells (by kernel_rfl) (by kernel_rfl) 74 widZero (heap_alloc_last W _) (by kernel_rfl) rfl (by kernel_rfl) ?_
  rw [World.setRow_alloc_new]
  apply wpList_nil
  refine hK2 _ _ ?_
  refine wp_ret ?_
  exact bodyPost_ret (results_cell_row (p := 0) (ty := 74) rfl _ _ W.heap.size 74 widCells (0, 0) (.array 15 73) (by kernel_rfl) (heap_alloc_last W _) (by kernel_rfl) (by kernel_rfl) (by kernel_rfl)) rfl ⟨rfl, rfl⟩

def Kp.widRows : List (Int × Int × Int) := [(768, 879, 0), (4352, 4447, 2), (8203, 8207, 0), (11904, 12350, 2), (12353, 19903, 2), (19968, 42191, 2), (44032, 55203, 2), (63744, 64255, 2), (65024, 65039, 0), (65072, 65135, 2), (65280, 65376, 2), (65504, 65510, 2), (127744, 128591, 2), (129280, 129535, 2), (131072, 262141, 2)]
def Kp.widRow (m : Nat) : Int × Int × Int := Kp.widRows.getD m (0, 0, 0)
/-- The binary search. -/
def Kp.widB : Nat → Nat → Nat → Int → Int
  | 0, _, _, _ => 1
  | f + 1, i, j, c => if i < j then (if c < (Kp.widRow ((i + j) / 2)).1 then Kp.widB f i ((i + j) / 2) c else if (Kp.widRow ((i + j) / 2)).2.1 < c then Kp.widB f ((i + j) / 2 + 1) j c else (Kp.widRow ((i + j) / 2)).2.2) else 1
/-- A rune's width. -/
def Kp.wid (c : Int) : Int := Kp.widB 15 0 15 c
theorem Kp.widCells_at : ∀ m, m < 15 → widCells[m * 3]? = some (.int .i64 (Kp.widRow m).1) ∧ widCells[m * 3 + 1]? = some (.int .i64 (Kp.widRow m).2.1) ∧ widCells[m * 3 + 2]? = some (.int .i64 (Kp.widRow m).2.2)
  | 0, _ => ⟨rfl, rfl, rfl⟩
  | 1, _ => ⟨rfl, rfl, rfl⟩
  | 2, _ => ⟨rfl, rfl, rfl⟩
  | 3, _ => ⟨rfl, rfl, rfl⟩
  | 4, _ => ⟨rfl, rfl, rfl⟩
  | 5, _ => ⟨rfl, rfl, rfl⟩
  | 6, _ => ⟨rfl, rfl, rfl⟩
  | 7, _ => ⟨rfl, rfl, rfl⟩
  | 8, _ => ⟨rfl, rfl, rfl⟩
  | 9, _ => ⟨rfl, rfl, rfl⟩
  | 10, _ => ⟨rfl, rfl, rfl⟩
  | 11, _ => ⟨rfl, rfl, rfl⟩
  | 12, _ => ⟨rfl, rfl, rfl⟩
  | 13, _ => ⟨rfl, rfl, rfl⟩
  | 14, _ => ⟨rfl, rfl, rfl⟩
  | m + 15, h => absurd h (by omega)
set_option maxRecDepth 100000 in
theorem alloc_tab {ops : Array Oper} {rest : List Oper} {o : Oper} {a : Act} {w : World} {Q : Exit → Act → World → Prop} (hg : o.guard = none) (ho : o.op = .alloc 74)
    (h : wpList Tryd.prog ops Q rest (a.put o.dst (.pointer (some ⟨w.heap.size, 0, none⟩))) (w.alloc (.cells widZero 74))) : wpList Tryd.prog ops Q (o :: rest) a w := by
  refine wpList_allocTo hg o.dst rfl _ _ ?_ h
  unfold execOp
  rw [ho]
  rfl
theorem store_tab {ops : Array Oper} {rest : List Oper} {o : Oper} {a : Act} {Q : Exit → Act → World → Prop} (W : World) (hgd : o.guard = none) (x y : Operand) (ho : o.op = .store 74 x y)
    (hx : a.eval x = .pointer (some ⟨W.heap.size, 0, none⟩)) (hy : a.eval y = .agg widCells)
    (h : ∀ W2, W2.heap[W.heap.size]? = some (.cells widCells 74 (0, 0)) → Below W.heap.size W W2 → wpList Tryd.prog ops Q rest (a.put o.dst undef) W2) : wpList Tryd.prog ops Q (o :: rest) a (W.alloc (.cells widZero 74)) := by
  refine wpList_store_row hgd 74 x y ho W.heap.size widCells hx hy 74 widZero (heap_alloc_last W _) (by kernel_rfl) rfl (by kernel_rfl) ?_
  rw [World.setRow_alloc_new]
  exact h _ (heap_alloc_last W _) ((Below.refl _ _).alloc (Nat.le_refl _) _)
attribute [local irreducible] widCells widZero Kp.widRow
def WidPost (W : World) (v : Int) (e : Ending) (w' : World) : Prop := e = .returned (.int .i64 v) ∧ Below W.heap.size W w'
set_option maxRecDepth 100000 in
set_option maxHeartbeats 1000000 in
theorem of_calls (c : Int) (hc : -2147483648 ≤ c ∧ c ≤ 2147483647) (W : World) : Calls Tryd.prog 21 #[.int .i32 c] W (WidPost W (Kp.wid c)) := by
  go_enter Tryd.func21, Tryd.ntmps21
  go_wp2_with fail
  refine (table_calls W).mono ?_
  rintro e w ⟨rfl, rfl⟩
  have HB := Lib.hid (below_alloc (Below.refl W.heap.size W) (.cells widCells 74))
  generalize W.alloc (.cells widCells 74) = W1 at HB ⊢
  go_wp2_with (first
    | ((with_reducible refine gate_ (.alloc 74) rfl ?_); refine alloc_tab rfl rfl ?_)
    | ((with_reducible refine gate_store (t := 74) rfl ?_); refine store_tab W1 rfl _ _ rfl rfl rfl ?_; intro W2 hT hb2; have HT := Lib.hid hT; have HB2 := Lib.hid (below_step HB.out hb2); clear hT hb2))
  generalize hg : W1.heap.size = g at HT ⊢
  clear hg
  go_loopw [4, 5] (fun v4 v5 wr => ∃ (f i j : Nat), v4 = .int .i64 i ∧ v5 = .int .i64 j ∧ i ≤ 15 ∧ j ≤ 15 ∧ j - i ≤ f ∧ Hid (Kp.widB f i j c = Kp.wid c) ∧ Hid (wr.heap[g]? = some (.cells widCells 74 (0, 0))) ∧ Hid (Below W.heap.size W wr)) (fun v4 v5 _ => (intOf v5).toNat - (intOf v4).toNat)
  case atStart => exact ⟨15, 0, 15, rfl, rfl, by omega, by omega, by omega, rfl, HT, HB2⟩
  case round =>
    clear HT HB2
    obtain ⟨f, i, j, rfl, rfl, hi, hj, hf, HV, HT, HB2⟩ := hrel
    by_cases hlt : i < j
    · obtain ⟨f', rfl⟩ : ∃ f', f = f' + 1 := ⟨f - 1, by omega⟩
      obtain ⟨m, hm⟩ : ∃ m, (i + j) / 2 = m := ⟨_, rfl⟩
      have hm0 : i ≤ m ∧ m < j := by omega
      obtain ⟨c1, c2, c3⟩ := Kp.widCells_at m (by omega)
      obtain ⟨⟨x, y, z⟩, hrow⟩ : ∃ r, Kp.widRow m = r := ⟨_, rfl⟩
      rw [hrow] at c1 c2 c3
      have k1 : wr.cell? ⟨g, m * 3, none⟩ = some (.int .i64 x) := (blk_cell HT.out _).trans c1
      have k2 : wr.cell? ⟨g, m * 3 + 1, none⟩ = some (.int .i64 y) := (blk_cell HT.out _).trans c2
      have k3 : wr.cell? ⟨g, m * 3 + 2, none⟩ = some (.int .i64 z) := (blk_cell HT.out _).trans c3
      have key : Kp.wid c = if c < x then Kp.widB f' i m c else if y < c then Kp.widB f' (m + 1) j c else z := by
        rw [← HV.out]
        simp only [Kp.widB, hlt, if_true, hm, hrow]
      have hmi : ((i : Int) + j).tdiv 2 = m := by rw [Int.tdiv_eq_ediv_of_nonneg (by omega)]; omega
      have HK := Lib.hid key
      clear key c1 c2 c3
      go_wp2_with fail
      all_goals first
        | (refine ⟨⟨f', i, m, rfl, rfl, by omega, by omega, by omega, Lib.hid (by rw [HK.out, if_pos (by omega)]), Lib.hid (blk_alloc HT.out _), Lib.hid (below_alloc HB2.out _)⟩, ?_⟩; simp [intOf]; omega)
        | (refine ⟨⟨f', m + 1, j, by go_num, rfl, by omega, by omega, by omega, Lib.hid (by rw [HK.out, if_neg (by omega), if_pos (by omega)]), Lib.hid (blk_alloc HT.out _), Lib.hid (below_alloc HB2.out _)⟩, ?_⟩; simp [intOf]; omega)
        | (go_ret; refine ⟨?_, below_alloc HB2.out _⟩; rw [HK.out, if_neg (by omega), if_neg (by omega)]; rfl)
    · have HK : Hid (Kp.wid c = 1) := Lib.hid (by
        rw [← HV.out]
        cases f <;> simp [Kp.widB, hlt])
      go_wp2_with fail
      go_ret
      exact ⟨by rw [HK.out]; rfl, HB2.out⟩
end Go.Proofs.YtbjckccgbmimpabDoor
