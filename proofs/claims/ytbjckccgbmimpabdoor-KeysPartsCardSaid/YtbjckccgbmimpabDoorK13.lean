/- The walks of New, and of knows. -/
import Derived.Test.YtbjckccgbmimpabDoorK12
import Derived.Lib.SlBytesConst
namespace Go.Proofs.YtbjckccgbmimpabDoor
open Go.RowKit Go.Proofs.YtbjckccgbmimpabDoorW.PrintWords Go.Proofs.YtbjckccgbmimpabDoorW.PrintLast Go.Proofs.YtbjckccgbmimpabDoorW.PrintMore

theorem new_calls (W : World) : Calls Tryd.prog 5 #[] W fun e W' => e = .returned (.pointer (some ⟨W.heap.size, 0, none⟩)) ∧ W' = W.alloc (.cells #[.slice none 0 0] 51) := by
  go_enter Tryd.func5, Tryd.ntmps5
  go_wp2_with fail
  go_ret
  exact ⟨rfl, rfl⟩
theorem Dec.new (W : World) (base : Nat) (h : base ≤ W.heap.size) : Dec (W.alloc (.cells #[.slice none 0 0] 51)) base W.heap.size (.slice none 0 0) [] :=
  ⟨heap_alloc_new W _, h, own_nil _ _ _ _⟩
theorem feed_nil (W : World) (v : Value) : Calls Tryd.prog 7 #[.pointer none, v] W fun e W' => e = .returned (.slice none 0 0) ∧ W = W' := by
  go_enter Tryd.func7, Tryd.ntmps7
  go_wp2_with fail
  go_ret
  exact ⟨rfl, rfl⟩
theorem knows_keys : Kp.keysOf [27, 91, 49, 59, 53, 67, 27, 120] = ([(9, 0, 4), (1, 120, 2)], []) := by decide +kernel
theorem kcs_cell {w : World} {base gk cap : Nat} {ks : List Key} (h : w.ownsRow base 30 3 (.slice (some ⟨gk, 0, none⟩) ks.length cap) ks.length (kcs ks)) (i : Nat) (hi : i < (kcs ks).length) : w.cell? ⟨gk, i, none⟩ = some ((kcs ks)[i]) := by
  have := h.cells (g := gk) rfl i ((kcs ks)[i]) (List.getElem?_eq_getElem hi)
  rwa [add_plain] at this
theorem RB.lit (W : World) (l : List UInt8) (hl : l.length ≤ 9223372036854775807) {cs : Array Value} (hcs : cs.toList = l.map eb) {r : Nat} (hr : r = W.heap.size) (fr : Nat × Nat) : RB (W.alloc (.cells cs 5 fr)) (some ⟨r, 0, none⟩) l := by
  subst hr
  refine ⟨rfl, hl, fun _ => ⟨_, rfl, fun j hj => ?_⟩⟩
  rw [add_plain, cell_of_row _ _ _ _ _ _ (heap_alloc_new W _), ← Array.getElem?_toList, hcs]
  simp [List.getD_eq_getElem?_getD, List.getElem?_eq_getElem hj]

def KnowsPost (W : World) (e : Ending) (W' : World) : Prop := e = .returned (.bool true) ∧ Below W.heap.size W W'
set_option maxRecDepth 100000 in
set_option maxHeartbeats 2000000 in
theorem knows_calls (m : Int) (W : World) (hm : W.cell? ⟨3, 0, none⟩ = some (.int .i64 m)) : Calls Tryd.prog 6 #[] W (KnowsPost W) := by
  have h3 : 3 < W.heap.size := World.block_lt_of_cell? W _ hm
  have HM := Lib.hid hm
  clear hm
  go_enter Tryd.func6, Tryd.ntmps6
  go_wp2_with fail
  refine (new_calls W).mono ?_
  rintro e w1 ⟨rfl, rfl⟩
  have hd := Dec.new W W.heap.size (Nat.le_refl _)
  have hb1 := below_alloc (Below.refl W.heap.size W) (.cells #[.slice none 0 0] 51)
  have hs1 : (W.alloc (.cells #[.slice none 0 0] 51)).heap.size = W.heap.size + 1 := by simp
  generalize W.alloc (.cells #[.slice none 0 0] 51) = W1 at hd hb1 hs1 ⊢
  have kc : ∀ (C : Array Value) (n c : Nat), (convert 22 22 (.slice (some ⟨W.heap.size + 1, 0, none⟩) n c)).run Tryd.prog (W1.alloc (.cells C 5)) = .ok (.slice (some ⟨W.heap.size + 1, 0, none⟩) n c) (W1.alloc (.cells C 5 (C.size, C.size + 1))) := fun C n c => by
    rw [← hs1]; exact Lib.run_convert_bytes_const W1 22 5 C n c Tryd.underlying22 Tryd.underlying5
  have HD := Lib.hid hd
  have HB1 := Lib.hid hb1
  have HS1 := Lib.hid hs1
  clear hd hb1
  go_wp2_with fail
  have hfeed := feed_calls (W1.alloc (.cells #[.int .u8 27, .int .u8 91, .int .u8 49, .int .u8 59, .int .u8 53, .int .u8 67, .int .u8 27, .int .u8 120] 5 (8, 9))) W.heap.size W.heap.size (.slice none 0 0) [] [27, 91, 49, 59, 53, 67, 27, 120] (some ⟨W.heap.size + 1, 0, none⟩) 8 m
    (HD.out.kept (S := fun _ => False) ((Kept.refl W1 _).alloc _) (fun h => h) (fun _ _ h => h)) (RB.lit W1 _ (by decide) rfl (by rw [HS1.out]) _) (by decide) (by decide) h3 (by simp; omega) (pw_cell_below (below_alloc HB1.out _) HM.out)
  refine hfeed.mono ?_
  rintro e w2 ⟨kv, rfl, hf⟩
  rw [List.nil_append, knows_keys] at hf
  have hbel : Below W.heap.size W w2 := (below_alloc HB1.out _).trans hf.below
  have hkeys := hf.keys
  simp only at hkeys
  obtain ⟨gk, cap, rfl, _, _⟩ := hkeys.form (by decide)
  have c0 : w2.cell? ⟨gk, 0, none⟩ = some (.int .i64 9) := kcs_cell hkeys 0 (by decide)
  have c1 : w2.cell? ⟨gk, 1, none⟩ = some (.int .i32 0) := kcs_cell hkeys 1 (by decide)
  have c2 : w2.cell? ⟨gk, 2, none⟩ = some (.int .i64 4) := kcs_cell hkeys 2 (by decide)
  have c3 : w2.cell? ⟨gk, 3, none⟩ = some (.int .i64 1) := kcs_cell hkeys 3 (by decide)
  have c4 : w2.cell? ⟨gk, 4, none⟩ = some (.int .i32 120) := kcs_cell hkeys 4 (by decide)
  have c5 : w2.cell? ⟨gk, 5, none⟩ = some (.int .i64 2) := kcs_cell hkeys 5 (by decide)
  have kc2 : ∀ (C : Array Value) (n c : Nat), (convert 22 22 (.slice (some ⟨w2.heap.size, 0, none⟩) n c)).run Tryd.prog (w2.alloc (.cells C 5)) = .ok (.slice (some ⟨w2.heap.size, 0, none⟩) n c) (w2.alloc (.cells C 5 (C.size, C.size + 1))) := fun C n c =>
    Lib.run_convert_bytes_const w2 22 5 C n c Tryd.underlying22 Tryd.underlying5
  have HBel := Lib.hid hbel
  clear hbel hkeys hf hfeed kc hs1
  go_wp2_with (go_at_call 7; refine (feed_nil _ _).mono ?_; rintro e w3 ⟨rfl, rfl⟩)
  go_ret
  exact ⟨rfl, below_alloc HBel.out _⟩
end Go.Proofs.YtbjckccgbmimpabDoor
