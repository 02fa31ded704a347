/- Keys appended to keys. -/
import Derived.Test.YtbjckccgbmimpabDoorK13
namespace Go.Proofs.YtbjckccgbmimpabDoor
open Go.RowKit Go.Proofs.YtbjckccgbmimpabDoorW.PrintWords Go.Proofs.YtbjckccgbmimpabDoorW.PrintLast Go.Proofs.YtbjckccgbmimpabDoorW.PrintMore
theorem kcs_append (a b : List Key) : kcs (a ++ b) = kcs a ++ kcs b := by simp [kcs]
theorem kcs_one (ks : List Key) : ∀ u ∈ kcs ks, u.oneCell' = true := by
  intro u hu
  simp only [kcs, List.mem_flatMap, keyVals, List.mem_cons, List.not_mem_nil, or_false] at hu
  obtain ⟨k, _, h⟩ := hu
  rcases h with rfl | rfl | rfl <;> rfl
theorem append_keys {ops : Array Oper} {rest : List Oper} {o : Oper} {a : Act} {Q : Exit → Act → World → Prop} {w0 W : World} (base : Nat) (hgd : o.guard = none) (s x : Operand)
    (ho : o.op = .call { callee := .builtin .append, args := #[s, x], argTypes := #[26, 26] }) (v kv : Value) (ks ks2 : List Key) (hs : a.eval s = v) (hx : a.eval x = kv) {base2 : Nat}
    (HO : W.ownsRow base 30 3 v ks.length (kcs ks)) (HK : W.ownsRow base2 30 3 kv ks2.length (kcs ks2)) (HB : Below base w0 W) (hbase : base ≤ W.heap.size) (hl : ks.length + ks2.length ≤ 1000000000)
    (h : ∀ v1 w1, w1.ownsRow base 30 3 v1 (ks ++ ks2).length (kcs (ks ++ ks2)) → Below base w0 w1 → W.grownBy w1 v.ownBlock → wpList Tryd.prog ops Q rest (a.put o.dst v1) w1) :
    wpList Tryd.prog ops Q (o :: rest) a W := by
  obtain ⟨i0, hi, hz0, hz1, hz2⟩ := info_parts Tryd.info30
  have ht := Tryd.underlying26
  have hrun : ∃ v1 w1, (Builtin.append_ #[26, 26] o.type #[v, kv]).run Tryd.prog W = .ok v1 w1 ∧ w1.ownsRow base 30 3 v1 (ks ++ ks2).length (kcs (ks ++ ks2)) ∧ W.grownBy w1 v.ownBlock := by
    rcases HK.2 with ⟨rfl, h0⟩ | ⟨g, cap, cur, rfl, _, _, _, _⟩
    · obtain rfl : ks2 = [] := List.eq_nil_of_length_eq_zero h0
      refine ⟨v, W, ?_, by simpa using HO, World.grownBy.refl W _⟩
      rcases HO.2 with ⟨rfl, hn⟩ | ⟨g, cap, cur, rfl, _, _, hnc, _⟩
      · simp [Builtin.append_, run_underlying ht, sizeOf, typeInfo, hi, Builtin.lenOf, Builtin.firstCells]
      · simp [Builtin.append_, run_underlying ht, sizeOf, typeInfo, hi, Builtin.lenOf, Builtin.firstCells, hnc, storeCells]
    · obtain ⟨v1, w1, hr, h2, h3, _, _⟩ := run_append_own_at (P := Tryd.prog) W base 26 o.type 30 i0 _ 3 24 ht hi hz0 hz1 hz2 rfl (by omega) v ks.length (kcs ks) HO ⟨g, 0, none⟩ ks2.length cap (kcs ks2) (kcs_length ks2) (HK.cells rfl)
        (kcs_one ks2) (by simp only [maxLen]; omega) (by omega) hbase
      exact ⟨v1, w1, hr, by rw [List.length_append, kcs_append]; exact h2, h3⟩
  obtain ⟨v1, w1, hr, hown, hg⟩ := hrun
  refine wpList_plain hgd fun K hK => ?_
  unfold Oper.wp execOp
  simp only [ho, resolve, invoke, builtin, Sem.run_bind, Sem.run_pure, Result.andThen_ok, List.map_toArray, List.map_cons, List.map_nil, hs, hx, hr]
  exact hK _ _ (h v1 w1 hown (HB.grown hg hbase (own_base HO)) hg)

theorem kcs_get (ks : List Key) : ∀ (i : Nat) (h : i < ks.length), (kcs ks)[i * 3]? = some (.int .i64 ks[i].1) ∧ (kcs ks)[i * 3 + 1]? = some (.int .i32 ks[i].2.1) ∧ (kcs ks)[i * 3 + 2]? = some (.int .i64 ks[i].2.2) := by
  induction ks with
  | nil => intro i h; simp at h
  | cons k r ih =>
    intro i h
    have e : kcs (k :: r) = .int .i64 k.1 :: .int .i32 k.2.1 :: .int .i64 k.2.2 :: kcs r := by simp [kcs, keyVals]
    rw [e]
    cases i with
    | zero => simp
    | succ i =>
      have := ih i (by simpa using h)
      rw [show (i + 1) * 3 = i * 3 + 1 + 1 + 1 by omega]
      simpa only [List.getElem?_cons_succ, List.getElem_cons_succ] using this
/-- A key's three cells. -/
theorem own_key {w : World} {base : Nat} {v : Value} {ks : List Key} (h : w.ownsRow base 30 3 v ks.length (kcs ks)) (i : Nat) (hi : i < ks.length) :
    ∃ g cap, v = .slice (some ⟨g, 0, none⟩) ks.length cap ∧ w.cell? ⟨g, i * 3, none⟩ = some (.int .i64 ks[i].1) ∧ w.cell? ⟨g, i * 3 + 1, none⟩ = some (.int .i32 ks[i].2.1) ∧ w.cell? ⟨g, i * 3 + 2, none⟩ = some (.int .i64 ks[i].2.2) := by
  obtain ⟨g, cap, rfl, _, _⟩ := h.form (by omega)
  have hc : ∀ j u, (kcs ks)[j]? = some u → w.cell? ⟨g, j, none⟩ = some u := fun j u hu => by
    have := h.cells (g := g) rfl j u hu
    rwa [add_plain] at this
  obtain ⟨h1, h2, h3⟩ := kcs_get ks i hi
  exact ⟨g, cap, rfl, hc _ _ h1, hc _ _ h2, hc _ _ h3⟩
theorem own_key_slice {w : World} {base : Nat} {v : Value} {ks : List Key} (h : w.ownsRow base 30 3 v ks.length (kcs ks)) : ∃ A c, v = .slice A ks.length c := own_slice h
end Go.Proofs.YtbjckccgbmimpabDoor
