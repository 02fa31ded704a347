/- Map literals of whole numbers, made and asked. -/
import Derived.WalkKit
import Derived.Maps.Own
import Derived.KernelRfl
namespace Go.Proofs.YtbjckccgbmimpabDoor
open Go.RowKit

theorem check_int {P : Program} {k : TypeId} {q : IntKind} (hk : P.underlying k = some (.int q)) (b : Bool) (key : Int) (w : World) :
    (Instr.checkKey b 10000 k (.int q key)).run P w = .ok () w := by
  rw [show (10000 : Nat) = 9999 + 1 from rfl, Instr.checkKey]
  simp [run_underlying hk]

/-- A literal's entries, as the model has them. -/
def ents (q : IntKind) (f : Int → Value) : List (Int × Int) → Nat → List MapEntry
  | [], _ => []
  | (k, v) :: r, n => ⟨.int q k, f v, n⟩ :: ents q f r (n + 1)
/-- What a key has; 0: it isn't there. -/
def tabV : List (Int × Int) → Int → Int
  | [], _ => 0
  | (k, v) :: r, x => if x = k then v else tabV r x
def tabHas : List (Int × Int) → Int → Bool
  | [], _ => false
  | (k, _) :: r, x => if x = k then true else tabHas r x

theorem findNow_ents (q : IntKind) (f : Int → Value) (x : Int) : ∀ (tab : List (Int × Int)) (n i : Nat),
    ∃ r, Instr.findNow (.int q) (.int q x) (ents q f tab n) i = some r ∧ ((tabHas tab x = true ∧ ∃ j, r = some (j, f (tabV tab x))) ∨ (tabHas tab x = false ∧ r = none ∧ tabV tab x = 0))
  | [], n, i => ⟨none, rfl, .inr ⟨rfl, rfl, rfl⟩⟩
  | (k, v) :: t, n, i => by
    by_cases h : x = k
    · subst h
      refine ⟨some (i, f v), ?_, .inl ⟨by simp [tabHas], i, by simp [tabV]⟩⟩
      simp [ents, Instr.findNow, Instr.sameNow]
    · obtain ⟨r, h1, h2⟩ := findNow_ents q f x t (n + 1) (i + 1)
      refine ⟨r, ?_, ?_⟩
      · have hb : (x == k) = false := beq_eq_false_iff_ne.2 h
        simp only [ents, Instr.findNow, Instr.sameNow, if_true, hb]
        exact h1
      · simpa only [tabHas, tabV, if_neg h] using h2

theorem run_lookup_ents {P : Program} {t k e : TypeId} {q : IntKind} (ht : P.underlying t = some (.map k e)) (hk : P.underlying k = some (.int q)) (hz : ∀ w, (zeroValue e).run P w = .ok (.int .i64 0) w)
    {w : World} {r clock : Nat} {es : Array MapEntry} (hb : w.heap[r]? = some (.map es clock)) (tab : List (Int × Int)) (hes : es.toList = ents q (Value.int .i64) tab 0) (x : Int) :
    (Instr.lookup t (.map (some r)) (.int q x) false).run P w = .ok (.int .i64 (tabV tab x)) w := by
  obtain ⟨rr, h1, h2⟩ := findNow_ents q (Value.int .i64) x tab 0 0
  have hf : (Instr.findKey k (.int q x) es.toList).run P w = .ok rr w := by
    simp [Instr.findKey, run_underlying hk, hes, h1]
  rcases h2 with ⟨_, j, rfl⟩ | ⟨_, rfl, h3⟩
  · simp [Instr.lookup, run_underlying ht, MapKept.run_getObj_map hb, check_int hk, hf, Result.andThen]
  · simp [Instr.lookup, run_underlying ht, MapKept.run_getObj_map hb, check_int hk, hf, hz, h3, Result.andThen]

theorem run_insert_new {P : Program} {t k e : TypeId} {q : IntKind} (ht : P.underlying t = some (.map k e)) (hk : P.underlying k = some (.int q))
    (w : World) (es : Array MapEntry) (clock : Nat) (x : Int) (v : Value) (hf : Instr.findNow (.int q) (.int q x) es.toList 0 = some none) :
    (Instr.mapUpdate t (.map (some w.heap.size)) (.int q x) v).run P (w.alloc (.map es clock)) = .ok () (w.alloc (.map (es.push ⟨.int q x, v, clock⟩) (clock + 1))) := by
  have hb : (w.alloc (.map es clock)).heap[w.heap.size]? = some (.map es clock) := by
    show (w.heap.push _)[w.heap.size]? = _
    exact Array.getElem?_push_size
  have hf' : (Instr.findKey k (.int q x) es.toList).run P (w.alloc (.map es clock)) = .ok none (w.alloc (.map es clock)) := by
    simp [Instr.findKey, run_underlying hk, hf]
  simp only [Instr.mapUpdate, Sem.run_bind, run_underlying ht, MapKept.run_getObj_map hb, check_int hk, hf', Result.andThen]
  simp only [setObj, Sem.run]
  rw [hb]
  simp only [World.alloc]
  congr 2
  show (w.heap.push _).setIfInBounds w.heap.size _ = w.heap.push _
  apply Array.ext_getElem?
  intro j
  rw [Array.getElem?_setIfInBounds, Array.getElem?_push, Array.getElem?_push]
  by_cases h : w.heap.size = j
  · subst h
    simp
  · rw [if_neg h, if_neg (fun e => h e.symm), if_neg (fun e => h e.symm)]

theorem gate_insert {P : Program} {w : World} {ops : Array Oper} {rest : List Oper} {o : Oper} {a : Act} {Q : Exit → Act → World → Prop} (t : TypeId) {m kx vx : Operand} (_h : o.op = Op.insert t m kx vx) (h : wpList P ops Q (o :: rest) a w) : wpList P ops Q (o :: rest) a w := h
theorem gate_lookup {P : Program} {w : World} {ops : Array Oper} {rest : List Oper} {o : Oper} {a : Act} {Q : Exit → Act → World → Prop} (t : TypeId) {m kx : Operand} {b : Bool} (_h : o.op = Op.lookup t m kx b) (h : wpList P ops Q (o :: rest) a w) : wpList P ops Q (o :: rest) a w := h
/-- One entry of a literal: the map is the newest block. -/
theorem wpList_insert_new {P : Program} (w : World) {ops : Array Oper} {rest : List Oper} {o : Oper} {a : Act} {Q : Exit → Act → World → Prop}
    (hg : o.guard = none) (t : TypeId) (m kx vx : Operand) (hop : o.op = Op.insert t m kx vx) {k e : TypeId} {q : IntKind} (ht : P.underlying t = some (.map k e)) (hk : P.underlying k = some (.int q))
    (es : Array MapEntry) (clock : Nat) (x : Int) (r : Nat) (hm : a.eval m = .map (some r)) (hr : r = w.heap.size) (hx : a.eval kx = .int q x) (hf : Instr.findNow (.int q) (.int q x) es.toList 0 = some none)
    (h : wpList P ops Q rest (a.put o.dst undef) (w.alloc (.map (es.push ⟨.int q x, a.eval vx, clock⟩) (clock + 1)))) :
    wpList P ops Q (o :: rest) a (w.alloc (.map es clock)) := by
  subst hr
  refine wpList_plain hg fun K hK => ?_
  unfold Oper.wp
  simp only [execOp, hop, hm, hx]
  rw [Sem.run_bind, run_insert_new ht hk w es clock x _ hf]
  exact hK _ _ h

theorem heap_alloc_at {w : World} {o : Obj} {r : Nat} (h : r = w.heap.size) : (w.alloc o).heap[r]? = some o := by
  subst h
  show (w.heap.push _)[w.heap.size]? = _
  exact Array.getElem?_push_size

/-- A literal's entry is asked for. -/
theorem wpList_lookup_ents {P : Program} (w : World) {ops : Array Oper} {rest : List Oper} {o : Oper} {a : Act} {Q : Exit → Act → World → Prop}
    (hg : o.guard = none) (t : TypeId) (m kx : Operand) (hop : o.op = Op.lookup t m kx false) {k e : TypeId} {q : IntKind} (ht : P.underlying t = some (.map k e)) (hk : P.underlying k = some (.int q)) (hz : ∀ w, (zeroValue e).run P w = .ok (.int .i64 0) w)
    {r clock : Nat} {es : Array MapEntry} (hb : w.heap[r]? = some (.map es clock)) (tab : List (Int × Int)) (hes : es.toList = ents q (Value.int .i64) tab 0) (x : Int) (hm : a.eval m = .map (some r)) (hx : a.eval kx = .int q x)
    (h : wpList P ops Q rest (a.put o.dst (.int .i64 (tabV tab x))) w) :
    wpList P ops Q (o :: rest) a w := by
  refine wpList_plain hg fun K hK => ?_
  unfold Oper.wp
  simp only [execOp, hop, hm, hx]
  rw [Sem.run_bind, run_lookup_ents ht hk hz hb tab hes x]
  exact hK _ _ h
end Go.Proofs.YtbjckccgbmimpabDoor
