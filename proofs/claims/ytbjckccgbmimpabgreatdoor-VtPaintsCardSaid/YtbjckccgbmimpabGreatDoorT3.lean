/- What a terminal does with bytes, in plain Lean; bytes in parts do what they do at once. -/
import Derived.Test.YtbjckccgbmimpabGreatDoorK6
import Derived.Test.YtbjckccgbmimpabGreatDoorK11
import Derived.Test.YtbjckccgbmimpabGreatDoorV7
import Derived.Lib.RuneBytes
import Derived.Test.YtbjckccgbmimpabGreatDoorV8
namespace Go.Proofs.YtbjckccgbmimpabGreatDoor
namespace Kp
/-- A terminal. -/
structure Tm where
  R : Nat
  C : Nat
  l : List Cell
  row : Nat
  col : Nat
  st : Nat
def blankL (n : Nat) : List Cell := List.replicate n (32, 0)
/-- Writes a rune. -/
def putL (C : Nat) (l : List Cell) (at_ col n : Nat) (c : Int) (st : Nat) : List Cell :=
  let l1 := if gr l at_ = 0 then l.set (at_ - 1) (32, 0) else l
  let l2 := if col + n < C ∧ gr l1 (at_ + n) = 0 then l1.set (at_ + n) (32, 0) else l1
  let l3 := l2.set at_ (c, (st : Int))
  if n = 2 then l3.set (at_ + 1) (0, (st : Int)) else l3
def put (t : Tm) (c : Int) : Tm :=
  if odd c ∨ (t.C : Int) - t.col < wid c then t else
    { t with l := putL t.C t.l (t.row * t.C + t.col) t.col (wid c).toNat c t.st, col := t.col + (wid c).toNat }
/-- A number of a sequence. -/
def num1 (p : ByteArray) : Int × Bool :=
  if p.toList = [] ∨ Lib.trimS p.data.toList digs ≠ [] then (0, false) else if p.size ≤ 3 then ((numF p.data.toList).1, true) else (999, true)
def numsF (s : ByteArray) : Option (List Int) :=
  if s.toList = [] then some [] else if (pcs s).all (fun p => (num1 p).2) = true then some ((pcs s).map fun p => (num1 p).1) else none
def atF (ns : List Int) (i most : Nat) : Nat := if ns.length ≤ i then 0 else (max 1 (min (ns.getD i 0) most) - 1).toNat
def moveT (t : Tm) (ns : List Int) : Tm := { t with row := atF ns 0 t.R, col := atF ns 1 t.C }
def dress1 (st : Nat) (n : Int) : Nat := if n = 0 then 0 else if n = 7 then st ||| 1 else if n = 4 then st ||| 2 else if n = 1 then st ||| 4 else st
def dressT (t : Tm) (ns : List Int) : Tm := { t with st := (if ns = [] then [0] else ns).foldl dress1 t.st }
def clearT (t : Tm) (ns : List Int) : Tm := if ns = [2] then { t with l := blankL (t.R * t.C) } else t
/-- Does what a sequence tells. -/
def seqT (t : Tm) (args : ByteArray) (e : Int) : Tm := match numsF args with
  | none => t
  | some ns => if e = 72 then moveT t ns else if e = 109 then dressT t ns else if e = 74 then clearT t ns else t
/-- What an escape tells: how many bytes; what they say. -/
def escGo (l : List UInt8) : Nat → Nat → Nat × Option (ByteArray × Int)
  | 0, _ => (0, none)
  | f + 1, i => if 64 ≤ gb l (i + 2) ∧ gb l (i + 2) ≤ 126 then (i + 3, some (⟨((l.drop 2).take i).toArray⟩, gb l (i + 2)))
    else if gb l (i + 2) < 32 ∨ 63 < gb l (i + 2) ∨ 30 ≤ i then (i + 3, none) else escGo l f (i + 1)
def escF (l : List UInt8) : Nat × Option (ByteArray × Int) :=
  if l.length = 1 then (0, none) else if gb l 1 ≠ 91 then (2, none) else escGo l (l.length - 2) 0
def doT (t : Tm) : Option (ByteArray × Int) → Tm
  | none => t
  | some (a, e) => seqT t a e
/-- Reads what bytes begin with. -/
def stepT (t : Tm) (l : List UInt8) : Nat × Tm :=
  if gb l 0 ≠ 27 then
    if gb l 0 < 32 ∨ gb l 0 = 127 then (1, t) else ((firstF l).2.toNat, if 0 < (firstF l).2 then put t (firstF l).1 else t)
  else ((escF l).1, doT t (escF l).2)
def runT : Nat → Tm → List UInt8 → Tm × List UInt8
  | 0, t, l => (t, l)
  | f + 1, t, l => if l.length = 0 ∨ (stepT t l).1 = 0 then (t, l) else runT f (stepT t l).2 (l.drop (stepT t l).1)
/-- Reads bytes: the terminal, and what waits. -/
def run (t : Tm) (l : List UInt8) : Tm × List UInt8 := runT l.length t l

theorem escGo_le (l : List UInt8) : ∀ (f i : Nat), i + f = l.length - 2 → 2 ≤ l.length → (escGo l f i).1 ≤ l.length
  | 0, i, _, _ => by simp [escGo]
  | f + 1, i, h, h2 => by
    have ih := escGo_le l f (i + 1) (by omega) h2
    simp only [escGo]
    split
    · simp; omega
    · split
      · simp; omega
      · exact ih
theorem escF_le (l : List UInt8) (h : 0 < l.length) : (escF l).1 ≤ l.length := by
  unfold escF
  split
  · simp
  · split
    · simp; omega
    · exact escGo_le l _ 0 (by omega) (by omega)
theorem stepT_le (t : Tm) (l : List UInt8) (h : 0 < l.length) : (stepT t l).1 ≤ l.length := by
  unfold stepT
  have h1 := firstF_le l h
  have h2 := escF_le l h
  split
  · split
    · simp; omega
    · simp; omega
  · exact h2
theorem stepT_zero (t : Tm) (l : List UInt8) (h : (stepT t l).1 = 0) : (stepT t l).2 = t := by
  unfold stepT at h ⊢
  split
  · rename_i h1
    rw [if_pos h1] at h
    split
    · rfl
    · rename_i h2
      rw [if_neg h2] at h
      simp only at h ⊢
      rw [if_neg (by omega)]
  · rename_i h1
    rw [if_neg h1] at h
    simp only at h ⊢
    have key : ∀ (f i : Nat), (escGo l f i).1 = 0 → (escGo l f i).2 = none := by
      intro f
      induction f with
      | zero => intro i _; rfl
      | succ f ih =>
        intro i h
        simp only [escGo] at h ⊢
        split
        · rename_i h3; rw [if_pos h3] at h; simp at h
        · rename_i h3
          rw [if_neg h3] at h
          split
          · rfl
          · rename_i h4; rw [if_neg h4] at h; exact ih _ h
    have : (escF l).2 = none := by
      unfold escF at h ⊢
      split
      · rfl
      · rename_i h3
        rw [if_neg h3] at h
        split
        · rfl
        · rename_i h4; rw [if_neg h4] at h; exact key _ _ h
    rw [this]; rfl
theorem escGo_more (l r : List UInt8) (h2 : 2 ≤ l.length) : ∀ (f g i : Nat), i + f = l.length - 2 → f ≤ g → 0 < (escGo l f i).1 → escGo (l ++ r) g i = escGo l f i
  | 0, _, _, _, _, h => by simp [escGo] at h
  | f + 1, g, i, hi, hg, h => by
    obtain ⟨g, rfl⟩ : ∃ g', g = g' + 1 := ⟨g - 1, by omega⟩
    have hb : gb (l ++ r) (i + 2) = gb l (i + 2) := gb_append _ _ _ (by omega)
    have ht : ((l ++ r).drop 2).take i = (l.drop 2).take i := by
      rw [List.drop_append_of_le_length (by omega), List.take_append_of_le_length (by rw [List.length_drop]; omega)]
    simp only [escGo] at h ⊢
    rw [hb, ht]
    split
    · rfl
    · rename_i h3
      rw [if_neg h3] at h
      split
      · rfl
      · rename_i h4
        rw [if_neg h4] at h
        exact escGo_more l r h2 f g (i + 1) (by omega) (by omega) h
theorem escF_more (l r : List UInt8) (hl : 0 < l.length) (h : 0 < (escF l).1) : escF (l ++ r) = escF l := by
  unfold escF at h ⊢
  by_cases h1 : l.length = 1
  · rw [if_pos h1] at h; simp at h
  · rw [if_neg h1] at h ⊢
    rw [if_neg (by rw [List.length_append]; omega), gb_append _ _ _ (by omega)]
    by_cases h2 : gb l 1 ≠ 91
    · rw [if_pos h2, if_pos h2]
    · rw [if_neg h2] at h ⊢
      rw [if_neg h2]
      exact escGo_more l r (by omega) _ _ 0 (by omega) (by rw [List.length_append]; omega) h
theorem stepT_more (t : Tm) (l r : List UInt8) (hl : 0 < l.length) (h : 0 < (stepT t l).1) : stepT t (l ++ r) = stepT t l := by
  unfold stepT at h ⊢
  rw [gb_append _ _ _ hl]
  by_cases h1 : gb l 0 ≠ 27
  · rw [if_pos h1] at h
    rw [if_pos h1, if_pos h1]
    by_cases h2 : gb l 0 < 32 ∨ gb l 0 = 127
    · rw [if_pos h2, if_pos h2]
    · rw [if_neg h2] at h
      rw [if_neg h2, if_neg h2, firstF_more l r (by simp only at h; omega)]
  · rw [if_neg h1] at h
    rw [if_neg h1, if_neg h1, escF_more l r hl h]
theorem runT_fuel : ∀ (f f' : Nat) (t : Tm) (l : List UInt8), l.length ≤ f → l.length ≤ f' → runT f t l = runT f' t l
  | 0, f', t, l, h, _ => by
    obtain rfl : l = [] := List.eq_nil_of_length_eq_zero (by omega)
    cases f' with
    | zero => rfl
    | succ f' => simp [runT]
  | f + 1, 0, t, l, _, h => by
    obtain rfl : l = [] := List.eq_nil_of_length_eq_zero (by omega)
    simp [runT]
  | f + 1, f' + 1, t, l, h, h' => by
    simp only [runT]
    split
    · rfl
    · rename_i h0
      exact runT_fuel f f' _ _ (by rw [List.length_drop]; omega) (by rw [List.length_drop]; omega)
theorem run_stop (t : Tm) (l : List UInt8) (h : l.length = 0 ∨ (stepT t l).1 = 0) : run t l = (t, l) := by
  unfold run
  cases hl : l.length with
  | zero => rfl
  | succ n => rw [runT, if_pos h]
theorem run_step (t : Tm) (l : List UInt8) (h0 : 0 < l.length) (h : (stepT t l).1 ≠ 0) : run t l = run (stepT t l).2 (l.drop (stepT t l).1) := by
  unfold run
  obtain ⟨n, hn⟩ : ∃ n, l.length = n + 1 := ⟨l.length - 1, by omega⟩
  rw [hn, runT, if_neg (by omega)]
  exact runT_fuel _ _ _ _ (by rw [List.length_drop]; omega) (by rw [List.length_drop]; omega)
theorem run_append : ∀ (n : Nat) (t : Tm) (x y : List UInt8), x.length ≤ n → run t (x ++ y) = run (run t x).1 ((run t x).2 ++ y)
  | n, t, x, y, hn => by
    by_cases hs : x.length = 0 ∨ (stepT t x).1 = 0
    · rw [run_stop t x hs]
    · have h0 : 0 < x.length := by omega
      have h1 : 0 < (stepT t x).1 := by omega
      have hm := stepT_more t x y h0 h1
      have hle := stepT_le t x h0
      cases n with
      | zero => omega
      | succ n =>
        rw [run_step t x h0 (by omega), run_step t (x ++ y) (by rw [List.length_append]; omega) (by rw [hm]; omega), hm, List.drop_append_of_le_length hle]
        exact run_append n _ _ y (by rw [List.length_drop]; omega)
theorem run_rest_le (t : Tm) (x : List UInt8) : ∀ n, x.length ≤ n → (run t x).2.length ≤ x.length := by
  intro n
  induction n generalizing t x with
  | zero =>
    intro h
    rw [run_stop t x (.inl (by omega))]
    exact Nat.le_refl _
  | succ n ih =>
    intro h
    by_cases hs : x.length = 0 ∨ (stepT t x).1 = 0
    · rw [run_stop t x hs]; exact Nat.le_refl _
    · rw [run_step t x (by omega) (by omega)]
      have := ih (stepT t x).2 (x.drop (stepT t x).1) (by rw [List.length_drop]; omega)
      rw [List.length_drop] at this
      omega
/-- Bytes that are whole. -/
theorem run_whole (t t' : Tm) (x y : List UInt8) (hx : 0 < x.length) (h : stepT t x = (x.length, t')) : run t (x ++ y) = run t' y := by
  have hm := stepT_more t x y hx (by rw [h]; exact hx)
  rw [run_step t (x ++ y) (by rw [List.length_append]; omega) (by rw [hm, h]; show x.length ≠ 0; omega), hm, h]
  simp
end Kp
end Go.Proofs.YtbjckccgbmimpabGreatDoor

/- Plain laws of a terminal: what a proper grid is, cell by cell; what a terminal keeps, whatever it reads. -/
namespace Go.Proofs.YtbjckccgbmimpabGreatDoor
namespace Kp
/-- A cell of a proper grid. -/
def Pt (C : Nat) (l : List Cell) (i : Nat) : Prop :=
  (0 ≤ gs l i ∧ gs l i < 8) ∧ (gr l i = 0 → i % C ≠ 0 ∧ gr l (i - 1) ≠ 0 ∧ wid (gr l (i - 1)) = 2 ∧ gs l (i - 1) = gs l i) ∧ (gr l i ≠ 0 → ¬ odd (gr l i) ∧ (wid (gr l i) = 2 → i % C ≠ C - 1 ∧ gr l (i + 1) = 0))
def hf (l : List Cell) (i : Nat) : Bool := decide (0 < i ∧ gr l (i - 1) ≠ 0 ∧ wid (gr l (i - 1)) = 2)
theorem okAt_next {C : Nat} {l : List Cell} {i : Nat} {b : Bool} (h : okAt C l i (hf l i) = some b) : b = hf l (i + 1) := by
  unfold okAt at h
  split at h
  · cases h
  · rename_i h1
    have h2 : hf l i = true ↔ gr l i = 0 := Decidable.not_not.1 (fun h3 => h1 (.inr (.inr (.inl h3))))
    by_cases hh : hf l i = true
    · rw [if_pos hh] at h
      injection h with h
      subst h
      have := h2.1 hh
      simp [hf, this]
    · rw [if_neg hh] at h
      split at h
      · cases h
      · injection h with h
        subst h
        have : ¬ gr l i = 0 := fun e => hh (h2.2 e)
        simp [hf, this]
theorem properGo_iff (C : Nat) (l : List Cell) : ∀ (n i : Nat), n + i = l.length → (properGo C l n i (hf l i) ↔ (∀ j, i ≤ j → j < l.length → okAt C l j (hf l j) ≠ none) ∧ hf l l.length = false)
  | 0, i, h => by
    obtain rfl : i = l.length := by omega
    simp only [properGo]
    exact ⟨fun h => ⟨fun j _ _ => by omega, h⟩, fun h => h.2⟩
  | n + 1, i, h => by
    have ih := properGo_iff C l n (i + 1) (by omega)
    simp only [properGo]
    cases he : okAt C l i (hf l i) with
    | none => exact ⟨fun h => h.elim, fun h2 => h2.1 i (Nat.le_refl _) (by omega) he⟩
    | some b =>
      have := okAt_next he
      subst this
      simp only
      rw [ih]
      exact ⟨fun h2 => ⟨fun j h3 h4 => by
        by_cases hj : j = i
        · subst hj; rw [he]; simp
        · exact h2.1 j (by omega) h4, h2.2⟩, fun h2 => ⟨fun j h3 h4 => h2.1 j (by omega) h4, h2.2⟩⟩
theorem hf_zero (l : List Cell) : hf l 0 = false := by simp [hf]
theorem okAt_some {C : Nat} {l : List Cell} {i : Nat} {h : Bool} : okAt C l i h ≠ none ↔ (0 ≤ gs l i ∧ gs l i < 8) ∧ (h = true ↔ gr l i = 0) ∧ (h = true → i % C ≠ 0 ∧ gs l i = gs l (i - 1)) ∧ (h = false → ¬ odd (gr l i)) := by
  unfold okAt
  by_cases h1 : gs l i < 0 ∨ 8 ≤ gs l i
  · rw [if_pos (by rcases h1 with h1 | h1 <;> simp [h1])]
    simp
    intro a b; omega
  · by_cases h2 : h = true ↔ gr l i = 0
    · by_cases h3 : h = true ∧ (i % C = 0 ∨ gs l i ≠ gs l (i - 1))
      · rw [if_pos (.inr (.inr (.inr h3)))]
        simp only [ne_eq, not_true_eq_false, false_iff]
        rintro ⟨_, _, h4, _⟩
        obtain ⟨a, b⟩ := h4 h3.1
        rcases h3.2 with h5 | h5
        · exact a h5
        · exact h5 b
      · rw [if_neg (by rintro (a | a | a | a); exact h1 (.inl a); exact h1 (.inr a); exact a h2; exact h3 a)]
        cases h
        · rw [if_neg (show ¬ (false = true) by decide)]
          by_cases h4 : odd (gr l i)
          · rw [if_pos h4]
            exact ⟨fun e => absurd rfl e, fun e => absurd h4 (e.2.2.2 rfl)⟩
          · rw [if_neg h4]
            exact ⟨fun _ => ⟨by omega, h2, (fun h => by cases h), fun _ => h4⟩, fun _ => by simp⟩
        · rw [if_pos rfl]
          refine ⟨fun _ => ⟨by omega, h2, fun _ => ⟨fun e => h3 ⟨rfl, .inl e⟩, ?_⟩, (fun h => by cases h)⟩, fun _ => by simp⟩
          by_cases e : gs l i = gs l (i - 1)
          · exact e
          · exact absurd ⟨rfl, .inr e⟩ h3
    · rw [if_pos (.inr (.inr (.inl h2)))]
      simp only [ne_eq, not_true_eq_false, false_iff]
      rintro ⟨_, h4, _⟩
      exact h2 h4
theorem last_mod {R C : Nat} (hR : 1 ≤ R) (hC : 1 ≤ C) : (R * C - 1) % C = C - 1 := by
  obtain ⟨R, rfl⟩ : ∃ r, R = r + 1 := ⟨R - 1, by omega⟩
  rw [Nat.add_mul, Nat.one_mul, show R * C + C - 1 = C * R + (C - 1) by rw [Nat.mul_comm]; omega, Nat.mul_add_mod]
  exact Nat.mod_eq_of_lt (by omega)
theorem mod_succ_ne {i C : Nat} (hC : 1 ≤ C) (h : (i + 1) % C ≠ 0) : i % C ≠ C - 1 := fun e => h (by
  rw [Nat.add_mod, e]
  by_cases h1 : C = 1
  · subst h1; exact Nat.mod_one _
  · rw [Nat.mod_eq_of_lt (show 1 < C by omega), show C - 1 + 1 = C by omega, Nat.mod_self])
theorem mod_succ_ne' {i C : Nat} (hC : 1 ≤ C) (h : i % C ≠ C - 1) : (i + 1) % C ≠ 0 := fun e => by
  have h1 := Nat.mod_lt i (show C > 0 by omega)
  rw [Nat.add_mod] at e
  by_cases h2 : C = 1
  · subst h2; omega
  · rw [Nat.mod_eq_of_lt (show 1 < C by omega), Nat.mod_eq_of_lt (show i % C + 1 < C by omega)] at e
    omega
/-- Proper, cell by cell. -/
theorem proper_iff {R C : Nat} {l : List Cell} (hR : 1 ≤ R) (hC : 1 ≤ C) (hl : l.length = R * C) : properGo C l l.length 0 false ↔ ∀ i, i < l.length → Pt C l i := by
  have h0 := properGo_iff C l l.length 0 (by omega)
  rw [hf_zero] at h0
  rw [h0]
  constructor
  · rintro ⟨h1, h2⟩ i hi
    obtain ⟨a, b, c, d⟩ := okAt_some.1 (h1 i (by omega) hi)
    refine ⟨a, fun e => ?_, fun e => ?_⟩
    · have hh := b.2 e
      obtain ⟨c1, c2⟩ := c hh
      simp only [hf, decide_eq_true_eq] at hh
      exact ⟨c1, hh.2.1, hh.2.2, c2.symm⟩
    · have hh : hf l i = false := by
        cases h : hf l i with
        | false => rfl
        | true => exact absurd (b.1 h) e
      refine ⟨d hh, fun hw => ?_⟩
      have hn : hf l (i + 1) = true := by simp [hf, e, hw]
      by_cases hlast : i + 1 = l.length
      · rw [hlast, h2] at hn; cases hn
      · obtain ⟨_, b', c', _⟩ := okAt_some.1 (h1 (i + 1) (by omega) (by omega))
        exact ⟨mod_succ_ne hC (c' hn).1, b'.1 hn⟩
  · intro h
    refine ⟨fun j _ hj => okAt_some.2 ?_, ?_⟩
    · obtain ⟨a, b, c⟩ := h j hj
      have hb : hf l j = true ↔ gr l j = 0 := by
        constructor
        · intro hh
          simp only [hf, decide_eq_true_eq] at hh
          obtain ⟨h1, h2, h3⟩ := hh
          have := ((h (j - 1) (by omega)).2.2 h2).2 h3
          rw [show j - 1 + 1 = j by omega] at this
          exact this.2
        · intro e
          obtain ⟨b1, b2, b3, _⟩ := b e
          have : 0 < j := by
            rcases Nat.eq_zero_or_pos j with h0 | h0
            · subst h0; simp at b1
            · exact h0
          simp [hf, this, b2, b3]
      refine ⟨a, hb, fun hh => ?_, fun hh => ?_⟩
      · obtain ⟨b1, _, _, b4⟩ := b (hb.1 hh)
        exact ⟨b1, b4.symm⟩
      · exact (c (fun e => by rw [hb.2 e] at hh; cases hh)).1
    · cases hh : hf l l.length with
      | false => rfl
      | true =>
        simp only [hf, decide_eq_true_eq] at hh
        obtain ⟨h1, h2, h3⟩ := hh
        have := (((h (l.length - 1) (by omega)).2.2 h2).2 h3).1
        rw [hl, last_mod hR hC] at this
        exact absurd rfl this

theorem gr_set (l : List Cell) (k i : Nat) (c : Cell) (h : k < l.length) : gr (l.set k c) i = if k = i then c.1 else gr l i := by
  unfold gr
  rw [List.getD_eq_getElem?_getD, List.getElem?_set]
  by_cases e : k = i
  · subst e; simp [h]
  · simp [e]
theorem gs_set (l : List Cell) (k i : Nat) (c : Cell) (h : k < l.length) : gs (l.set k c) i = if k = i then c.2 else gs l i := by
  unfold gs
  rw [List.getD_eq_getElem?_getD, List.getElem?_set]
  by_cases e : k = i
  · subst e; simp [h]
  · simp [e]
theorem gr_blank (n i : Nat) (h : i < n) : gr (blankL n) i = 32 := by
  unfold gr blankL
  rw [List.getD_eq_getElem?_getD, List.getElem?_replicate, if_pos h]; rfl
theorem gs_blank (n i : Nat) : gs (blankL n) i = 0 := by
  unfold gs blankL
  rw [List.getD_eq_getElem?_getD, List.getElem?_replicate]
  split <;> rfl
theorem widB_range : ∀ (f i j : Nat) (c : Int), 0 ≤ widB f i j c ∧ widB f i j c ≤ 2
  | 0, _, _, _ => by simp [widB]
  | f + 1, i, j, c => by
    have h1 := widB_range f
    have h2 : ∀ m, 0 ≤ (widRow m).2.2 ∧ (widRow m).2.2 ≤ 2 := by
      intro m
      by_cases hm : m < 15
      · have : ∀ m, m < 15 → 0 ≤ (widRow m).2.2 ∧ (widRow m).2.2 ≤ 2 := by decide
        exact this m hm
      · simp [widRow, List.getD_eq_getElem?_getD, List.getElem?_eq_none (show widRows.length ≤ m by simp [widRows]; omega)]
    simp only [widB]
    split
    · split
      · exact h1 _ _ _
      · split
        · exact h1 _ _ _
        · exact h2 _
    · simp
theorem wid_range (c : Int) : 0 ≤ wid c ∧ wid c ≤ 2 := widB_range _ _ _ _
theorem not_odd {c : Int} (h : ¬ odd c) : right c ∧ 32 ≤ c ∧ (c < 127 ∨ 160 ≤ c) ∧ (wid c = 1 ∨ wid c = 2) := by
  unfold odd at h
  have := wid_range c
  have a : ¬ c < 32 := fun e => h (.inr (.inl e))
  have b : ¬ (127 ≤ c ∧ c < 160) := fun e => h (.inr (.inr (.inl e)))
  have d : ¬ wid c < 1 := fun e => h (.inr (.inr (.inr e)))
  exact ⟨Decidable.not_not.1 (fun e => h (.inl e)), by omega, by omega, by omega⟩

/-- What a terminal keeps. -/
structure Tm.OK (t : Tm) : Prop where
  R1 : 1 ≤ t.R ∧ t.R ≤ 60
  C1 : 1 ≤ t.C ∧ t.C ≤ 60
  len : t.l.length = t.R * t.C
  row : t.row < t.R
  col : t.col ≤ t.C
  st : t.st < 8
  wf : wf t.l
  zero : ∀ r, r < t.R → gr t.l (r * t.C) ≠ 0
theorem at_lt {R C r k : Nat} (hr : r < R) (hk : k < C) : r * C + k < R * C := by
  have : (r + 1) * C ≤ R * C := Nat.mul_le_mul_right C hr
  rw [Nat.add_mul, Nat.one_mul] at this
  omega
theorem mul_ne {C r r' k : Nat} (hk : k < C) (h0 : 0 < k) : r' * C ≠ r * C + k := fun e => by
  have h1 : (r' * C) % C = 0 := Nat.mul_mod_left _ _
  rw [e, Nat.mul_comm, Nat.mul_add_mod, Nat.mod_eq_of_lt hk] at h1
  omega
/-- The cells behind a put. -/
theorem putL_get {R C : Nat} {l : List Cell} {row col n : Nat} {c : Int} {st : Nat} (hl : l.length = R * C) (hr : row < R) (hn : n = 1 ∨ n = 2) (hc : col + n ≤ C) (h0 : gr l (row * C + col) = 0 → 0 < col) (i : Nat) :
    (putL C l (row * C + col) col n c st).length = l.length ∧
    ((i = row * C + col ∧ gr (putL C l (row * C + col) col n c st) i = c ∧ gs (putL C l (row * C + col) col n c st) i = st)
    ∨ (n = 2 ∧ i = row * C + col + 1 ∧ gr (putL C l (row * C + col) col n c st) i = 0 ∧ gs (putL C l (row * C + col) col n c st) i = st)
    ∨ (i + 1 = row * C + col ∧ gr l (row * C + col) = 0 ∧ gr (putL C l (row * C + col) col n c st) i = 32 ∧ gs (putL C l (row * C + col) col n c st) i = 0)
    ∨ (i = row * C + col + n ∧ col + n < C ∧ gr l (row * C + col + n) = 0 ∧ gr (putL C l (row * C + col) col n c st) i = 32 ∧ gs (putL C l (row * C + col) col n c st) i = 0)
    ∨ (i ≠ row * C + col ∧ (n = 2 → i ≠ row * C + col + 1) ∧ (gr l (row * C + col) = 0 → i + 1 ≠ row * C + col) ∧ (col + n < C → gr l (row * C + col + n) = 0 → i ≠ row * C + col + n)
      ∧ gr (putL C l (row * C + col) col n c st) i = gr l i ∧ gs (putL C l (row * C + col) col n c st) i = gs l i)) := by
  have hlt := at_lt hr (show col < C by omega)
  have hlt2 : n = 2 → row * C + col + 1 < R * C := fun e => by
    have := at_lt hr (show col + 1 < C by omega); omega
  have hlt3 : col + n < C → row * C + col + n < R * C := fun e => by
    have := at_lt hr e; omega
  have hca : col ≤ row * C + col := by omega
  generalize row * C + col = a at *
  obtain ⟨l1, hl1⟩ : ∃ l1, (if gr l a = 0 then l.set (a - 1) (32, 0) else l) = l1 := ⟨_, rfl⟩
  have len1 : l1.length = l.length := by rw [← hl1]; split <;> simp
  have g1 : ∀ i, (i + 1 = a ∧ gr l a = 0 ∧ gr l1 i = 32 ∧ gs l1 i = 0) ∨ ((gr l a = 0 → i + 1 ≠ a) ∧ gr l1 i = gr l i ∧ gs l1 i = gs l i) := by
    intro i
    by_cases e : gr l a = 0
    · rw [if_pos e] at hl1
      have ha : 0 < a := by
        rcases Nat.eq_zero_or_pos a with h | h
        · have := h0 e; have h2 : col = 0 ∨ 0 < col := by omega
          omega
        · exact h
      subst hl1
      rw [gr_set _ _ _ _ (by omega), gs_set _ _ _ _ (by omega)]
      by_cases e2 : a - 1 = i
      · exact .inl ⟨by omega, e, by rw [if_pos e2], by rw [if_pos e2]⟩
      · exact .inr ⟨fun _ => by omega, by rw [if_neg e2], by rw [if_neg e2]⟩
    · rw [if_neg e] at hl1
      subst hl1
      exact .inr ⟨fun h => absurd h e, rfl, rfl⟩
  have gn : gr l1 (a + n) = gr l (a + n) := by
    rcases g1 (a + n) with h | h
    · omega
    · exact h.2.1
  obtain ⟨l2, hl2⟩ : ∃ l2, (if col + n < C ∧ gr l1 (a + n) = 0 then l1.set (a + n) (32, 0) else l1) = l2 := ⟨_, rfl⟩
  have len2 : l2.length = l.length := by rw [← hl2]; split <;> simp [len1]
  have g2 : ∀ i, (i = a + n ∧ col + n < C ∧ gr l (a + n) = 0 ∧ gr l2 i = 32 ∧ gs l2 i = 0) ∨ ((col + n < C → gr l (a + n) = 0 → i ≠ a + n) ∧ gr l2 i = gr l1 i ∧ gs l2 i = gs l1 i) := by
    intro i
    rw [gn] at hl2
    by_cases e : col + n < C ∧ gr l (a + n) = 0
    · rw [if_pos e] at hl2
      have := hlt3 e.1
      subst hl2
      rw [gr_set _ _ _ _ (by omega), gs_set _ _ _ _ (by omega)]
      by_cases e2 : a + n = i
      · exact .inl ⟨by omega, e.1, e.2, by rw [if_pos e2], by rw [if_pos e2]⟩
      · exact .inr ⟨fun _ _ => by omega, by rw [if_neg e2], by rw [if_neg e2]⟩
    · rw [if_neg e] at hl2
      subst hl2
      exact .inr ⟨fun h1 h2 => absurd ⟨h1, h2⟩ e, rfl, rfl⟩
  have hput : putL C l a col n c st = if n = 2 then (l2.set a (c, (st : Int))).set (a + 1) (0, (st : Int)) else l2.set a (c, (st : Int)) := by
    simp only [putL]
    rw [hl1, hl2]
  have len3 : (putL C l a col n c st).length = l.length := by rw [hput]; split <;> simp [len2]
  have g3 : (i = a ∧ gr (putL C l a col n c st) i = c ∧ gs (putL C l a col n c st) i = st) ∨ (n = 2 ∧ i = a + 1 ∧ gr (putL C l a col n c st) i = 0 ∧ gs (putL C l a col n c st) i = st)
      ∨ (i ≠ a ∧ (n = 2 → i ≠ a + 1) ∧ gr (putL C l a col n c st) i = gr l2 i ∧ gs (putL C l a col n c st) i = gs l2 i) := by
    rw [hput]
    by_cases e : n = 2
    · have := hlt2 e
      rw [if_pos e, gr_set _ _ _ _ (by simp; omega), gs_set _ _ _ _ (by simp; omega), gr_set _ _ _ _ (by omega), gs_set _ _ _ _ (by omega)]
      by_cases e1 : a + 1 = i
      · exact .inr (.inl ⟨e, by omega, by rw [if_pos e1], by rw [if_pos e1]⟩)
      · rw [if_neg e1, if_neg e1]
        by_cases e2 : a = i
        · exact .inl ⟨by omega, by rw [if_pos e2], by rw [if_pos e2]⟩
        · exact .inr (.inr ⟨by omega, fun _ => by omega, by rw [if_neg e2], by rw [if_neg e2]⟩)
    · rw [if_neg e, gr_set _ _ _ _ (by omega), gs_set _ _ _ _ (by omega)]
      by_cases e2 : a = i
      · exact .inl ⟨by omega, by rw [if_pos e2], by rw [if_pos e2]⟩
      · exact .inr (.inr ⟨by omega, fun h => absurd h e, by rw [if_neg e2], by rw [if_neg e2]⟩)
  refine ⟨len3, ?_⟩
  rcases g3 with h | h | ⟨h1, h2, h3, h4⟩
  · exact .inl h
  · exact .inr (.inl h)
  · rcases g2 i with ⟨h5, h6, h7, h8, h9⟩ | ⟨h5, h6, h7⟩
    · exact .inr (.inr (.inr (.inl ⟨h5, h6, h7, h3.trans h8, h4.trans h9⟩)))
    · rcases g1 i with ⟨k1, k2, k3, k4⟩ | ⟨k1, k2, k3⟩
      · exact .inr (.inr (.inl ⟨k1, k2, h3.trans (h6.trans k3), h4.trans (h7.trans k4)⟩))
      · exact .inr (.inr (.inr (.inr ⟨h1, h2, k1, h5, h3.trans (h6.trans k2), h4.trans (h7.trans k3)⟩)))
theorem Tm.OK.zero0 {t : Tm} (h : t.OK) : gr t.l (t.row * t.C + t.col) = 0 → 0 < t.col := fun e => by
  rcases Nat.eq_zero_or_pos t.col with h0 | h0
  · rw [h0, Nat.add_zero] at e
    exact absurd e (h.zero _ h.row)
  · exact h0
theorem put_ok {t : Tm} (h : t.OK) (c : Int) : (put t c).OK := by
  unfold put
  split
  · exact h
  · rename_i hc
    have ho : ¬ odd c := fun e => hc (.inl e)
    obtain ⟨hr, h32, _, hw⟩ := not_odd ho
    have hfit : ¬ (t.C : Int) - t.col < wid c := fun e => hc (.inr e)
    obtain ⟨n, hn⟩ : ∃ n, (wid c).toNat = n := ⟨_, rfl⟩
    have hcol := h.col
    have hst := h.st
    have hn2 : n = 1 ∨ n = 2 := by omega
    have hfit2 : t.col + n ≤ t.C := by omega
    have key := fun i => putL_get (R := t.R) (C := t.C) (l := t.l) (c := c) (st := t.st) h.len h.row hn2 hfit2 h.zero0 i
    rw [hn]
    refine ⟨h.R1, h.C1, (key 0).1.trans h.len, h.row, hfit2, hst, fun i => ?_, fun r hr' => ?_⟩
    · have hw := h.wf i
      unfold right at hr
      simp only
      rcases (key i).2 with ⟨_, a, b⟩ | ⟨_, _, a, b⟩ | ⟨_, _, a, b⟩ | ⟨_, _, _, a, b⟩ | ⟨_, _, _, _, a, b⟩
      all_goals rw [a, b]
      all_goals first | exact hw | omega
    · simp only
      rcases (key (r * t.C)).2 with ⟨_, a, b⟩ | ⟨h2, h3, a, b⟩ | ⟨_, _, a, b⟩ | ⟨_, _, _, a, b⟩ | ⟨_, _, _, _, a, b⟩
      · rw [a]; omega
      · exact absurd h3 (by rw [Nat.add_assoc]; exact mul_ne (by omega) (by omega))
      · rw [a]; decide
      · rw [a]; decide
      · rw [a]; exact h.zero r hr'
theorem atF_lt (ns : List Int) (i most : Nat) (h : 1 ≤ most) : atF ns i most < most := by
  unfold atF
  split
  · omega
  · omega
theorem dress1_lt (st : Nat) (n : Int) (h : st < 8) : dress1 st n < 8 := by
  unfold dress1
  have : ∀ b, b < 8 → st ||| b < 8 := fun b hb => Nat.or_lt_two_pow (n := 3) h hb
  split
  · omega
  · split
    · exact this 1 (by omega)
    · split
      · exact this 2 (by omega)
      · split
        · exact this 4 (by omega)
        · exact h
theorem dressAll_lt (ns : List Int) : ∀ st, st < 8 → ns.foldl dress1 st < 8 := by
  induction ns with
  | nil => intro st h; exact h
  | cons a r ih => intro st h; exact ih _ (dress1_lt st a h)
theorem blank_ok {R C row col st : Nat} (hR : 1 ≤ R ∧ R ≤ 60) (hC : 1 ≤ C ∧ C ≤ 60) (hr : row < R) (hc : col ≤ C) (hs : st < 8) : Tm.OK ⟨R, C, blankL (R * C), row, col, st⟩ := by
  refine ⟨hR, hC, by simp [blankL], hr, hc, hs, fun i => ?_, fun r hr' => ?_⟩
  · simp only
    rw [gs_blank]
    by_cases hi : i < R * C
    · rw [gr_blank _ _ hi]; omega
    · have : gr (blankL (R * C)) i = 0 := by
        unfold gr blankL
        rw [List.getD_eq_getElem?_getD, List.getElem?_replicate, if_neg hi]; rfl
      rw [this]; omega
  · simp only at hr' ⊢
    rw [gr_blank _ _ (by have := at_lt hr' (show 0 < C by omega); omega)]
    decide
theorem seqT_ok {t : Tm} (h : t.OK) (a : ByteArray) (e : Int) : (seqT t a e).OK := by
  unfold seqT
  split
  · exact h
  · rename_i ns _
    split
    · exact ⟨h.R1, h.C1, h.len, atF_lt _ _ _ h.R1.1, Nat.le_of_lt (atF_lt _ _ _ h.C1.1), h.st, h.wf, h.zero⟩
    · split
      · exact ⟨h.R1, h.C1, h.len, h.row, h.col, dressAll_lt _ _ h.st, h.wf, h.zero⟩
      · split
        · unfold clearT
          split
          · exact blank_ok h.R1 h.C1 h.row h.col h.st
          · exact h
        · exact h
theorem stepT_ok {t : Tm} (h : t.OK) (l : List UInt8) : (stepT t l).2.OK := by
  unfold stepT
  split
  · split
    · exact h
    · simp only
      split
      · exact put_ok h _
      · exact h
  · simp only
    cases (escF l).2 with
    | none => exact h
    | some x => exact seqT_ok h _ _
theorem put_same (t : Tm) (c : Int) : (put t c).R = t.R ∧ (put t c).C = t.C := by unfold put; split <;> exact ⟨rfl, rfl⟩
theorem seqT_same (t : Tm) (a : ByteArray) (e : Int) : (seqT t a e).R = t.R ∧ (seqT t a e).C = t.C := by
  unfold seqT
  split
  · exact ⟨rfl, rfl⟩
  · split
    · exact ⟨rfl, rfl⟩
    · split
      · exact ⟨rfl, rfl⟩
      · split
        · unfold clearT; split <;> exact ⟨rfl, rfl⟩
        · exact ⟨rfl, rfl⟩
theorem stepT_same (t : Tm) (l : List UInt8) : (stepT t l).2.R = t.R ∧ (stepT t l).2.C = t.C := by
  unfold stepT
  split
  · split
    · exact ⟨rfl, rfl⟩
    · simp only
      split
      · exact put_same _ _
      · exact ⟨rfl, rfl⟩
  · simp only
    cases (escF l).2 with
    | none => exact ⟨rfl, rfl⟩
    | some x => exact seqT_same _ _ _
theorem run_ok : ∀ (n : Nat) (t : Tm) (l : List UInt8), l.length ≤ n → t.OK → (run t l).1.OK ∧ (run t l).1.R = t.R ∧ (run t l).1.C = t.C
  | n, t, l, hn, h => by
    by_cases hs : l.length = 0 ∨ (stepT t l).1 = 0
    · rw [run_stop t l hs]; exact ⟨h, rfl, rfl⟩
    · cases n with
      | zero => omega
      | succ n =>
        rw [run_step t l (by omega) (by omega)]
        obtain ⟨a, b, c⟩ := run_ok n _ (l.drop (stepT t l).1) (by rw [List.length_drop]; omega) (stepT_ok h l)
        obtain ⟨d, e⟩ := stepT_same t l
        exact ⟨a, b.trans d, c.trans e⟩
end Kp
end Go.Proofs.YtbjckccgbmimpabGreatDoor

/- Plain laws: what a painter writes, a terminal reads. -/
namespace Go.Proofs.YtbjckccgbmimpabGreatDoor
namespace Kp
open Go.RowKit
theorem u8n (x : Int) (h0 : 0 ≤ x) (h1 : x < 256) : ((x.toNat.toUInt8).toNat : Int) = x := by
  show ((UInt8.ofNat x.toNat).toNat : Int) = x
  rw [UInt8.toNat_ofNat']
  omega
theorem gb_cons0 (a : UInt8) (r : List UInt8) : gb (a :: r) 0 = (a.toNat : Int) := by simp [gb]
theorem gb_cons1 (a b : UInt8) (r : List UInt8) : gb (a :: b :: r) 1 = (b.toNat : Int) := by simp [gb]
theorem gb_cons2 (a b c : UInt8) (r : List UInt8) : gb (a :: b :: c :: r) 2 = (c.toNat : Int) := by simp [gb]
theorem accStep_eq (r x : Int) (h0 : 0 ≤ r) (h1 : r < 30000) (_hx : 0 ≤ x) : accStep r x = r * 64 + x % 64 := by
  unfold accStep
  have e : wrap32 (r * 64) = r * 64 := by unfold wrap32; omega
  rw [e]
  exact i32_or6 _ _ (by omega) (by omega) (by omega) (by omega) (by omega)
theorem lead2 (b : Int) (h0 : 0 ≤ b) (h1 : b < 256) : lead 2 b = b % 32 := by
  unfold lead
  rw [if_pos rfl]
  exact bits_mask .i32 31 (by decide) wraps_i32 5 (by decide) b h0 (by omega)
theorem lead3 (b : Int) (h0 : 0 ≤ b) (h1 : b < 256) : lead 3 b = b % 16 := by
  unfold lead
  rw [if_neg (by decide), if_pos rfl]
  exact bits_mask .i32 31 (by decide) wraps_i32 4 (by decide) b h0 (by omega)
theorem lead4 (b : Int) (h0 : 0 ≤ b) (h1 : b < 256) : lead 4 b = b % 8 := by
  unfold lead
  rw [if_neg (by decide), if_neg (by decide)]
  exact bits_mask .i32 31 (by decide) wraps_i32 3 (by decide) b h0 (by omega)
theorem badAt_false {f t x : Int} {j : Nat} (h1 : j = 0 → f ≤ x ∧ x ≤ t) (h2 : 128 ≤ x) (h3 : x < 192) : badAt f t j x = false := by
  unfold badAt
  by_cases hj : j = 0
  · have := h1 hj
    simp [hj]; omega
  · simp [hj]; omega
theorem badTail1 {f t : Int} {a : UInt8} (h1 : f ≤ (a.toNat : Int) ∧ (a.toNat : Int) ≤ t) (h2 : 128 ≤ (a.toNat : Int)) (h3 : (a.toNat : Int) < 192) : badTail f t [a] = false :=
  badTail_false fun k hk => by
    simp only [List.length_cons, List.length_nil] at hk
    obtain rfl : k = 0 := by omega
    rw [gb_cons0]; exact badAt_false (fun _ => h1) h2 h3
theorem badTail2 {f t : Int} {a b : UInt8} (h1 : f ≤ (a.toNat : Int) ∧ (a.toNat : Int) ≤ t) (h2 : 128 ≤ (a.toNat : Int) ∧ (a.toNat : Int) < 192) (h3 : 128 ≤ (b.toNat : Int) ∧ (b.toNat : Int) < 192) : badTail f t [a, b] = false :=
  badTail_false fun k hk => by
    simp only [List.length_cons, List.length_nil] at hk
    rcases (show k = 0 ∨ k = 1 by omega) with rfl | rfl
    · rw [gb_cons0]; exact badAt_false (fun _ => h1) h2.1 h2.2
    · rw [gb_cons1]; exact badAt_false (fun h => by omega) h3.1 h3.2
theorem badTail3 {f t : Int} {a b c : UInt8} (h1 : f ≤ (a.toNat : Int) ∧ (a.toNat : Int) ≤ t) (h2 : 128 ≤ (a.toNat : Int) ∧ (a.toNat : Int) < 192) (h3 : 128 ≤ (b.toNat : Int) ∧ (b.toNat : Int) < 192) (h4 : 128 ≤ (c.toNat : Int) ∧ (c.toNat : Int) < 192) : badTail f t [a, b, c] = false :=
  badTail_false fun k hk => by
    simp only [List.length_cons, List.length_nil] at hk
    rcases (show k = 0 ∨ k = 1 ∨ k = 2 by omega) with rfl | rfl | rfl
    · rw [gb_cons0]; exact badAt_false (fun _ => h1) h2.1 h2.2
    · rw [gb_cons1]; exact badAt_false (fun h => by omega) h3.1 h3.2
    · rw [gb_cons2]; exact badAt_false (fun h => by omega) h4.1 h4.2
/-- A rune's bytes, read. -/
theorem first_encode (c : Int) (hr : right c) : firstF (Lib.encodeRune c) = (c, ((Lib.encodeRune c).length : Int)) ∧ 0 < (Lib.encodeRune c).length
    ∧ gb (Lib.encodeRune c) 0 = (if c ≤ 127 then c else if c ≤ 2047 then 192 + c / 64 else if c ≤ 65535 then 224 + c / 4096 else 240 + c / 262144) := by
  unfold right at hr
  by_cases h1 : c ≤ 127
  · have e : Lib.encodeRune c = [c.toNat.toUInt8] := by unfold Lib.encodeRune; rw [Lib.encodeRuneZ_one hr.1 h1]; rfl
    have hg : gb [c.toNat.toUInt8] 0 = c := by rw [gb_cons0, u8n _ (by omega) (by omega)]
    rw [e]
    refine ⟨?_, by simp, by rw [hg, if_pos h1]⟩
    have hs : shp (gb [c.toNat.toUInt8] 0) = (1, 0, 0) := by rw [hg]; unfold shp; rw [if_pos (by omega)]
    rw [firstF_eq (by simp) hs, hg]
    have : badTail 0 0 (([c.toNat.toUInt8].take (look 1 1)).drop 1) = false := badTail_false fun k hk => by simp at hk; omega
    rw [show [c.toNat.toUInt8].length = 1 from rfl, this]
    simp
  · by_cases h2 : c ≤ 2047
    · obtain ⟨a, ha⟩ : ∃ a, 192 + c / 64 = a := ⟨_, rfl⟩
      obtain ⟨b, hb⟩ : ∃ b, 128 + c % 64 = b := ⟨_, rfl⟩
      have e : Lib.encodeRune c = [a.toNat.toUInt8, b.toNat.toUInt8] := by
        unfold Lib.encodeRune; rw [Lib.encodeRuneZ_two (by omega) h2, ha, hb]; rfl
      have ua := u8n a (by omega) (by omega)
      have ub := u8n b (by omega) (by omega)
      have hg : gb [a.toNat.toUInt8, b.toNat.toUInt8] 0 = a := by rw [gb_cons0, ua]
      rw [e]
      refine ⟨?_, by simp, by rw [hg, if_neg h1, if_pos h2, ha]⟩
      have hs : shp (gb [a.toNat.toUInt8, b.toNat.toUInt8] 0) = (2, 128, 191) := by
        rw [hg]; unfold shp; rw [if_neg (by omega), if_pos (by omega)]
      rw [firstF_eq (by simp) hs, hg]
      have hl : ([a.toNat.toUInt8, b.toNat.toUInt8].take (look 2 [a.toNat.toUInt8, b.toNat.toUInt8].length)).drop 1 = [b.toNat.toUInt8] := rfl
      rw [hl, badTail1 (by rw [ub]; omega) (by rw [ub]; omega) (by rw [ub]; omega)]
      have ht : ([a.toNat.toUInt8, b.toNat.toUInt8].take ((2 : Int).toNat)).drop 1 = [b.toNat.toUInt8] := rfl
      rw [ht, lead2 a (by omega) (by omega)]
      have hac : acc (a % 32) [b.toNat.toUInt8] ((2 : Int).toNat - 1) = c := by
        show accStep (a % 32) (gb [b.toNat.toUInt8] 0) = c
        rw [gb_cons0, ub, accStep_eq _ _ (by omega) (by omega) (by omega)]
        omega
      rw [hac]
      simp
    · by_cases h3 : c ≤ 65535
      · obtain ⟨a, ha⟩ : ∃ a, 224 + c / 4096 = a := ⟨_, rfl⟩
        obtain ⟨b, hb⟩ : ∃ b, 128 + c / 64 % 64 = b := ⟨_, rfl⟩
        obtain ⟨d, hd⟩ : ∃ d, 128 + c % 64 = d := ⟨_, rfl⟩
        have e : Lib.encodeRune c = [a.toNat.toUInt8, b.toNat.toUInt8, d.toNat.toUInt8] := by
          unfold Lib.encodeRune; rw [Lib.encodeRuneZ_three (by omega), ha, hb, hd]; rfl
        have ua := u8n a (by omega) (by omega)
        have ub := u8n b (by omega) (by omega)
        have ud := u8n d (by omega) (by omega)
        have hg : gb [a.toNat.toUInt8, b.toNat.toUInt8, d.toNat.toUInt8] 0 = a := by rw [gb_cons0, ua]
        rw [e]
        refine ⟨?_, by simp, by rw [hg, if_neg h1, if_neg h2, if_pos h3, ha]⟩
        obtain ⟨F, T, hs, hFT⟩ : ∃ F T, shp (gb [a.toNat.toUInt8, b.toNat.toUInt8, d.toNat.toUInt8] 0) = (3, F, T) ∧ F ≤ b ∧ b ≤ T := by
          rw [hg]; unfold shp
          rw [if_neg (by omega), if_neg (by omega)]
          by_cases k1 : a = 224
          · exact ⟨160, 191, by rw [if_pos k1], by omega⟩
          · rw [if_neg k1]
            by_cases k2 : a = 237
            · exact ⟨128, 159, by rw [if_pos k2], by omega⟩
            · rw [if_neg k2]
              exact ⟨128, 191, by rw [if_pos (by omega)], by omega⟩
        rw [firstF_eq (by simp) hs, hg]
        have hl : ([a.toNat.toUInt8, b.toNat.toUInt8, d.toNat.toUInt8].take (look 3 [a.toNat.toUInt8, b.toNat.toUInt8, d.toNat.toUInt8].length)).drop 1 = [b.toNat.toUInt8, d.toNat.toUInt8] := rfl
        rw [hl, badTail2 (by rw [ub]; exact hFT) (by rw [ub]; omega) (by rw [ud]; omega)]
        have ht : ([a.toNat.toUInt8, b.toNat.toUInt8, d.toNat.toUInt8].take ((3 : Int).toNat)).drop 1 = [b.toNat.toUInt8, d.toNat.toUInt8] := rfl
        rw [ht, lead3 a (by omega) (by omega)]
        have hac : acc (a % 16) [b.toNat.toUInt8, d.toNat.toUInt8] ((3 : Int).toNat - 1) = c := by
          show accStep (accStep (a % 16) (gb [b.toNat.toUInt8, d.toNat.toUInt8] 0)) (gb [b.toNat.toUInt8, d.toNat.toUInt8] 1) = c
          rw [gb_cons0, gb_cons1, ub, ud, accStep_eq (a % 16) b (by omega) (by omega) (by omega), accStep_eq _ _ (by omega) (by omega) (by omega)]
          omega
        rw [hac]
        simp
      · obtain ⟨a, ha⟩ : ∃ a, 240 + c / 262144 = a := ⟨_, rfl⟩
        obtain ⟨b, hb⟩ : ∃ b, 128 + c / 4096 % 64 = b := ⟨_, rfl⟩
        obtain ⟨d, hd⟩ : ∃ d, 128 + c / 64 % 64 = d := ⟨_, rfl⟩
        obtain ⟨f, hf⟩ : ∃ f, 128 + c % 64 = f := ⟨_, rfl⟩
        have e : Lib.encodeRune c = [a.toNat.toUInt8, b.toNat.toUInt8, d.toNat.toUInt8, f.toNat.toUInt8] := by
          unfold Lib.encodeRune; rw [Lib.encodeRuneZ_four (by omega) hr.2.1, ha, hb, hd, hf]; rfl
        have ua := u8n a (by omega) (by omega)
        have ub := u8n b (by omega) (by omega)
        have ud := u8n d (by omega) (by omega)
        have uf := u8n f (by omega) (by omega)
        have hg : gb [a.toNat.toUInt8, b.toNat.toUInt8, d.toNat.toUInt8, f.toNat.toUInt8] 0 = a := by rw [gb_cons0, ua]
        rw [e]
        refine ⟨?_, by simp, by rw [hg, if_neg h1, if_neg h2, if_neg h3, ha]⟩
        obtain ⟨F, T, hs, hFT⟩ : ∃ F T, shp (gb [a.toNat.toUInt8, b.toNat.toUInt8, d.toNat.toUInt8, f.toNat.toUInt8] 0) = (4, F, T) ∧ F ≤ b ∧ b ≤ T := by
          rw [hg]; unfold shp
          rw [if_neg (by omega), if_neg (by omega), if_neg (by omega), if_neg (by omega), if_neg (by omega)]
          by_cases k1 : a = 240
          · exact ⟨144, 191, by rw [if_pos k1], by omega⟩
          · rw [if_neg k1]
            by_cases k2 : 241 ≤ a ∧ a ≤ 243
            · exact ⟨128, 191, by rw [if_pos k2], by omega⟩
            · rw [if_neg k2]
              exact ⟨128, 143, by rw [if_pos (by omega)], by omega⟩
        rw [firstF_eq (by simp) hs, hg]
        have hl : ([a.toNat.toUInt8, b.toNat.toUInt8, d.toNat.toUInt8, f.toNat.toUInt8].take (look 4 [a.toNat.toUInt8, b.toNat.toUInt8, d.toNat.toUInt8, f.toNat.toUInt8].length)).drop 1 = [b.toNat.toUInt8, d.toNat.toUInt8, f.toNat.toUInt8] := rfl
        rw [hl, badTail3 (by rw [ub]; exact hFT) (by rw [ub]; omega) (by rw [ud]; omega) (by rw [uf]; omega)]
        have ht : ([a.toNat.toUInt8, b.toNat.toUInt8, d.toNat.toUInt8, f.toNat.toUInt8].take ((4 : Int).toNat)).drop 1 = [b.toNat.toUInt8, d.toNat.toUInt8, f.toNat.toUInt8] := rfl
        rw [ht, lead4 a (by omega) (by omega)]
        have hac : acc (a % 8) [b.toNat.toUInt8, d.toNat.toUInt8, f.toNat.toUInt8] ((4 : Int).toNat - 1) = c := by
          show accStep (accStep (accStep (a % 8) (gb [b.toNat.toUInt8, d.toNat.toUInt8, f.toNat.toUInt8] 0)) (gb [b.toNat.toUInt8, d.toNat.toUInt8, f.toNat.toUInt8] 1)) (gb [b.toNat.toUInt8, d.toNat.toUInt8, f.toNat.toUInt8] 2) = c
          rw [gb_cons0, gb_cons1, gb_cons2, ub, ud, uf, accStep_eq (a % 8) b (by omega) (by omega) (by omega), accStep_eq (a % 8 * 64 + b % 64) d (by omega) (by omega) (by omega), accStep_eq _ _ (by omega) (by omega) (by omega)]
          omega
        rw [hac]
        simp
/-- A rune's bytes write it. -/
theorem step_rune (t : Tm) (c : Int) (ho : ¬ odd c) : 0 < (Lib.encodeRune c).length ∧ stepT t (Lib.encodeRune c) = ((Lib.encodeRune c).length, put t c) := by
  obtain ⟨hr, h32, h127, _⟩ := not_odd ho
  obtain ⟨h1, h2, h3⟩ := first_encode c hr
  unfold right at hr
  refine ⟨h2, ?_⟩
  have hg : gb (Lib.encodeRune c) 0 ≠ 27 ∧ ¬ (gb (Lib.encodeRune c) 0 < 32 ∨ gb (Lib.encodeRune c) 0 = 127) := by
    rw [h3]
    by_cases k1 : c ≤ 127
    · rw [if_pos k1]; omega
    · rw [if_neg k1]
      by_cases k2 : c ≤ 2047
      · rw [if_pos k2]; omega
      · rw [if_neg k2]
        by_cases k3 : c ≤ 65535
        · rw [if_pos k3]; omega
        · rw [if_neg k3]; omega
  unfold stepT
  rw [if_pos hg.1, if_neg hg.2, h1]
  simp only [Int.toNat_natCast]
  rw [if_pos (by omega)]
theorem esc_dress : ∀ s, s < 8 → escF (dress s) = ((dress s).length, some (⟨((dress s).drop 2).take ((dress s).length - 3) |>.toArray⟩, 109)) := by decide +kernel
theorem nums_dress : ∀ s, s < 8 → (numsF ⟨((dress s).drop 2).take ((dress s).length - 3) |>.toArray⟩).map (fun ns => (ns.head?, ns.foldl dress1 0)) = some (some 0, s) := by decide +kernel
theorem step_dress (t : Tm) (s : Nat) (h : s < 8) : stepT t (dress s) = ((dress s).length, { t with st := s }) := by
  have hg : ∀ s, s < 8 → gb (dress s) 0 = 27 := by decide +kernel
  unfold stepT
  rw [if_neg (by rw [hg s h]; decide), esc_dress s h]
  obtain ⟨ns, h1, h2⟩ := Option.map_eq_some_iff.1 (nums_dress s h)
  simp only [Prod.mk.injEq] at h2
  obtain ⟨h2, h3⟩ := h2
  simp only [doT, seqT, h1]
  rw [if_neg (by decide), if_pos True.intro]
  unfold dressT
  cases ns with
  | nil => simp at h2
  | cons a r =>
    simp only [List.head?_cons, Option.some.injEq] at h2
    subst h2
    rw [if_neg (by simp)]
    have e : ∀ st, (0 :: r : List Int).foldl dress1 st = r.foldl dress1 0 := fun st => by rw [List.foldl_cons]; rfl
    rw [e] at h3 ⊢
    rw [h3]
def moveB (n : Nat) : List UInt8 := [27, 91] ++ Lib.decDigits (n + 1) ++ [59, 49, 72]
theorem dec_small : ∀ n, n < 60 → Lib.decDigits (n + 1) = if n < 9 then [UInt8.ofNat (49 + n)] else [UInt8.ofNat (48 + (n + 1) / 10), UInt8.ofNat (48 + (n + 1) % 10)] := by
  intro n hn
  rw [Lib.decDigits]
  by_cases h : n < 9
  · rw [dif_pos (by omega), if_pos h]; congr 2; omega
  · rw [dif_neg (by omega), if_neg h, Lib.decDigits, dif_pos (by omega)]
    rfl
def moveC (n : Nat) : List UInt8 := [27, 91] ++ (if n < 9 then [UInt8.ofNat (49 + n)] else [UInt8.ofNat (48 + (n + 1) / 10), UInt8.ofNat (48 + (n + 1) % 10)]) ++ [59, 49, 72]
theorem moveB_eq (n : Nat) (h : n < 60) : moveB n = moveC n := by unfold moveB moveC; rw [dec_small n h]
theorem esc_move : ∀ n, n < 60 → gb (moveC n) 0 = 27 ∧ escF (moveC n) = ((moveC n).length, some (⟨((moveC n).drop 2).take ((moveC n).length - 3) |>.toArray⟩, 72)) := by decide +kernel
theorem nums_move : ∀ n, n < 60 → numsF ⟨((moveC n).drop 2).take ((moveC n).length - 3) |>.toArray⟩ = some [((n + 1 : Nat) : Int), 1] := by decide +kernel
theorem step_move (t : Tm) (n : Nat) (hR : n < t.R) (hR2 : t.R ≤ 60) (hC : 1 ≤ t.C) : stepT t (moveB n) = ((moveB n).length, { t with row := n, col := 0 }) := by
  rw [moveB_eq n (by omega)]
  obtain ⟨h1, h2⟩ := esc_move n (by omega)
  unfold stepT
  rw [if_neg (by rw [h1]; decide), h2]
  simp only [doT, seqT, nums_move n (by omega)]
  rw [if_pos True.intro]
  unfold moveT
  have e1 : atF [((n + 1 : Nat) : Int), 1] 0 t.R = n := by
    unfold atF
    rw [if_neg (by simp)]
    show (max 1 (min ((n + 1 : Nat) : Int) t.R) - 1).toNat = n
    omega
  have e2 : atF [((n + 1 : Nat) : Int), 1] 1 t.C = 0 := by
    unfold atF
    rw [if_neg (by simp)]
    show (max 1 (min (1 : Int) t.C) - 1).toNat = 0
    omega
  rw [e1, e2]
theorem step_clear (t : Tm) : stepT t [27, 91, 50, 74] = (4, { t with l := blankL (t.R * t.C) }) := by
  have h1 : escF [27, 91, 50, 74] = (4, some (⟨#[50]⟩, 74)) := by decide +kernel
  have h2 : numsF ⟨#[50]⟩ = some [2] := by decide +kernel
  unfold stepT
  rw [if_neg (by decide), h1]
  simp only [doT, seqT, h2]
  rw [if_neg (by decide), if_neg (by decide), if_pos True.intro]
  unfold clearT
  rw [if_pos rfl]
end Kp
end Go.Proofs.YtbjckccgbmimpabGreatDoor

/- Plain laws: a terminal that reads what paints a grid shows that grid. -/
namespace Go.Proofs.YtbjckccgbmimpabGreatDoor
namespace Kp
def rowOf (C : Nat) (l : List Cell) (i : Nat) : List Cell := (l.drop (i * C)).take C
def paintRows (fresh : Bool) (C : Nat) (fl tl : List Cell) : Nat → Nat → List UInt8
  | 0, _ => []
  | k + 1, i => (if fresh = true ∨ ¬ rowOf C fl i = rowOf C tl i then paintRow i (rowOf C tl i) else []) ++ paintRows fresh C fl tl k (i + 1)
/-- The bytes that make one grid of another one; fresh: all of it is painted. -/
def paintB (fresh : Bool) (R C : Nat) (fl tl : List Cell) : List UInt8 := (if fresh then [27, 91, 50, 74] else []) ++ paintRows fresh C fl tl R 0

theorem rowOf_len {R C r : Nat} {l : List Cell} (hl : l.length = R * C) (hr : r < R) : (rowOf C l r).length = C := by
  have : (r + 1) * C ≤ R * C := Nat.mul_le_mul_right C hr
  rw [Nat.add_mul, Nat.one_mul] at this
  unfold rowOf
  rw [List.length_take, List.length_drop]
  omega
theorem gr_rowOf (C : Nat) (l : List Cell) (r j : Nat) (h : j < C) : gr (rowOf C l r) j = gr l (r * C + j) := by
  unfold gr rowOf
  rw [List.getD_eq_getElem?_getD, List.getElem?_take, if_pos h, List.getElem?_drop, List.getD_eq_getElem?_getD]
theorem gs_rowOf (C : Nat) (l : List Cell) (r j : Nat) (h : j < C) : gs (rowOf C l r) j = gs l (r * C + j) := by
  unfold gs rowOf
  rw [List.getD_eq_getElem?_getD, List.getElem?_take, if_pos h, List.getElem?_drop, List.getD_eq_getElem?_getD]
/-- Two cells are alike. -/
def same (a b : List Cell) (i : Nat) : Prop := gr a i = gr b i ∧ gs a i = gs b i
/-- A row that is painted up to a column. -/
structure Rowing (t : Tm) (R C : Nat) (L tl : List Cell) (r j : Nat) : Prop where
  ok : t.OK
  hR : t.R = R
  hC : t.C = C
  row : t.row = r
  col : t.col = j
  got : ∀ k, k < j → same t.l tl (r * C + k)
  oth : ∀ i, i < r * C ∨ r * C + C ≤ i → same t.l L i
  nz : j < C → gr t.l (r * C + j) ≠ 0
theorem Rowing.style {t : Tm} {R C : Nat} {L tl : List Cell} {r j : Nat} (h : Rowing t R C L tl r j) (s : Nat) (hs : s < 8) : Rowing { t with st := s } R C L tl r j :=
  ⟨⟨h.ok.R1, h.ok.C1, h.ok.len, h.ok.row, h.ok.col, hs, h.ok.wf, h.ok.zero⟩, h.hR, h.hC, h.row, h.col, h.got, h.oth, h.nz⟩
theorem Rowing.put {t : Tm} {R C : Nat} {L tl : List Cell} {r j n : Nat} (h : Rowing t R C L tl r j) (hj : j < C) (ho : ¬ odd (gr tl (r * C + j))) (hn : wid (gr tl (r * C + j)) = n) (hs : (t.st : Int) = gs tl (r * C + j))
    (h2 : n = 2 → j + 1 < C ∧ gr tl (r * C + j + 1) = 0 ∧ gs tl (r * C + j + 1) = gs tl (r * C + j)) : Rowing (Kp.put t (gr tl (r * C + j))) R C L tl r (j + n) ∧ (Kp.put t (gr tl (r * C + j))).st = t.st := by
  obtain ⟨_, _, _, hw⟩ := not_odd ho
  have hn12 : n = 1 ∨ n = 2 := by omega
  have hfit : j + n ≤ C := by
    rcases hn12 with e | e
    · omega
    · have := h2 e; omega
  have hok := put_ok h.ok (gr tl (r * C + j))
  have hb := put_same t (gr tl (r * C + j))
  have hput : Kp.put t (gr tl (r * C + j)) = { t with l := putL C t.l (r * C + j) j n (gr tl (r * C + j)) t.st, col := j + n } := by
    unfold Kp.put
    rw [if_neg (by rw [h.hC, h.col, hn]; intro e; rcases e with e | e; exact ho e; omega), h.hC, h.row, h.col, hn, Int.toNat_natCast]
  have hnz := h.nz hj
  have hr : r < R := by have := h.ok.row; rw [h.row, h.hR] at this; exact this
  have key := fun i => (putL_get (R := R) (C := C) (l := t.l) (row := r) (col := j) (n := n) (c := gr tl (r * C + j)) (st := t.st) (by rw [h.ok.len, h.hR, h.hC]) hr hn12 hfit (fun e => absurd e hnz) i).2
  rw [hput] at hok ⊢
  refine ⟨⟨hok, h.hR, h.hC, h.row, rfl, fun k hk => ?_, fun i hi => ?_, fun hlt => ?_⟩, rfl⟩
  · simp only [same]
    rcases key (r * C + k) with ⟨e, a, b⟩ | ⟨e, e2, a, b⟩ | ⟨_, e, _⟩ | ⟨e, _⟩ | ⟨e1, e2, _, _, a, b⟩
    · have : k = j := by omega
      subst this
      exact ⟨a, b.trans hs⟩
    · obtain ⟨_, z1, z2⟩ := h2 e
      rw [a, b, e2, z1, z2]
      exact ⟨rfl, hs⟩
    · exact absurd e hnz
    · omega
    · rw [a, b]
      refine h.got k ?_
      rcases hn12 with e | e
      · omega
      · have := e2 e; omega
  · simp only [same]
    rcases key i with ⟨e, a, b⟩ | ⟨e, e2, a, b⟩ | ⟨_, e, _⟩ | ⟨e, e2, _⟩ | ⟨_, _, _, _, a, b⟩
    · omega
    · have := (h2 e).1; omega
    · exact absurd e hnz
    · omega
    · rw [a, b]; exact h.oth i hi
  · simp only
    rcases key (r * C + (j + n)) with ⟨e, a, b⟩ | ⟨e, e2, a, b⟩ | ⟨_, e, _⟩ | ⟨_, _, _, a, _⟩ | ⟨_, _, _, e, a, _⟩
    · omega
    · omega
    · exact absurd e hnz
    · rw [a]; decide
    · rw [a]
      intro hz
      exact e hlt (by rw [Nat.add_assoc]; exact hz) (by omega)
theorem row_mod {C r k : Nat} (hk : k < C) : (r * C + k) % C = k := by
  rw [Nat.mul_comm, Nat.mul_add_mod]; exact Nat.mod_eq_of_lt hk
theorem paint_cells {R C : Nat} {L tl : List Cell} {r : Nat} (hl : tl.length = R * C) (hpt : ∀ i, i < R * C → Pt C tl i) (hr : r < R) : ∀ (d j : Nat) (last : Int) (t : Tm) (y : List UInt8), C - j ≤ d → j ≤ C → Rowing t R C L tl r j →
    (j < C → gr tl (r * C + j) ≠ 0) → (last = -1 ∨ last = t.st) → ∃ t', run t (paintCells last ((rowOf C tl r).drop j) ++ y) = run t' y ∧ Rowing t' R C L tl r C
  | d, j, last, t, y, hd, hj, hrow, hnz, hlast => by
    by_cases hjC : j = C
    · subst hjC
      have e : (rowOf j tl r).drop j = [] := List.drop_eq_nil_of_le (by rw [rowOf_len hl hr]; exact Nat.le_refl _)
      rw [e]
      exact ⟨t, rfl, hrow⟩
    · have hlt : j < C := by omega
      cases d with
      | zero => omega
      | succ d =>
        have hz := hnz hlt
        obtain ⟨p1, _, p3⟩ := hpt (r * C + j) (at_lt hr hlt)
        obtain ⟨ho, hwide⟩ := p3 hz
        obtain ⟨_, _, _, hw⟩ := not_odd ho
        obtain ⟨n, hn⟩ : ∃ n : Nat, wid (gr tl (r * C + j)) = n := ⟨(wid (gr tl (r * C + j))).toNat, by omega⟩
        obtain ⟨s, hs⟩ : ∃ s : Nat, gs tl (r * C + j) = s := ⟨(gs tl (r * C + j)).toNat, by omega⟩
        have hn12 : n = 1 ∨ n = 2 := by omega
        have h2 : n = 2 → j + 1 < C ∧ gr tl (r * C + j + 1) = 0 ∧ gs tl (r * C + j + 1) = gs tl (r * C + j) := fun e => by
          obtain ⟨a, b⟩ := hwide (by rw [hn, e]; rfl)
          rw [row_mod hlt] at a
          have hj1 : j + 1 < C := by omega
          have := (hpt (r * C + (j + 1)) (at_lt hr hj1)).2.1 b
          exact ⟨hj1, b, this.2.2.2.symm⟩
        have hnext : j + n < C → gr tl (r * C + (j + n)) ≠ 0 := fun e hz2 => by
          obtain ⟨_, a, b, _⟩ := (hpt (r * C + (j + n)) (at_lt hr e)).2.1 hz2
          rcases hn12 with h1 | h1
          · subst h1
            rw [show r * C + (j + 1) - 1 = r * C + j by omega, hn] at b
            exact absurd b (by decide)
          · subst h1
            rw [show r * C + (j + 2) - 1 = r * C + j + 1 by omega] at a
            exact a (h2 rfl).2.1
        -- the cell's own bytes
        have hstep := paint_step (rowOf C tl r) j last (by rw [rowOf_len hl hr]; exact hlt)
        rw [gr_rowOf C tl r j hlt, gs_rowOf C tl r j hlt, if_neg hz, hs, Int.toNat_natCast] at hstep
        have hskip : paintCells (s : Int) ((rowOf C tl r).drop (j + 1)) = paintCells (s : Int) ((rowOf C tl r).drop (j + n)) := by
          rcases hn12 with h1 | h1
          · rw [h1]
          · obtain ⟨a, b, _⟩ := h2 h1
            have := paint_step (rowOf C tl r) (j + 1) s (by rw [rowOf_len hl hr]; exact a)
            rw [gr_rowOf C tl r (j + 1) a, ← Nat.add_assoc, if_pos b] at this
            rw [this, h1]
        rw [hskip] at hstep
        -- the style is told
        have hdr : ∃ t1, run t (paintCells last ((rowOf C tl r).drop j) ++ y) = run t1 (Lib.encodeRune (gr tl (r * C + j)) ++ (paintCells (s : Int) ((rowOf C tl r).drop (j + n)) ++ y)) ∧ Rowing t1 R C L tl r j ∧ t1.st = s := by
          rw [hstep]
          by_cases hsl : (s : Int) = last
          · rw [if_pos hsl]
            refine ⟨t, by simp only [List.nil_append, List.append_assoc], hrow, ?_⟩
            rcases hlast with e | e
            · omega
            · omega
          · rw [if_neg hsl]
            refine ⟨{ t with st := s }, ?_, hrow.style s (by omega), rfl⟩
            rw [List.append_assoc, List.append_assoc]
            have hd8 : 0 < (dress s).length := by unfold dress; simp
            exact run_whole t _ (dress s) _ hd8 (step_dress t s (by omega))
        obtain ⟨t1, e1, hr1, hst⟩ := hdr
        obtain ⟨hrp, hsp⟩ := hr1.put hlt ho hn (by rw [hst, hs]) h2
        obtain ⟨t', e2, hfin⟩ := paint_cells hl hpt hr d (j + n) s (put t1 (gr tl (r * C + j))) y (by omega) (by
          rcases hn12 with h1 | h1
          · omega
          · have := (h2 h1).1; omega) hrp hnext (.inr (by rw [hsp, hst]))
        refine ⟨t', ?_, hfin⟩
        rw [e1, run_whole t1 _ _ _ (step_rune t1 _ ho).1 (step_rune t1 _ ho).2, e2]
theorem paint_row {R C : Nat} {tl : List Cell} {r : Nat} {t : Tm} (hl : tl.length = R * C) (hpt : ∀ i, i < R * C → Pt C tl i) (hr : r < R) (ht : t.OK) (hR : t.R = R) (hC : t.C = C) (y : List UInt8) :
    ∃ t', run t (paintRow r (rowOf C tl r) ++ y) = run t' y ∧ Rowing t' R C t.l tl r C := by
  have h1 : run t (paintRow r (rowOf C tl r) ++ y) = run { t with row := r, col := 0 } (paintCells (-1) (rowOf C tl r) ++ y) := by
    unfold paintRow
    rw [List.append_assoc _ (paintCells (-1) (rowOf C tl r)) y]
    have hm : stepT t (moveB r) = ((moveB r).length, { t with row := r, col := 0 }) := step_move t r (by omega) ht.R1.2 ht.C1.1
    exact run_whole t _ (moveB r) _ (by unfold moveB; simp) hm
  have hrow : Rowing { t with row := r, col := 0 } R C t.l tl r 0 := by
    refine ⟨⟨ht.R1, ht.C1, ht.len, by show r < t.R; omega, Nat.zero_le _, ht.st, ht.wf, ht.zero⟩, hR, hC, rfl, rfl, fun k hk => absurd hk (by omega), fun i _ => ⟨rfl, rfl⟩, fun _ => ?_⟩
    show gr t.l (r * C + 0) ≠ 0
    rw [Nat.add_zero, ← hC]
    exact ht.zero r (by omega)
  have hC0 : 0 < C := by rw [← hC]; exact ht.C1.1
  obtain ⟨t', e, h2⟩ := paint_cells hl hpt hr C 0 (-1) _ y (by omega) (by omega) hrow (fun h0 hz => by
    have := ((hpt (r * C + 0) (at_lt hr h0)).2.1 hz).1
    rw [row_mod h0] at this
    exact this rfl) (.inl rfl)
  rw [List.drop_zero] at e
  exact ⟨t', h1.trans e, h2⟩
theorem rowOf_same {C : Nat} {a b : List Cell} {r k : Nat} (h : rowOf C a r = rowOf C b r) (hk : k < C) : same a b (r * C + k) := by
  unfold same
  rw [← gr_rowOf C a r k hk, ← gs_rowOf C a r k hk, h, gr_rowOf C b r k hk, gs_rowOf C b r k hk]
  exact ⟨rfl, rfl⟩
theorem same.trans {a b c : List Cell} {i : Nat} (h : same a b i) (h' : same b c i) : same a c i := ⟨h.1.trans h'.1, h.2.trans h'.2⟩
theorem paint_rows {R C : Nat} {fl tl : List Cell} (fresh : Bool) (hl : tl.length = R * C) (hpt : ∀ i, i < R * C → Pt C tl i) : ∀ (k i : Nat) (t : Tm) (y : List UInt8), i + k = R → t.OK → t.R = R → t.C = C → (∀ x, x < i * C → same t.l tl x) →
    (fresh = false → ∀ x, i * C ≤ x → same t.l fl x) → ∃ t', run t (paintRows fresh C fl tl k i ++ y) = run t' y ∧ t'.OK ∧ t'.R = R ∧ t'.C = C ∧ ∀ x, x < R * C → same t'.l tl x
  | 0, i, t, y, hi, ht, hR, hC, hd, _ => ⟨t, rfl, ht, hR, hC, fun x hx => hd x (by rw [show i = R by omega]; exact hx)⟩
  | k + 1, i, t, y, hi, ht, hR, hC, hd, hf => by
    have hir : i < R := by omega
    simp only [paintRows]
    rw [List.append_assoc]
    have hsplit : ∀ x, x < (i + 1) * C → x < i * C ∨ ∃ k, k < C ∧ x = i * C + k := fun x hx => by
      rw [Nat.add_mul, Nat.one_mul] at hx
      by_cases h : x < i * C
      · exact .inl h
      · exact .inr ⟨x - i * C, by omega, by omega⟩
    by_cases hc : fresh = true ∨ ¬ rowOf C fl i = rowOf C tl i
    · rw [if_pos hc]
      obtain ⟨t1, e1, h1⟩ := paint_row hl hpt hir ht hR hC (paintRows fresh C fl tl k (i + 1) ++ y)
      rw [e1]
      refine paint_rows fresh hl hpt k (i + 1) t1 y (by omega) h1.ok h1.hR h1.hC (fun x hx => ?_) (fun e x hx => ?_)
      · rcases hsplit x hx with h | ⟨k, hk, rfl⟩
        · exact (h1.oth x (.inl h)).trans (hd x h)
        · exact h1.got k hk
      · rw [Nat.add_mul, Nat.one_mul] at hx
        exact (h1.oth x (.inr hx)).trans (hf e x (by omega))
    · rw [if_neg hc, List.nil_append]
      have hff : fresh = false := by cases fresh <;> simp at hc ⊢
      have heq : rowOf C fl i = rowOf C tl i := by
        by_cases h : rowOf C fl i = rowOf C tl i
        · exact h
        · exact absurd (.inr h) hc
      refine paint_rows fresh hl hpt k (i + 1) t y (by omega) ht hR hC (fun x hx => ?_) (fun e x hx => ?_)
      · rcases hsplit x hx with h | ⟨k, hk, rfl⟩
        · exact hd x h
        · exact (hf hff _ (by omega)).trans (rowOf_same heq hk)
      · rw [Nat.add_mul, Nat.one_mul] at hx
        exact hf e x (by omega)
/-- A TERMINAL THAT READS WHAT PAINTS A GRID SHOWS IT. -/
theorem paint_shows {R C : Nat} {fl tl : List Cell} (fresh : Bool) {t : Tm} (ht : t.OK) (hR : t.R = R) (hC : t.C = C) (hl : tl.length = R * C) (hpt : ∀ i, i < R * C → Pt C tl i) (hf : fresh = false → t.l = fl) :
    ∃ t', run t (paintB fresh R C fl tl) = (t', []) ∧ t'.OK ∧ t'.R = R ∧ t'.C = C ∧ t'.l = tl := by
  have hfin : ∀ t1 : Tm, (run t (paintB fresh R C fl tl) = run t1 (paintRows fresh C fl tl R 0 ++ [])) → t1.OK → t1.R = R → t1.C = C → (fresh = false → t1.l = fl) → ∃ t', run t (paintB fresh R C fl tl) = (t', []) ∧ t'.OK ∧ t'.R = R ∧ t'.C = C ∧ t'.l = tl := by
    intro t1 e1 h1 h2 h3 h4
    obtain ⟨t', e2, a, b, c, d⟩ := paint_rows (fl := fl) fresh hl hpt R 0 t1 [] (by omega) h1 h2 h3 (fun x hx => absurd hx (by omega)) (fun e x _ => by rw [h4 e]; exact ⟨rfl, rfl⟩)
    refine ⟨t', ?_, a, b, c, ?_⟩
    · rw [e1, e2, run_stop t' [] (.inl rfl)]
    · refine cells_eq (by rw [a.len, b, c, hl]) (fun j hj => d j ?_)
      rw [a.len, b, c] at hj
      exact hj
  cases fresh with
  | true =>
    refine hfin { t with l := blankL (t.R * t.C) } ?_ (blank_ok ht.R1 ht.C1 ht.row ht.col ht.st) hR hC (fun e => by cases e)
    unfold paintB
    rw [if_pos rfl, List.append_nil]
    exact run_whole t _ [27, 91, 50, 74] _ (by decide) (step_clear t)
  | false =>
    refine hfin t ?_ ht hR hC hf
    unfold paintB
    rw [if_neg (by decide), List.append_nil, List.nil_append]
/-- The same, in two parts. -/
theorem paint_parts {R C : Nat} {fl tl : List Cell} (fresh : Bool) {t : Tm} (ht : t.OK) (hR : t.R = R) (hC : t.C = C) (hl : tl.length = R * C) (hpt : ∀ i, i < R * C → Pt C tl i) (hf : fresh = false → t.l = fl) (k : Nat) :
    (run (run t ((paintB fresh R C fl tl).take k)).1 ((run t ((paintB fresh R C fl tl).take k)).2 ++ (paintB fresh R C fl tl).drop k)).1.l = tl := by
  rw [← run_append _ t _ _ (Nat.le_refl _), List.take_append_drop]
  obtain ⟨t', e, _, _, _, h⟩ := paint_shows fresh ht hR hC hl hpt hf
  rw [e]
  exact h
end Kp
end Go.Proofs.YtbjckccgbmimpabGreatDoor
