/- The walks of keys.first and keys.behind. -/
import Derived.Test.YtbjckccgbmimpabGreatDoorK8
namespace Go.Proofs.YtbjckccgbmimpabGreatDoor
open Go.RowKit Go.Proofs.YtbjckccgbmimpabGreatDoorW.PrintWords Go.Proofs.YtbjckccgbmimpabGreatDoorW.PrintLast Go.Proofs.YtbjckccgbmimpabGreatDoorW.PrintMore
namespace Kp
/-- What bytes begin with, of which the first one is no escape. -/
def plainF (l : List UInt8) : Step :=
  if gb l 0 = 13 then (1, 2, 0, 0) else if gb l 0 = 10 then (1, 2, 0, 4) else if gb l 0 = 9 then (1, 3, 0, 0) else if gb l 0 = 8 ∨ gb l 0 = 127 then (1, 4, 0, 0)
  else if gb l 0 < 32 then (1, 1, gb l 0 + 96, 4) else ((firstF l).2, 1, (firstF l).1, 0)
/-- What begins with an escape. -/
def behindF (l : List UInt8) : Step :=
  if l.length = 1 then (0, 0, 0, 0) else if gb l 1 = 27 then (1, 0, 0, 0) else if gb l 1 = 91 then seqF l
  else if gb l 1 = 79 then (if l.length = 2 then (0, 0, 0, 0) else if lastB (gb l 2) = true then (3, toldF ⟨#[]⟩ (gb l 2)) else (2, 0, 0, 0))
  else if 0 < (plainF (l.drop 1)).1 then ((plainF (l.drop 1)).1 + 1, (plainF (l.drop 1)).2.1, (plainF (l.drop 1)).2.2.1, Go.bits .or .i64 (plainF (l.drop 1)).2.2.2 2) else plainF (l.drop 1)
def keyF (l : List UInt8) : Step := if gb l 0 = 27 then behindF l else plainF l
theorem firstF_n (l : List UInt8) : 0 ≤ (firstF l).2 ∧ (firstF l).2 ≤ 4 := by
  have h := shp_n (gb l 0)
  unfold firstF
  by_cases h0 : l.length = 0
  · rw [if_pos h0]; decide
  · rw [if_neg h0]
    simp only
    (repeat' split) <;> simp <;> omega
theorem plainF_n (l : List UInt8) : 0 ≤ (plainF l).1 ∧ (plainF l).1 ≤ 4 := by
  have h := firstF_n l
  unfold plainF
  (repeat' split) <;> simp <;> omega
theorem gb_drop (l : List UInt8) (k i : Nat) : gb (l.drop k) i = gb l (k + i) := by
  simp [gb, List.getD_eq_getElem?_getD]
end Kp

/-- The first byte's cell. -/
theorem RB.head {w : World} {A : Option Addr} {l : List UInt8} (h : RB w A l) (hp : 0 < l.length) : ∃ ad, A = some ad ∧ w.cell? ad = some (.int .u8 (Kp.gb l 0)) := by
  obtain ⟨ad, he, hc⟩ := h.2.2 hp
  exact ⟨ad, he, by have := hc 0 hp; rwa [Addr.add_zero'] at this⟩
theorem RB.at_ {w : World} {A : Option Addr} {l : List UInt8} (h : RB w A l) (i : Nat) (hp : i < l.length) : ∃ ad, A = some ad ∧ w.cell? (ad.add i) = some (.int .u8 (Kp.gb l i)) := by
  obtain ⟨ad, he, hc⟩ := h.2.2 (by omega)
  exact ⟨ad, he, hc i hp⟩

end Go.Proofs.YtbjckccgbmimpabGreatDoor

/- Plain laws: what bytes begin with stays so, whatever comes behind, once it is whole; so bytes in parts tell what they tell at once. -/
namespace Go.Proofs.YtbjckccgbmimpabGreatDoor
namespace Kp
theorem firstF_eq {l : List UInt8} {N F T : Int} (h : 0 < l.length) (hs : shp (gb l 0) = (N, F, T)) :
    firstF l = if badTail F T ((l.take (look N l.length)).drop 1) = true then (65533, 1) else if N = 0 then (65533, 1) else if (l.length : Int) < N then (0, 0)
      else if N = 1 then (gb l 0, 1) else (acc (lead N (gb l 0)) ((l.take N.toNat).drop 1) (N.toNat - 1), N) := by
  unfold firstF
  rw [if_neg (by omega)]
  simp only [hs]
theorem firstF_le (l : List UInt8) (h : 0 < l.length) : (firstF l).2 ≤ l.length := by
  obtain ⟨⟨N, F, T⟩, hs⟩ : ∃ x, shp (gb l 0) = x := ⟨_, rfl⟩
  rw [firstF_eq h hs]
  (repeat' split) <;> simp <;> omega

theorem look_le (n : Int) (len : Nat) : look n len ≤ len := by unfold look; omega
theorem badTail_more {f t : Int} {u v : List UInt8} (h : badTail f t u = true) : badTail f t (u ++ v) = true := by
  obtain ⟨k, hk, hb⟩ := List.any_eq_true.1 h
  have hk := List.mem_range.1 hk
  refine badTail_true k (by rw [List.length_append]; omega) ?_
  rw [gb_append _ _ _ hk]; exact hb

theorem firstF_more (l r : List UInt8) (h : 0 < (firstF l).2) : firstF (l ++ r) = firstF l := by
  have hl : 0 < l.length := by
    rcases Nat.eq_zero_or_pos l.length with h0 | h0
    · rw [firstF, if_pos h0] at h; exact absurd h (by decide)
    · exact h0
  have hg : gb (l ++ r) 0 = gb l 0 := gb_append _ _ _ hl
  have hn := shp_n (gb l 0)
  obtain ⟨⟨N, F, T⟩, hs⟩ : ∃ x, shp (gb l 0) = x := ⟨_, rfl⟩
  have e0 := firstF_eq (l := l ++ r) (N := N) (F := F) (T := T) (by rw [List.length_append]; omega) (by rw [hg]; exact hs)
  rw [hg] at e0
  rw [firstF_eq hl hs] at h
  rw [e0, firstF_eq hl hs]
  rw [hs] at hn
  simp only at hn
  by_cases hb : badTail F T ((l.take (look N l.length)).drop 1) = true
  · have hle : look N l.length ≤ look N (l ++ r).length := by unfold look; rw [List.length_append]; omega
    have h1 : 1 ≤ look N l.length := by unfold look; omega
    have e : ((l ++ r).take (look N (l ++ r).length)).take (look N l.length) = l.take (look N l.length) := by
      rw [List.take_take, Nat.min_eq_left hle, List.take_append_of_le_length (look_le _ _)]
    have hv : ((l ++ r).take (look N (l ++ r).length)).drop 1 = ((l.take (look N l.length)).drop 1) ++ ((l ++ r).take (look N (l ++ r).length)).drop (look N l.length) := by
      conv => lhs; rw [← List.take_append_drop (look N l.length) ((l ++ r).take (look N (l ++ r).length)), e]
      rw [List.drop_append_of_le_length (by rw [List.length_take]; have := look_le N l.length; omega)]
    rw [hv, if_pos (badTail_more hb), if_pos hb]
  · rw [if_neg hb] at h
    rw [if_neg hb]
    by_cases hN0 : N = 0
    · subst hN0
      rw [if_pos rfl, if_pos rfl]
      split <;> rfl
    · rw [if_neg hN0] at h
      by_cases hsh : (l.length : Int) < N
      · rw [if_pos hsh] at h; exact absurd h (by decide)
      · have e1 : look N (l ++ r).length = look N l.length := by unfold look; rw [List.length_append]; omega
        have e2 : (l ++ r).take (look N l.length) = l.take (look N l.length) := List.take_append_of_le_length (look_le _ _)
        have e3 : (l ++ r).take N.toNat = l.take N.toNat := List.take_append_of_le_length (by omega)
        rw [e1, e2, if_neg hb, if_neg hN0, if_neg hN0, if_neg hsh, if_neg (by rw [List.length_append]; omega), e3]

theorem plainF_le (l : List UInt8) (h : 0 < l.length) : (plainF l).1 ≤ l.length := by
  have := firstF_le l h
  unfold plainF
  (repeat' split) <;> simp <;> omega
theorem plainF_more (l r : List UInt8) (hl : 0 < l.length) (h : 0 < (plainF l).1) : plainF (l ++ r) = plainF l := by
  have hg : gb (l ++ r) 0 = gb l 0 := gb_append _ _ _ hl
  unfold plainF at h ⊢
  rw [hg]
  by_cases c1 : gb l 0 = 13
  · rw [if_pos c1, if_pos c1]
  rw [if_neg c1] at h ⊢
  rw [if_neg c1]
  by_cases c2 : gb l 0 = 10
  · rw [if_pos c2, if_pos c2]
  rw [if_neg c2] at h ⊢
  rw [if_neg c2]
  by_cases c3 : gb l 0 = 9
  · rw [if_pos c3, if_pos c3]
  rw [if_neg c3] at h ⊢
  rw [if_neg c3]
  by_cases c4 : gb l 0 = 8 ∨ gb l 0 = 127
  · rw [if_pos c4, if_pos c4]
  rw [if_neg c4] at h ⊢
  rw [if_neg c4]
  by_cases c5 : gb l 0 < 32
  · rw [if_pos c5, if_pos c5]
  rw [if_neg c5] at h ⊢
  rw [if_neg c5, firstF_more l r h]

theorem seqGo_le (l : List UInt8) (h2 : 2 ≤ l.length) : ∀ (f i : Nat), 0 ≤ (seqGo l f i).1 ∧ (seqGo l f i).1 ≤ l.length
  | 0, _ => by simp [seqGo]
  | f + 1, i => by
    unfold seqGo
    split
    · split
      · simp only; omega
      · split
        · simp only; omega
        · exact seqGo_le l h2 f (i + 1)
    · simp
theorem seqGo_more (l r : List UInt8) : ∀ (f i : Nat), 0 < (seqGo l f i).1 → seqGo (l ++ r) f i = seqGo l f i
  | 0, _ => fun h => absurd h (by simp [seqGo])
  | f + 1, i => fun h => by
    unfold seqGo at h ⊢
    by_cases hl : 2 + i < l.length
    · rw [if_pos hl] at h
      rw [if_pos (by rw [List.length_append]; omega), if_pos hl, gb_append _ _ _ hl, List.take_append_of_le_length (by omega)]
      by_cases c1 : lastB (gb l (2 + i)) = true
      · rw [if_pos c1, if_pos c1]
      · rw [if_neg c1] at h
        rw [if_neg c1, if_neg c1]
        by_cases c2 : gb l (2 + i) < 48 ∨ 63 < gb l (2 + i) ∨ 12 ≤ i
        · rw [if_pos c2, if_pos c2]
        · rw [if_neg c2] at h
          rw [if_neg c2, if_neg c2]
          exact seqGo_more l r f (i + 1) h
    · rw [if_neg hl] at h; exact absurd h (by decide)

theorem behindF_le (l : List UInt8) (h : 0 < l.length) : 0 ≤ (behindF l).1 ∧ (behindF l).1 ≤ l.length := by
  unfold behindF
  by_cases c0 : l.length = 1
  · rw [if_pos c0]; simp
  rw [if_neg c0]
  by_cases c1 : gb l 1 = 27
  · rw [if_pos c1]; simp only; omega
  rw [if_neg c1]
  by_cases c2 : gb l 1 = 91
  · rw [if_pos c2]; exact seqGo_le l (by omega) 14 0
  rw [if_neg c2]
  by_cases c3 : gb l 1 = 79
  · rw [if_pos c3]
    by_cases c4 : l.length = 2
    · rw [if_pos c4]; simp
    · rw [if_neg c4]
      split <;> simp only <;> omega
  rw [if_neg c3]
  have h1 := plainF_n (l.drop 1)
  have h2 := plainF_le (l.drop 1) (by rw [List.length_drop]; omega)
  rw [List.length_drop] at h2
  split
  · simp only; omega
  · omega
theorem behindF_more (l r : List UInt8) (hl : 0 < l.length) (h : 0 < (behindF l).1) : behindF (l ++ r) = behindF l := by
  unfold behindF at h ⊢
  by_cases c0 : l.length = 1
  · rw [if_pos c0] at h; exact absurd h (by decide)
  rw [if_neg c0] at h
  rw [if_neg (by rw [List.length_append]; omega), if_neg c0, gb_append l r 1 (by omega)]
  by_cases c1 : gb l 1 = 27
  · rw [if_pos c1, if_pos c1]
  rw [if_neg c1] at h
  rw [if_neg c1, if_neg c1]
  by_cases c2 : gb l 1 = 91
  · rw [if_pos c2] at h
    rw [if_pos c2, if_pos c2]
    exact seqGo_more l r 14 0 h
  rw [if_neg c2] at h
  rw [if_neg c2, if_neg c2]
  by_cases c3 : gb l 1 = 79
  · rw [if_pos c3] at h
    rw [if_pos c3, if_pos c3]
    by_cases c4 : l.length = 2
    · rw [if_pos c4] at h; exact absurd h (by decide)
    · rw [if_neg c4] at h
      rw [if_neg (by rw [List.length_append]; omega), if_neg c4, gb_append l r 2 (by omega)]
  rw [if_neg c3] at h
  rw [if_neg c3, if_neg c3, List.drop_append_of_le_length (by omega)]
  by_cases c5 : 0 < (plainF (l.drop 1)).1
  · rw [plainF_more _ r (by rw [List.length_drop]; omega) c5]
  · rw [if_neg c5] at h; exact absurd h c5

theorem keyF_le (l : List UInt8) (h : 0 < l.length) : 0 ≤ (keyF l).1 ∧ (keyF l).1 ≤ l.length := by
  unfold keyF
  split
  · exact behindF_le l h
  · exact ⟨(plainF_n l).1, plainF_le l h⟩
theorem keyF_more (l r : List UInt8) (hl : 0 < l.length) (h : 0 < (keyF l).1) : keyF (l ++ r) = keyF l := by
  unfold keyF at h ⊢
  rw [gb_append _ _ _ hl]
  split
  · rename_i c; rw [if_pos c] at h; exact behindF_more l r hl h
  · rename_i c; rw [if_neg c] at h; exact plainF_more l r hl h

/-- The keys of bytes, and what waits. -/
def runK : Nat → List UInt8 → List (Int × Int × Int) × List UInt8
  | 0, l => ([], l)
  | f + 1, l =>
    if l.length = 0 then ([], l) else if (keyF l).1 = 0 then ([], l)
    else ((if (keyF l).2.1 ≠ 0 then [(keyF l).2] else []) ++ (runK f (l.drop (keyF l).1.toNat)).1, (runK f (l.drop (keyF l).1.toNat)).2)
theorem runK_fuel : ∀ (f f' : Nat) (l : List UInt8), l.length ≤ f → l.length ≤ f' → runK f l = runK f' l
  | 0, f', l, h, _ => by
    have h0 : l.length = 0 := by omega
    cases f' with
    | zero => rfl
    | succ f' =>
      have e : runK (f' + 1) l = ([], l) := by rw [runK, if_pos h0]
      rw [e]; rfl
  | f + 1, 0, l, _, h => by
    have h0 : l.length = 0 := by omega
    have e : runK (f + 1) l = ([], l) := by rw [runK, if_pos h0]
    rw [e]; rfl
  | f + 1, f' + 1, l, h, h' => by
    rw [runK, runK]
    by_cases h0 : l.length = 0
    · rw [if_pos h0, if_pos h0]
    · rw [if_neg h0, if_neg h0]
      by_cases hk : (keyF l).1 = 0
      · rw [if_pos hk, if_pos hk]
      · have hn := keyF_le l (by omega)
        have hd : (l.drop (keyF l).1.toNat).length ≤ l.length - 1 := by rw [List.length_drop]; omega
        rw [if_neg hk, if_neg hk, runK_fuel f f' _ (by omega) (by omega)]
def keysOf (l : List UInt8) : List (Int × Int × Int) × List UInt8 := runK l.length l
theorem keysOf_stop (l : List UInt8) (h : l.length = 0 ∨ (keyF l).1 = 0) : keysOf l = ([], l) := by
  unfold keysOf
  cases hl : l.length with
  | zero => rfl
  | succ n =>
    rw [runK, if_neg (by omega), if_pos (by rcases h with h | h <;> omega)]
theorem keysOf_step (l : List UInt8) (h0 : 0 < l.length) (h : (keyF l).1 ≠ 0) :
    keysOf l = ((if (keyF l).2.1 ≠ 0 then [(keyF l).2] else []) ++ (keysOf (l.drop (keyF l).1.toNat)).1, (keysOf (l.drop (keyF l).1.toNat)).2) := by
  have hn := keyF_le l h0
  have hd : (l.drop (keyF l).1.toNat).length ≤ l.length - 1 := by rw [List.length_drop]; omega
  obtain ⟨n, hl⟩ : ∃ n, l.length = n + 1 := ⟨l.length - 1, by omega⟩
  unfold keysOf
  rw [hl, runK, if_neg (by omega), if_neg h, runK_fuel n _ _ (by omega) (Nat.le_refl _)]

/-- BYTES IN PARTS: the keys of the first part, and then those of what waits with the second part behind. -/
theorem keysOf_append : ∀ (n : Nat) (x y : List UInt8), x.length ≤ n → keysOf (x ++ y) = ((keysOf x).1 ++ (keysOf ((keysOf x).2 ++ y)).1, (keysOf ((keysOf x).2 ++ y)).2)
  | 0, x, y, h => by
    have : x = [] := List.eq_nil_of_length_eq_zero (by omega)
    subst this
    simp [keysOf, runK]
  | n + 1, x, y, h => by
    by_cases hs : x.length = 0 ∨ (keyF x).1 = 0
    · rw [keysOf_stop x hs]; simp
    · have h0 : 0 < x.length := by omega
      have hk : (keyF x).1 ≠ 0 := fun e => hs (.inr e)
      have hn := keyF_le x h0
      have hm := keyF_more x y h0 (by omega)
      have hd : (x.drop (keyF x).1.toNat).length ≤ n := by rw [List.length_drop]; omega
      rw [keysOf_step x h0 hk, keysOf_step (x ++ y) (by rw [List.length_append]; omega) (by rw [hm]; exact hk), hm, List.drop_append_of_le_length (by omega), keysOf_append n _ y hd]
      simp only [List.append_assoc]
theorem keysOf_rest_le : ∀ (n : Nat) (x : List UInt8), x.length ≤ n → (keysOf x).2.length ≤ x.length ∧ (keysOf x).1.length ≤ x.length
  | 0, x, h => by
    have : x = [] := List.eq_nil_of_length_eq_zero (by omega)
    subst this
    simp [keysOf, runK]
  | n + 1, x, h => by
    by_cases hs : x.length = 0 ∨ (keyF x).1 = 0
    · rw [keysOf_stop x hs]; simp
    · have h0 : 0 < x.length := by omega
      have hk : (keyF x).1 ≠ 0 := fun e => hs (.inr e)
      have hn := keyF_le x h0
      have hd : (x.drop (keyF x).1.toNat).length ≤ x.length - 1 := by rw [List.length_drop]; omega
      have ih := keysOf_rest_le n (x.drop (keyF x).1.toNat) (by omega)
      rw [keysOf_step x h0 hk]
      constructor
      · simp only; omega
      · simp only [List.length_append]
        split <;> simp <;> omega
end Kp
end Go.Proofs.YtbjckccgbmimpabGreatDoor

/- What a decoder holds; keys in a row of their own. -/
namespace Go.Proofs.YtbjckccgbmimpabGreatDoor
open Go.RowKit Go.Proofs.YtbjckccgbmimpabGreatDoorW.PrintWords Go.Proofs.YtbjckccgbmimpabGreatDoorW.PrintLast Go.Proofs.YtbjckccgbmimpabGreatDoorW.PrintMore

abbrev Key := Int × Int × Int
def keyVals (k : Key) : List Value := [.int .i64 k.1, .int .i32 k.2.1, .int .i64 k.2.2]
def kcs (ks : List Key) : List Value := ks.flatMap keyVals
theorem kcs_snoc (ks : List Key) (k : Key) : kcs (ks ++ [k]) = kcs ks ++ keyVals k := by simp [kcs]
theorem kcs_length (ks : List Key) : (kcs ks).length = ks.length * 3 := by
  induction ks with
  | nil => rfl
  | cons a r ih => simp only [kcs, List.flatMap_cons, List.length_append, List.length_cons] at ih ⊢; simp only [keyVals, List.length_cons, List.length_nil]; omega
def bz (l : List UInt8) : List Int := l.map fun b => (b.toNat : Int)
theorem bz_length (l : List UInt8) : (bz l).length = l.length := by simp [bz]
theorem bz_append (l r : List UInt8) : bz (l ++ r) = bz l ++ bz r := by simp [bz]
/-- A row of bytes of one's own, read. -/
theorem own_RB {w : World} {base : Nat} {v : Value} {l : List UInt8} (h : w.ownsRow base 5 1 v (bz l).length (nums .u8 (bz l))) : ∃ A c, v = .slice A l.length c ∧ l.length ≤ c ∧ RB w A l := by
  obtain ⟨A, c, rfl, hr⟩ := own_reads h
  rw [bz_length] at hr h ⊢
  refine ⟨A, c, rfl, ?_, rfl, hr.2.1, fun hp => ?_⟩
  · rcases h.2 with ⟨he, hn⟩ | ⟨g, cap, cur, he, _, _, hc, _⟩
    · omega
    · injection he with _ _ he; omega
  · obtain ⟨ad, he, hc⟩ := hr.2.2 hp
    refine ⟨ad, he, fun j hj => ?_⟩
    rw [hc j hj]
    simp [bz, List.getD_eq_getElem?_getD, List.getElem?_eq_getElem hj]

theorem own_blk {w : World} {base e size n : Nat} {v : Value} {xs : List Value} (h : w.ownsRow base e size v n xs) {k : Nat} (hk : v.ownBlock = some k) : ∃ cur, w.heap[k]? = some (.cells cur e (0, 0)) := by
  rcases h.2 with ⟨rfl, _⟩ | ⟨g, cap, cur, rfl, _, hh, _⟩
  · simp [Value.ownBlock] at hk
  · simp only [Value.ownBlock, Option.some.injEq] at hk
    subst hk
    exact ⟨cur, hh⟩
/-- What is written elsewhere leaves a row alone. -/
theorem own_kept {w w' : World} {base e size n : Nat} {v : Value} {xs : List Value} {S : Nat → Prop} (h : w.ownsRow base e size v n xs) (hk : Kept w w' S) (hS : ∀ k, v.ownBlock = some k → ¬ S k) : w'.ownsRow base e size v n xs := by
  refine ⟨h.1, ?_⟩
  rcases h.2 with h2 | ⟨g, cap, cur, rfl, hg, hh, r⟩
  · exact .inl h2
  · exact .inr ⟨g, cap, cur, rfl, hg, blk_kept hh hk (hS g rfl), r⟩
def lenOfV : Value → Nat | .slice _ n _ => n | _ => 0

theorem own_ne_blk {w : World} {base e size n : Nat} {v : Value} {xs : List Value} (h : w.ownsRow base e size v n xs) {g t : Nat} {cs : Array Value} (hg : w.heap[g]? = some (.cells cs t (0, 0))) (ht : e ≠ t) : ∀ k, v.ownBlock = some k → k ≠ g := fun k hk hkg => by
  subst hkg
  obtain ⟨cur, hc⟩ := own_blk h hk
  rw [hg] at hc
  injection hc with hc
  injection hc with _ h2
  exact ht h2.symm
theorem blk_set {w : World} {g t : Nat} {v : Value} (h : w.heap[g]? = some (.cells #[v] t (0, 0))) (u : Value) : (w.setCell ⟨g, 0, none⟩ u).heap[g]? = some (.cells #[u] t (0, 0)) := by
  simp only [World.setCell, Array.getElem?_modify, h]
  simp
theorem own_empty {W : World} {base r : Nat} (hb : base ≤ W.heap.size) (hr : r = W.heap.size) : (W.alloc (.cells #[] 5)).ownsRow base 5 1 (.slice (some ⟨r, 0, none⟩) 0 0) ([] : List Int).length (nums .u8 []) := by
  subst hr
  exact own_lit W base 5 .u8 [] hb (by decide)
end Go.Proofs.YtbjckccgbmimpabGreatDoor
