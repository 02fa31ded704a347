/- Plain laws: what the document's Of, Rune and Proper answer is what the program's answer. -/
import Derived.Test.YtbjckccgbmimpabGreatDoorT3
import Derived.Test.YtbjckccgbmimpabGreatDoorPProperx2
import Derived.Test.YtbjckccgbmimpabGreatDoorV9
import Derived.Test.YtbjckccgbmimpabGreatDoorPPaintx2
namespace Go.Proofs.YtbjckccgbmimpabGreatDoor
open Go.RowKit Go.Proofs.YtbjckccgbmimpabGreatDoorW.PrintWords
def bw (c a b : Int) : Bool := decide (a ≤ c) && decide (c ≤ b)
theorem bw_true {c a b : Int} (h : a ≤ c ∧ c ≤ b) : bw c a b = true := by simp [bw, h]
theorem bw_false {c a b : Int} (h : ¬ (a ≤ c ∧ c ≤ b)) : bw c a b = false := by
  rw [Bool.eq_false_iff]
  intro e
  apply h
  simpa [bw] using e
def wz (c : Int) : Bool := bw c 768 879 || bw c 8203 8207 || bw c 65024 65039
def wt3 (c : Int) : Bool := bw c 65504 65510 || bw c 127744 128591 || bw c 129280 129535 || bw c 131072 262141
def wt2 (c : Int) : Bool := bw c 44032 55203 || bw c 63744 64255 || bw c 65072 65135 || bw c 65280 65376
def wt1 (c : Int) : Bool := bw c 4352 4447 || bw c 11904 12350 || bw c 12353 19903 || bw c 19968 42191
theorem wn_0_0 (c : Int) : Kp.widB 11 0 0 c = 1 := by
  rw [show Kp.widB 11 0 0 c = Kp.widB (10 + 1) 0 0 c from rfl, Kp.widB.eq_2, if_neg (by decide)]
theorem wn_1_1 (c : Int) : Kp.widB 11 1 1 c = 1 := by
  rw [show Kp.widB 11 1 1 c = Kp.widB (10 + 1) 1 1 c from rfl, Kp.widB.eq_2, if_neg (by decide)]
theorem wn_0_1 (c : Int) : Kp.widB 12 0 1 c = if c < 768 then Kp.widB 11 0 0 c else if 879 < c then Kp.widB 11 1 1 c else 0 := by
  rw [show Kp.widB 12 0 1 c = Kp.widB (11 + 1) 0 1 c from rfl, Kp.widB.eq_2, if_pos (by decide)]
  rfl
theorem wn_2_2 (c : Int) : Kp.widB 11 2 2 c = 1 := by
  rw [show Kp.widB 11 2 2 c = Kp.widB (10 + 1) 2 2 c from rfl, Kp.widB.eq_2, if_neg (by decide)]
theorem wn_3_3 (c : Int) : Kp.widB 11 3 3 c = 1 := by
  rw [show Kp.widB 11 3 3 c = Kp.widB (10 + 1) 3 3 c from rfl, Kp.widB.eq_2, if_neg (by decide)]
theorem wn_2_3 (c : Int) : Kp.widB 12 2 3 c = if c < 8203 then Kp.widB 11 2 2 c else if 8207 < c then Kp.widB 11 3 3 c else 0 := by
  rw [show Kp.widB 12 2 3 c = Kp.widB (11 + 1) 2 3 c from rfl, Kp.widB.eq_2, if_pos (by decide)]
  rfl
theorem wn_0_3 (c : Int) : Kp.widB 13 0 3 c = if c < 4352 then Kp.widB 12 0 1 c else if 4447 < c then Kp.widB 12 2 3 c else 2 := by
  rw [show Kp.widB 13 0 3 c = Kp.widB (12 + 1) 0 3 c from rfl, Kp.widB.eq_2, if_pos (by decide)]
  rfl
theorem wn_4_4 (c : Int) : Kp.widB 11 4 4 c = 1 := by
  rw [show Kp.widB 11 4 4 c = Kp.widB (10 + 1) 4 4 c from rfl, Kp.widB.eq_2, if_neg (by decide)]
theorem wn_5_5 (c : Int) : Kp.widB 11 5 5 c = 1 := by
  rw [show Kp.widB 11 5 5 c = Kp.widB (10 + 1) 5 5 c from rfl, Kp.widB.eq_2, if_neg (by decide)]
theorem wn_4_5 (c : Int) : Kp.widB 12 4 5 c = if c < 12353 then Kp.widB 11 4 4 c else if 19903 < c then Kp.widB 11 5 5 c else 2 := by
  rw [show Kp.widB 12 4 5 c = Kp.widB (11 + 1) 4 5 c from rfl, Kp.widB.eq_2, if_pos (by decide)]
  rfl
theorem wn_6_6 (c : Int) : Kp.widB 11 6 6 c = 1 := by
  rw [show Kp.widB 11 6 6 c = Kp.widB (10 + 1) 6 6 c from rfl, Kp.widB.eq_2, if_neg (by decide)]
theorem wn_7_7 (c : Int) : Kp.widB 11 7 7 c = 1 := by
  rw [show Kp.widB 11 7 7 c = Kp.widB (10 + 1) 7 7 c from rfl, Kp.widB.eq_2, if_neg (by decide)]
theorem wn_6_7 (c : Int) : Kp.widB 12 6 7 c = if c < 44032 then Kp.widB 11 6 6 c else if 55203 < c then Kp.widB 11 7 7 c else 2 := by
  rw [show Kp.widB 12 6 7 c = Kp.widB (11 + 1) 6 7 c from rfl, Kp.widB.eq_2, if_pos (by decide)]
  rfl
theorem wn_4_7 (c : Int) : Kp.widB 13 4 7 c = if c < 19968 then Kp.widB 12 4 5 c else if 42191 < c then Kp.widB 12 6 7 c else 2 := by
  rw [show Kp.widB 13 4 7 c = Kp.widB (12 + 1) 4 7 c from rfl, Kp.widB.eq_2, if_pos (by decide)]
  rfl
theorem wn_0_7 (c : Int) : Kp.widB 14 0 7 c = if c < 11904 then Kp.widB 13 0 3 c else if 12350 < c then Kp.widB 13 4 7 c else 2 := by
  rw [show Kp.widB 14 0 7 c = Kp.widB (13 + 1) 0 7 c from rfl, Kp.widB.eq_2, if_pos (by decide)]
  rfl
theorem wn_8_8 (c : Int) : Kp.widB 11 8 8 c = 1 := by
  rw [show Kp.widB 11 8 8 c = Kp.widB (10 + 1) 8 8 c from rfl, Kp.widB.eq_2, if_neg (by decide)]
theorem wn_9_9 (c : Int) : Kp.widB 11 9 9 c = 1 := by
  rw [show Kp.widB 11 9 9 c = Kp.widB (10 + 1) 9 9 c from rfl, Kp.widB.eq_2, if_neg (by decide)]
theorem wn_8_9 (c : Int) : Kp.widB 12 8 9 c = if c < 65024 then Kp.widB 11 8 8 c else if 65039 < c then Kp.widB 11 9 9 c else 0 := by
  rw [show Kp.widB 12 8 9 c = Kp.widB (11 + 1) 8 9 c from rfl, Kp.widB.eq_2, if_pos (by decide)]
  rfl
theorem wn_10_10 (c : Int) : Kp.widB 11 10 10 c = 1 := by
  rw [show Kp.widB 11 10 10 c = Kp.widB (10 + 1) 10 10 c from rfl, Kp.widB.eq_2, if_neg (by decide)]
theorem wn_11_11 (c : Int) : Kp.widB 11 11 11 c = 1 := by
  rw [show Kp.widB 11 11 11 c = Kp.widB (10 + 1) 11 11 c from rfl, Kp.widB.eq_2, if_neg (by decide)]
theorem wn_10_11 (c : Int) : Kp.widB 12 10 11 c = if c < 65280 then Kp.widB 11 10 10 c else if 65376 < c then Kp.widB 11 11 11 c else 2 := by
  rw [show Kp.widB 12 10 11 c = Kp.widB (11 + 1) 10 11 c from rfl, Kp.widB.eq_2, if_pos (by decide)]
  rfl
theorem wn_8_11 (c : Int) : Kp.widB 13 8 11 c = if c < 65072 then Kp.widB 12 8 9 c else if 65135 < c then Kp.widB 12 10 11 c else 2 := by
  rw [show Kp.widB 13 8 11 c = Kp.widB (12 + 1) 8 11 c from rfl, Kp.widB.eq_2, if_pos (by decide)]
  rfl
theorem wn_12_12 (c : Int) : Kp.widB 11 12 12 c = 1 := by
  rw [show Kp.widB 11 12 12 c = Kp.widB (10 + 1) 12 12 c from rfl, Kp.widB.eq_2, if_neg (by decide)]
theorem wn_13_13 (c : Int) : Kp.widB 11 13 13 c = 1 := by
  rw [show Kp.widB 11 13 13 c = Kp.widB (10 + 1) 13 13 c from rfl, Kp.widB.eq_2, if_neg (by decide)]
theorem wn_12_13 (c : Int) : Kp.widB 12 12 13 c = if c < 127744 then Kp.widB 11 12 12 c else if 128591 < c then Kp.widB 11 13 13 c else 2 := by
  rw [show Kp.widB 12 12 13 c = Kp.widB (11 + 1) 12 13 c from rfl, Kp.widB.eq_2, if_pos (by decide)]
  rfl
theorem wn_14_14 (c : Int) : Kp.widB 11 14 14 c = 1 := by
  rw [show Kp.widB 11 14 14 c = Kp.widB (10 + 1) 14 14 c from rfl, Kp.widB.eq_2, if_neg (by decide)]
theorem wn_15_15 (c : Int) : Kp.widB 11 15 15 c = 1 := by
  rw [show Kp.widB 11 15 15 c = Kp.widB (10 + 1) 15 15 c from rfl, Kp.widB.eq_2, if_neg (by decide)]
theorem wn_14_15 (c : Int) : Kp.widB 12 14 15 c = if c < 131072 then Kp.widB 11 14 14 c else if 262141 < c then Kp.widB 11 15 15 c else 2 := by
  rw [show Kp.widB 12 14 15 c = Kp.widB (11 + 1) 14 15 c from rfl, Kp.widB.eq_2, if_pos (by decide)]
  rfl
theorem wn_12_15 (c : Int) : Kp.widB 13 12 15 c = if c < 129280 then Kp.widB 12 12 13 c else if 129535 < c then Kp.widB 12 14 15 c else 2 := by
  rw [show Kp.widB 13 12 15 c = Kp.widB (12 + 1) 12 15 c from rfl, Kp.widB.eq_2, if_pos (by decide)]
  rfl
theorem wn_8_15 (c : Int) : Kp.widB 14 8 15 c = if c < 65504 then Kp.widB 13 8 11 c else if 65510 < c then Kp.widB 13 12 15 c else 2 := by
  rw [show Kp.widB 14 8 15 c = Kp.widB (13 + 1) 8 15 c from rfl, Kp.widB.eq_2, if_pos (by decide)]
  rfl
theorem wn_0_15 (c : Int) : Kp.widB 15 0 15 c = if c < 63744 then Kp.widB 14 0 7 c else if 64255 < c then Kp.widB 14 8 15 c else 2 := by
  rw [show Kp.widB 15 0 15 c = Kp.widB (14 + 1) 0 15 c from rfl, Kp.widB.eq_2, if_pos (by decide)]
  rfl
set_option maxRecDepth 100000 in
set_option maxHeartbeats 4000000 in
theorem wid_flat (c : Int) : Kp.wid c = bif wz c then 0 else bif wt1 c || (wt2 c || wt3 c) then 2 else 1 := by
  have key : ∀ v : Int, Kp.widB 15 0 15 c = v → (bif wz c then 0 else bif wt1 c || (wt2 c || wt3 c) then 2 else 1) = v := by
    intro v hv
    rw [wn_0_15] at hv
    simp only [wn_0_0, wn_1_1, wn_0_1, wn_2_2, wn_3_3, wn_2_3, wn_0_3, wn_4_4, wn_5_5, wn_4_5, wn_6_6, wn_7_7, wn_6_7, wn_4_7, wn_0_7, wn_8_8, wn_9_9, wn_8_9, wn_10_10, wn_11_11, wn_10_11, wn_8_11, wn_12_12, wn_13_13, wn_12_13, wn_14_14, wn_15_15, wn_14_15, wn_12_15, wn_8_15] at hv
    simp only [wz, wt1, wt2, wt3]
    repeat' split at hv
    all_goals
      (first | rw [bw_true (c := c) (a := 768) (b := 879) (by omega)] | rw [bw_false (c := c) (a := 768) (b := 879) (by omega)])
      (first | rw [bw_true (c := c) (a := 4352) (b := 4447) (by omega)] | rw [bw_false (c := c) (a := 4352) (b := 4447) (by omega)])
      (first | rw [bw_true (c := c) (a := 8203) (b := 8207) (by omega)] | rw [bw_false (c := c) (a := 8203) (b := 8207) (by omega)])
      (first | rw [bw_true (c := c) (a := 11904) (b := 12350) (by omega)] | rw [bw_false (c := c) (a := 11904) (b := 12350) (by omega)])
      (first | rw [bw_true (c := c) (a := 12353) (b := 19903) (by omega)] | rw [bw_false (c := c) (a := 12353) (b := 19903) (by omega)])
      (first | rw [bw_true (c := c) (a := 19968) (b := 42191) (by omega)] | rw [bw_false (c := c) (a := 19968) (b := 42191) (by omega)])
      (first | rw [bw_true (c := c) (a := 44032) (b := 55203) (by omega)] | rw [bw_false (c := c) (a := 44032) (b := 55203) (by omega)])
      (first | rw [bw_true (c := c) (a := 63744) (b := 64255) (by omega)] | rw [bw_false (c := c) (a := 63744) (b := 64255) (by omega)])
      (first | rw [bw_true (c := c) (a := 65024) (b := 65039) (by omega)] | rw [bw_false (c := c) (a := 65024) (b := 65039) (by omega)])
      (first | rw [bw_true (c := c) (a := 65072) (b := 65135) (by omega)] | rw [bw_false (c := c) (a := 65072) (b := 65135) (by omega)])
      (first | rw [bw_true (c := c) (a := 65280) (b := 65376) (by omega)] | rw [bw_false (c := c) (a := 65280) (b := 65376) (by omega)])
      (first | rw [bw_true (c := c) (a := 65504) (b := 65510) (by omega)] | rw [bw_false (c := c) (a := 65504) (b := 65510) (by omega)])
      (first | rw [bw_true (c := c) (a := 127744) (b := 128591) (by omega)] | rw [bw_false (c := c) (a := 127744) (b := 128591) (by omega)])
      (first | rw [bw_true (c := c) (a := 129280) (b := 129535) (by omega)] | rw [bw_false (c := c) (a := 129280) (b := 129535) (by omega)])
      (first | rw [bw_true (c := c) (a := 131072) (b := 262141) (by omega)] | rw [bw_false (c := c) (a := 131072) (b := 262141) (by omega)])
      exact hv
  exact (key _ rfl).symm
namespace PProper
theorem within_eq (a b c : Int) : stylusref02_within.f c a b = some (bw c a b) := by
  unfold stylusref02_within.f bw
  by_cases h : c ≥ a
  · rw [if_pos h, decide_eq_true (show a ≤ c from h), Bool.true_and]
  · rw [if_neg h, decide_eq_false (show ¬ a ≤ c from h), Bool.false_and]
theorem j2_eq (k : Nat) (c : Int) (x3 x4 : Bool) : stylusref02_Of.j2 (k + 1) c x3 x4 = some (bif x3 || (x4 || wt3 c) then 2 else 1) := by
  simp only [stylusref02_Of.j2, within_eq, Option.bind_some, wt3]
  obtain ⟨p, hp⟩ : ∃ p, bw c 65504 65510 = p := ⟨_, rfl⟩
  obtain ⟨q, hq⟩ : ∃ q, bw c 127744 128591 = q := ⟨_, rfl⟩
  obtain ⟨r, hr⟩ : ∃ r, bw c 129280 129535 = r := ⟨_, rfl⟩
  obtain ⟨s, hs⟩ : ∃ s, bw c 131072 262141 = s := ⟨_, rfl⟩
  cases x3 <;> cases x4 <;> cases p <;> cases q <;> cases r <;> cases s <;> simp [hp, hq, hr, hs]
theorem j1_eq (k : Nat) (c : Int) (x3 : Bool) : stylusref02_Of.j1 (k + 2) c x3 = some (bif x3 || (wt2 c || wt3 c) then 2 else 1) := by
  simp only [stylusref02_Of.j1, within_eq, Option.bind_some, j2_eq, wt2]
  obtain ⟨p, hp⟩ : ∃ p, bw c 44032 55203 = p := ⟨_, rfl⟩
  obtain ⟨q, hq⟩ : ∃ q, bw c 63744 64255 = q := ⟨_, rfl⟩
  obtain ⟨r, hr⟩ : ∃ r, bw c 65072 65135 = r := ⟨_, rfl⟩
  obtain ⟨s, hs⟩ : ∃ s, bw c 65280 65376 = s := ⟨_, rfl⟩
  obtain ⟨t, ht⟩ : ∃ t, wt3 c = t := ⟨_, rfl⟩
  cases x3 <;> cases t <;> cases p <;> cases q <;> cases r <;> cases s <;> simp [hp, hq, hr, hs, ht]
theorem j0_eq (k : Nat) (c : Int) (z : Bool) : stylusref02_Of.j0 (k + 3) c z = some (bif z then 0 else bif wt1 c || (wt2 c || wt3 c) then 2 else 1) := by
  simp only [stylusref02_Of.j0, within_eq, Option.bind_some, j1_eq, wt1]
  obtain ⟨p, hp⟩ : ∃ p, bw c 4352 4447 = p := ⟨_, rfl⟩
  obtain ⟨q, hq⟩ : ∃ q, bw c 11904 12350 = q := ⟨_, rfl⟩
  obtain ⟨r, hr⟩ : ∃ r, bw c 12353 19903 = r := ⟨_, rfl⟩
  obtain ⟨s, hs⟩ : ∃ s, bw c 19968 42191 = s := ⟨_, rfl⟩
  obtain ⟨t, ht⟩ : ∃ t, (wt2 c || wt3 c) = t := ⟨_, rfl⟩
  cases z <;> cases t <;> cases p <;> cases q <;> cases r <;> cases s <;> simp [hp, hq, hr, hs, ht]
theorem of_eq (k : Nat) (c : Int) : stylusref02_Of.f (k + 3) c = some (Kp.wid c) := by
  rw [wid_flat]
  simp only [stylusref02_Of.f, within_eq, Option.bind_some, j0_eq, wz]
  obtain ⟨p, hp⟩ : ∃ p, bw c 768 879 = p := ⟨_, rfl⟩
  obtain ⟨q, hq⟩ : ∃ q, bw c 8203 8207 = q := ⟨_, rfl⟩
  obtain ⟨r, hr⟩ : ∃ r, bw c 65024 65039 = r := ⟨_, rfl⟩
  obtain ⟨t, ht⟩ : ∃ t, (wt1 c || (wt2 c || wt3 c)) = t := ⟨_, rfl⟩
  cases t <;> cases p <;> cases q <;> cases r <;> simp [hp, hq, hr, ht]
theorem right_eq (c : Int) : stylusref01_Right.f c = some (decide (Kp.right c)) := by
  unfold stylusref01_Right.f Kp.right
  by_cases h : 0 ≤ c ∧ c ≤ 1114111 ∧ (c < 55296 ∨ 57343 < c)
  · rw [decide_eq_true h]
    repeat' split
    all_goals first | rfl | (exfalso; omega) | (rw [decide_eq_true (by omega)])
  · rw [decide_eq_false h]
    repeat' split
    all_goals first | rfl | (exfalso; omega) | (rw [decide_eq_false (by omega)])
theorem rune_eq (k : Nat) (c : Int) : stylusref23_Rune.f (k + 3) c = some (decide (¬ Kp.odd c)) := by
  simp only [stylusref23_Rune.f, right_eq, Option.bind_some, of_eq]
  by_cases h : Kp.odd c
  · rw [decide_eq_false (show ¬ ¬ Kp.odd c from fun e => e h)]
    unfold Kp.odd at h
    by_cases hr : Kp.right c
    · rw [decide_eq_true hr, if_pos rfl]
      have h' : c < 32 ∨ (127 ≤ c ∧ c < 160) ∨ Kp.wid c < 1 := by
        rcases h with h | h
        · exact absurd hr h
        · exact h
      repeat' split
      all_goals first | rfl | (exfalso; omega) | (rw [decide_eq_false (by omega)])
    · rw [decide_eq_false hr]; rfl
  · rw [decide_eq_true (show ¬ Kp.odd c from h)]
    have hr : Kp.right c := Decidable.not_not.1 fun e => h (.inl e)
    have h1 : ¬ c < 32 := fun e => h (.inr (.inl e))
    have h2 : ¬ (127 ≤ c ∧ c < 160) := fun e => h (.inr (.inr (.inl e)))
    have h3 : ¬ Kp.wid c < 1 := fun e => h (.inr (.inr (.inr e)))
    rw [decide_eq_true hr, if_pos rfl]
    repeat' split
    all_goals first | rfl | (exfalso; omega) | (rw [decide_eq_true (by omega)])
end PProper
end Go.Proofs.YtbjckccgbmimpabGreatDoor

/- Plain laws: the document's Proper and the program's Proper answer alike. -/
namespace Go.Proofs.YtbjckccgbmimpabGreatDoor
open Go.RowKit Go.Proofs.YtbjckccgbmimpabGreatDoorW.PrintWords
theorem w64_in (n : Int) (h : -9223372036854775808 ≤ n ∧ n ≤ 9223372036854775807) : wrap64 n = n := by unfold wrap64; omega
theorem last_mod {R C i : Nat} (h : i + 1 = R * C) (hC : 1 ≤ C) : i % C = C - 1 := by
  have hR : 1 ≤ R := by
    rcases Nat.eq_zero_or_pos R with rfl | h1
    · rw [Nat.zero_mul] at h; omega
    · exact h1
  obtain ⟨r, rfl⟩ : ∃ r, R = r + 1 := ⟨R - 1, by omega⟩
  rw [Nat.add_mul, Nat.one_mul] at h
  have e : i = C - 1 + r * C := by omega
  rw [e, Nat.add_mul_mod_self_right, Nat.mod_eq_of_lt (by omega)]
namespace PProper
def ofC (l : List Cell) : List S45 := l.map fun c => ⟨c.1, c.2⟩
theorem ofC_len (l : List Cell) : (ofC l).length = l.length := by simp [ofC]
theorem rd_f0 (l : List Cell) (i : Nat) : (rd_T45 (ofC l) (i : Int)).f0 = Kp.gr l i := by
  unfold rd_T45 ofC Kp.gr
  rw [Int.toNat_natCast]
  by_cases h : i < l.length
  · simp [List.getD, h]
  · simp [List.getD, List.getElem?_eq_none (show l.length ≤ i by omega), z45]
theorem rd_f1 (l : List Cell) (i : Nat) : (rd_T45 (ofC l) (i : Int)).f1 = Kp.gs l i := by
  unfold rd_T45 ofC Kp.gs
  rw [Int.toNat_natCast]
  by_cases h : i < l.length
  · simp [List.getD, h]
  · simp [List.getD, List.getElem?_eq_none (show l.length ≤ i by omega), z45]
set_option maxHeartbeats 1000000 in
theorem loop_eq {R C : Nat} {l : List Cell} (hC : 1 ≤ C) (hlen : l.length = R * C) (hL : l.length ≤ 1000000) : ∀ (d i k : Nat), l.length - i = d → i ≤ l.length →
    ∃ b, stylusref23_Proper.l0 (k + 2 * d + 5) C (ofC l) (i : Int) = some b ∧ (b = true ↔ ∀ j, i ≤ j → j < l.length → Kp.Pt C l j)
  | 0, i, k, hd, hi => by
    refine ⟨true, ?_, ⟨fun _ j h1 h2 => by omega, fun _ => rfl⟩⟩
    rw [show k + 2 * 0 + 5 = (k + 4) + 1 from rfl]
    simp only [stylusref23_Proper.l0]
    rw [if_neg (by rw [ofC_len]; omega)]
  | d + 1, i, k, hd, hi => by
    have hlt : i < l.length := by omega
    obtain ⟨b, hb, hbi⟩ := loop_eq hC hlen hL d (i + 1) k (by omega) (by omega)
    obtain ⟨x, hx⟩ : ∃ x, k + 2 * d + 5 = x := ⟨_, rfl⟩
    have hof : ∀ c, stylusref02_Of.f x c = some (Kp.wid c) := fun c => by rw [← hx]; exact of_eq (k + 2 * d + 2) c
    have hru : ∀ c, stylusref23_Rune.f x c = some (decide (¬ Kp.odd c)) := fun c => by rw [← hx]; exact rune_eq (k + 2 * d + 2) c
    rw [hx] at hb
    rw [show k + 2 * (d + 1) + 5 = x + 1 + 1 by omega]
    have w1 : wrap64 ((i : Int) + 1) = ((i + 1 : Nat) : Int) := by rw [w64_in _ (by omega)]; omega
    have tm : Int.tmod (i : Int) (C : Int) = ((i % C : Nat) : Int) := rfl
    have hex : ∀ b', (b' = true ↔ (Kp.Pt C l i ∧ b = true)) → (b' = true ↔ ∀ j, i ≤ j → j < l.length → Kp.Pt C l j) := fun b' h => by
      rw [h, hbi]
      constructor
      · rintro ⟨h1, h2⟩ j h3 h4
        by_cases e : j = i
        · rw [e]; exact h1
        · exact h2 j (by omega) h4
      · exact fun h1 => ⟨h1 i (Nat.le_refl _) hlt, fun j h3 h4 => h1 j (by omega) h4⟩
    have hno : ∀ {y : Option Bool}, y = some false → ¬ Kp.Pt C l i → ∃ b', y = some b' ∧ (b' = true ↔ ∀ j, i ≤ j → j < l.length → Kp.Pt C l j) := fun h1 h2 => ⟨false, h1, hex _ ⟨fun h => (by cases h), fun h => absurd h.1 h2⟩⟩
    have hyes : ∀ {y : Option Bool}, y = some b → Kp.Pt C l i → ∃ b', y = some b' ∧ (b' = true ↔ ∀ j, i ≤ j → j < l.length → Kp.Pt C l j) := fun h1 h2 => ⟨b, h1, hex _ ⟨fun h => ⟨h2, h⟩, fun h => h.2⟩⟩
    simp only [stylusref23_Proper.l0]
    rw [if_pos (by rw [ofC_len]; omega), if_pos (by omega)]
    simp only [rd_f0, rd_f1, stylusref23_Proper.j2]
    by_cases s1 : Kp.gs l i < 0
    · rw [if_pos s1, if_pos trivial]
      exact hno rfl fun h => by have := h.1; omega
    rw [if_neg s1]
    by_cases s2 : Kp.gs l i > 7
    · rw [if_pos (decide_eq_true s2)]
      exact hno rfl fun h => by have := h.1; omega
    rw [if_neg (by rw [decide_eq_false s2]; decide)]
    have hst : 0 ≤ Kp.gs l i ∧ Kp.gs l i < 8 := by omega
    by_cases hg : Kp.gr l i = 0
    · rw [if_pos hg, if_neg (by omega), tm]
      by_cases c1 : i % C = 0
      · rw [if_pos (by omega)]
        exact hno rfl fun h => (h.2.1 hg).1 c1
      rw [if_neg (by omega)]
      have hi0 : 1 ≤ i := by
        rcases Nat.eq_zero_or_pos i with rfl | h
        · rw [Nat.zero_mod] at c1; exact absurd rfl c1
        · exact h
      have w0 : wrap64 ((i : Int) - 1) = ((i - 1 : Nat) : Int) := by rw [w64_in _ (by omega)]; omega
      rw [w0, if_pos (by omega), if_pos (by rw [ofC_len]; omega), rd_f0, rd_f1]
      by_cases c2 : Kp.gr l (i - 1) = 0
      · rw [if_pos c2]
        exact hno rfl fun h => (h.2.1 hg).2.1 c2
      rw [if_neg c2, hof, Option.bind_some]
      by_cases c3 : Kp.wid (Kp.gr l (i - 1)) = 2
      · rw [if_pos c3]
        by_cases c4 : Kp.gs l (i - 1) = Kp.gs l i
        · rw [if_pos c4, w1]
          exact hyes hb ⟨hst, fun _ => ⟨c1, c2, c3, c4⟩, fun h => absurd hg h⟩
        · rw [if_neg c4]
          exact hno rfl fun h => c4 (h.2.1 hg).2.2.2
      · rw [if_neg c3]
        exact hno rfl fun h => c3 (h.2.1 hg).2.2.1
    · rw [if_neg hg, hru, Option.bind_some]
      by_cases c1 : Kp.odd (Kp.gr l i)
      · rw [if_neg (by rw [decide_eq_false (show ¬ ¬ Kp.odd (Kp.gr l i) from fun e => e c1)]; decide)]
        exact hno rfl fun h => (h.2.2 hg).1 c1
      rw [if_pos (decide_eq_true (show ¬ Kp.odd (Kp.gr l i) from c1)), hof, Option.bind_some]
      by_cases c2 : Kp.wid (Kp.gr l i) = 2
      · have wc : wrap64 ((C : Int) - 1) = ((C - 1 : Nat) : Int) := by
          have hCl : C ≤ 1000000 := by
            have : 1 ≤ R := by
              rcases Nat.eq_zero_or_pos R with rfl | h1
              · rw [Nat.zero_mul] at hlen; omega
              · exact h1
            have := Nat.mul_le_mul_right C this
            omega
          rw [w64_in _ (by omega)]; omega
        rw [if_pos c2, if_neg (by omega), tm, wc]
        by_cases c3 : i % C = C - 1
        · rw [if_pos (by omega)]
          exact hno rfl fun h => ((h.2.2 hg).2 c2).1 c3
        rw [if_neg (by omega), w1, if_pos (by omega)]
        have hl2 : i + 1 < l.length := by
          rcases Nat.lt_or_ge (i + 1) l.length with h | h
          · exact h
          · exact absurd (last_mod (show i + 1 = R * C by omega) hC) c3
        rw [if_pos (by rw [ofC_len]; omega), rd_f0]
        by_cases c4 : Kp.gr l (i + 1) = 0
        · rw [if_pos c4]
          exact hyes hb ⟨hst, fun h => absurd h hg, fun _ => ⟨c1, fun _ => ⟨c3, c4⟩⟩⟩
        · rw [if_neg c4]
          exact hno rfl fun h => c4 ((h.2.2 hg).2 c2).2
      · rw [if_neg c2, w1]
        exact hyes hb ⟨hst, fun h => absurd h hg, fun _ => ⟨c1, fun h => absurd h c2⟩⟩
theorem proper_law (rows cols : Int) (l : List Cell) (hL : l.length ≤ 1000000) : ∃ k b, stylusref23_Proper.f k rows cols (ofC l) = some b ∧ (b = true ↔ Kp.proper rows cols l) := by
  have hf : ∀ k, stylusref23_Proper.j0 (k + 1) cols (ofC l) true = some false := fun k => by simp only [stylusref23_Proper.j0, if_true]
  by_cases h1 : rows < 1
  · exact ⟨1, false, by unfold stylusref23_Proper.f; rw [if_pos h1]; exact hf 0, ⟨fun h => (by cases h), fun h => absurd h.1.1 (by omega)⟩⟩
  by_cases h2 : rows > 60
  · exact ⟨1, false, by unfold stylusref23_Proper.f; rw [if_neg h1, if_pos h2]; exact hf 0, ⟨fun h => (by cases h), fun h => absurd h.1.2 (by omega)⟩⟩
  by_cases h3 : cols < 1
  · exact ⟨1, false, by unfold stylusref23_Proper.f; rw [if_neg h1, if_neg h2, if_pos h3]; exact hf 0, ⟨fun h => (by cases h), fun h => absurd h.2.1.1 (by omega)⟩⟩
  by_cases h4 : cols > 60
  · exact ⟨1, false, by unfold stylusref23_Proper.f; rw [if_neg h1, if_neg h2, if_neg h3, if_pos h4]; exact hf 0, ⟨fun h => (by cases h), fun h => absurd h.2.1.2 (by omega)⟩⟩
  obtain ⟨R, rfl⟩ : ∃ R : Nat, rows = R := ⟨rows.toNat, by omega⟩
  obtain ⟨C, rfl⟩ : ∃ C : Nat, cols = C := ⟨cols.toNat, by omega⟩
  have hm : R * C ≤ 60 * 60 := Nat.mul_le_mul (by omega) (by omega)
  have w : wrap64 ((R : Int) * C) = ((R * C : Nat) : Int) := by
    rw [show (R : Int) * C = ((R * C : Nat) : Int) by push_cast; rfl, w64_in _ (by omega)]
  by_cases h5 : l.length = R * C
  · obtain ⟨b, hb, hbi⟩ := loop_eq (show 1 ≤ C by omega) h5 hL l.length 0 0 (by omega) (Nat.zero_le _)
    refine ⟨0 + 2 * l.length + 5 + 1, b, ?_, ?_⟩
    · unfold stylusref23_Proper.f
      rw [if_neg h1, if_neg h2, if_neg h3, if_neg h4, w, ofC_len, show ((l.length : Int) != ((R * C : Nat) : Int)) = false by rw [h5]; simp]
      simp only [stylusref23_Proper.j0]
      rw [if_neg (by decide)]
      exact hb
    · rw [hbi]
      have hi := Kp.proper_iff (show 1 ≤ R by omega) (show 1 ≤ C by omega) h5
      constructor
      · intro h
        refine ⟨⟨by omega, by omega⟩, ⟨by omega, by omega⟩, by rw [h5]; push_cast; rfl, ?_⟩
        rw [Int.toNat_natCast]
        exact hi.2 fun j hj => h j (Nat.zero_le _) hj
      · intro h j _ hj
        have := h.2.2.2
        rw [Int.toNat_natCast] at this
        exact hi.1 this j hj
  · refine ⟨1, false, ?_, ⟨fun h => (by cases h), fun h => absurd h.2.2.1 fun e => h5 (by exact_mod_cast e)⟩⟩
    unfold stylusref23_Proper.f
    rw [if_neg h1, if_neg h2, if_neg h3, if_neg h4, w, ofC_len, show ((l.length : Int) != ((R * C : Nat) : Int)) = true by simp; omega]
    exact hf 0
end PProper
end Go.Proofs.YtbjckccgbmimpabGreatDoor

/- Plain laws: the bytes of a row, as the document has them, are those that the program writes. -/
namespace Go.Proofs.YtbjckccgbmimpabGreatDoor
open Go.RowKit Go.Proofs.YtbjckccgbmimpabGreatDoorW.PrintWords
theorem w32_in (n : Int) (h : -2147483648 ≤ n ∧ n ≤ 2147483647) : wrap32 n = n := by unfold wrap32; omega
def zs (l : List UInt8) : List Int := l.map fun b => (b.toNat : Int)
theorem zs_app (a b : List UInt8) : zs (a ++ b) = zs a ++ zs b := by simp [zs]
theorem zs_len (a : List UInt8) : (zs a).length = a.length := by simp [zs]
theorem zs_of : ∀ (l : List Int), (∀ x ∈ l, 0 ≤ x ∧ x < 256) → zs (l.map fun x => x.toNat.toUInt8) = l
  | [], _ => rfl
  | x :: r, h => by
    have h1 := h x (by simp)
    have h2 := zs_of r fun y hy => h y (by simp [hy])
    have h3 : ((x.toNat.toUInt8).toNat : Int) = x := by
      simp only [Nat.toUInt8, UInt8.toNat_ofNat']
      omega
    show ((x.toNat.toUInt8).toNat : Int) :: zs (r.map fun x => x.toNat.toUInt8) = x :: r
    rw [h2, h3]
namespace PPaint
def ofC (l : List Cell) : List S45 := l.map fun c => ⟨c.1, c.2⟩
theorem ofC_len (l : List Cell) : (ofC l).length = l.length := by simp [ofC]
theorem rd_f0 (l : List Cell) (i : Nat) : (rd_T45 (ofC l) (i : Int)).f0 = Kp.gr l i := by
  unfold rd_T45 ofC Kp.gr
  rw [Int.toNat_natCast]
  by_cases h : i < l.length
  · simp [List.getD, h]
  · simp [List.getD, List.getElem?_eq_none (show l.length ≤ i by omega), z45]
theorem rd_f1 (l : List Cell) (i : Nat) : (rd_T45 (ofC l) (i : Int)).f1 = Kp.gs l i := by
  unfold rd_T45 ofC Kp.gs
  rw [Int.toNat_natCast]
  by_cases h : i < l.length
  · simp [List.getD, h]
  · simp [List.getD, List.getElem?_eq_none (show l.length ≤ i by omega), z45]
theorem right_eq (c : Int) (h : Kp.right c) : stylusref01_Right.f c = some true := by
  unfold stylusref01_Right.f
  unfold Kp.right at h
  repeat' split
  all_goals first | rfl | (exfalso; omega) | (rw [decide_eq_true (by omega)])
theorem one_eq (c : Int) (h : Kp.right c) : stylusref01_one.f c = some (zs (Lib.encodeRune c)) := by
  unfold Kp.right at h
  unfold stylusref01_one.f Lib.encodeRune
  have d : ∀ n : Int, 0 ≤ n → Int.tdiv c n = c / n := fun n hn => Int.tdiv_eq_ediv_of_nonneg h.1
  by_cases h1 : c < 128
  · rw [if_pos h1, Lib.encodeRuneZ_one h.1 (by omega), zs_of _ (by intro x hx; simp at hx; omega)]
    congr 2
    omega
  rw [if_neg h1]
  have m1 : Int.tmod c 64 = c % 64 := Int.tmod_eq_emod_of_nonneg h.1
  rw [d 64 (by decide), d 4096 (by decide), d 262144 (by decide), m1, w32_in (c / 64) (by omega), w32_in (c / 4096) (by omega), w32_in (c / 262144) (by omega)]
  have m2 : Int.tmod (c / 64) 64 = c / 64 % 64 := Int.tmod_eq_emod_of_nonneg (by omega)
  have m3 : Int.tmod (c / 4096) 64 = c / 4096 % 64 := Int.tmod_eq_emod_of_nonneg (by omega)
  rw [m2, m3]
  by_cases h2 : c < 2048
  · rw [if_pos h2, Lib.encodeRuneZ_two (by omega) (by omega), zs_of _ (by intro x hx; simp at hx; omega), w32_in _ (by omega), w32_in _ (by omega)]
    congr 2
    · omega
    · congr 1; omega
  rw [if_neg h2]
  by_cases h3 : c < 65536
  · rw [if_pos h3, Lib.encodeRuneZ_three (by omega), zs_of _ (by intro x hx; simp at hx; omega), w32_in (224 + c / 4096) (by omega), w32_in (128 + c / 64 % 64) (by omega), w32_in (128 + c % 64) (by omega)]
    congr 2
    · omega
    · congr 1
      · omega
      · congr 1; omega
  rw [if_neg h3, Lib.encodeRuneZ_four (by omega) (by omega), zs_of _ (by intro x hx; simp at hx; omega), w32_in (240 + c / 262144) (by omega), w32_in (128 + c / 4096 % 64) (by omega), w32_in (128 + c / 64 % 64) (by omega), w32_in (128 + c % 64) (by omega)]
  congr 2
  · omega
  · congr 1
    · omega
    · congr 1
      · omega
      · congr 1; omega
theorem enc_eq (k : Nat) (c : Int) (h : Kp.right c) : stylusref01_Encode.f (k + 2) [c] = some (zs (Lib.encodeRune c)) := by
  have hl := encodeRune_len c
  simp only [stylusref01_Encode.f, stylusref01_Encode.l0]
  have e : rd [c] 0 = c := rfl
  rw [if_pos (by simp), if_pos (by omega), e, right_eq c h, Option.bind_some, if_pos rfl, one_eq c h, Option.bind_some, if_pos (by rw [zs_len, List.length_nil]; omega)]
  rw [if_neg (by rw [w64_in _ (by omega)]; simp)]
  rfl
theorem number_eq (x0 : List Int) (n : Nat) (hn : n < 60) (hx : x0.length ≤ 1000000) : stylusref23_number.f x0 ((n : Int) + 1) = some (x0 ++ zs (Lib.decDigits (n + 1))) := by
  rw [Kp.dec_small n hn]
  unfold stylusref23_number.f
  have t1 : Int.tdiv ((n : Int) + 1) 10 = ((n : Int) + 1) / 10 := Int.tdiv_eq_ediv_of_nonneg (by omega)
  have t2 : Int.tmod ((n : Int) + 1) 10 = ((n : Int) + 1) % 10 := Int.tmod_eq_emod_of_nonneg (by omega)
  rw [t1, t2, w64_in (((n : Int) + 1) / 10) (by omega), w64_in (48 + ((n : Int) + 1) / 10) (by omega), w64_in (48 + ((n : Int) + 1) % 10) (by omega)]
  by_cases h : n < 9
  · rw [if_neg (by omega), if_pos (by omega), if_pos h]
    congr 2
    simp only [zs, List.map_cons, List.map_nil, UInt8.toNat_ofNat']
    congr 1
    omega
  · rw [if_pos (by omega), if_pos (by omega), Option.bind_some, if_pos (by simp; omega), if_neg h, List.append_assoc]
    congr 2
theorem room {a n : Nat} (h : a = n) (h2 : n ≤ 3000000) : a < 140737488355328 := by omega
theorem j1_eq (x : Nat) (y t : List Int) (S : List S45) (i g : Int) (s : Nat) (hs : s < 8) (hE : stylusref01_Encode.f x [g] = some t) (hy : y.length ≤ 2000000) (ht : t.length ≤ 4) :
    stylusref23_Row.j1 (x + 1) y S i g (s : Int) = stylusref23_Row.l0 x (y ++ zs ((if s / 2 % 2 = 1 then [59, 52] else []) ++ (if s / 4 % 2 = 1 then [59, 49] else []) ++ [109]) ++ t) S (s : Int) (wrap64 (i + 1)) := by
  simp only [stylusref23_Row.j1]
  have t2 : Int.tdiv (s : Int) 2 = ((s / 2 : Nat) : Int) := rfl
  have t4 : Int.tdiv (s : Int) 4 = ((s / 4 : Nat) : Int) := rfl
  have m2 : Int.tmod ((s / 2 : Nat) : Int) 2 = ((s / 2 % 2 : Nat) : Int) := rfl
  rw [t2, t4, w64_in ((s / 2 : Nat) : Int) (by omega), w64_in ((s / 4 : Nat) : Int) (by omega), m2]
  have r2 : ∀ (l : List Int) (a b : Int), l.length ≤ 2000010 → l.length + [a, b].length < 140737488355328 := fun l a b h => room (show l.length + [a, b].length = l.length + 2 from rfl) (by omega)
  have r1 : ∀ (l : List Int), l.length ≤ 2000010 → l.length < 140737488355328 := fun l h => room rfl (by omega)
  have rt : ∀ (l : List Int), l.length ≤ 2000010 → l.length + t.length < 140737488355328 := fun l h => room rfl (by omega)
  have l1 : ∀ (l : List Int) (a b : Int), (l ++ [a, b]).length = l.length + 2 := fun l a b => List.length_append
  have l2 : ∀ (l : List Int) (a : Int), (l ++ [a]).length = l.length + 1 := fun l a => List.length_append
  have key : ∀ A B : List Int, A = B → stylusref23_Row.l0 x A S (s : Int) (wrap64 (i + 1)) = stylusref23_Row.l0 x B S (s : Int) (wrap64 (i + 1)) := fun _ _ h => by rw [h]
  by_cases c2 : s / 2 % 2 = 1
  · rw [if_pos (show ((s / 2 % 2 : Nat) : Int) = 1 by omega), Option.bind_some, if_pos (r2 _ _ _ (by omega)), Option.bind_some, if_pos c2]
    by_cases c4 : s / 4 % 2 = 1
    · rw [if_pos (show ((s / 4 : Nat) : Int) = 1 by omega), Option.bind_some, if_pos (r2 _ _ _ (by rw [l1]; omega)), Option.bind_some, if_pos (r1 _ (by rw [l1, l1]; omega)), Option.bind_some, hE, Option.bind_some, if_pos (rt _ (by rw [l2, l1, l1]; omega)), if_pos c4]
      exact key _ _ (by simp [zs])
    · rw [if_neg (show ¬ ((s / 4 : Nat) : Int) = 1 by omega), if_pos (r1 _ (by rw [l1]; omega)), Option.bind_some, hE, Option.bind_some, if_pos (rt _ (by rw [l2, l1]; omega)), if_neg c4]
      exact key _ _ (by simp [zs])
  · rw [if_neg (show ¬ ((s / 2 % 2 : Nat) : Int) = 1 by omega), if_neg c2]
    by_cases c4 : s / 4 % 2 = 1
    · rw [if_pos (show ((s / 4 : Nat) : Int) = 1 by omega), Option.bind_some, if_pos (r2 _ _ _ (by omega)), Option.bind_some, if_pos (r1 _ (by rw [l1]; omega)), Option.bind_some, hE, Option.bind_some, if_pos (rt _ (by rw [l2, l1]; omega)), if_pos c4]
      exact key _ _ (by simp [zs])
    · rw [if_neg (show ¬ ((s / 4 : Nat) : Int) = 1 by omega), if_pos (r1 _ (by omega)), Option.bind_some, hE, Option.bind_some, if_pos (rt _ (by rw [l2]; omega)), if_neg c4]
      exact key _ _ (by simp [zs])
end PPaint
end Go.Proofs.YtbjckccgbmimpabGreatDoor

/- Plain laws: the bytes of a row, whole. -/
namespace Go.Proofs.YtbjckccgbmimpabGreatDoor
open Go.RowKit Go.Proofs.YtbjckccgbmimpabGreatDoorW.PrintWords
namespace PPaint
theorem room2 (l : List Int) (a b : Int) (h : l.length ≤ 2000010) : l.length + [a, b].length < 140737488355328 := room (show l.length + [a, b].length = l.length + 2 from rfl) (by omega)
theorem room3 (l : List Int) (a b c : Int) (h : l.length ≤ 2000010) : l.length + [a, b, c].length < 140737488355328 := room (show l.length + [a, b, c].length = l.length + 3 from rfl) (by omega)
theorem row_loop {l : List Cell} (hl : l.length ≤ 1000) (hst : ∀ i, i < l.length → 0 ≤ Kp.gs l i ∧ Kp.gs l i < 8) (hr : ∀ i, i < l.length → Kp.gr l i ≠ 0 → Kp.right (Kp.gr l i)) : ∀ (d i k : Nat) (last : Int) (x0 : List Int), l.length - i = d → i ≤ l.length → x0.length + 20 * d ≤ 1000000 →
    stylusref23_Row.l0 (k + 2 * d + 5) x0 (ofC l) last (i : Int) = some (x0 ++ zs (Kp.paintCells last (l.drop i)))
  | 0, i, k, last, x0, hd, hi, hx => by
    rw [show k + 2 * 0 + 5 = (k + 4) + 1 from rfl]
    simp only [stylusref23_Row.l0]
    rw [if_neg (by rw [ofC_len]; omega), List.drop_eq_nil_of_le (by omega)]
    simp [Kp.paintCells, zs]
  | d + 1, i, k, last, x0, hd, hi, hx => by
    have hlt : i < l.length := by omega
    have ih0 := fun last x0 h => row_loop hl hst hr d (i + 1) k last x0 (by omega) (by omega) h
    have ih1 := fun last x0 h => row_loop hl hst hr d (i + 1) (k + 1) last x0 (by omega) (by omega) h
    obtain ⟨x, hx2⟩ : ∃ x, k + 2 * d + 5 = x := ⟨_, rfl⟩
    rw [show k + 1 + 2 * d + 5 = x + 1 by omega] at ih1
    rw [hx2] at ih0
    have w1 : wrap64 ((i : Int) + 1) = ((i + 1 : Nat) : Int) := by rw [w64_in _ (by omega)]; omega
    rw [Kp.paint_step l i last hlt, show k + 2 * (d + 1) + 5 = x + 1 + 1 by omega]
    by_cases hg : Kp.gr l i = 0
    · have e : stylusref23_Row.l0 (x + 1 + 1) x0 (ofC l) last (i : Int) = stylusref23_Row.l0 (x + 1) x0 (ofC l) last (wrap64 ((i : Int) + 1)) := by
        generalize x + 1 = y
        simp only [stylusref23_Row.l0]
        rw [if_pos (by rw [ofC_len]; omega), if_pos (by omega), rd_f0, if_pos hg]
      rw [e, w1, if_pos hg]
      exact ih1 _ _ (by omega)
    have hri := hr i hlt hg
    obtain ⟨s, hs⟩ : ∃ s : Nat, Kp.gs l i = s := ⟨(Kp.gs l i).toNat, by have := hst i hlt; omega⟩
    have hs8 : s < 8 := by have := hst i hlt; omega
    have hl4 := encodeRune_len (Kp.gr l i)
    have hE1 : stylusref01_Encode.f (x + 1) [Kp.gr l i] = some (zs (Lib.encodeRune (Kp.gr l i))) := by
      rw [← hx2]; exact enc_eq (k + 2 * d + 4) _ hri
    have hE0 : stylusref01_Encode.f x [Kp.gr l i] = some (zs (Lib.encodeRune (Kp.gr l i))) := by
      rw [← hx2]; exact enc_eq (k + 2 * d + 3) _ hri
    rw [if_neg hg, hs]
    by_cases hla : (s : Int) = last
    · have e : stylusref23_Row.l0 (x + 1 + 1) x0 (ofC l) last (i : Int) = stylusref23_Row.l0 (x + 1) (x0 ++ zs (Lib.encodeRune (Kp.gr l i))) (ofC l) (s : Int) (wrap64 ((i : Int) + 1)) := by
        generalize x + 1 = y at hE1 ⊢
        simp only [stylusref23_Row.l0]
        rw [if_pos (by rw [ofC_len]; omega), if_pos (by omega), rd_f0, rd_f1, if_neg hg, hs, if_pos hla, hE1, Option.bind_some, if_pos (room rfl (by rw [zs_len]; omega))]
      rw [e, w1, ih1 _ _ (by rw [List.length_append, zs_len]; omega), if_pos hla, List.nil_append, zs_app, List.append_assoc]
    · have e : stylusref23_Row.l0 (x + 1 + 1) x0 (ofC l) last (i : Int) = stylusref23_Row.l0 x (x0 ++ (zs (Kp.dress s) ++ zs (Lib.encodeRune (Kp.gr l i)))) (ofC l) (s : Int) (wrap64 ((i : Int) + 1)) := by
        have hj : ∀ y : List Int, y.length ≤ 2000000 → _ := fun y hy => j1_eq x y (zs (Lib.encodeRune (Kp.gr l i))) (ofC l) (i : Int) (Kp.gr l i) s hs8 hE0 hy (by rw [zs_len]; exact hl4)
        generalize hy : x + 1 = y at hj ⊢
        simp only [stylusref23_Row.l0]
        have t2 : Int.tmod (s : Int) 2 = ((s % 2 : Nat) : Int) := rfl
        rw [if_pos (by rw [ofC_len]; omega), if_pos (by omega), rd_f0, rd_f1, if_neg hg, hs, if_neg hla, Option.bind_some, if_pos (room3 _ _ _ _ (by omega)), Option.bind_some, t2]
        have e3 : (x0 ++ [27, 91, 48]).length = x0.length + 3 := List.length_append
        by_cases c1 : s % 2 = 1
        · have e5 : (x0 ++ [27, 91, 48] ++ [59, 55]).length = x0.length + 5 := by rw [List.length_append, e3]; rfl
          rw [if_pos (show ((s % 2 : Nat) : Int) = 1 by omega), Option.bind_some, if_pos (room2 _ _ _ (by omega)), hj _ (by omega)]
          unfold Kp.dress
          rw [if_pos c1]
          simp only [zs_app, List.append_assoc]
          rfl
        · rw [if_neg (show ¬ ((s % 2 : Nat) : Int) = 1 by omega), hj _ (by omega)]
          unfold Kp.dress
          rw [if_neg c1]
          simp only [zs_app, List.append_assoc]
          rfl
      have hdl : (Kp.dress s).length ≤ 12 := by
        unfold Kp.dress
        simp only [List.length_append]
        repeat' split
        all_goals simp
      rw [e, w1, ih0 _ _ (by rw [List.length_append, List.length_append, zs_len, zs_len]; omega), if_neg hla, Int.toNat_natCast, zs_app, zs_app, List.append_assoc, List.append_assoc]
theorem row_eq {l : List Cell} (n : Nat) (hn : n < 60) (x0 : List Int) (hx : x0.length ≤ 500000) (hl : l.length ≤ 1000) (hst : ∀ i, i < l.length → 0 ≤ Kp.gs l i ∧ Kp.gs l i < 8) (hr : ∀ i, i < l.length → Kp.gr l i ≠ 0 → Kp.right (Kp.gr l i)) :
    stylusref23_Row.f (0 + 2 * l.length + 5) x0 (n : Int) (ofC l) = some (x0 ++ zs (Kp.paintRow n l)) := by
  have hd : (Lib.decDigits (n + 1)).length ≤ 2 := by
    rw [Kp.dec_small n hn]
    split <;> simp
  unfold stylusref23_Row.f
  have e2 : (x0 ++ [27, 91]).length = x0.length + 2 := List.length_append
  rw [Option.bind_some, if_pos (room2 _ _ _ (by omega)), w64_in _ (by omega), number_eq _ n hn (by omega), Option.bind_some, Option.bind_some]
  have e4 : (x0 ++ [27, 91] ++ zs (Lib.decDigits (n + 1))).length ≤ x0.length + 4 := by rw [List.length_append, e2, zs_len]; omega
  rw [if_pos (room3 _ _ _ _ (by omega))]
  have hz : (0 : Int) = ((0 : Nat) : Int) := rfl
  rw [hz, row_loop hl hst hr l.length 0 0 (-1) _ rfl (Nat.zero_le _) (by rw [List.length_append]; show (x0 ++ [27, 91] ++ zs (Lib.decDigits (n + 1))).length + 3 + 20 * l.length ≤ 1000000; omega), List.drop_zero]
  unfold Kp.paintRow
  simp only [zs_app, List.append_assoc]
  rfl
end PPaint
end Go.Proofs.YtbjckccgbmimpabGreatDoor
