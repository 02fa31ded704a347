/- Plain facts on the numbers of a key's sequence. -/
import Derived.Lib.SlTrimSet
import Derived.Lib.Atoi
namespace Go.Proofs.YtbjckccgbmimpabDoor.Kp

/-- The digits' bytes. -/
def digs : List UInt8 := [48, 49, 50, 51, 52, 53, 54, 55, 56, 57]

theorem digs_iff (b : UInt8) : digs.contains b = (Lib.digitVal b).isSome := by
  have h : b.toNat < 256 := b.toNat_lt
  have key : ∀ n : Nat, n < 256 → digs.contains (UInt8.ofNat n) = (Lib.digitVal (UInt8.ofNat n)).isSome := by decide +kernel
  have := key b.toNat h
  rwa [UInt8.ofNat_toNat] at this

theorem decFrom_isSome : ∀ (l : List UInt8) (acc : Nat), (Lib.decFrom acc l).isSome = l.all (digs.contains ·)
  | [], _ => rfl
  | b :: r, acc => by
    rw [Lib.decFrom, List.all_cons, digs_iff]
    cases h : Lib.digitVal b with
    | none => simp
    | some d => simp [decFrom_isSome r]

theorem dropWhile_eq_nil {α : Type} (p : α → Bool) : ∀ l : List α, l.dropWhile p = [] ↔ l.all p = true
  | [] => by simp
  | a :: r => by
    rw [List.dropWhile_cons, List.all_cons]
    cases h : p a with
    | true => simp [dropWhile_eq_nil p r]
    | false => simp

theorem trimS_nil (l cs : List UInt8) : Lib.trimS l cs = [] ↔ l.all (cs.contains ·) = true := by
  unfold Lib.trimS Lib.trimLeftS Lib.trimRightS
  rw [dropWhile_eq_nil]
  constructor
  · intro h
    rw [List.all_reverse] at h
    have hd := List.takeWhile_append_dropWhile (p := (cs.contains ·)) (l := l.reverse)
    have h2 : l.reverse.all (cs.contains ·) = true := by
      rw [← hd, List.all_append, h, Bool.and_true]
      exact List.all_takeWhile
    rwa [List.all_reverse] at h2
  · intro h
    have h2 : l.reverse.all (cs.contains ·) = true := by rwa [List.all_reverse]
    rw [(dropWhile_eq_nil _ _).2 h2]
    rfl

/-- What 'number' tells. -/
def numF (l : List UInt8) : Int × Bool :=
  if 3 < l.length then (0, false) else match Lib.decNat l with
    | some n => ((n : Int), true)
    | none => (0, false)

theorem numF_nil : numF [] = (0, false) := rfl
theorem numF_long {l : List UInt8} (h : 3 < l.length) : numF l = (0, false) := by rw [numF, if_pos h]
theorem numF_odd {l : List UInt8} (h1 : Lib.trimS l digs ≠ []) : numF l = (0, false) := by
  unfold numF
  split
  · rfl
  · have : Lib.decNat l = none := by
      unfold Lib.decNat
      split
      · rfl
      · have h3 := mt (trimS_nil l digs).2 h1
        rw [← decFrom_isSome l 0] at h3
        simpa using h3
    rw [this]
theorem numF_even {l : List UInt8} (h0 : l ≠ []) (h3 : l.length ≤ 3) (h1 : Lib.trimS l digs = []) : ∃ n : Nat, Lib.atoi l = some (n : Int) ∧ numF l = ((n : Int), true) ∧ n < 1000 := by
  have ha := (trimS_nil l digs).1 h1
  have hs := ha
  rw [← decFrom_isSome l 0] at ha
  obtain ⟨n, hn⟩ := Option.isSome_iff_exists.1 ha
  have hd : Lib.decNat l = some n := by
    unfold Lib.decNat
    rw [if_neg (by simpa using h0), hn]
  have hlt := Lib.decFrom_lt l 0 n hn
  refine ⟨n, ?_, ?_, ?_⟩
  · cases l with
    | nil => exact absurd rfl h0
    | cons b r =>
      rw [List.all_cons, digs_iff, Bool.and_eq_true] at hs
      unfold Lib.atoi
      have hb1 : (b == 45) = false := by
        rw [beq_eq_false_iff_ne]; rintro rfl; exact absurd hs.1 (by decide)
      have hb2 : (b == 43) = false := by
        rw [beq_eq_false_iff_ne]; rintro rfl; exact absurd hs.1 (by decide)
      simp only [hb1, hb2, Bool.false_eq_true, if_false, hd, Option.map_some]
  · rw [numF, if_neg (by omega), hd]
  · have : (10 : Nat) ^ l.length ≤ 10 ^ 3 := Nat.pow_le_pow_right (by omega) h3
    omega
theorem numF_range (l : List UInt8) : 0 ≤ (numF l).1 ∧ (numF l).1 < 1000 := by
  unfold numF
  split
  · simp
  · cases h : Lib.decNat l with
    | none => simp
    | some n =>
      simp only
      unfold Lib.decNat at h
      split at h
      · cases h
      · have := Lib.decFrom_lt l 0 n h
        have : (10 : Nat) ^ l.length ≤ 10 ^ 3 := Nat.pow_le_pow_right (by omega) (by omega)
        omega
end Go.Proofs.YtbjckccgbmimpabDoor.Kp
