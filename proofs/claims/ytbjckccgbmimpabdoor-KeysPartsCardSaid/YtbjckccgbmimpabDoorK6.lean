/- What a key's sequence tells, in plain Lean; and strings.Split at one sign. -/
import Derived.Test.YtbjckccgbmimpabDoorK0
import Derived.Test.YtbjckccgbmimpabDoorK1
import Derived.Test.YtbjckccgbmimpabDoorK5
import Derived.Test.YtbjckccgbmimpabDoorShelf
import Derived.Lib.SplitLaws
namespace Go.Proofs.YtbjckccgbmimpabDoor
open Go.RowKit
namespace Kp
def semi : ByteArray := ⟨#[59]⟩
/-- The parts between semicolons. -/
def pcs (s : ByteArray) : List ByteArray := Lib.splitB semi 0 (Lib.countB s semi) s
theorem pcs_length (s : ByteArray) : (pcs s).length = Lib.countB s semi + 1 := Lib.splitB_all semi (by decide) 0 _ s rfl
theorem pcs_pos (s : ByteArray) : 1 ≤ (pcs s).length := by rw [pcs_length]; omega
theorem pcs_le (s : ByteArray) : (pcs s).length ≤ s.size + 2 := by
  rw [pcs_length]
  have := Lib.count_le s.data.toList semi.data.toList
  rw [Array.length_toList] at this
  show Lib.count _ _ + 1 ≤ s.data.size + 2
  omega
theorem splitB_size (sep : ByteArray) : ∀ (k : Nat) (s : ByteArray), ∀ p ∈ Lib.splitB sep 0 k s, p.size ≤ s.size
  | 0, s => by simp [Lib.splitB]
  | k + 1, s => by
    intro p hp
    unfold Lib.splitB at hp
    split at hp
    · simp only [List.mem_singleton] at hp; subst hp; exact Nat.le_refl _
    · rcases List.mem_cons.1 hp with rfl | hp
      · rw [ByteArray.size_extract]; omega
      · have := splitB_size sep k _ p hp
        rw [ByteArray.size_extract] at this
        omega
theorem pcs_size (s : ByteArray) : ∀ p ∈ pcs s, p.size ≤ s.size := splitB_size semi _ s

def tabA : List (Int × Int) := [(65, 6), (66, 7), (67, 9), (68, 8), (72, 10), (70, 11), (90, 3)]
def tabB : List (Int × Int) := [(1, 10), (7, 10), (3, 5), (4, 11), (8, 11)]
def modsF (ns : List Int) : Int := if 1 < ns.length ∧ 2 ≤ ns.getD 1 0 ∧ ns.getD 1 0 ≤ 8 then ns.getD 1 0 - 1 else 0
/-- Kind, rune, modifiers. -/
def toldN (ns : List Int) (e : Int) : Int × Int × Int :=
  if e = 126 then (if tabV tabB (ns.getD 0 0) = 0 then (0, 0, 0) else (tabV tabB (ns.getD 0 0), 0, modsF ns))
  else if e = 90 then (3, 0, Go.bits .or .i64 (modsF ns) 1)
  else if tabV tabA e = 0 then (0, 0, 0) else (tabV tabA e, 0, modsF ns)
def nsOf (ps : List ByteArray) : List Int := ps.map fun p => (numF p.data.toList).1
def toldF (s : ByteArray) (e : Int) : Int × Int × Int :=
  if s.toList.isEmpty = false ∧ ∃ p ∈ pcs s, (numF p.data.toList).2 = false then (0, 0, 0) else toldN (nsOf (pcs s)) e
instance (s : ByteArray) : Decidable (∃ p ∈ pcs s, (numF p.data.toList).2 = false) := inferInstance
end Kp

theorem split_calls (s : ByteArray) (m : Int) (w : World) (hs : s.size < 4294967281) (hm : w.cell? ⟨3, 0, none⟩ = some (.int .i64 m)) :
    Calls Tryd.prog 49 #[.string s, .string ⟨#[59]⟩] w fun e w' => e = .returned (.slice (some ⟨w.heap.size, 0, none⟩) (Kp.pcs s).length (Kp.pcs s).length) ∧ w' = w.alloc (.cells ((Kp.pcs s).map Value.string).toArray 9) := by
  have h := Tryd.strings_Split s ⟨#[59]⟩ m w hs hm (by decide)
  rw [Kp.pcs_length]
  exact h
end Go.Proofs.YtbjckccgbmimpabDoor
