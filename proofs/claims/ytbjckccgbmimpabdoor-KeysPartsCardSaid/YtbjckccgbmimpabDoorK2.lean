/- The walk of keys.number. -/
import Derived.Test.YtbjckccgbmimpabDoorPRightx0
import Derived.Test.YtbjckccgbmimpabDoorShelf
import Derived.Test.YtbjckccgbmimpabDoorK1
import Derived.Shelf.Strings.SlTrimAscii
import Derived.Lib.Hide
import Derived.Outline
namespace Go.Proofs.YtbjckccgbmimpabDoor
open Go.RowKit

theorem trim_digits (s : ByteArray) (w : World) (hs : s.size ≤ 9223372036854775807) :
    Calls Tryd.prog 55 #[.string s, .string ⟨#[48, 49, 50, 51, 52, 53, 54, 55, 56, 57]⟩] w fun e w' => e = .returned (.string ⟨(Lib.trimS s.data.toList Kp.digs).toArray⟩) ∧ Below w.heap.size w w' :=
  Any.strings_Trim_laid Tryd.lays160 (by kernel_rfl) s ⟨#[48, 49, 50, 51, 52, 53, 54, 55, 56, 57]⟩ w hs (by decide) (ascii_of_all (by decide))

def NumPost (s : ByteArray) (w : World) (e : Ending) (w' : World) : Prop :=
  e = .returned (.tuple #[.int .i64 (Kp.numF s.data.toList).1, .bool (Kp.numF s.data.toList).2]) ∧ Below w.heap.size w w'
theorem NumPost.mk {s : ByteArray} {w w' : World} {n : Int} {b : Bool} (h : Kp.numF s.data.toList = (n, b)) (hb : Below w.heap.size w w') : NumPost s w (.returned (.tuple #[.int .i64 n, .bool b])) w' := by
  unfold NumPost; rw [h]; exact ⟨rfl, hb⟩
theorem below_step' {B : Nat} {w w1 w2 : World} (h : Below B w w1) (hB : B ≤ w1.heap.size) (k : Below w1.heap.size w1 w2) : Below B w w2 := h.trans (k.mono hB)

theorem number_calls (s : ByteArray) (w : World) (hs : s.size ≤ 9223372036854775807) :
    Calls Tryd.prog 50 #[.string s] w (NumPost s w) := by
  go_enter Tryd.func50, Tryd.ntmps50
  go_wp2_with fail
  · go_ret2
    have h0 : s.toList = [] := by assumption
    rw [Lib.toList_data] at h0
    exact NumPost.mk (by rw [h0]; rfl) (Below.refl _ _)
  · refine (trim_digits s _ hs).mono ?_
    rintro e w1 ⟨rfl, hb⟩
    have h0 : ¬ s.toList = [] := by assumption
    have h3 : (s.size : Int) ≤ 3 := by assumption
    have hE : s.toList.isEmpty = false := by simpa using h0
    have hD : decide (3 < (s.size : Int)) = false := by simpa using h3
    by_cases ht : Lib.trimS s.data.toList Kp.digs = []
    · obtain ⟨n, ha, hn, hlt⟩ := Kp.numF_even (by rwa [Lib.toList_data] at h0) (by rw [Array.length_toList]; exact Int.ofNat_le.1 h3) ht
      have HN := Lib.hid hn
      have HA := Lib.hid ha
      clear hn ha
      have HT := Lib.hid ht
      have ht' : (!(Lib.trimS s.data.toList Kp.digs).isEmpty) = false := by rw [ht]; rfl
      clear ht
      go_wp2_with fail
      refine (Tryd.strconv_Atoi s n (by omega) HA.out _).mono ?_
      rintro e w2 ⟨rfl, t, rfl⟩
      go_wp2_with fail
      go_quiet (fail)
      go_wp2
      go_ret2
      exact NumPost.mk HN.out (YtbjckccgbmimpabDoorW.PrintWords.pw_below_drewN (YtbjckccgbmimpabDoorW.PrintWords.bytes_below hb hb.size 5 t) nq)
    · have ht' : (!(Lib.trimS s.data.toList Kp.digs).isEmpty) = true := by
        cases h : (Lib.trimS s.data.toList Kp.digs) with
        | nil => exact absurd h ht
        | cons a b => rfl
      have HT := Lib.hid ht
      clear ht
      go_wp2_with fail
      go_ret2
      exact NumPost.mk (Kp.numF_odd HT.out) hb
  · go_ret2
    have h0 : 3 < (s.size : Int) := by assumption
    exact NumPost.mk (Kp.numF_long (by rw [Array.length_toList]; exact Int.ofNat_lt.1 h0)) (Below.refl _ _)
end Go.Proofs.YtbjckccgbmimpabDoor
