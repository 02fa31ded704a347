/- The walk of utf.begins. -/
import Derived.Test.YtbjckccgbmimpabDoorPRightx0
import Derived.Test.YtbjckccgbmimpabDoorK0
import Derived.Outline
namespace Go.Proofs.YtbjckccgbmimpabDoor
open Go.RowKit
def ShpPost (b : Int) (w : World) (e : Ending) (w' : World) : Prop :=
  e = .returned (.agg #[.int .i64 (Kp.shp b).1, .int .u8 (Kp.shp b).2.1, .int .u8 (Kp.shp b).2.2]) ∧ Below w.heap.size w w'
theorem ShpPost.mk {b x y z : Int} {w w' : World} (h : Kp.shp b = (x, y, z)) (hb : Below w.heap.size w w') : ShpPost b w (.returned (.agg #[.int .i64 x, .int .u8 y, .int .u8 z])) w' := by
  unfold ShpPost; rw [h]; exact ⟨rfl, hb⟩

set_option maxHeartbeats 1000000 in
theorem begins_calls (b : Int) (w : World) : Calls Tryd.prog 41 #[.int .u8 b] w (ShpPost b w) := by
  have key : (b < 128 ∧ Kp.shp b = (1, 0, 0)) ∨ (¬ b < 128 ∧ 194 ≤ b ∧ b ≤ 223 ∧ Kp.shp b = (2, 128, 191)) ∨ (b = 224 ∧ Kp.shp b = (3, 160, 191)) ∨ (b = 237 ∧ Kp.shp b = (3, 128, 159))
    ∨ (b ≠ 224 ∧ b ≠ 237 ∧ 225 ≤ b ∧ b ≤ 239 ∧ Kp.shp b = (3, 128, 191)) ∨ (b = 240 ∧ Kp.shp b = (4, 144, 191)) ∨ (b ≠ 240 ∧ 241 ≤ b ∧ b ≤ 243 ∧ Kp.shp b = (4, 128, 191)) ∨ (b = 244 ∧ Kp.shp b = (4, 128, 143)) ∨ ((128 ≤ b ∧ b < 194 ∨ 244 < b) ∧ Kp.shp b = (0, 0, 0)) := by
    unfold Kp.shp
    (repeat' split) <;> simp <;> omega
  go_enter Tryd.func41, Tryd.ntmps41
  go_wp2_with fail
  all_goals
    (try simp only [beq_iff_eq, beq_eq_false_iff_ne] at *)
    rcases key with ⟨_, h⟩ | ⟨_, _, _, h⟩ | ⟨_, h⟩ | ⟨_, h⟩ | ⟨_, _, _, _, h⟩ | ⟨_, h⟩ | ⟨_, _, _, h⟩ | ⟨_, h⟩ | ⟨_, h⟩ <;> first
      | (exfalso; omega)
      | (refine bodyPost_ret ?_ rfl (ShpPost.mk h ((Below.refl _ _).alloc (Nat.le_refl _) _)); simp [results, Tryd.results41, go_sem]; done)
end Go.Proofs.YtbjckccgbmimpabDoor
