/- The walk of keys.told. -/
import Derived.Test.YtbjckccgbmimpabGreatDoorK6
import Derived.Lib.Hide
import Derived.Outline
import Derived.Laws.NewBlocks
import Derived.Test.YtbjckccgbmimpabGreatDoorK4
import Derived.Lib.LazyBuf
namespace Go.Proofs.YtbjckccgbmimpabGreatDoor
open Go.RowKit Go.Proofs.YtbjckccgbmimpabGreatDoorW.PrintWords Go.Proofs.YtbjckccgbmimpabGreatDoorW.PrintLast Go.Proofs.YtbjckccgbmimpabGreatDoorW.PrintMore

abbrev keyCells (k : Int × Int × Int) : Array Value := #[.int .i64 k.1, .int .i32 k.2.1, .int .i64 k.2.2]
def ToldPost (s : ByteArray) (e : Int) (w : World) (en : Ending) (w' : World) : Prop := en = .returned (.agg (keyCells (Kp.toldF s e))) ∧ Below w.heap.size w w'
theorem ToldPost.mk {s : ByteArray} {e : Int} {w w' : World} {x y z : Int} (h : Kp.toldF s e = (x, y, z)) (hb : Below w.heap.size w w') : ToldPost s e w (.returned (.agg #[.int .i64 x, .int .i32 y, .int .i64 z])) w' := by
  unfold ToldPost; rw [h]; exact ⟨rfl, hb⟩
theorem Tryz.info3 : (Tryz.prog.info? 3).map (fun i => (i.zero, i.size, i.bytes)) = some (some (.int .i64 0), 1, 8) := by kernel_rfl
theorem zero3 (w : World) : (zeroValue 3).run Tryz.prog w = .ok (.int .i64 0) w := by kernel_rfl

theorem alloc_size (W : World) (o : Obj) : (W.alloc o).heap.size = W.heap.size + 1 := by simp
theorem frozen_alloc_past {W : World} (o : Obj) (b i : Nat) (h : b < W.heap.size) : (W.alloc o).frozen? ⟨b, i, none⟩ = W.frozen? ⟨b, i, none⟩ :=
  (below_alloc (Below.refl W.heap.size W) o).frozen (p := ⟨b, i, none⟩) h
end Go.Proofs.YtbjckccgbmimpabGreatDoor

/- The walks of keys.last and keys.sequence. -/
namespace Go.Proofs.YtbjckccgbmimpabGreatDoor
open Go.RowKit Go.Proofs.YtbjckccgbmimpabGreatDoorW.PrintWords Go.Proofs.YtbjckccgbmimpabGreatDoorW.PrintLast Go.Proofs.YtbjckccgbmimpabGreatDoorW.PrintMore
namespace Kp
def lastB (c : Int) : Bool := decide (64 ≤ c) && decide (c ≤ 126)
abbrev Step := Int × Int × Int × Int
def seqGo (l : List UInt8) : Nat → Nat → Step
  | 0, _ => (0, 0, 0, 0)
  | f + 1, i =>
    if 2 + i < l.length then
      if lastB (gb l (2 + i)) = true then (((i : Int) + 3, toldF ⟨((l.take (2 + i)).drop 2).toArray⟩ (gb l (2 + i))))
      else if gb l (2 + i) < 48 ∨ 63 < gb l (2 + i) ∨ 12 ≤ i then ((i : Int) + 2, 0, 0, 0) else seqGo l f (i + 1)
    else (0, 0, 0, 0)
/-- What begins with an escape and a bracket. -/
def seqF (l : List UInt8) : Step := seqGo l 14 0
end Kp
def LastPost (c : Int) (w : World) (e : Ending) (w' : World) : Prop := e = .returned (.bool (Kp.lastB c)) ∧ w = w'
theorem RB.ints {w : World} {A : Option Addr} {l : List UInt8} (h : RB w A l) : ReadsInt w .u8 A l.length (l.map fun b => (b.toNat : Int)) := by
  refine ⟨by simp, h.2.1, fun hn => ?_⟩
  obtain ⟨ad, e, hc⟩ := h.2.2 hn
  refine ⟨ad, e, fun j hj => ?_⟩
  rw [hc j hj]
  simp [List.getD_eq_getElem?_getD, List.getElem?_eq_getElem hj]
/-- string(b) of bytes that are read. -/
theorem run_string_of {W : World} {A : Option Addr} {l : List UInt8} (c : Nat) (h : RB W A l) : (convert 26 9 (.slice A l.length c)).run Tryz.prog W = .ok (.string ⟨l.toArray⟩) W := by
  have := string_of_reads (P := Tryz.prog) (src := 26) (dst := 9) (e := 5) (c := c) Tryz.underlying26 Tryz.underlying5 Tryz.underlying9 h.ints
  have e : strOfNums (l.map fun b => (b.toNat : Int)) = ⟨l.toArray⟩ := by
    apply WideShapes.bytes_inj
    rw [strOfNums_data]
    show List.map (fun n : Int => UInt8.ofNat n.toNat) (List.map (fun b : UInt8 => (b.toNat : Int)) l) = l
    rw [List.map_map]
    exact (List.map_congr_left fun b _ => by simp).trans (List.map_id l)
  rw [this, e]

abbrev stepVal (s : Kp.Step) : Value := .agg #[.int .i64 s.1, .int .i64 s.2.1, .int .i32 s.2.2.1, .int .i64 s.2.2.2]
def StepPost (s : Kp.Step) (w : World) (e : Ending) (w' : World) : Prop := e = .returned (stepVal s) ∧ Below w.heap.size w w'
theorem StepPost.mk {s : Kp.Step} {w w' : World} {n x y z : Int} (h : s = (n, x, y, z)) (hb : Below w.heap.size w w') : StepPost s w (.returned (.agg #[.int .i64 n, .int .i64 x, .int .i32 y, .int .i64 z])) w' := by
  subst h; exact ⟨rfl, hb⟩

end Go.Proofs.YtbjckccgbmimpabGreatDoor
