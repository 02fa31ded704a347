/- Plain functions: what the bytes' readers come to. -/
import Derived.WalkKit
import Derived.Laws.BitsLemmas
namespace Go.Proofs.YtbjckccgbmimpabDoor.Kp
open Go.RowKit
/-- How a sequence goes on behind its first byte. -/
def shp (b : Int) : Int × Int × Int :=
  if b < 128 then (1, 0, 0) else if 194 ≤ b ∧ b ≤ 223 then (2, 128, 191) else if b = 224 then (3, 160, 191) else if b = 237 then (3, 128, 159)
  else if 225 ≤ b ∧ b ≤ 239 then (3, 128, 191) else if b = 240 then (4, 144, 191) else if 241 ≤ b ∧ b ≤ 243 then (4, 128, 191) else if b = 244 then (4, 128, 143) else (0, 0, 0)
theorem shp_n (b : Int) : (shp b).1 = 0 ∨ (shp b).1 = 1 ∨ (shp b).1 = 2 ∨ (shp b).1 = 3 ∨ (shp b).1 = 4 := by
  unfold shp; (repeat' split) <;> simp
/-- The byte at a place. -/
def gb (l : List UInt8) (i : Nat) : Int := (l.getD i 0).toNat
theorem gb_range (l : List UInt8) (i : Nat) : 0 ≤ gb l i ∧ gb l i < 256 := by
  unfold gb; have := (l.getD i 0).toNat_lt; omega
theorem gb_append (l r : List UInt8) (i : Nat) (h : i < l.length) : gb (l ++ r) i = gb l i := by
  unfold gb; rw [List.getD_eq_getElem?_getD, List.getD_eq_getElem?_getD, List.getElem?_append_left h]
/-- Is a byte behind the first one amiss? -/
def badAt (f t : Int) (j : Nat) (x : Int) : Bool := (decide (j = 0) && (decide (x < f) || decide (t < x))) || decide (x < 128) || decide (192 ≤ x)
def badTail (f t : Int) (u : List UInt8) : Bool := (List.range u.length).any fun j => badAt f t j (gb u j)
theorem badTail_true {f t : Int} {u : List UInt8} (k : Nat) (hk : k < u.length) (h : badAt f t k (gb u k) = true) : badTail f t u = true :=
  List.any_eq_true.2 ⟨k, List.mem_range.2 hk, h⟩
theorem badTail_false {f t : Int} {u : List UInt8} (h : ∀ k, k < u.length → badAt f t k (gb u k) = false) : badTail f t u = false := by
  rw [badTail, List.any_eq_false]
  intro k hk
  rw [h k (List.mem_range.1 hk)]; decide
/-- One byte more. -/
def accStep (r x : Int) : Int := Go.bits .or .i32 (wrap32 (r * 64)) (x % 64)
def acc (r : Int) (u : List UInt8) : Nat → Int
  | 0 => r
  | k + 1 => accStep (acc r u k) (gb u k)
/-- How many bytes behind the first one are looked at. -/
def look (n : Int) (len : Nat) : Nat := min len (max 1 n.toNat)
def lead (n b : Int) : Int := if n = 2 then Go.bits .and .i32 b 31 else if n = 3 then Go.bits .and .i32 b 15 else Go.bits .and .i32 b 7
/-- utf.First. -/
def firstF (l : List UInt8) : Int × Int :=
  if l.length = 0 then (0, 0) else
  let s := shp (gb l 0)
  if badTail s.2.1 s.2.2 ((l.take (look s.1 l.length)).drop 1) then (65533, 1)
  else if s.1 = 0 then (65533, 1)
  else if (l.length : Int) < s.1 then (0, 0)
  else if s.1 = 1 then (gb l 0, 1)
  else (acc (lead s.1 (gb l 0)) ((l.take s.1.toNat).drop 1) (s.1.toNat - 1), s.1)
end Go.Proofs.YtbjckccgbmimpabDoor.Kp
