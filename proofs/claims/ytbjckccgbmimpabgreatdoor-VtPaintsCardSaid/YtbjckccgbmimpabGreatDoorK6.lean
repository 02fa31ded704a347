/- Plain functions: what the bytes' readers come to. -/
import Derived.WalkKit
import Derived.Laws.BitsLemmas
import Derived.Lib.SlTrimSet
import Derived.Lib.Atoi
import Derived.Test.YtbjckccgbmimpabGreatDoorPRightx0
import Derived.Test.YtbjckccgbmimpabGreatDoorShelf
import Derived.Shelf.Strings.SlTrimAscii
import Derived.Lib.Hide
import Derived.Outline
import Derived.Maps.Own
import Derived.KernelRfl
import Derived.Lib.SplitLaws
namespace Go.Proofs.YtbjckccgbmimpabGreatDoor.Kp
open Go.RowKit
/-- How a sequence goes on behind its first byte. -/
def shp (b : Int) : Int × Int × Int :=
  if b < 128 then (1, 0, 0) else if 194 ≤ b ∧ b ≤ 223 then (2, 128, 191) else if b = 224 then (3, 160, 191) else if b = 237 then (3, 128, 159)
  else if 225 ≤ b ∧ b ≤ 239 then (3, 128, 191) else if b = 240 then (4, 144, 191) else if 241 ≤ b ∧ b ≤ 243 then (4, 128, 191) else if b = 244 then (4, 128, 143) else (0, 0, 0)
theorem shp_n (b : Int) : (shp b).1 = 0 ∨ (shp b).1 = 1 ∨ (shp b).1 = 2 ∨ (shp b).1 = 3 ∨ (shp b).1 = 4 := by
  unfold shp; (repeat' split) <;> simp
/-- The byte at a place. -/
def gb (l : List UInt8) (i : Nat) : Int := (l.getD i 0).toNat
theorem gb_range (l : List UInt8) (i : Nat) : 0 ≤ gb l i ∧ gb l i < 256 := by
  unfold gb; have := (l.getD i 0).toNat_lt; omega
theorem gb_append (l r : List UInt8) (i : Nat) (h : i < l.length) : gb (l ++ r) i = gb l i := by
  unfold gb; rw [List.getD_eq_getElem?_getD, List.getD_eq_getElem?_getD, List.getElem?_append_left h]
/-- Is a byte behind the first one amiss? -/
def badAt (f t : Int) (j : Nat) (x : Int) : Bool := (decide (j = 0) && (decide (x < f) || decide (t < x))) || decide (x < 128) || decide (192 ≤ x)
def badTail (f t : Int) (u : List UInt8) : Bool := (List.range u.length).any fun j => badAt f t j (gb u j)
theorem badTail_true {f t : Int} {u : List UInt8} (k : Nat) (hk : k < u.length) (h : badAt f t k (gb u k) = true) : badTail f t u = true :=
  List.any_eq_true.2 ⟨k, List.mem_range.2 hk, h⟩
theorem badTail_false {f t : Int} {u : List UInt8} (h : ∀ k, k < u.length → badAt f t k (gb u k) = false) : badTail f t u = false := by
  rw [badTail, List.any_eq_false]
  intro k hk
  rw [h k (List.mem_range.1 hk)]; decide
/-- One byte more. -/
def accStep (r x : Int) : Int := Go.bits .or .i32 (wrap32 (r * 64)) (x % 64)
def acc (r : Int) (u : List UInt8) : Nat → Int
  | 0 => r
  | k + 1 => accStep (acc r u k) (gb u k)
/-- How many bytes behind the first one are looked at. -/
def look (n : Int) (len : Nat) : Nat := min len (max 1 n.toNat)
def lead (n b : Int) : Int := if n = 2 then Go.bits .and .i32 b 31 else if n = 3 then Go.bits .and .i32 b 15 else Go.bits .and .i32 b 7
/-- utf.First. -/
def firstF (l : List UInt8) : Int × Int :=
  if l.length = 0 then (0, 0) else
  let s := shp (gb l 0)
  if badTail s.2.1 s.2.2 ((l.take (look s.1 l.length)).drop 1) then (65533, 1)
  else if s.1 = 0 then (65533, 1)
  else if (l.length : Int) < s.1 then (0, 0)
  else if s.1 = 1 then (gb l 0, 1)
  else (acc (lead s.1 (gb l 0)) ((l.take s.1.toNat).drop 1) (s.1.toNat - 1), s.1)
end Go.Proofs.YtbjckccgbmimpabGreatDoor.Kp

/- Plain facts on the numbers of a key's sequence. -/
namespace Go.Proofs.YtbjckccgbmimpabGreatDoor.Kp

/-- The digits' bytes. -/
def digs : List UInt8 := [48, 49, 50, 51, 52, 53, 54, 55, 56, 57]

theorem digs_iff (b : UInt8) : digs.contains b = (Lib.digitVal b).isSome := by
  have h : b.toNat < 256 := b.toNat_lt
  have key : ∀ n : Nat, n < 256 → digs.contains (UInt8.ofNat n) = (Lib.digitVal (UInt8.ofNat n)).isSome := by decide +kernel
  have := key b.toNat h
  rwa [UInt8.ofNat_toNat] at this

theorem decFrom_isSome : ∀ (l : List UInt8) (acc : Nat), (Lib.decFrom acc l).isSome = l.all (digs.contains ·)
  | [], _ => rfl
  | b :: r, acc => by
    rw [Lib.decFrom, List.all_cons, digs_iff]
    cases h : Lib.digitVal b with
    | none => simp
    | some d => simp [decFrom_isSome r]

theorem dropWhile_eq_nil {α : Type} (p : α → Bool) : ∀ l : List α, l.dropWhile p = [] ↔ l.all p = true
  | [] => by simp
  | a :: r => by
    rw [List.dropWhile_cons, List.all_cons]
    cases h : p a with
    | true => simp [dropWhile_eq_nil p r]
    | false => simp

theorem trimS_nil (l cs : List UInt8) : Lib.trimS l cs = [] ↔ l.all (cs.contains ·) = true := by
  unfold Lib.trimS Lib.trimLeftS Lib.trimRightS
  rw [dropWhile_eq_nil]
  constructor
  · intro h
    rw [List.all_reverse] at h
    have hd := List.takeWhile_append_dropWhile (p := (cs.contains ·)) (l := l.reverse)
    have h2 : l.reverse.all (cs.contains ·) = true := by
      rw [← hd, List.all_append, h, Bool.and_true]
      exact List.all_takeWhile
    rwa [List.all_reverse] at h2
  · intro h
    have h2 : l.reverse.all (cs.contains ·) = true := by rwa [List.all_reverse]
    rw [(dropWhile_eq_nil _ _).2 h2]
    rfl

/-- What 'number' tells. -/
def numF (l : List UInt8) : Int × Bool :=
  if 3 < l.length then (0, false) else match Lib.decNat l with
    | some n => ((n : Int), true)
    | none => (0, false)

theorem numF_nil : numF [] = (0, false) := rfl
theorem numF_long {l : List UInt8} (h : 3 < l.length) : numF l = (0, false) := by rw [numF, if_pos h]
theorem numF_odd {l : List UInt8} (h1 : Lib.trimS l digs ≠ []) : numF l = (0, false) := by
  unfold numF
  split
  · rfl
  · have : Lib.decNat l = none := by
      unfold Lib.decNat
      split
      · rfl
      · have h3 := mt (trimS_nil l digs).2 h1
        rw [← decFrom_isSome l 0] at h3
        simpa using h3
    rw [this]
theorem numF_even {l : List UInt8} (h0 : l ≠ []) (h3 : l.length ≤ 3) (h1 : Lib.trimS l digs = []) : ∃ n : Nat, Lib.atoi l = some (n : Int) ∧ numF l = ((n : Int), true) ∧ n < 1000 := by
  have ha := (trimS_nil l digs).1 h1
  have hs := ha
  rw [← decFrom_isSome l 0] at ha
  obtain ⟨n, hn⟩ := Option.isSome_iff_exists.1 ha
  have hd : Lib.decNat l = some n := by
    unfold Lib.decNat
    rw [if_neg (by simpa using h0), hn]
  have hlt := Lib.decFrom_lt l 0 n hn
  refine ⟨n, ?_, ?_, ?_⟩
  · cases l with
    | nil => exact absurd rfl h0
    | cons b r =>
      rw [List.all_cons, digs_iff, Bool.and_eq_true] at hs
      unfold Lib.atoi
      have hb1 : (b == 45) = false := by
        rw [beq_eq_false_iff_ne]; rintro rfl; exact absurd hs.1 (by decide)
      have hb2 : (b == 43) = false := by
        rw [beq_eq_false_iff_ne]; rintro rfl; exact absurd hs.1 (by decide)
      simp only [hb1, hb2, Bool.false_eq_true, if_false, hd, Option.map_some]
  · rw [numF, if_neg (by omega), hd]
  · have : (10 : Nat) ^ l.length ≤ 10 ^ 3 := Nat.pow_le_pow_right (by omega) h3
    omega
theorem numF_range (l : List UInt8) : 0 ≤ (numF l).1 ∧ (numF l).1 < 1000 := by
  unfold numF
  split
  · simp
  · cases h : Lib.decNat l with
    | none => simp
    | some n =>
      simp only
      unfold Lib.decNat at h
      split at h
      · cases h
      · have := Lib.decFrom_lt l 0 n h
        have : (10 : Nat) ^ l.length ≤ 10 ^ 3 := Nat.pow_le_pow_right (by omega) (by omega)
        omega
end Go.Proofs.YtbjckccgbmimpabGreatDoor.Kp

/- The walk of keys.number. -/
namespace Go.Proofs.YtbjckccgbmimpabGreatDoor
open Go.RowKit

theorem trim_digits (s : ByteArray) (w : World) (hs : s.size ≤ 9223372036854775807) :
    Calls Tryz.prog 52 #[.string s, .string ⟨#[48, 49, 50, 51, 52, 53, 54, 55, 56, 57]⟩] w fun e w' => e = .returned (.string ⟨(Lib.trimS s.data.toList Kp.digs).toArray⟩) ∧ Below w.heap.size w w' :=
  Any.strings_Trim_laid Tryz.lays160 (by kernel_rfl) s ⟨#[48, 49, 50, 51, 52, 53, 54, 55, 56, 57]⟩ w hs (by decide) (ascii_of_all (by decide))

def NumPost (s : ByteArray) (w : World) (e : Ending) (w' : World) : Prop :=
  e = .returned (.tuple #[.int .i64 (Kp.numF s.data.toList).1, .bool (Kp.numF s.data.toList).2]) ∧ Below w.heap.size w w'
theorem NumPost.mk {s : ByteArray} {w w' : World} {n : Int} {b : Bool} (h : Kp.numF s.data.toList = (n, b)) (hb : Below w.heap.size w w') : NumPost s w (.returned (.tuple #[.int .i64 n, .bool b])) w' := by
  unfold NumPost; rw [h]; exact ⟨rfl, hb⟩
theorem below_step' {B : Nat} {w w1 w2 : World} (h : Below B w w1) (hB : B ≤ w1.heap.size) (k : Below w1.heap.size w1 w2) : Below B w w2 := h.trans (k.mono hB)

end Go.Proofs.YtbjckccgbmimpabGreatDoor

/- The walk of utf.begins. -/
namespace Go.Proofs.YtbjckccgbmimpabGreatDoor
open Go.RowKit
def ShpPost (b : Int) (w : World) (e : Ending) (w' : World) : Prop :=
  e = .returned (.agg #[.int .i64 (Kp.shp b).1, .int .u8 (Kp.shp b).2.1, .int .u8 (Kp.shp b).2.2]) ∧ Below w.heap.size w w'
theorem ShpPost.mk {b x y z : Int} {w w' : World} (h : Kp.shp b = (x, y, z)) (hb : Below w.heap.size w w') : ShpPost b w (.returned (.agg #[.int .i64 x, .int .u8 y, .int .u8 z])) w' := by
  unfold ShpPost; rw [h]; exact ⟨rfl, hb⟩

set_option maxHeartbeats 1000000 in
theorem begins_calls (b : Int) (w : World) : Calls Tryz.prog 42 #[.int .u8 b] w (ShpPost b w) := by
  have key : (b < 128 ∧ Kp.shp b = (1, 0, 0)) ∨ (¬ b < 128 ∧ 194 ≤ b ∧ b ≤ 223 ∧ Kp.shp b = (2, 128, 191)) ∨ (b = 224 ∧ Kp.shp b = (3, 160, 191)) ∨ (b = 237 ∧ Kp.shp b = (3, 128, 159))
    ∨ (b ≠ 224 ∧ b ≠ 237 ∧ 225 ≤ b ∧ b ≤ 239 ∧ Kp.shp b = (3, 128, 191)) ∨ (b = 240 ∧ Kp.shp b = (4, 144, 191)) ∨ (b ≠ 240 ∧ 241 ≤ b ∧ b ≤ 243 ∧ Kp.shp b = (4, 128, 191)) ∨ (b = 244 ∧ Kp.shp b = (4, 128, 143)) ∨ ((128 ≤ b ∧ b < 194 ∨ 244 < b) ∧ Kp.shp b = (0, 0, 0)) := by
    unfold Kp.shp
    (repeat' split) <;> simp <;> omega
  go_enter Tryz.func42, Tryz.ntmps42
  go_wp2_with fail
  all_goals
    (try simp only [beq_iff_eq, beq_eq_false_iff_ne] at *)
    rcases key with ⟨_, h⟩ | ⟨_, _, _, h⟩ | ⟨_, h⟩ | ⟨_, h⟩ | ⟨_, _, _, _, h⟩ | ⟨_, h⟩ | ⟨_, _, _, h⟩ | ⟨_, h⟩ | ⟨_, h⟩ <;> first
      | (exfalso; omega)
      | (refine bodyPost_ret ?_ rfl (ShpPost.mk h ((Below.refl _ _).alloc (Nat.le_refl _) _)); simp [results, Tryz.results42, go_sem]; done)
end Go.Proofs.YtbjckccgbmimpabGreatDoor

/- Map literals of whole numbers, made and asked. -/
namespace Go.Proofs.YtbjckccgbmimpabGreatDoor
open Go.RowKit

theorem check_int {P : Program} {k : TypeId} {q : IntKind} (hk : P.underlying k = some (.int q)) (b : Bool) (key : Int) (w : World) :
    (Instr.checkKey b 10000 k (.int q key)).run P w = .ok () w := by
  rw [show (10000 : Nat) = 9999 + 1 from rfl, Instr.checkKey]
  simp [run_underlying hk]

/-- A literal's entries, as the model has them. -/
def ents (q : IntKind) (f : Int → Value) : List (Int × Int) → Nat → List MapEntry
  | [], _ => []
  | (k, v) :: r, n => ⟨.int q k, f v, n⟩ :: ents q f r (n + 1)
/-- What a key has; 0: it isn't there. -/
def tabV : List (Int × Int) → Int → Int
  | [], _ => 0
  | (k, v) :: r, x => if x = k then v else tabV r x
def tabHas : List (Int × Int) → Int → Bool
  | [], _ => false
  | (k, _) :: r, x => if x = k then true else tabHas r x

theorem findNow_ents (q : IntKind) (f : Int → Value) (x : Int) : ∀ (tab : List (Int × Int)) (n i : Nat),
    ∃ r, Instr.findNow (.int q) (.int q x) (ents q f tab n) i = some r ∧ ((tabHas tab x = true ∧ ∃ j, r = some (j, f (tabV tab x))) ∨ (tabHas tab x = false ∧ r = none ∧ tabV tab x = 0))
  | [], n, i => ⟨none, rfl, .inr ⟨rfl, rfl, rfl⟩⟩
  | (k, v) :: t, n, i => by
    by_cases h : x = k
    · subst h
      refine ⟨some (i, f v), ?_, .inl ⟨by simp [tabHas], i, by simp [tabV]⟩⟩
      simp [ents, Instr.findNow, Instr.sameNow]
    · obtain ⟨r, h1, h2⟩ := findNow_ents q f x t (n + 1) (i + 1)
      refine ⟨r, ?_, ?_⟩
      · have hb : (x == k) = false := beq_eq_false_iff_ne.2 h
        simp only [ents, Instr.findNow, Instr.sameNow, if_true, hb]
        exact h1
      · simpa only [tabHas, tabV, if_neg h] using h2

theorem run_lookup_ents {P : Program} {t k e : TypeId} {q : IntKind} (ht : P.underlying t = some (.map k e)) (hk : P.underlying k = some (.int q)) (hz : ∀ w, (zeroValue e).run P w = .ok (.int .i64 0) w)
    {w : World} {r clock : Nat} {es : Array MapEntry} (hb : w.heap[r]? = some (.map es clock)) (tab : List (Int × Int)) (hes : es.toList = ents q (Value.int .i64) tab 0) (x : Int) :
    (Instr.lookup t (.map (some r)) (.int q x) false).run P w = .ok (.int .i64 (tabV tab x)) w := by
  obtain ⟨rr, h1, h2⟩ := findNow_ents q (Value.int .i64) x tab 0 0
  have hf : (Instr.findKey k (.int q x) es.toList).run P w = .ok rr w := by
    simp [Instr.findKey, run_underlying hk, hes, h1]
  rcases h2 with ⟨_, j, rfl⟩ | ⟨_, rfl, h3⟩
  · simp [Instr.lookup, run_underlying ht, MapKept.run_getObj_map hb, check_int hk, hf, Result.andThen]
  · simp [Instr.lookup, run_underlying ht, MapKept.run_getObj_map hb, check_int hk, hf, hz, h3, Result.andThen]

theorem run_insert_new {P : Program} {t k e : TypeId} {q : IntKind} (ht : P.underlying t = some (.map k e)) (hk : P.underlying k = some (.int q))
    (w : World) (es : Array MapEntry) (clock : Nat) (x : Int) (v : Value) (hf : Instr.findNow (.int q) (.int q x) es.toList 0 = some none) :
    (Instr.mapUpdate t (.map (some w.heap.size)) (.int q x) v).run P (w.alloc (.map es clock)) = .ok () (w.alloc (.map (es.push ⟨.int q x, v, clock⟩) (clock + 1))) := by
  have hb : (w.alloc (.map es clock)).heap[w.heap.size]? = some (.map es clock) := by
    show (w.heap.push _)[w.heap.size]? = _
    exact Array.getElem?_push_size
  have hf' : (Instr.findKey k (.int q x) es.toList).run P (w.alloc (.map es clock)) = .ok none (w.alloc (.map es clock)) := by
    simp [Instr.findKey, run_underlying hk, hf]
  simp only [Instr.mapUpdate, Sem.run_bind, run_underlying ht, MapKept.run_getObj_map hb, check_int hk, hf', Result.andThen]
  simp only [setObj, Sem.run]
  rw [hb]
  simp only [World.alloc]
  congr 2
  show (w.heap.push _).setIfInBounds w.heap.size _ = w.heap.push _
  apply Array.ext_getElem?
  intro j
  rw [Array.getElem?_setIfInBounds, Array.getElem?_push, Array.getElem?_push]
  by_cases h : w.heap.size = j
  · subst h
    simp
  · rw [if_neg h, if_neg (fun e => h e.symm), if_neg (fun e => h e.symm)]

theorem gate_insert {P : Program} {w : World} {ops : Array Oper} {rest : List Oper} {o : Oper} {a : Act} {Q : Exit → Act → World → Prop} (t : TypeId) {m kx vx : Operand} (_h : o.op = Op.insert t m kx vx) (h : wpList P ops Q (o :: rest) a w) : wpList P ops Q (o :: rest) a w := h
theorem gate_lookup {P : Program} {w : World} {ops : Array Oper} {rest : List Oper} {o : Oper} {a : Act} {Q : Exit → Act → World → Prop} (t : TypeId) {m kx : Operand} {b : Bool} (_h : o.op = Op.lookup t m kx b) (h : wpList P ops Q (o :: rest) a w) : wpList P ops Q (o :: rest) a w := h
/-- One entry of a literal: the map is the newest block. -/
theorem wpList_insert_new {P : Program} (w : World) {ops : Array Oper} {rest : List Oper} {o : Oper} {a : Act} {Q : Exit → Act → World → Prop}
    (hg : o.guard = none) (t : TypeId) (m kx vx : Operand) (hop : o.op = Op.insert t m kx vx) {k e : TypeId} {q : IntKind} (ht : P.underlying t = some (.map k e)) (hk : P.underlying k = some (.int q))
    (es : Array MapEntry) (clock : Nat) (x : Int) (r : Nat) (hm : a.eval m = .map (some r)) (hr : r = w.heap.size) (hx : a.eval kx = .int q x) (hf : Instr.findNow (.int q) (.int q x) es.toList 0 = some none)
    (h : wpList P ops Q rest (a.put o.dst undef) (w.alloc (.map (es.push ⟨.int q x, a.eval vx, clock⟩) (clock + 1)))) :
    wpList P ops Q (o :: rest) a (w.alloc (.map es clock)) := by
  subst hr
  refine wpList_plain hg fun K hK => ?_
  unfold Oper.wp
  simp only [execOp, hop, hm, hx]
  rw [Sem.run_bind, run_insert_new ht hk w es clock x _ hf]
  exact hK _ _ h

theorem heap_alloc_at {w : World} {o : Obj} {r : Nat} (h : r = w.heap.size) : (w.alloc o).heap[r]? = some o := by
  subst h
  show (w.heap.push _)[w.heap.size]? = _
  exact Array.getElem?_push_size

/-- A literal's entry is asked for. -/
theorem wpList_lookup_ents {P : Program} (w : World) {ops : Array Oper} {rest : List Oper} {o : Oper} {a : Act} {Q : Exit → Act → World → Prop}
    (hg : o.guard = none) (t : TypeId) (m kx : Operand) (hop : o.op = Op.lookup t m kx false) {k e : TypeId} {q : IntKind} (ht : P.underlying t = some (.map k e)) (hk : P.underlying k = some (.int q)) (hz : ∀ w, (zeroValue e).run P w = .ok (.int .i64 0) w)
    {r clock : Nat} {es : Array MapEntry} (hb : w.heap[r]? = some (.map es clock)) (tab : List (Int × Int)) (hes : es.toList = ents q (Value.int .i64) tab 0) (x : Int) (hm : a.eval m = .map (some r)) (hx : a.eval kx = .int q x)
    (h : wpList P ops Q rest (a.put o.dst (.int .i64 (tabV tab x))) w) :
    wpList P ops Q (o :: rest) a w := by
  refine wpList_plain hg fun K hK => ?_
  unfold Oper.wp
  simp only [execOp, hop, hm, hx]
  rw [Sem.run_bind, run_lookup_ents ht hk hz hb tab hes x]
  exact hK _ _ h
end Go.Proofs.YtbjckccgbmimpabGreatDoor

/- What a key's sequence tells, in plain Lean; and strings.Split at one sign. -/
namespace Go.Proofs.YtbjckccgbmimpabGreatDoor
open Go.RowKit
namespace Kp
def semi : ByteArray := ⟨#[59]⟩
/-- The parts between semicolons. -/
def pcs (s : ByteArray) : List ByteArray := Lib.splitB semi 0 (Lib.countB s semi) s
theorem pcs_length (s : ByteArray) : (pcs s).length = Lib.countB s semi + 1 := Lib.splitB_all semi (by decide) 0 _ s rfl
theorem pcs_pos (s : ByteArray) : 1 ≤ (pcs s).length := by rw [pcs_length]; omega
theorem pcs_le (s : ByteArray) : (pcs s).length ≤ s.size + 2 := by
  rw [pcs_length]
  have := Lib.count_le s.data.toList semi.data.toList
  rw [Array.length_toList] at this
  show Lib.count _ _ + 1 ≤ s.data.size + 2
  omega
theorem splitB_size (sep : ByteArray) : ∀ (k : Nat) (s : ByteArray), ∀ p ∈ Lib.splitB sep 0 k s, p.size ≤ s.size
  | 0, s => by simp [Lib.splitB]
  | k + 1, s => by
    intro p hp
    unfold Lib.splitB at hp
    split at hp
    · simp only [List.mem_singleton] at hp; subst hp; exact Nat.le_refl _
    · rcases List.mem_cons.1 hp with rfl | hp
      · rw [ByteArray.size_extract]; omega
      · have := splitB_size sep k _ p hp
        rw [ByteArray.size_extract] at this
        omega
theorem pcs_size (s : ByteArray) : ∀ p ∈ pcs s, p.size ≤ s.size := splitB_size semi _ s

def tabA : List (Int × Int) := [(65, 6), (66, 7), (67, 9), (68, 8), (72, 10), (70, 11), (90, 3)]
def tabB : List (Int × Int) := [(1, 10), (7, 10), (3, 5), (4, 11), (8, 11)]
def modsF (ns : List Int) : Int := if 1 < ns.length ∧ 2 ≤ ns.getD 1 0 ∧ ns.getD 1 0 ≤ 8 then ns.getD 1 0 - 1 else 0
/-- Kind, rune, modifiers. -/
def toldN (ns : List Int) (e : Int) : Int × Int × Int :=
  if e = 126 then (if tabV tabB (ns.getD 0 0) = 0 then (0, 0, 0) else (tabV tabB (ns.getD 0 0), 0, modsF ns))
  else if e = 90 then (3, 0, Go.bits .or .i64 (modsF ns) 1)
  else if tabV tabA e = 0 then (0, 0, 0) else (tabV tabA e, 0, modsF ns)
def nsOf (ps : List ByteArray) : List Int := ps.map fun p => (numF p.data.toList).1
def toldF (s : ByteArray) (e : Int) : Int × Int × Int :=
  if s.toList.isEmpty = false ∧ ∃ p ∈ pcs s, (numF p.data.toList).2 = false then (0, 0, 0) else toldN (nsOf (pcs s)) e
instance (s : ByteArray) : Decidable (∃ p ∈ pcs s, (numF p.data.toList).2 = false) := inferInstance
end Kp

theorem split_calls (s : ByteArray) (m : Int) (w : World) (hs : s.size < 4294967281) (hm : w.cell? ⟨5, 0, none⟩ = some (.int .i64 m)) :
    Calls Tryz.prog 51 #[.string s, .string ⟨#[59]⟩] w fun e w' => e = .returned (.slice (some ⟨w.heap.size, 0, none⟩) (Kp.pcs s).length (Kp.pcs s).length) ∧ w' = w.alloc (.cells ((Kp.pcs s).map Value.string).toArray 9) := by
  have h := Tryz.strings_Split s ⟨#[59]⟩ m w hs hm (by decide)
  rw [Kp.pcs_length]
  exact h
end Go.Proofs.YtbjckccgbmimpabGreatDoor
