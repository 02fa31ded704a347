/- Cells in a block of their own; the walk of vt.blank. -/
import Derived.Test.YtbjckccgbmimpabGreatDoorV3
import Derived.Test.YtbjckccgbmimpabGreatDoorK11
import Derived.Test.YtbjckccgbmimpabGreatDoorT3
import Derived.Laws.MakeOwn
import Derived.Test.YtbjckccgbmimpabGreatDoorV9
import Derived.WalkSpells
namespace Go.Proofs.YtbjckccgbmimpabGreatDoor
open Go.RowKit Go.Proofs.YtbjckccgbmimpabGreatDoorW.PrintWords Go.Proofs.YtbjckccgbmimpabGreatDoorW.PrintLast Go.Proofs.YtbjckccgbmimpabGreatDoorW.PrintMore
def cellVals (c : Cell) : List Value := [.int .i32 c.1, .int .i64 c.2]
def ccs (l : List Cell) : List Value := l.flatMap cellVals
theorem ccs_cons (c : Cell) (l : List Cell) : ccs (c :: l) = .int .i32 c.1 :: .int .i64 c.2 :: ccs l := by simp [ccs, cellVals]
theorem ccs_length (l : List Cell) : (ccs l).length = l.length * 2 := by
  induction l with
  | nil => rfl
  | cons a r ih => rw [ccs_cons, List.length_cons, List.length_cons, ih, List.length_cons]; omega
theorem ccs_get (l : List Cell) : ∀ (i : Nat), i < l.length → (ccs l)[i * 2]? = some (.int .i32 (Kp.gr l i)) ∧ (ccs l)[i * 2 + 1]? = some (.int .i64 (Kp.gs l i)) := by
  induction l with
  | nil => intro i h; simp at h
  | cons c r ih =>
    intro i h
    rw [ccs_cons]
    cases i with
    | zero => exact ⟨rfl, rfl⟩
    | succ i =>
      rw [show (i + 1) * 2 = i * 2 + 1 + 1 by omega]
      exact ih i (by simpa using h)
theorem ccs_set_r (l : List Cell) : ∀ (i : Nat) (r : Int), i < l.length → (ccs l).set (i * 2) (.int .i32 r) = ccs (l.set i (r, Kp.gs l i)) := by
  induction l with
  | nil => intro i r h; simp at h
  | cons c t ih =>
    intro i r h
    cases i with
    | zero => simp [ccs_cons, Kp.gs]
    | succ i =>
      have := ih i r (by simpa using h)
      rw [show (i + 1) * 2 = i * 2 + 1 + 1 by omega, ccs_cons, List.set_cons_succ, List.set_cons_succ, this, List.set_cons_succ, ccs_cons]
      rfl
theorem ccs_set_s (l : List Cell) : ∀ (i : Nat) (s : Int), i < l.length → (ccs l).set (i * 2 + 1) (.int .i64 s) = ccs (l.set i (Kp.gr l i, s)) := by
  induction l with
  | nil => intro i r h; simp at h
  | cons c t ih =>
    intro i r h
    cases i with
    | zero => simp [ccs_cons, Kp.gr]
    | succ i =>
      have := ih i r (by simpa using h)
      rw [show (i + 1) * 2 + 1 = i * 2 + 1 + 1 + 1 by omega, ccs_cons, List.set_cons_succ, List.set_cons_succ, this, List.set_cons_succ, ccs_cons]
      rfl
/-- Cells in a block of their own. -/
def CellsAt (w : World) (g : Nat) (l : List Cell) : Prop := w.heap[g]? = some (.cells (ccs l).toArray 41 (0, 0))
theorem CellsAt.cell {w : World} {g : Nat} {l : List Cell} (h : CellsAt w g l) (i : Nat) (hi : i < l.length) : w.cell? ⟨g, i * 2, none⟩ = some (.int .i32 (Kp.gr l i)) ∧ w.cell? ⟨g, i * 2 + 1, none⟩ = some (.int .i64 (Kp.gs l i)) := by
  obtain ⟨a, b⟩ := ccs_get l i hi
  exact ⟨(blk_cell h _).trans (by simpa using a), (blk_cell h _).trans (by simpa using b)⟩
theorem CellsAt.free {w : World} {g : Nat} {l : List Cell} (h : CellsAt w g l) (i : Nat) : w.frozen? ⟨g, i, none⟩ = false := blk_frozen h i
theorem CellsAt.set_r {w : World} {g : Nat} {l : List Cell} (h : CellsAt w g l) (i : Nat) (hi : i < l.length) (r : Int) : CellsAt (w.setCell ⟨g, i * 2, none⟩ (.int .i32 r)) g (l.set i (r, Kp.gs l i)) :=
  blk_put h (i * 2) _ (by rw [← ccs_set_r l i r hi]; simp)
theorem CellsAt.set_s {w : World} {g : Nat} {l : List Cell} (h : CellsAt w g l) (i : Nat) (hi : i < l.length) (s : Int) : CellsAt (w.setCell ⟨g, i * 2 + 1, none⟩ (.int .i64 s)) g (l.set i (Kp.gr l i, s)) :=
  blk_put h (i * 2 + 1) _ (by rw [← ccs_set_s l i s hi]; simp)
theorem CellsAt.rc {w : World} {g : Nat} {l : List Cell} (h : CellsAt w g l) (hl : l.length ≤ 140737488355328) : RC w (some ⟨g, 0, none⟩) l := ⟨hl, fun i hi => by
  obtain ⟨a, b⟩ := h.cell i hi
  exact ⟨g, 0, rfl, by rw [Nat.zero_add]; exact a, by rw [Nat.zero_add]; exact b⟩⟩
theorem CellsAt.kept {w w' : World} {g : Nat} {l : List Cell} {S : Nat → Prop} (h : CellsAt w g l) (hk : Kept w w' S) (hg : ¬ S g) : CellsAt w' g l := blk_kept h hk hg

/-- Cells that are half blank. -/
def partL (n i : Nat) : List Cell := List.replicate i (32, 0) ++ List.replicate (n - i) (0, 0)
theorem partL_length {n i : Nat} (h : i ≤ n) : (partL n i).length = n := by unfold partL; simp; omega
theorem partL_set {n i : Nat} (h : i < n) : (partL n i).set i (32, Kp.gs (partL n i) i) = partL n (i + 1) := by
  have e : Kp.gs (partL n i) i = 0 := by
    unfold Kp.gs partL
    rw [List.getD_eq_getElem?_getD, List.getElem?_append_right (by simp), List.length_replicate, Nat.sub_self, List.getElem?_replicate]
    split <;> rfl
  rw [e]
  unfold partL
  rw [List.set_append_right _ _ (by simp), List.length_replicate, Nat.sub_self, show n - i = (n - (i + 1)) + 1 by omega, List.replicate_succ, List.set_cons_zero, List.replicate_succ', List.append_assoc]
  rfl
theorem made_cells : ∀ n : Nat, madeCells #[.int .i32 0, .int .i64 0] (n * 2) = (ccs (partL n 0)).toArray := by
  intro n
  apply Array.ext_getElem?
  intro j
  unfold madeCells
  rw [Array.getElem?_map]
  by_cases hj : j < n * 2
  · have hi : j / 2 < n := by omega
    obtain ⟨a, b⟩ := ccs_get (partL n 0) (j / 2) (by rw [partL_length (by omega)]; exact hi)
    have e1 : Kp.gr (partL n 0) (j / 2) = 0 ∧ Kp.gs (partL n 0) (j / 2) = 0 := by
      unfold Kp.gr Kp.gs partL
      simp only [List.replicate_zero, List.nil_append, Nat.sub_zero]
      rw [List.getD_eq_getElem?_getD, List.getElem?_replicate, if_pos hi]
      exact ⟨rfl, rfl⟩
    rw [e1.1] at a
    rw [e1.2] at b
    rw [Array.getElem?_range, if_pos hj]
    rcases (show j % 2 = 0 ∨ j % 2 = 1 by omega) with h | h
    · rw [show j / 2 * 2 = j by omega] at a
      rw [List.getElem?_toArray, a, Option.map_some, show #[Value.int .i32 0, .int .i64 0].size = 2 from rfl, h]; rfl
    · rw [show j / 2 * 2 + 1 = j by omega] at b
      rw [List.getElem?_toArray, b, Option.map_some, show #[Value.int .i32 0, .int .i64 0].size = 2 from rfl, h]; rfl
  · rw [Array.getElem?_range, if_neg hj, List.getElem?_toArray, List.getElem?_eq_none (by rw [ccs_length, partL_length (by omega)]; omega)]; rfl
theorem run_make_cells (n : Nat) (hn : n ≤ 3600) (w : World) :
    (Instr.makeSlice 22 (.int .i64 (n : Int)) (.int .i64 (n : Int))).run Tryz.prog w = .ok (.slice (some ⟨w.heap.size, 0, none⟩) n n) (w.alloc (.cells (ccs (partL n 0)).toArray 41)) := by
  obtain ⟨i0, hi, hz0, hz1, hz2⟩ := info_parts Tryz.info41
  have h := run_make (P := Tryz.prog) w 22 41 i0 _ Tryz.underlying22 hi hz0 .i64 .i64 (n : Int) (n : Int) (by omega) (by omega) (by rw [hz2]; omega) (by omega)
  rw [h, hz1, Int.toNat_natCast, ← made_cells n]
  rfl
/-- A blank grid. -/
def BlankPost (W : World) (R C : Nat) (e : Ending) (w' : World) : Prop :=
  ∃ g, e = .returned (gridV R C (some ⟨g, 0, none⟩) (R * C) (R * C)) ∧ W.heap.size ≤ g ∧ CellsAt w' g (Kp.blankL (R * C)) ∧ Below W.heap.size W w'
set_option maxRecDepth 100000 in
set_option maxHeartbeats 4000000 in
theorem blank_calls (R C : Nat) (hR : R ≤ 60) (hC : C ≤ 60) (W : World) : Calls Tryz.prog 21 #[.int .i64 R, .int .i64 C] W (BlankPost W R C) := by
  obtain ⟨n, hn⟩ : ∃ n, R * C = n := ⟨_, rfl⟩
  have hn36 : n ≤ 3600 := by rw [← hn]; exact Nat.mul_le_mul hR hC
  have hw : IntKind.i64.wrap ((R : Int) * C) = (n : Int) := by
    rw [show (R : Int) * C = ((R * C : Nat) : Int) by push_cast; rfl, hn, IntKind.wrap_i64]; omega
  have hmk := run_make_cells n hn36
  have HN := Lib.hid hn
  clear hn
  go_enter Tryz.func21, Tryz.ntmps21
  go_wp2_with fail
  have hg4 := blk_alloc (blk_alloc (heap_alloc_new W (.cells #[.int .i64 0, .int .i64 0, .slice none 0 0] 24)) (.cells (ccs (partL n 0)).toArray 41)) (.cells #[.int .i64 R, .int .i64 C, .slice (some ⟨W.heap.size + 1, 0, none⟩) n n] 24)
  have hgc := blk_alloc (heap_alloc_at (w := W.alloc (.cells #[.int .i64 0, .int .i64 0, .slice none 0 0] 24)) (o := .cells (ccs (partL n 0)).toArray 41) (r := W.heap.size + 1) (by simp)) (.cells #[.int .i64 R, .int .i64 C, .slice (some ⟨W.heap.size + 1, 0, none⟩) n n] 24)
  have hg5 := heap_alloc_at (w := (W.alloc (.cells #[.int .i64 0, .int .i64 0, .slice none 0 0] 24)).alloc (.cells (ccs (partL n 0)).toArray 41)) (o := .cells #[.int .i64 R, .int .i64 C, .slice (some ⟨W.heap.size + 1, 0, none⟩) n n] 24) (r := W.heap.size + 1 + 1) (by simp)
  have hb := below_alloc (below_alloc (below_alloc (Below.refl W.heap.size W) (.cells #[.int .i64 0, .int .i64 0, .slice none 0 0] 24)) (.cells (ccs (partL n 0)).toArray 41)) (.cells #[.int .i64 R, .int .i64 C, .slice (some ⟨W.heap.size + 1, 0, none⟩) n n] 24)
  generalize ((W.alloc (.cells #[.int .i64 0, .int .i64 0, .slice none 0 0] 24)).alloc (.cells (ccs (partL n 0)).toArray 41)).alloc (.cells #[.int .i64 R, .int .i64 C, .slice (some ⟨W.heap.size + 1, 0, none⟩) n n] 24) = W3 at hg4 hgc hg5 hb ⊢
  obtain ⟨g4, h4⟩ : ∃ g4, W.heap.size = g4 := ⟨_, rfl⟩
  obtain ⟨gc, hc⟩ : ∃ gc, g4 + 1 = gc := ⟨_, rfl⟩
  obtain ⟨g5, h5⟩ : ∃ g5, gc + 1 = g5 := ⟨_, rfl⟩
  rw [h4] at hg4 hgc hg5 ⊢
  rw [hc] at hgc hg5 ⊢
  rw [h5] at hg5 ⊢
  have hn1 : g4 ≠ gc ∧ g4 ≠ g5 ∧ gc ≠ g5 := by omega
  have HNe := Lib.hid hn1
  have HG0 := Lib.hid (show W.heap.size ≤ g4 ∧ W.heap.size ≤ gc by omega)
  have HG4 := Lib.hid hg4
  have HGc := Lib.hid (show CellsAt W3 gc (partL n 0) from hgc)
  have HG5 := Lib.hid hg5
  have HB := Lib.hid hb
  clear hg4 hgc hg5 hb h4 hc h5 hn1 hmk hw
  go_loopw [17] (fun v17 wr => ∃ i : Nat, v17 = .int .i64 i ∧ i ≤ n ∧ Hid (wr.heap[g4]? = some (.cells #[.int .i64 0, .int .i64 0, .slice none 0 0] 24 (0, 0))) ∧ Hid (CellsAt wr gc (partL n i)) ∧ Hid (wr.heap[g5]? = some (.cells #[.int .i64 R, .int .i64 C, .slice (some ⟨gc, 0, none⟩) n n] 24 (0, 0))) ∧ Hid (Below W.heap.size W wr)) (fun v17 _ => n - (intOf v17).toNat)
  case atStart => exact ⟨0, rfl, by omega, HG4, HGc, HG5, HB⟩
  case round =>
    clear HG4 HGc HG5 HB
    obtain ⟨i, rfl, hi, HG4, HGc, HG5, HB⟩ := hrel
    have c50 := (blk_cell HG5.out 0).trans rfl
    have c51 := (blk_cell HG5.out 1).trans rfl
    have c52 := (blk_cell HG5.out 2).trans rfl
    by_cases hlt : i < n
    · obtain ⟨k0, _⟩ := HGc.out.cell i (by rw [partL_length hi]; exact hlt)
      have f0 := HGc.out.free (i * 2)
      go_wp2_with fail
      refine ⟨⟨i + 1, by go_num, by omega, Lib.hid (blk_far HG4.out HNe.out.1 _), ?_, Lib.hid (blk_far HG5.out (fun e => HNe.out.2.2 e.symm) _), Lib.hid (HB.out.setCell (p := ⟨gc, _, none⟩) HG0.out.2 _)⟩, by simp [intOf]; omega⟩
      have := HGc.out.set_r i (by rw [partL_length hi]; exact hlt) 32
      rw [partL_set hlt] at this
      exact this
    · obtain rfl : i = n := by omega
      have c40 := (blk_cell HG4.out 0).trans rfl
      have c41 := (blk_cell HG4.out 1).trans rfl
      have c42 := (blk_cell HG4.out 2).trans rfl
      have f40 := blk_frozen HG4.out 0
      have f41 := blk_frozen HG4.out 1
      have f42 := blk_frozen HG4.out 2
      go_wp2_with fail
      have e4 : (((wr.setCell ⟨g4, 0, none⟩ (.int .i64 R)).setCell ⟨g4, 1, none⟩ (.int .i64 C)).setCell ⟨g4, 2, none⟩ (.slice (some ⟨gc, 0, none⟩) i i)).heap[g4]? = some (.cells #[.int .i64 R, .int .i64 C, .slice (some ⟨gc, 0, none⟩) i i] 24 (0, 0)) :=
        blk_put (cs := #[.int .i64 R, .int .i64 C, .slice none 0 0]) (blk_put (cs := #[.int .i64 R, .int .i64 0, .slice none 0 0]) (blk_put HG4.out 0 _ rfl) 1 _ rfl) 2 _ rfl
      have ec := CellsAt.kept (S := fun k => k = g4) HGc.out (((Kept.refl wr (fun k => k = g4)).setCell (p := ⟨g4, 0, none⟩) (.inl rfl) (.int .i64 R)).setCell (p := ⟨g4, 1, none⟩) (.inl rfl) (.int .i64 C) |>.setCell (p := ⟨g4, 2, none⟩) (.inl rfl) (.slice (some ⟨gc, 0, none⟩) i i)) (fun e => HNe.out.1 e.symm)
      have eb := ((HB.out.setCell (p := ⟨g4, 0, none⟩) HG0.out.1 (.int .i64 R)).setCell (p := ⟨g4, 1, none⟩) HG0.out.1 (.int .i64 C)).setCell (p := ⟨g4, 2, none⟩) HG0.out.1 (.slice (some ⟨gc, 0, none⟩) i i)
      refine bodyPost_ret (results_cell_row (p := 4) (ty := 24) rfl _ _ g4 24 #[.int .i64 R, .int .i64 C, .slice (some ⟨gc, 0, none⟩) i i] (0, 0) _ rfl e4 Tryz.underlying24 (by kernel_rfl) (by kernel_rfl)) rfl ⟨gc, by rw [HN.out]; rfl, HG0.out.2, ?_, eb⟩
      rw [HN.out]
      have : partL i i = Kp.blankL i := by unfold partL Kp.blankL; simp
      rw [← this]
      exact ec
end Go.Proofs.YtbjckccgbmimpabGreatDoor

/- A terminal in memory; the walks of vt.New and Size. -/
namespace Go.Proofs.YtbjckccgbmimpabGreatDoor
open Go.RowKit Go.Proofs.YtbjckccgbmimpabGreatDoorW.PrintWords Go.Proofs.YtbjckccgbmimpabGreatDoorW.PrintLast Go.Proofs.YtbjckccgbmimpabGreatDoorW.PrintMore
def termCells (t : Kp.Tm) (gc : Nat) (wv : Value) : Array Value := #[.int .i64 t.R, .int .i64 t.C, .slice (some ⟨gc, 0, none⟩) (t.R * t.C) (t.R * t.C), .int .i64 t.row, .int .i64 t.col, .int .i64 t.st, wv]
/-- A terminal in memory. -/
structure TermAt (w : World) (base g gc : Nat) (t : Kp.Tm) (wv : Value) : Prop where
  blk : w.heap[g]? = some (.cells (termCells t gc wv) 52 (0, 0))
  cells : CellsAt w gc t.l
  ge : base ≤ g ∧ base ≤ gc
  ok : t.OK
theorem TermAt.rules {w : World} {base g gc : Nat} {t : Kp.Tm} {wv : Value} (h : TermAt w base g gc t wv) :
    (w.cell? ⟨g, 0, none⟩ = some (.int .i64 t.R) ∧ w.cell? ⟨g, 1, none⟩ = some (.int .i64 t.C) ∧ w.cell? ⟨g, 2, none⟩ = some (.slice (some ⟨gc, 0, none⟩) (t.R * t.C) (t.R * t.C)) ∧ w.cell? ⟨g, 3, none⟩ = some (.int .i64 t.row)
    ∧ w.cell? ⟨g, 4, none⟩ = some (.int .i64 t.col) ∧ w.cell? ⟨g, 5, none⟩ = some (.int .i64 t.st) ∧ w.cell? ⟨g, 6, none⟩ = some wv) ∧ ∀ i, w.frozen? ⟨g, i, none⟩ = false :=
  ⟨⟨(blk_cell h.blk 0).trans rfl, (blk_cell h.blk 1).trans rfl, (blk_cell h.blk 2).trans rfl, (blk_cell h.blk 3).trans rfl, (blk_cell h.blk 4).trans rfl, (blk_cell h.blk 5).trans rfl, (blk_cell h.blk 6).trans rfl⟩, fun i => blk_frozen h.blk i⟩
theorem TermAt.ne {w : World} {base g gc : Nat} {t : Kp.Tm} {wv : Value} (h : TermAt w base g gc t wv) : g ≠ gc := blk_ne h.blk h.cells (by decide)
theorem TermAt.kept {w w' : World} {base g gc : Nat} {t : Kp.Tm} {wv : Value} {S : Nat → Prop} (h : TermAt w base g gc t wv) (hk : Kept w w' S) (h1 : ¬ S g) (h2 : ¬ S gc) : TermAt w' base g gc t wv :=
  ⟨blk_kept h.blk hk h1, h.cells.kept hk h2, h.ge, h.ok⟩
theorem TermAt.below {w w' : World} {base g gc : Nat} {t : Kp.Tm} {wv : Value} (h : TermAt w base g gc t wv) (hb : Below w.heap.size w w') : TermAt w' base g gc t wv :=
  h.kept (S := fun _ => False) ((Kept.refl w _).below hb) (fun h => h) (fun h => h)
theorem TermAt.below_h {w0 w w' : World} {base g gc : Nat} {t : Kp.Tm} {wv : Value} (h : TermAt w0 base g gc t wv) (hb : Below w.heap.size w w') (he : w.heap = w0.heap) : TermAt w' base g gc t wv :=
  TermAt.below (w := w) ⟨by rw [he]; exact h.blk, by unfold CellsAt; rw [he]; exact h.cells, h.ge, h.ok⟩ hb
/-- Bytes that are read, in a row of bytes. -/
structure RB5 (w : World) (A : Option Addr) (l : List UInt8) : Prop where
  rb : RB w A l
  row : ∀ ad, A = some ad → ∃ cur fr, w.heap[ad.block]? = some (.cells cur 5 fr)
theorem RB.kept {w w' : World} {A : Option Addr} {l : List UInt8} {S : Nat → Prop} (h : RB w A l) (hk : Kept w w' S) (hS : ∀ ad, A = some ad → ¬ S ad.block) : RB w' A l := by
  refine ⟨h.1, h.2.1, fun hp => ?_⟩
  obtain ⟨ad, e, hc⟩ := h.2.2 hp
  refine ⟨ad, e, fun j hj => ?_⟩
  have := hc j hj
  have hlt := World.block_lt_of_cell? w _ this
  rw [add_block] at hlt
  refine (World.cell?_of_block ?_).trans this
  rw [add_block]
  exact hk.2 _ hlt (hS ad e)
theorem RB5.kept {w w' : World} {A : Option Addr} {l : List UInt8} {S : Nat → Prop} (h : RB5 w A l) (hk : Kept w w' S) (hS : ∀ ad, A = some ad → ¬ S ad.block) : RB5 w' A l :=
  ⟨h.rb.kept hk hS, fun ad e => by
    obtain ⟨cur, fr, hb⟩ := h.row ad e
    exact ⟨cur, fr, blk_kept hb hk (hS ad e)⟩⟩
theorem RB5.below {w w' : World} {A : Option Addr} {l : List UInt8} (h : RB5 w A l) (hb : Below w.heap.size w w') : RB5 w' A l := h.kept (S := fun _ => False) ((Kept.refl w _).below hb) (fun _ _ h => h)
theorem RB5.ne {w : World} {A : Option Addr} {l : List UInt8} (h : RB5 w A l) {g t : Nat} {cs : Array Value} {fr : Nat × Nat} (hg : w.heap[g]? = some (.cells cs t fr)) (ht : t ≠ 5) : ∀ ad, A = some ad → ad.block ≠ g := fun ad e hne => by
  obtain ⟨cur, fr', hb⟩ := h.row ad e
  rw [hne, hg] at hb
  injection hb with hb
  injection hb with _ h2
  exact ht h2
/-- What becomes of a terminal. -/
structure Turned (w w' : World) (base g gc : Nat) (t' : Kp.Tm) (wv : Value) : Prop where
  at_ : ∃ gc', (gc' = gc ∨ w.heap.size ≤ gc') ∧ TermAt w' base g gc' t' wv
  kept : Kept w w' (fun k => k = g ∨ k = gc)
  below : Below base w w'
def TermPost (w : World) (base g gc : Nat) (t' : Kp.Tm) (wv : Value) (r : Value) (e : Ending) (w' : World) : Prop := e = .returned r ∧ Turned w w' base g gc t' wv
theorem Turned.refl {w : World} {base g gc : Nat} {t : Kp.Tm} {wv : Value} (h : TermAt w base g gc t wv) : Turned w w base g gc t wv := ⟨⟨gc, .inl rfl, h⟩, Kept.refl w _, Below.refl _ _⟩
theorem Turned.pre {w w1 w' : World} {base g gc : Nat} {t' : Kp.Tm} {wv : Value} (hb : Below w.heap.size w w1) (hB : base ≤ w.heap.size) (h : Turned w1 w' base g gc t' wv) : Turned w w' base g gc t' wv := by
  obtain ⟨gc', h1, h2⟩ := h.at_
  refine ⟨⟨gc', h1.imp id (fun h => Nat.le_trans hb.size h), h2⟩, (Kept.of_below hb _).then_ h.kept (fun k hk => .inl hk), (hb.mono hB).trans h.below⟩
theorem Turned.post {w w1 w' : World} {base g gc : Nat} {t' : Kp.Tm} {wv : Value} (hB : base ≤ w.heap.size) (h : Turned w w1 base g gc t' wv) (hb : Below w1.heap.size w1 w') : Turned w w' base g gc t' wv := by
  obtain ⟨gc', h1, h2⟩ := h.at_
  exact ⟨⟨gc', h1, h2.below hb⟩, h.kept.below hb, h.below.trans (hb.mono (Nat.le_trans hB h.below.size))⟩
theorem Turned.trans {w w1 w' : World} {base g gc gc1 : Nat} {t' : Kp.Tm} {wv : Value} (hg1 : gc1 = gc ∨ w.heap.size ≤ gc1) (hk : Kept w w1 (fun k => k = g ∨ k = gc)) (hb : Below base w w1) (h : Turned w1 w' base g gc1 t' wv) : Turned w w' base g gc t' wv := by
  obtain ⟨gc', h1, h2⟩ := h.at_
  refine ⟨⟨gc', ?_, h2⟩, hk.then_ h.kept (fun k hk2 => ?_), hb.trans h.below⟩
  · rcases h1 with rfl | h1
    · exact hg1
    · exact .inr (Nat.le_trans hk.1 h1)
  · rcases hk2 with rfl | rfl
    · exact .inl (.inl rfl)
    · rcases hg1 with e | e
      · exact .inl (.inr e)
      · exact .inr e
def NewPost (W : World) (rows cols : Int) (e : Ending) (w' : World) : Prop :=
  (¬ (Kp.side rows ∧ Kp.side cols) ∧ e = .returned (.tuple #[.pointer none, .int .i64 1]) ∧ Below W.heap.size W w') ∨
  (∃ g gc, Kp.side rows ∧ Kp.side cols ∧ e = .returned (.tuple #[.pointer (some ⟨g, 0, none⟩), .int .i64 0]) ∧ TermAt w' W.heap.size g gc ⟨rows.toNat, cols.toNat, Kp.blankL (rows.toNat * cols.toNat), 0, 0, 0⟩ (.slice none 0 0) ∧ Below W.heap.size W w')
set_option maxRecDepth 100000 in
set_option maxHeartbeats 2000000 in
theorem New_calls (rows cols : Int) (W : World) : Calls Tryz.prog 10 #[.int .i64 rows, .int .i64 cols] W (NewPost W rows cols) := by
  go_enter Tryz.func10, Tryz.ntmps10
  go_wp2_with fail
  refine (side_calls rows W).mono ?_
  rintro e W2 ⟨b, rfl, hiff, hb⟩
  have HB2 := Lib.hid hb
  clear hb
  cases b
  · have hns : ¬ Kp.side rows := fun h => by simpa using hiff.2 h
    go_wp2_with fail
    go_ret2
    exact .inl ⟨fun h => hns h.1, rfl, HB2.out⟩
  · have hs : Kp.side rows := hiff.1 rfl
    clear hiff
    go_wp2_with fail
    refine (side_calls cols W2).mono ?_
    rintro e W3 ⟨b, rfl, hiff, hb⟩
    have HB3 := Lib.hid (below_step HB2.out hb)
    clear hb HB2
    cases b
    · have hns : ¬ Kp.side cols := fun h => by simpa using hiff.2 h
      go_wp2_with fail
      go_ret2
      exact .inl ⟨fun h => hns h.2, rfl, HB3.out⟩
    · have hs2 : Kp.side cols := hiff.1 rfl
      clear hiff
      obtain ⟨R, rfl⟩ : ∃ R : Nat, rows = R := ⟨rows.toNat, by unfold Kp.side at hs; omega⟩
      obtain ⟨C, rfl⟩ : ∃ C : Nat, cols = C := ⟨cols.toNat, by unfold Kp.side at hs2; omega⟩
      have hR : 1 ≤ R ∧ R ≤ 60 := by unfold Kp.side at hs; omega
      have hC : 1 ≤ C ∧ C ≤ 60 := by unfold Kp.side at hs2; omega
      go_wp2_with fail
      refine (blank_calls R C hR.2 hC.2 W3).mono ?_
      rintro e W4 ⟨gc, rfl, hgc, hcs, hb⟩
      have hgv : gridV R C (some ⟨gc, 0, none⟩) (R * C) (R * C) = .agg #[.int .i64 R, .int .i64 C, .slice (some ⟨gc, 0, none⟩) (R * C) (R * C)] := rfl
      rw [hgv]
      clear hgv
      have HB4 := Lib.hid (below_step HB3.out hb)
      have HCs := Lib.hid hcs
      have HG := Lib.hid (Nat.le_trans HB3.out.size hgc)
      clear hb hcs hgc HB3
      go_wp2_with fail
      go_ret2
      have hblk := heap_alloc_new W4 (.cells (termCells ⟨R, C, Kp.blankL (R * C), 0, 0, 0⟩ gc (.slice none 0 0)) 52)
      have hcs := CellsAt.kept (S := fun _ => False) HCs.out ((Kept.refl W4 _).alloc (.cells (termCells ⟨R, C, Kp.blankL (R * C), 0, 0, 0⟩ gc (.slice none 0 0)) 52)) (fun h => h)
      exact .inr ⟨W4.heap.size, gc, hs, hs2, rfl, ⟨hblk, hcs, ⟨HB4.out.size, HG.out⟩, Kp.blank_ok hR hC (by omega) (by omega) (by omega)⟩, below_alloc HB4.out _⟩
theorem blank_agg (R C : Nat) (hR : R ≤ 60) (hC : C ≤ 60) (W : World) : Calls Tryz.prog 21 #[.int .i64 R, .int .i64 C] W fun e w' =>
    ∃ g, e = .returned (.agg #[.int .i64 R, .int .i64 C, .slice (some ⟨g, 0, none⟩) (R * C) (R * C)]) ∧ W.heap.size ≤ g ∧ CellsAt w' g (Kp.blankL (R * C)) ∧ Below W.heap.size W w' := blank_calls R C hR hC W
theorem seven_set {w : World} {g ty : Nat} {a0 a1 a2 a3 a4 a5 a6 b0 b1 b2 b3 b4 b5 b6 : Value} (h : w.heap[g]? = some (.cells #[a0, a1, a2, a3, a4, a5, a6] ty (0, 0))) :
    (((((((w.setCell ⟨g, 0, none⟩ b0).setCell ⟨g, 1, none⟩ b1).setCell ⟨g, 2, none⟩ b2).setCell ⟨g, 3, none⟩ b3).setCell ⟨g, 4, none⟩ b4).setCell ⟨g, 5, none⟩ b5).setCell ⟨g, 6, none⟩ b6).heap[g]? = some (.cells #[b0, b1, b2, b3, b4, b5, b6] ty (0, 0)) := by
  have h0 : _ := blk_put (cs' := #[b0, a1, a2, a3, a4, a5, a6]) h 0 b0 rfl
  have h1 : _ := blk_put (cs' := #[b0, b1, a2, a3, a4, a5, a6]) h0 1 b1 rfl
  have h2 : _ := blk_put (cs' := #[b0, b1, b2, a3, a4, a5, a6]) h1 2 b2 rfl
  have h3 : _ := blk_put (cs' := #[b0, b1, b2, b3, a4, a5, a6]) h2 3 b3 rfl
  have h4 : _ := blk_put (cs' := #[b0, b1, b2, b3, b4, a5, a6]) h3 4 b4 rfl
  have h5 : _ := blk_put (cs' := #[b0, b1, b2, b3, b4, b5, a6]) h4 5 b5 rfl
  exact blk_put (cs' := #[b0, b1, b2, b3, b4, b5, b6]) h5 6 b6 rfl
theorem seven_last {w : World} {g ty : Nat} {a0 a1 a2 a3 a4 a5 a6 b0 b1 b2 b3 b4 b5 b6 : Value} (h : w.heap[g]? = some (.cells #[a0, a1, a2, a3, a4, a5, a6] ty (0, 0))) :
    (((((((w.setCell ⟨g, 0, none⟩ b0).setCell ⟨g, 1, none⟩ b1).setCell ⟨g, 2, none⟩ b2).setCell ⟨g, 3, none⟩ b3).setCell ⟨g, 4, none⟩ b4).setCell ⟨g, 5, none⟩ b5).setCell ⟨g, 6, none⟩ b6).cell? ⟨g, 6, none⟩ = some b6 :=
  (blk_cell (seven_set h) 6).trans rfl
theorem seven_kept {w : World} {g : Nat} {b0 b1 b2 b3 b4 b5 b6 : Value} {w0 : World} {S : Nat → Prop} (h : Kept w0 w S) (hg : S g) :
    Kept w0 (((((((w.setCell ⟨g, 0, none⟩ b0).setCell ⟨g, 1, none⟩ b1).setCell ⟨g, 2, none⟩ b2).setCell ⟨g, 3, none⟩ b3).setCell ⟨g, 4, none⟩ b4).setCell ⟨g, 5, none⟩ b5).setCell ⟨g, 6, none⟩ b6) S :=
  ((((((h.setCell (p := ⟨g, 0, none⟩) (.inl hg) b0).setCell (p := ⟨g, 1, none⟩) (.inl hg) b1).setCell (p := ⟨g, 2, none⟩) (.inl hg) b2).setCell (p := ⟨g, 3, none⟩) (.inl hg) b3).setCell (p := ⟨g, 4, none⟩) (.inl hg) b4).setCell (p := ⟨g, 5, none⟩) (.inl hg) b5).setCell (p := ⟨g, 6, none⟩) (.inl hg) b6
theorem seven_below {w : World} {g B : Nat} {b0 b1 b2 b3 b4 b5 b6 : Value} {w0 : World} (h : Below B w0 w) (hg : B ≤ g) :
    Below B w0 (((((((w.setCell ⟨g, 0, none⟩ b0).setCell ⟨g, 1, none⟩ b1).setCell ⟨g, 2, none⟩ b2).setCell ⟨g, 3, none⟩ b3).setCell ⟨g, 4, none⟩ b4).setCell ⟨g, 5, none⟩ b5).setCell ⟨g, 6, none⟩ b6) :=
  ((((((h.setCell (p := ⟨g, 0, none⟩) hg b0).setCell (p := ⟨g, 1, none⟩) hg b1).setCell (p := ⟨g, 2, none⟩) hg b2).setCell (p := ⟨g, 3, none⟩) hg b3).setCell (p := ⟨g, 4, none⟩) hg b4).setCell (p := ⟨g, 5, none⟩) hg b5).setCell (p := ⟨g, 6, none⟩) hg b6
end Go.Proofs.YtbjckccgbmimpabGreatDoor

/- The walks of slices.Clone at cells, and of Grid. -/
namespace Go.Proofs.YtbjckccgbmimpabGreatDoor
open Go.RowKit Go.Proofs.YtbjckccgbmimpabGreatDoorW.PrintWords Go.Proofs.YtbjckccgbmimpabGreatDoorW.PrintLast Go.Proofs.YtbjckccgbmimpabGreatDoorW.PrintMore
theorem ccs_one (l : List Cell) : ∀ u ∈ ccs l, u.oneCell' = true := by
  intro u hu
  simp only [ccs, List.mem_flatMap, cellVals, List.mem_cons, List.not_mem_nil, or_false] at hu
  obtain ⟨k, _, h⟩ := hu
  rcases h with rfl | rfl <;> rfl
theorem CellsAt.news {w : World} {g : Nat} {l : List Cell} (h : CellsAt w g l) : ∀ j u, (ccs l)[j]? = some u → w.cell? ((⟨g, 0, none⟩ : Addr).add j) = some u := fun j u hu => by
  rw [add_plain]
  exact (blk_cell h _).trans (by simpa using hu)
/-- A row of cells of one's own, read. -/
theorem own_RC {w : World} {base : Nat} {v : Value} {l : List Cell} (h : w.ownsRow base 41 2 v l.length (ccs l)) (hl : l.length ≤ 140737488355328) : ∃ A c, v = .slice A l.length c ∧ l.length ≤ c ∧ RC w A l := by
  rcases h.2 with ⟨he, hn⟩ | ⟨g, cap, cur, he, _, _, hc, _⟩
  · have h0 : l.length = 0 := hn
    rw [h0]
    exact ⟨none, 0, he, Nat.le_refl _, ⟨by omega, fun i hi => absurd hi (by omega)⟩⟩
  · subst he
    refine ⟨some ⟨g, 0, none⟩, cap, rfl, hc, ⟨hl, fun i hi => ?_⟩⟩
    obtain ⟨a, b⟩ := ccs_get l i hi
    have hcl := h.cells (g := g) rfl
    refine ⟨g, 0, rfl, ?_, ?_⟩
    · have := hcl _ _ a
      rwa [add_plain, ← Nat.zero_add (i * 2)] at this
    · have := hcl _ _ b
      rwa [add_plain, ← Nat.zero_add (i * 2 + 1), ← Nat.add_assoc] at this
def ClonePost (W : World) (l : List Cell) (e : Ending) (w' : World) : Prop := ∃ v, e = .returned v ∧ w'.ownsRow W.heap.size 41 2 v l.length (ccs l) ∧ Below W.heap.size W w'
set_option maxRecDepth 100000 in
set_option maxHeartbeats 1000000 in
theorem clone_calls (W : World) (gc n : Nat) (l : List Cell) (h : CellsAt W gc l) (hn : l.length = n) (hl : n ≤ 3600) : Calls Tryz.prog 22 #[.slice (some ⟨gc, 0, none⟩) n n] W (ClonePost W l) := by
  obtain ⟨i0, hi, hz0, hz1, hz2⟩ := info_parts Tryz.info41
  have H := Lib.hid h
  have HN := Lib.hid hn
  clear h hn
  have hq := fun W => Lib.run_eql_slice_nil (P := Tryz.prog) W 22 41 (some ⟨gc, 0, none⟩) n n 0 0 Tryz.underlying22
  simp only [Option.isNone_some] at hq
  have hlit : (W.alloc (.cells #[] 41)).ownsRow W.heap.size 41 2 (.slice (some ⟨W.heap.size, 0, none⟩) 0 0) 0 ([] : List Value) := World.ownsRow_lit (base := W.heap.size) (e := 41) (size := 2) W #[] 0 (Nat.le_refl _) (by simp [maxLen]) rfl
  have HL := Lib.hid hlit
  have HC2 : Hid (CellsAt (W.alloc (.cells #[] 41)) gc l) := Lib.hid (CellsAt.kept (S := fun _ => False) H.out ((Kept.refl W _).alloc _) (fun h => h))
  clear hlit
  go_enter Tryz.func22, Tryz.ntmps22
  go_wp2_with (at_builtin; refine wpList_append_own_at (W.alloc (.cells #[] 41)) rfl _ _ 22 rfl W.heap.size 41 i0 _ 2 16 Tryz.underlying22 hi hz0 hz1 hz2 rfl (by omega) (.slice (some ⟨W.heap.size, 0, none⟩) 0 0) 0 [] rfl HL.out ⟨gc, 0, none⟩ n n (ccs l) rfl (by rw [ccs_length, HN.out]) HC2.out.news (ccs_one l) (by simp only [maxLen]; omega) (by omega) (by simp) ?_; intro v1 w1 hown hg _ _; have HO := Lib.hid hown; have HG := Lib.hid hg; clear hown hg)
  go_ret
  have ho := HO.out
  rw [Nat.zero_add, List.nil_append, ← HN.out] at ho
  refine ⟨_, rfl, ho, ?_⟩
  refine Below.grown (below_alloc (Below.refl W.heap.size W) (.cells #[] 41)) HG.out (by simp) (fun k hk => ?_)
  simp only [Value.ownBlock, Option.some.injEq] at hk
  omega
theorem three_set {w : World} {g ty : Nat} {a0 a1 a2 b0 b1 b2 : Value} (h : w.heap[g]? = some (.cells #[a0, a1, a2] ty (0, 0))) :
    (((w.setCell ⟨g, 0, none⟩ b0).setCell ⟨g, 1, none⟩ b1).setCell ⟨g, 2, none⟩ b2).heap[g]? = some (.cells #[b0, b1, b2] ty (0, 0)) := by
  have h0 : _ := blk_put (cs' := #[b0, a1, a2]) h 0 b0 rfl
  have h1 : _ := blk_put (cs' := #[b0, b1, a2]) h0 1 b1 rfl
  exact blk_put (cs' := #[b0, b1, b2]) h1 2 b2 rfl
theorem three_kept {w : World} {g : Nat} {b0 b1 b2 : Value} {w0 : World} {S : Nat → Prop} (h : Kept w0 w S) (hg : S g) : Kept w0 (((w.setCell ⟨g, 0, none⟩ b0).setCell ⟨g, 1, none⟩ b1).setCell ⟨g, 2, none⟩ b2) S :=
  ((h.setCell (p := ⟨g, 0, none⟩) (.inl hg) b0).setCell (p := ⟨g, 1, none⟩) (.inl hg) b1).setCell (p := ⟨g, 2, none⟩) (.inl hg) b2
theorem three_below {w : World} {g B : Nat} {b0 b1 b2 : Value} {w0 : World} (h : Below B w0 w) (hg : B ≤ g) : Below B w0 (((w.setCell ⟨g, 0, none⟩ b0).setCell ⟨g, 1, none⟩ b1).setCell ⟨g, 2, none⟩ b2) :=
  ((h.setCell (p := ⟨g, 0, none⟩) hg b0).setCell (p := ⟨g, 1, none⟩) hg b1).setCell (p := ⟨g, 2, none⟩) hg b2
/-- What a terminal shows. -/
def GridPost (W : World) (R C : Nat) (l : List Cell) (e : Ending) (w' : World) : Prop := ∃ A c, e = .returned (gridV R C A l.length c) ∧ w'.ownsRow W.heap.size 41 2 (.slice A l.length c) l.length (ccs l) ∧ Below W.heap.size W w'
set_option maxRecDepth 100000 in
set_option maxHeartbeats 1000000 in
theorem Grid_calls (W : World) (base g gc : Nat) (t : Kp.Tm) (wv : Value) (h : TermAt W base g gc t wv) : Calls Tryz.prog 11 #[.pointer (some ⟨g, 0, none⟩)] W (GridPost W t.R t.C t.l) := by
  have hn36 : t.R * t.C ≤ 3600 := Nat.mul_le_mul h.ok.R1.2 h.ok.C1.2
  have hlen := h.ok.len
  obtain ⟨⟨c0, c1, c2, _, _, _, _⟩, _⟩ := (h.below (below_alloc (Below.refl _ _) (.cells #[.int .i64 0, .int .i64 0, .slice none 0 0] 24))).rules
  have H := Lib.hid h
  have HLen := Lib.hid hlen
  clear h hlen
  obtain ⟨n, hn⟩ : ∃ n, t.R * t.C = n := ⟨_, rfl⟩
  rw [hn] at c2 hn36
  have HNn := Lib.hid hn
  clear hn
  go_enter Tryz.func11, Tryz.ntmps11
  go_wp2_with fail
  have hg2 := blk_alloc (heap_alloc_new W (.cells #[.int .i64 0, .int .i64 0, .slice none 0 0] 24)) (.cells #[.int .i64 t.R, .int .i64 t.C, .slice (some ⟨gc, 0, none⟩) n n] 24)
  have hg3 := heap_alloc_at (w := W.alloc (.cells #[.int .i64 0, .int .i64 0, .slice none 0 0] 24)) (o := .cells #[.int .i64 t.R, .int .i64 t.C, .slice (some ⟨gc, 0, none⟩) n n] 24) (r := W.heap.size + 1) (by simp)
  have hb2 := below_alloc (below_alloc (Below.refl W.heap.size W) (.cells #[.int .i64 0, .int .i64 0, .slice none 0 0] 24)) (.cells #[.int .i64 t.R, .int .i64 t.C, .slice (some ⟨gc, 0, none⟩) n n] 24)
  generalize (W.alloc (.cells #[.int .i64 0, .int .i64 0, .slice none 0 0] 24)).alloc (.cells #[.int .i64 t.R, .int .i64 t.C, .slice (some ⟨gc, 0, none⟩) n n] 24) = W2 at hg2 hg3 hb2 ⊢
  obtain ⟨g2, h2⟩ : ∃ g2, W.heap.size = g2 := ⟨_, rfl⟩
  obtain ⟨g3, h3⟩ : ∃ g3, g2 + 1 = g3 := ⟨_, rfl⟩
  rw [h2] at hg2 hg3 ⊢
  rw [h3] at hg3 ⊢
  have HNe := Lib.hid (show g3 ≠ g2 by omega)
  have HG0 := Lib.hid (show W.heap.size ≤ g2 ∧ W.heap.size ≤ g3 by omega)
  have hcg := (H.out.below hb2).cells
  clear c0 c1 c2 h2 h3
  refine (clone_calls W2 gc n t.l hcg (HLen.out.trans HNn.out) hn36).mono ?_
  rintro e W3 ⟨v, rfl, hown, hb3⟩
  obtain ⟨A, c, rfl⟩ := own_slice hown
  have HO := Lib.hid (own_less hown hb2.size)
  have HB3 := Lib.hid (below_step hb2 hb3)
  have HG2 := Lib.hid (blk_below hg2 hb3)
  have hg3' := blk_below hg3 hb3
  have HG3 := Lib.hid hg3'
  have HONe := Lib.hid (show ∀ k, (Value.slice A t.l.length c).ownBlock = some k → k ≠ g2 ∧ k ≠ g3 from fun k hk => ⟨own_ne_blk hown HG2.out (by decide) k hk, own_ne_blk hown hg3' (by decide) k hk⟩)
  have d0 := (blk_cell hg3' 0).trans rfl
  have d1 := (blk_cell hg3' 1).trans rfl
  have d2 := (blk_cell hg3' 2).trans rfl
  have df2 := blk_frozen hg3' 2
  have e0 := (blk_cell HG2.out 0).trans rfl
  have e1 := (blk_cell HG2.out 1).trans rfl
  have e2 := (blk_cell HG2.out 2).trans rfl
  have ef0 := blk_frozen HG2.out 0
  have ef1 := blk_frozen HG2.out 1
  have ef2 := blk_frozen HG2.out 2
  have hne := HNe.out
  clear hown hb3 hg2 hg3 hg3' hb2 hcg
  go_wp2_with fail
  have k1 := Kept.setCell (Kept.refl W3 (fun k => k = g2 ∨ k = g3)) (p := ⟨g3, 2, none⟩) (.inl (.inr rfl)) (.slice A t.l.length c)
  have k2 := three_kept (g := g2) (b0 := .int .i64 t.R) (b1 := .int .i64 t.C) (b2 := .slice A t.l.length c) k1 (.inl rfl)
  have e4 := three_set (b0 := .int .i64 t.R) (b1 := .int .i64 t.C) (b2 := .slice A t.l.length c) (blk_far HG2.out (p := ⟨g3, 2, none⟩) (fun e => hne e.symm) (.slice A t.l.length c))
  have eb := three_below (g := g2) (b0 := .int .i64 t.R) (b1 := .int .i64 t.C) (b2 := .slice A t.l.length c) (HB3.out.setCell (p := ⟨g3, 2, none⟩) HG0.out.2 (.slice A t.l.length c)) HG0.out.1
  refine bodyPost_ret (results_cell_row (p := 2) (ty := 24) rfl _ _ g2 24 #[.int .i64 t.R, .int .i64 t.C, .slice A t.l.length c] (0, 0) _ rfl e4 Tryz.underlying24 (by kernel_rfl) (by kernel_rfl)) rfl ⟨A, c, rfl, own_kept HO.out k2 (fun k hk => ?_), eb⟩
  obtain ⟨a, b⟩ := HONe.out k hk
  rintro (e | e)
  · exact a e
  · exact b e
end Go.Proofs.YtbjckccgbmimpabGreatDoor
