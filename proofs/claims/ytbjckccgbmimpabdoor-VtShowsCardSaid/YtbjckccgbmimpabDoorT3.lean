/- Plain laws: a terminal that reads what paints a grid shows that grid. -/
import Derived.Test.YtbjckccgbmimpabDoorT2
import Derived.Test.YtbjckccgbmimpabDoorV8
namespace Go.Proofs.YtbjckccgbmimpabDoor
namespace Kp
def rowOf (C : Nat) (l : List Cell) (i : Nat) : List Cell := (l.drop (i * C)).take C
def paintRows (fresh : Bool) (C : Nat) (fl tl : List Cell) : Nat → Nat → List UInt8
  | 0, _ => []
  | k + 1, i => (if fresh = true ∨ ¬ rowOf C fl i = rowOf C tl i then paintRow i (rowOf C tl i) else []) ++ paintRows fresh C fl tl k (i + 1)
/-- The bytes that make one grid of another one; fresh: all of it is painted. -/
def paintB (fresh : Bool) (R C : Nat) (fl tl : List Cell) : List UInt8 := (if fresh then [27, 91, 50, 74] else []) ++ paintRows fresh C fl tl R 0

theorem rowOf_len {R C r : Nat} {l : List Cell} (hl : l.length = R * C) (hr : r < R) : (rowOf C l r).length = C := by
  have : (r + 1) * C ≤ R * C := Nat.mul_le_mul_right C hr
  rw [Nat.add_mul, Nat.one_mul] at this
  unfold rowOf
  rw [List.length_take, List.length_drop]
  omega
theorem gr_rowOf (C : Nat) (l : List Cell) (r j : Nat) (h : j < C) : gr (rowOf C l r) j = gr l (r * C + j) := by
  unfold gr rowOf
  rw [List.getD_eq_getElem?_getD, List.getElem?_take, if_pos h, List.getElem?_drop, List.getD_eq_getElem?_getD]
theorem gs_rowOf (C : Nat) (l : List Cell) (r j : Nat) (h : j < C) : gs (rowOf C l r) j = gs l (r * C + j) := by
  unfold gs rowOf
  rw [List.getD_eq_getElem?_getD, List.getElem?_take, if_pos h, List.getElem?_drop, List.getD_eq_getElem?_getD]
/-- Two cells are alike. -/
def same (a b : List Cell) (i : Nat) : Prop := gr a i = gr b i ∧ gs a i = gs b i
/-- A row that is painted up to a column. -/
structure Rowing (t : Tm) (R C : Nat) (L tl : List Cell) (r j : Nat) : Prop where
  ok : t.OK
  hR : t.R = R
  hC : t.C = C
  row : t.row = r
  col : t.col = j
  got : ∀ k, k < j → same t.l tl (r * C + k)
  oth : ∀ i, i < r * C ∨ r * C + C ≤ i → same t.l L i
  nz : j < C → gr t.l (r * C + j) ≠ 0
theorem Rowing.style {t : Tm} {R C : Nat} {L tl : List Cell} {r j : Nat} (h : Rowing t R C L tl r j) (s : Nat) (hs : s < 8) : Rowing { t with st := s } R C L tl r j :=
  ⟨⟨h.ok.R1, h.ok.C1, h.ok.len, h.ok.row, h.ok.col, hs, h.ok.wf, h.ok.zero⟩, h.hR, h.hC, h.row, h.col, h.got, h.oth, h.nz⟩
theorem Rowing.put {t : Tm} {R C : Nat} {L tl : List Cell} {r j n : Nat} (h : Rowing t R C L tl r j) (hj : j < C) (ho : ¬ odd (gr tl (r * C + j))) (hn : wid (gr tl (r * C + j)) = n) (hs : (t.st : Int) = gs tl (r * C + j))
    (h2 : n = 2 → j + 1 < C ∧ gr tl (r * C + j + 1) = 0 ∧ gs tl (r * C + j + 1) = gs tl (r * C + j)) : Rowing (Kp.put t (gr tl (r * C + j))) R C L tl r (j + n) ∧ (Kp.put t (gr tl (r * C + j))).st = t.st := by
  obtain ⟨_, _, _, hw⟩ := not_odd ho
  have hn12 : n = 1 ∨ n = 2 := by omega
  have hfit : j + n ≤ C := by
    rcases hn12 with e | e
    · omega
    · have := h2 e; omega
  have hok := put_ok h.ok (gr tl (r * C + j))
  have hb := put_same t (gr tl (r * C + j))
  have hput : Kp.put t (gr tl (r * C + j)) = { t with l := putL C t.l (r * C + j) j n (gr tl (r * C + j)) t.st, col := j + n } := by
    unfold Kp.put
    rw [if_neg (by rw [h.hC, h.col, hn]; intro e; rcases e with e | e; exact ho e; omega), h.hC, h.row, h.col, hn, Int.toNat_natCast]
  have hnz := h.nz hj
  have hr : r < R := by have := h.ok.row; rw [h.row, h.hR] at this; exact this
  have key := fun i => (putL_get (R := R) (C := C) (l := t.l) (row := r) (col := j) (n := n) (c := gr tl (r * C + j)) (st := t.st) (by rw [h.ok.len, h.hR, h.hC]) hr hn12 hfit (fun e => absurd e hnz) i).2
  rw [hput] at hok ⊢
  refine ⟨⟨hok, h.hR, h.hC, h.row, rfl, fun k hk => ?_, fun i hi => ?_, fun hlt => ?_⟩, rfl⟩
  · simp only [same]
    rcases key (r * C + k) with ⟨e, a, b⟩ | ⟨e, e2, a, b⟩ | ⟨_, e, _⟩ | ⟨e, _⟩ | ⟨e1, e2, _, _, a, b⟩
    · have : k = j := by omega
      subst this
      exact ⟨a, b.trans hs⟩
    · obtain ⟨_, z1, z2⟩ := h2 e
      rw [a, b, e2, z1, z2]
      exact ⟨rfl, hs⟩
    · exact absurd e hnz
    · omega
    · rw [a, b]
      refine h.got k ?_
      rcases hn12 with e | e
      · omega
      · have := e2 e; omega
  · simp only [same]
    rcases key i with ⟨e, a, b⟩ | ⟨e, e2, a, b⟩ | ⟨_, e, _⟩ | ⟨e, e2, _⟩ | ⟨_, _, _, _, a, b⟩
    · omega
    · have := (h2 e).1; omega
    · exact absurd e hnz
    · omega
    · rw [a, b]; exact h.oth i hi
  · simp only
    rcases key (r * C + (j + n)) with ⟨e, a, b⟩ | ⟨e, e2, a, b⟩ | ⟨_, e, _⟩ | ⟨_, _, _, a, _⟩ | ⟨_, _, _, e, a, _⟩
    · omega
    · omega
    · exact absurd e hnz
    · rw [a]; decide
    · rw [a]
      intro hz
      exact e hlt (by rw [Nat.add_assoc]; exact hz) (by omega)
theorem row_mod {C r k : Nat} (hk : k < C) : (r * C + k) % C = k := by
  rw [Nat.mul_comm, Nat.mul_add_mod]; exact Nat.mod_eq_of_lt hk
theorem paint_cells {R C : Nat} {L tl : List Cell} {r : Nat} (hl : tl.length = R * C) (hpt : ∀ i, i < R * C → Pt C tl i) (hr : r < R) : ∀ (d j : Nat) (last : Int) (t : Tm) (y : List UInt8), C - j ≤ d → j ≤ C → Rowing t R C L tl r j →
    (j < C → gr tl (r * C + j) ≠ 0) → (last = -1 ∨ last = t.st) → ∃ t', run t (paintCells last ((rowOf C tl r).drop j) ++ y) = run t' y ∧ Rowing t' R C L tl r C
  | d, j, last, t, y, hd, hj, hrow, hnz, hlast => by
    by_cases hjC : j = C
    · subst hjC
      have e : (rowOf j tl r).drop j = [] := List.drop_eq_nil_of_le (by rw [rowOf_len hl hr]; exact Nat.le_refl _)
      rw [e]
      exact ⟨t, rfl, hrow⟩
    · have hlt : j < C := by omega
      cases d with
      | zero => omega
      | succ d =>
        have hz := hnz hlt
        obtain ⟨p1, _, p3⟩ := hpt (r * C + j) (at_lt hr hlt)
        obtain ⟨ho, hwide⟩ := p3 hz
        obtain ⟨_, _, _, hw⟩ := not_odd ho
        obtain ⟨n, hn⟩ : ∃ n : Nat, wid (gr tl (r * C + j)) = n := ⟨(wid (gr tl (r * C + j))).toNat, by omega⟩
        obtain ⟨s, hs⟩ : ∃ s : Nat, gs tl (r * C + j) = s := ⟨(gs tl (r * C + j)).toNat, by omega⟩
        have hn12 : n = 1 ∨ n = 2 := by omega
        have h2 : n = 2 → j + 1 < C ∧ gr tl (r * C + j + 1) = 0 ∧ gs tl (r * C + j + 1) = gs tl (r * C + j) := fun e => by
          obtain ⟨a, b⟩ := hwide (by rw [hn, e]; rfl)
          rw [row_mod hlt] at a
          have hj1 : j + 1 < C := by omega
          have := (hpt (r * C + (j + 1)) (at_lt hr hj1)).2.1 b
          exact ⟨hj1, b, this.2.2.2.symm⟩
        have hnext : j + n < C → gr tl (r * C + (j + n)) ≠ 0 := fun e hz2 => by
          obtain ⟨_, a, b, _⟩ := (hpt (r * C + (j + n)) (at_lt hr e)).2.1 hz2
          rcases hn12 with h1 | h1
          · subst h1
            rw [show r * C + (j + 1) - 1 = r * C + j by omega, hn] at b
            exact absurd b (by decide)
          · subst h1
            rw [show r * C + (j + 2) - 1 = r * C + j + 1 by omega] at a
            exact a (h2 rfl).2.1
        -- the cell's own bytes
        have hstep := paint_step (rowOf C tl r) j last (by rw [rowOf_len hl hr]; exact hlt)
        rw [gr_rowOf C tl r j hlt, gs_rowOf C tl r j hlt, if_neg hz, hs, Int.toNat_natCast] at hstep
        have hskip : paintCells (s : Int) ((rowOf C tl r).drop (j + 1)) = paintCells (s : Int) ((rowOf C tl r).drop (j + n)) := by
          rcases hn12 with h1 | h1
          · rw [h1]
          · obtain ⟨a, b, _⟩ := h2 h1
            have := paint_step (rowOf C tl r) (j + 1) s (by rw [rowOf_len hl hr]; exact a)
            rw [gr_rowOf C tl r (j + 1) a, ← Nat.add_assoc, if_pos b] at this
            rw [this, h1]
        rw [hskip] at hstep
        -- the style is told
        have hdr : ∃ t1, run t (paintCells last ((rowOf C tl r).drop j) ++ y) = run t1 (Lib.encodeRune (gr tl (r * C + j)) ++ (paintCells (s : Int) ((rowOf C tl r).drop (j + n)) ++ y)) ∧ Rowing t1 R C L tl r j ∧ t1.st = s := by
          rw [hstep]
          by_cases hsl : (s : Int) = last
          · rw [if_pos hsl]
            refine ⟨t, by simp only [List.nil_append, List.append_assoc], hrow, ?_⟩
            rcases hlast with e | e
            · omega
            · omega
          · rw [if_neg hsl]
            refine ⟨{ t with st := s }, ?_, hrow.style s (by omega), rfl⟩
            rw [List.append_assoc, List.append_assoc]
            have hd8 : 0 < (dress s).length := by unfold dress; simp
            exact run_whole t _ (dress s) _ hd8 (step_dress t s (by omega))
        obtain ⟨t1, e1, hr1, hst⟩ := hdr
        obtain ⟨hrp, hsp⟩ := hr1.put hlt ho hn (by rw [hst, hs]) h2
        obtain ⟨t', e2, hfin⟩ := paint_cells hl hpt hr d (j + n) s (put t1 (gr tl (r * C + j))) y (by omega) (by
          rcases hn12 with h1 | h1
          · omega
          · have := (h2 h1).1; omega) hrp hnext (.inr (by rw [hsp, hst]))
        refine ⟨t', ?_, hfin⟩
        rw [e1, run_whole t1 _ _ _ (step_rune t1 _ ho).1 (step_rune t1 _ ho).2, e2]
theorem paint_row {R C : Nat} {tl : List Cell} {r : Nat} {t : Tm} (hl : tl.length = R * C) (hpt : ∀ i, i < R * C → Pt C tl i) (hr : r < R) (ht : t.OK) (hR : t.R = R) (hC : t.C = C) (y : List UInt8) :
    ∃ t', run t (paintRow r (rowOf C tl r) ++ y) = run t' y ∧ Rowing t' R C t.l tl r C := by
  have h1 : run t (paintRow r (rowOf C tl r) ++ y) = run { t with row := r, col := 0 } (paintCells (-1) (rowOf C tl r) ++ y) := by
    unfold paintRow
    rw [List.append_assoc _ (paintCells (-1) (rowOf C tl r)) y]
    have hm : stepT t (moveB r) = ((moveB r).length, { t with row := r, col := 0 }) := step_move t r (by omega) ht.R1.2 ht.C1.1
    exact run_whole t _ (moveB r) _ (by unfold moveB; simp) hm
  have hrow : Rowing { t with row := r, col := 0 } R C t.l tl r 0 := by
    refine ⟨⟨ht.R1, ht.C1, ht.len, by show r < t.R; omega, Nat.zero_le _, ht.st, ht.wf, ht.zero⟩, hR, hC, rfl, rfl, fun k hk => absurd hk (by omega), fun i _ => ⟨rfl, rfl⟩, fun _ => ?_⟩
    show gr t.l (r * C + 0) ≠ 0
    rw [Nat.add_zero, ← hC]
    exact ht.zero r (by omega)
  have hC0 : 0 < C := by rw [← hC]; exact ht.C1.1
  obtain ⟨t', e, h2⟩ := paint_cells hl hpt hr C 0 (-1) _ y (by omega) (by omega) hrow (fun h0 hz => by
    have := ((hpt (r * C + 0) (at_lt hr h0)).2.1 hz).1
    rw [row_mod h0] at this
    exact this rfl) (.inl rfl)
  rw [List.drop_zero] at e
  exact ⟨t', h1.trans e, h2⟩
theorem rowOf_same {C : Nat} {a b : List Cell} {r k : Nat} (h : rowOf C a r = rowOf C b r) (hk : k < C) : same a b (r * C + k) := by
  unfold same
  rw [← gr_rowOf C a r k hk, ← gs_rowOf C a r k hk, h, gr_rowOf C b r k hk, gs_rowOf C b r k hk]
  exact ⟨rfl, rfl⟩
theorem same.trans {a b c : List Cell} {i : Nat} (h : same a b i) (h' : same b c i) : same a c i := ⟨h.1.trans h'.1, h.2.trans h'.2⟩
theorem paint_rows {R C : Nat} {fl tl : List Cell} (fresh : Bool) (hl : tl.length = R * C) (hpt : ∀ i, i < R * C → Pt C tl i) : ∀ (k i : Nat) (t : Tm) (y : List UInt8), i + k = R → t.OK → t.R = R → t.C = C → (∀ x, x < i * C → same t.l tl x) →
    (fresh = false → ∀ x, i * C ≤ x → same t.l fl x) → ∃ t', run t (paintRows fresh C fl tl k i ++ y) = run t' y ∧ t'.OK ∧ t'.R = R ∧ t'.C = C ∧ ∀ x, x < R * C → same t'.l tl x
  | 0, i, t, y, hi, ht, hR, hC, hd, _ => ⟨t, rfl, ht, hR, hC, fun x hx => hd x (by rw [show i = R by omega]; exact hx)⟩
  | k + 1, i, t, y, hi, ht, hR, hC, hd, hf => by
    have hir : i < R := by omega
    simp only [paintRows]
    rw [List.append_assoc]
    have hsplit : ∀ x, x < (i + 1) * C → x < i * C ∨ ∃ k, k < C ∧ x = i * C + k := fun x hx => by
      rw [Nat.add_mul, Nat.one_mul] at hx
      by_cases h : x < i * C
      · exact .inl h
      · exact .inr ⟨x - i * C, by omega, by omega⟩
    by_cases hc : fresh = true ∨ ¬ rowOf C fl i = rowOf C tl i
    · rw [if_pos hc]
      obtain ⟨t1, e1, h1⟩ := paint_row hl hpt hir ht hR hC (paintRows fresh C fl tl k (i + 1) ++ y)
      rw [e1]
      refine paint_rows fresh hl hpt k (i + 1) t1 y (by omega) h1.ok h1.hR h1.hC (fun x hx => ?_) (fun e x hx => ?_)
      · rcases hsplit x hx with h | ⟨k, hk, rfl⟩
        · exact (h1.oth x (.inl h)).trans (hd x h)
        · exact h1.got k hk
      · rw [Nat.add_mul, Nat.one_mul] at hx
        exact (h1.oth x (.inr hx)).trans (hf e x (by omega))
    · rw [if_neg hc, List.nil_append]
      have hff : fresh = false := by cases fresh <;> simp at hc ⊢
      have heq : rowOf C fl i = rowOf C tl i := by
        by_cases h : rowOf C fl i = rowOf C tl i
        · exact h
        · exact absurd (.inr h) hc
      refine paint_rows fresh hl hpt k (i + 1) t y (by omega) ht hR hC (fun x hx => ?_) (fun e x hx => ?_)
      · rcases hsplit x hx with h | ⟨k, hk, rfl⟩
        · exact hd x h
        · exact (hf hff _ (by omega)).trans (rowOf_same heq hk)
      · rw [Nat.add_mul, Nat.one_mul] at hx
        exact hf e x (by omega)
/-- A TERMINAL THAT READS WHAT PAINTS A GRID SHOWS IT. -/
theorem paint_shows {R C : Nat} {fl tl : List Cell} (fresh : Bool) {t : Tm} (ht : t.OK) (hR : t.R = R) (hC : t.C = C) (hl : tl.length = R * C) (hpt : ∀ i, i < R * C → Pt C tl i) (hf : fresh = false → t.l = fl) :
    ∃ t', run t (paintB fresh R C fl tl) = (t', []) ∧ t'.OK ∧ t'.R = R ∧ t'.C = C ∧ t'.l = tl := by
  have hfin : ∀ t1 : Tm, (run t (paintB fresh R C fl tl) = run t1 (paintRows fresh C fl tl R 0 ++ [])) → t1.OK → t1.R = R → t1.C = C → (fresh = false → t1.l = fl) → ∃ t', run t (paintB fresh R C fl tl) = (t', []) ∧ t'.OK ∧ t'.R = R ∧ t'.C = C ∧ t'.l = tl := by
    intro t1 e1 h1 h2 h3 h4
    obtain ⟨t', e2, a, b, c, d⟩ := paint_rows (fl := fl) fresh hl hpt R 0 t1 [] (by omega) h1 h2 h3 (fun x hx => absurd hx (by omega)) (fun e x _ => by rw [h4 e]; exact ⟨rfl, rfl⟩)
    refine ⟨t', ?_, a, b, c, ?_⟩
    · rw [e1, e2, run_stop t' [] (.inl rfl)]
    · refine cells_eq (by rw [a.len, b, c, hl]) (fun j hj => d j ?_)
      rw [a.len, b, c] at hj
      exact hj
  cases fresh with
  | true =>
    refine hfin { t with l := blankL (t.R * t.C) } ?_ (blank_ok ht.R1 ht.C1 ht.row ht.col ht.st) hR hC (fun e => by cases e)
    unfold paintB
    rw [if_pos rfl, List.append_nil]
    exact run_whole t _ [27, 91, 50, 74] _ (by decide) (step_clear t)
  | false =>
    refine hfin t ?_ ht hR hC hf
    unfold paintB
    rw [if_neg (by decide), List.append_nil, List.nil_append]
/-- The same, in two parts. -/
theorem paint_parts {R C : Nat} {fl tl : List Cell} (fresh : Bool) {t : Tm} (ht : t.OK) (hR : t.R = R) (hC : t.C = C) (hl : tl.length = R * C) (hpt : ∀ i, i < R * C → Pt C tl i) (hf : fresh = false → t.l = fl) (k : Nat) :
    (run (run t ((paintB fresh R C fl tl).take k)).1 ((run t ((paintB fresh R C fl tl).take k)).2 ++ (paintB fresh R C fl tl).drop k)).1.l = tl := by
  rw [← run_append _ t _ _ (Nat.le_refl _), List.take_append_drop]
  obtain ⟨t', e, _, _, _, h⟩ := paint_shows fresh ht hR hC hl hpt hf
  rw [e]
  exact h
end Kp
end Go.Proofs.YtbjckccgbmimpabDoor
