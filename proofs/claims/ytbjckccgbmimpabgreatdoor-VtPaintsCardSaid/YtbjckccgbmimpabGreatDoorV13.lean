/- The walks of move, dresses and clear. -/
import Derived.Test.YtbjckccgbmimpabGreatDoorV12
namespace Go.Proofs.YtbjckccgbmimpabGreatDoor
open Go.RowKit Go.Proofs.YtbjckccgbmimpabGreatDoorW.PrintWords Go.Proofs.YtbjckccgbmimpabGreatDoorW.PrintLast Go.Proofs.YtbjckccgbmimpabGreatDoorW.PrintMore
attribute [local go_sem] max2_int min2_int max_two min_two
theorem at_calls (W : World) (g3 k most : Nat) (ns : List Int) (A : Option Addr) (c : Nat) (hb : W.cell? ⟨g3, 0, none⟩ = some (.slice A ns.length c)) (hr : ReadsInt W .i64 A ns.length ns) (hns : ∀ x ∈ ns, 0 ≤ x ∧ x ≤ 1000) (hl : ns.length ≤ 1000) (hk : k ≤ 1) (hm : 1 ≤ most ∧ most ≤ 60) :
    Calls Tryz.prog 50 #[.int .i64 k, .int .i64 most, .pointer (some ⟨g3, 0, none⟩)] W fun e w' => e = .returned (.int .i64 (Kp.atF ns k most)) ∧ W = w' := by
  have HR := Lib.hid hr
  clear hr
  by_cases hle : ns.length ≤ k
  · have hv : Kp.atF ns k most = 0 := by unfold Kp.atF; rw [if_pos hle]
    rw [hv]
    clear hv
    go_enter Tryz.func50, Tryz.ntmps50
    go_wp2_with fail
    go_ret
    exact ⟨rfl, rfl⟩
  · obtain ⟨ad, rfl, hc⟩ := HR.out.2.2 (by omega)
    have hck := hc k (by omega)
    obtain ⟨x, hx⟩ : ∃ x, ns.getD k 0 = x := ⟨_, rfl⟩
    rw [hx] at hck
    have hxr : 0 ≤ x ∧ x ≤ 1000 := by
      rw [← hx, List.getD_eq_getElem?_getD, List.getElem?_eq_getElem (show k < ns.length by omega)]
      exact hns _ (List.getElem_mem _)
    have hv : (Kp.atF ns k most : Int) = max 1 (min x most) - 1 := by unfold Kp.atF; rw [if_neg hle, hx]; omega
    rw [hv]
    clear hv hx hc HR hns
    by_cases hmx : (most : Int) < x
    · rw [show max 1 (min x (most : Int)) - 1 = (most : Int) - 1 by omega]
      have h1 : ¬ (1 : Int) < most ∨ (1 : Int) < most := by omega
      rcases h1 with h1 | h1
      · obtain rfl : most = 1 := by omega
        go_enter Tryz.func50, Tryz.ntmps50
        go_wp2_with fail
        all_goals
          go_ret
          exact ⟨rfl, rfl⟩
      · go_enter Tryz.func50, Tryz.ntmps50
        go_wp2_with fail
        all_goals
          go_ret
          exact ⟨rfl, rfl⟩
    · have h1 : ¬ (1 : Int) < x ∨ (1 : Int) < x := by omega
      rcases h1 with h1 | h1
      · rw [show max 1 (min x (most : Int)) - 1 = 0 by omega]
        go_enter Tryz.func50, Tryz.ntmps50
        go_wp2_with fail
        all_goals
          go_ret
          exact ⟨rfl, rfl⟩
      · rw [show max 1 (min x (most : Int)) - 1 = x - 1 by omega]
        go_enter Tryz.func50, Tryz.ntmps50
        go_wp2_with fail
        all_goals
          go_ret
          exact ⟨rfl, rfl⟩
theorem at0_calls (W : World) (g3 most : Nat) (ns : List Int) (A : Option Addr) (c : Nat) (hb : W.cell? ⟨g3, 0, none⟩ = some (.slice A ns.length c)) (hr : ReadsInt W .i64 A ns.length ns) (hns : ∀ x ∈ ns, 0 ≤ x ∧ x ≤ 1000) (hl : ns.length ≤ 1000) (hm : 1 ≤ most ∧ most ≤ 60) :
    Calls Tryz.prog 50 #[.int .i64 0, .int .i64 most, .pointer (some ⟨g3, 0, none⟩)] W fun e w' => e = .returned (.int .i64 (Kp.atF ns 0 most)) ∧ W = w' := at_calls W g3 0 most ns A c hb hr hns hl (by omega) hm
theorem at1_calls (W : World) (g3 most : Nat) (ns : List Int) (A : Option Addr) (c : Nat) (hb : W.cell? ⟨g3, 0, none⟩ = some (.slice A ns.length c)) (hr : ReadsInt W .i64 A ns.length ns) (hns : ∀ x ∈ ns, 0 ≤ x ∧ x ≤ 1000) (hl : ns.length ≤ 1000) (hm : 1 ≤ most ∧ most ≤ 60) :
    Calls Tryz.prog 50 #[.int .i64 1, .int .i64 most, .pointer (some ⟨g3, 0, none⟩)] W fun e w' => e = .returned (.int .i64 (Kp.atF ns 1 most)) ∧ W = w' := at_calls W g3 1 most ns A c hb hr hns hl (by omega) hm
/-- Numbers that are read, in a row of whole numbers. -/
structure RI3 (w : World) (A : Option Addr) (ns : List Int) : Prop where
  ri : ReadsInt w .i64 A ns.length ns
  row : ∀ ad, A = some ad → ∃ cur fr, w.heap[ad.block]? = some (.cells cur 3 fr)
theorem RI3.kept {w w' : World} {A : Option Addr} {ns : List Int} {S : Nat → Prop} (h : RI3 w A ns) (hk : Kept w w' S) (hS : ∀ ad, A = some ad → ¬ S ad.block) : RI3 w' A ns := by
  refine ⟨⟨h.ri.1, h.ri.2.1, fun hp => ?_⟩, fun ad e => ?_⟩
  · obtain ⟨ad, e, hc⟩ := h.ri.2.2 hp
    refine ⟨ad, e, fun j hj => ?_⟩
    have := hc j hj
    have hlt := World.block_lt_of_cell? w _ this
    rw [add_block] at hlt
    refine (World.cell?_of_block ?_).trans this
    rw [add_block]
    exact hk.2 _ hlt (hS ad e)
  · obtain ⟨cur, fr, hb⟩ := h.row ad e
    exact ⟨cur, fr, blk_kept hb hk (hS ad e)⟩
theorem RI3.below {w w' : World} {A : Option Addr} {ns : List Int} (h : RI3 w A ns) (hb : Below w.heap.size w w') : RI3 w' A ns := h.kept (S := fun _ => False) ((Kept.refl w _).below hb) (fun _ _ h => h)
theorem RI3.ne {w : World} {A : Option Addr} {ns : List Int} (h : RI3 w A ns) {g t : Nat} {cs : Array Value} {fr : Nat × Nat} (hg : w.heap[g]? = some (.cells cs t fr)) (ht : t ≠ 3) : ∀ ad, A = some ad → ad.block ≠ g := fun ad e hne => by
  obtain ⟨cur, fr', hb⟩ := h.row ad e
  rw [hne, hg] at hb
  injection hb with hb
  injection hb with _ h2
  exact ht h2
theorem TermAt.set3 {w : World} {base g gc : Nat} {t : Kp.Tm} {wv : Value} (h : TermAt w base g gc t wv) (n : Nat) (hok : Kp.Tm.OK { t with row := n }) : TermAt (w.setCell ⟨g, 3, none⟩ (.int .i64 n)) base g gc { t with row := n } wv :=
  ⟨blk_put h.blk 3 _ rfl, h.cells.kept (S := fun k => k = g) (Kept.setCell (Kept.refl w (fun k => k = g)) (p := ⟨g, 3, none⟩) (.inl rfl) _) (fun e => h.ne e.symm), h.ge, hok⟩
theorem TermAt.set4 {w : World} {base g gc : Nat} {t : Kp.Tm} {wv : Value} (h : TermAt w base g gc t wv) (n : Nat) (hok : Kp.Tm.OK { t with col := n }) : TermAt (w.setCell ⟨g, 4, none⟩ (.int .i64 n)) base g gc { t with col := n } wv :=
  ⟨blk_put h.blk 4 _ rfl, h.cells.kept (S := fun k => k = g) (Kept.setCell (Kept.refl w (fun k => k = g)) (p := ⟨g, 4, none⟩) (.inl rfl) _) (fun e => h.ne e.symm), h.ge, hok⟩
theorem TermAt.set5 {w : World} {base g gc : Nat} {t : Kp.Tm} {wv : Value} (h : TermAt w base g gc t wv) (n : Nat) (hok : Kp.Tm.OK { t with st := n }) : TermAt (w.setCell ⟨g, 5, none⟩ (.int .i64 n)) base g gc { t with st := n } wv :=
  ⟨blk_put h.blk 5 _ rfl, h.cells.kept (S := fun k => k = g) (Kept.setCell (Kept.refl w (fun k => k = g)) (p := ⟨g, 5, none⟩) (.inl rfl) _) (fun e => h.ne e.symm), h.ge, hok⟩
theorem term_kept {w w' : World} {g gc : Nat} {i : Nat} {v : Value} (h : Kept w w' (fun k => k = g ∨ k = gc)) : Kept w (w'.setCell ⟨g, i, none⟩ v) (fun k => k = g ∨ k = gc) := h.setCell (p := ⟨g, i, none⟩) (.inl (.inl rfl)) v
theorem keep01 {w : World} {g i : Nat} {v a b : Value} (h : w.cell? ⟨g, 0, none⟩ = some a ∧ w.cell? ⟨g, 1, none⟩ = some b) (hi : 2 ≤ i) : (w.setCell ⟨g, i, none⟩ v).cell? ⟨g, 0, none⟩ = some a ∧ (w.setCell ⟨g, i, none⟩ v).cell? ⟨g, 1, none⟩ = some b :=
  ⟨(World.cell?_setCell_other _ _ _ _ (fun e => by injection e with _ e; omega)).trans h.1, (World.cell?_setCell_other _ _ _ _ (fun e => by injection e with _ e; omega)).trans h.2⟩
set_option maxRecDepth 100000 in
set_option maxHeartbeats 400000 in
theorem move_calls (W : World) (base g gc : Nat) (t : Kp.Tm) (wv : Value) (ns : List Int) (A : Option Addr) (c : Nat) (h : TermAt W base g gc t wv) (hr : RI3 W A ns) (hns : ∀ x ∈ ns, 0 ≤ x ∧ x ≤ 1000) (hl : ns.length ≤ 1000) :
    Calls Tryz.prog 43 #[.pointer (some ⟨g, 0, none⟩), .slice A ns.length c] W (TermPost W base g gc (Kp.moveT t ns) wv (.tuple #[])) := by
  have hok := Kp.Tm.OK.R1 h.ok
  have hokc := Kp.Tm.OK.C1 h.ok
  have H := Lib.hid h
  have HR := Lib.hid hr
  have HNs := Lib.hid hns
  clear h hr hns
  go_enter Tryz.func43, Tryz.ntmps43
  go_wp2_with fail
  have hg3 := heap_alloc_new W (.cells #[.slice A ns.length c] 91)
  have hb2 := below_alloc (Below.refl W.heap.size W) (.cells #[.slice A ns.length c] 91)
  generalize W.alloc (.cells #[.slice A ns.length c] 91) = W2 at hg3 hb2 ⊢
  generalize W.heap.size = g3 at hg3 ⊢
  have HT := Lib.hid (H.out.below hb2)
  have HR2 := Lib.hid (HR.out.below hb2)
  have HB2 := Lib.hid hb2
  have d0 := (blk_cell hg3 0).trans rfl
  clear hg3 hb2
  obtain ⟨⟨c0, c1, c2, c3, c4, c5, c6⟩, hfr⟩ := HT.out.rules
  have f3 := hfr 3
  have f4 := hfr 4
  clear hfr
  go_region_held3 (fun w' => w'.cell? ⟨g, 0, none⟩ = some (.int .i64 t.R) ∧ w'.cell? ⟨g, 1, none⟩ = some (.int .i64 t.C)) (first | (with_reducible assumption) | exact keep01 (w := W2) (i := 3) ⟨c0, c1⟩ (by decide) | exact keep01 (i := 4) (keep01 (w := W2) (i := 3) ⟨c0, c1⟩ (by decide)) (by decide) | exact ⟨c0, c1⟩) (first | (go_at_call 50; (with_reducible refine (at0_calls _ g3 t.R ns A c ?_ ?_ HNs.out hl hok).mono ?_); (exact d0); (exact HR2.out.ri); rintro e w' ⟨rfl, rfl⟩) | (go_at_call 50; (with_reducible refine (at1_calls _ g3 t.C ns A c ?_ ?_ HNs.out hl hokc).mono ?_); (exact d0); (exact HR2.out.ri); rintro e w' ⟨rfl, rfl⟩))
  have hok1 : Kp.Tm.OK { t with row := Kp.atF ns 0 t.R } := ⟨H.out.ok.R1, H.out.ok.C1, H.out.ok.len, Kp.atF_lt _ _ _ hok.1, H.out.ok.col, H.out.ok.st, H.out.ok.wf, H.out.ok.zero⟩
  have hok2 : Kp.Tm.OK { t with row := Kp.atF ns 0 t.R, col := Kp.atF ns 1 t.C } := ⟨H.out.ok.R1, H.out.ok.C1, H.out.ok.len, Kp.atF_lt _ _ _ hok.1, Nat.le_of_lt (Kp.atF_lt _ _ _ hokc.1), H.out.ok.st, H.out.ok.wf, H.out.ok.zero⟩
  have ht := (HT.out.set3 (Kp.atF ns 0 t.R) hok1).set4 (Kp.atF ns 1 t.C) hok2
  have hgW : base ≤ W.heap.size := Nat.le_trans H.out.ge.1 (Nat.le_of_lt (blk_lt H.out.blk))
  have hk := term_kept (g := g) (gc := gc) (i := 4) (v := .int .i64 (Kp.atF ns 1 t.C : Nat)) (term_kept (i := 3) (v := .int .i64 (Kp.atF ns 0 t.R : Nat)) (Kept.of_below HB2.out _))
  have hbb := ((HB2.out.mono hgW).setCell (p := ⟨g, 3, none⟩) H.out.ge.1 (.int .i64 (Kp.atF ns 0 t.R : Nat))).setCell (p := ⟨g, 4, none⟩) H.out.ge.1 (.int .i64 (Kp.atF ns 1 t.C : Nat))
  go_end0
  exact ⟨rfl, ⟨⟨gc, .inl rfl, ⟨ht.blk, ht.cells, ht.ge, ht.ok⟩⟩, ⟨hk.1, hk.2⟩, below_drew hbb⟩⟩
end Go.Proofs.YtbjckccgbmimpabGreatDoor
