/- The walk of slices.Equal at cells. -/
import Derived.Test.YtbjckccgbmimpabGreatDoorV3
namespace Go.Proofs.YtbjckccgbmimpabGreatDoor
open Go.RowKit Go.Proofs.YtbjckccgbmimpabGreatDoorW.PrintWords Go.Proofs.YtbjckccgbmimpabGreatDoorW.PrintLast Go.Proofs.YtbjckccgbmimpabGreatDoorW.PrintMore
theorem Kp.cells_eq {l r : List Cell} (hl : l.length = r.length) (h : ∀ j, j < l.length → Kp.gr l j = Kp.gr r j ∧ Kp.gs l j = Kp.gs r j) : l = r := by
  refine List.ext_getElem hl fun j h1 h2 => ?_
  obtain ⟨a, b⟩ := h j h1
  simp only [Kp.gr, Kp.gs, List.getD_eq_getElem?_getD, List.getElem?_eq_getElem h1, List.getElem?_eq_getElem h2, Option.getD_some] at a b
  exact Prod.ext a b
/-- The worlds of a call that only reads. -/
def Drawn (W w' : World) : Prop := ∃ n, w' = W.drewN n
theorem Drawn.refl (W : World) : Drawn W W := ⟨0, rfl⟩
theorem Drawn.below {W w' : World} (h : Drawn W w') : Below W.heap.size W w' := by
  obtain ⟨n, rfl⟩ := h
  exact pw_below_drewN (Below.refl _ _) n
theorem Drawn.drewN {W w' : World} (h : Drawn W w') (m : Nat) : Drawn W (w'.drewN m) := by
  obtain ⟨n, rfl⟩ := h
  exact ⟨n + m, World.drewN_drewN _ _ _⟩
/-- A test that only reads. -/
def EqPost (W : World) (p : Prop) [Decidable p] (e : Ending) (w' : World) : Prop := e = .returned (.bool (decide p)) ∧ Drawn W w'
theorem EqPost.mk {W w' : World} {p : Prop} [Decidable p] {b : Bool} (h : Drawn W w') (hb : b = true ↔ p) : EqPost W p (.returned (.bool b)) w' :=
  ⟨by
    have : b = decide p := by
      by_cases hp : p
      · simp [hp, hb.2 hp]
      · cases b
        · simp [hp]
        · exact absurd (hb.1 rfl) hp
    rw [this], h⟩
set_option maxRecDepth 100000 in
set_option maxHeartbeats 4000000 in
theorem equal_calls (A B : Option Addr) (l r : List Cell) (c c2 : Nat) (W : World) (hr : RC W A l) (hr2 : RC W B r) :
    Calls Tryz.prog 13 #[.slice A l.length c, .slice B r.length c2] W (EqPost W (l = r)) := by
  have HR := Lib.hid hr
  have HR2 := Lib.hid hr2
  have hl := hr.len
  have hl2 := hr2.len
  clear hr hr2
  by_cases hlen : l.length = r.length
  · have e1 : ((l.length : Int) != (r.length : Int)) = false := by simp [hlen]
    have e2 : ((l.length : Int) == (r.length : Int)) = true := by simp [hlen]
    have HL := Lib.hid hlen
    clear hlen
    go_enter Tryz.func13, Tryz.ntmps13
    go_wp2_with fail
    have HRl := Lib.hid (show r.length = l.length from HL.out.symm)
    go_loopw [13] (fun v13 wr => ∃ i : Nat, v13 = .int .i64 i ∧ i ≤ l.length ∧ Hid (∀ j, j < i → Kp.gr l j = Kp.gr r j ∧ Kp.gs l j = Kp.gs r j) ∧ Hid (Drawn W wr)) (fun v13 _ => l.length - (intOf v13).toNat)
    case atStart => exact ⟨0, rfl, by omega, Lib.hid (fun j hj => absurd hj (by omega)), Lib.hid (Drawn.refl _)⟩
    case round =>
      obtain ⟨i, rfl, hi, HV, HB⟩ := hrel
      by_cases hlt : i < l.length
      · have hlt2 : i < r.length := by rw [HRl.out]; exact hlt
        obtain ⟨b, o, hA, r1, r2⟩ := (HR.out.below HB.out.below).at_ i hlt
        obtain ⟨b', o', hB, t1, t2⟩ := (HR2.out.below HB.out.below).at_ i hlt2
        subst hA hB
        have c57 : Tryz.prog.cellsOf 41 = 2 := by kernel_rfl
        obtain ⟨x, hx⟩ : ∃ x, Kp.gr l i = x := ⟨_, rfl⟩
        obtain ⟨s, hs⟩ : ∃ x, Kp.gs l i = x := ⟨_, rfl⟩
        obtain ⟨y, hy⟩ : ∃ x, Kp.gr r i = x := ⟨_, rfl⟩
        obtain ⟨t, ht⟩ : ∃ x, Kp.gs r i = x := ⟨_, rfl⟩
        have HEq : Hid (l = r → x = y ∧ s = t) := Lib.hid (fun e => by subst e; exact ⟨hx.symm.trans hy, hs.symm.trans ht⟩)
        have HV2 : Hid ((x = y ∧ s = t) → ∀ j, j < i + 1 → Kp.gr l j = Kp.gr r j ∧ Kp.gs l j = Kp.gs r j) := Lib.hid (fun e j hj => by
          by_cases hji : j < i
          · exact HV.out j hji
          · obtain rfl : j = i := by omega
            rw [hx, hy, hs, ht]; exact e)
        rw [hx] at r1; rw [hs] at r2; rw [hy] at t1; rw [ht] at t2
        clear hx hy hs ht
        by_cases hxy : x = y
        · by_cases hst : s = t
          · have HV3 := Lib.hid (HV2.out ⟨hxy, hst⟩)
            clear HV2 HEq
            subst hxy hst
            go_wp2_with fail
            go_quiet (fail)
            go_wp2_with fail
            refine ⟨⟨i + 1, by go_num, by omega, HV3, Lib.hid (HB.out.drewN _)⟩, ?_⟩
            simp [intOf]; omega
          · have HF : Hid (¬ l = r) := Lib.hid (fun e => hst (HEq.out e).2)
            subst hxy
            have f2 : (s == t) = false := by simp [hst]
            clear hst
            go_wp2_with fail
            go_quiet (fail)
            go_wp2_with fail
            go_ret
            exact EqPost.mk (HB.out.drewN _) (by simp [HF.out])
        · have HF : Hid (¬ l = r) := Lib.hid (fun e => hxy (HEq.out e).1)
          have f1 : (x == y) = false := by simp [hxy]
          clear hxy
          go_wp2_with fail
          go_quiet (fail)
          go_wp2_with fail
          go_ret
          exact EqPost.mk (HB.out.drewN _) (by simp [HF.out])
      · have HT : Hid (l = r) := Lib.hid (Kp.cells_eq HL.out (fun j hj => HV.out j (by omega)))
        go_wp2_with fail
        go_ret
        exact EqPost.mk HB.out (by simp [HT.out])
  · have e1 : ((l.length : Int) != (r.length : Int)) = true := by simp; omega
    have e2 : ((l.length : Int) == (r.length : Int)) = false := by simp; omega
    have HL : Hid (¬ l = r) := Lib.hid (fun e => hlen (by rw [e]))
    clear hlen
    go_enter Tryz.func13, Tryz.ntmps13
    go_wp2_with fail
    go_ret
    exact EqPost.mk (Drawn.refl _) (by simp [HL.out])
theorem equal_true (A B : Option Addr) (l r : List Cell) (c c2 : Nat) (W : World) (h : l = r) (hr : RC W A l) (hr2 : RC W B r) (n : Nat) :
    Calls Tryz.prog 13 #[.slice A l.length c, .slice B r.length c2] (W.drewN n) fun e w' => e = .returned (.bool true) ∧ ∃ m, w' = (W.drewN n).drewN m :=
  (equal_calls A B l r c c2 (W.drewN n) (hr.drewN n) (hr2.drewN n)).mono fun _ _ ⟨he, hd⟩ => ⟨by rw [he, decide_eq_true h], hd⟩
theorem equal_false (A B : Option Addr) (l r : List Cell) (c c2 : Nat) (W : World) (h : ¬ l = r) (hr : RC W A l) (hr2 : RC W B r) (n : Nat) :
    Calls Tryz.prog 13 #[.slice A l.length c, .slice B r.length c2] (W.drewN n) fun e w' => e = .returned (.bool false) ∧ ∃ m, w' = (W.drewN n).drewN m :=
  (equal_calls A B l r c c2 (W.drewN n) (hr.drewN n) (hr2.drewN n)).mono fun _ _ ⟨he, hd⟩ => ⟨by rw [he, decide_eq_false h], hd⟩
end Go.Proofs.YtbjckccgbmimpabGreatDoor
