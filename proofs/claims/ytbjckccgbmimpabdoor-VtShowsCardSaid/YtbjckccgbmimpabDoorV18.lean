/- The walk of step. -/
import Derived.Test.YtbjckccgbmimpabDoorV17
import Derived.Test.YtbjckccgbmimpabDoorK8
namespace Go.Proofs.YtbjckccgbmimpabDoor
open Go.RowKit Go.Proofs.YtbjckccgbmimpabDoorW.PrintWords Go.Proofs.YtbjckccgbmimpabDoorW.PrintLast Go.Proofs.YtbjckccgbmimpabDoorW.PrintMore
theorem Kp.accStep_range (r x : Int) : -2147483648 ≤ Kp.accStep r x ∧ Kp.accStep r x ≤ 2147483647 := by
  unfold Kp.accStep Go.bits
  simp only [IntKind.wrap_i32]
  omega
theorem Kp.acc_range (r : Int) (u : List UInt8) (k : Nat) (hk : 0 < k) : -2147483648 ≤ Kp.acc r u k ∧ Kp.acc r u k ≤ 2147483647 := by
  cases k with
  | zero => omega
  | succ k => exact Kp.accStep_range _ _
theorem Kp.firstF_range (l : List UInt8) : -2147483648 ≤ (Kp.firstF l).1 ∧ (Kp.firstF l).1 ≤ 2147483647 := by
  unfold Kp.firstF
  have hn := Kp.shp_n (Kp.gb l 0)
  have hg := Kp.gb_range l 0
  split
  · simp
  · simp only
    split
    · simp
    · split
      · simp
      · split
        · simp
        · split
          · simp only; omega
          · rename_i h1 h2 h3
            simp only
            exact Kp.acc_range _ _ _ (by omega)
theorem TermPost.mk {w w' : World} {base g gc : Nat} {t' t2 : Kp.Tm} {wv : Value} {n : Int} {m : Nat} (h : Turned w w' base g gc t2 wv) (ht : t2 = t') (hn : n = m) : TermPost w base g gc t' wv (.int .i64 m) (.returned (.int .i64 n)) w' := by
  subst ht hn; exact ⟨rfl, h⟩
theorem Kp.stepT_esc (t : Kp.Tm) (l : List UInt8) (h : Kp.gb l 0 = 27) : Kp.stepT t l = ((Kp.escF l).1, Kp.doT t (Kp.escF l).2) := by unfold Kp.stepT; rw [if_neg (by rw [h]; decide)]
set_option maxRecDepth 100000 in
set_option maxHeartbeats 4000000 in
theorem step_calls (W : World) (base g gc : Nat) (t : Kp.Tm) (wv : Value) (A : Option Addr) (c : Nat) (l : List UInt8) (m : Int) (h : TermAt W base g gc t wv) (hr : RB W A l) (hc : l.length ≤ c) (hL : l.length ≤ 140737488355328) (hp : 0 < l.length) (hm : W.cell? ⟨3, 0, none⟩ = some (.int .i64 m)) :
    Calls Tryd.prog 25 #[.pointer (some ⟨g, 0, none⟩), .slice A l.length c] W (TermPost W base g gc (Kp.stepT t l).2 wv (.int .i64 (Kp.stepT t l).1)) := by
  have H := Lib.hid h
  have HR := Lib.hid hr
  have HM := Lib.hid hm
  have hgW : base ≤ W.heap.size := Nat.le_trans H.out.ge.1 (Nat.le_of_lt (blk_lt H.out.blk))
  obtain ⟨ad, rfl, hcell⟩ := hr.head hp
  obtain ⟨x, hx⟩ : ∃ x, Kp.gb l 0 = x := ⟨_, rfl⟩
  rw [hx] at hcell
  have hxr := Kp.gb_range l 0
  rw [hx] at hxr
  clear h hr hm
  by_cases h27 : x = 27
  · have hq := Kp.stepT_esc t l (hx.trans h27)
    have HQ := Lib.hid hq
    have b27 : (x != 27) = false := by simp [h27]
    clear hq hx h27
    by_cases hl1 : l.length = 1
    · have b1 : ((l.length : Int) == 1) = true := by simp; omega
      have he : Kp.escF l = (0, none) := by unfold Kp.escF; rw [if_pos hl1]
      have HE := Lib.hid he
      clear he hl1
      go_enter Tryd.func25, Tryd.ntmps25
      go_wp2_with fail
      go_ret
      exact TermPost.mk (Turned.refl H.out) (by rw [HQ.out, HE.out]; rfl) (by rw [HQ.out, HE.out]; rfl)
    · have b1 : ((l.length : Int) == 1) = false := by simp; omega
      obtain ⟨ad2, had2, hcell2⟩ := HR.out.at_ 1 (by omega)
      injection had2 with had2
      subst had2
      obtain ⟨y, hy⟩ : ∃ y, Kp.gb l 1 = y := ⟨_, rfl⟩
      rw [hy, show ad.add 1 = ⟨ad.block, ad.off + 1, none⟩ from rfl] at hcell2
      by_cases h91 : y = 91
      · have b91 : (y != 91) = false := by simp [h91]
        have hl2 : 2 ≤ l.length := by omega
        have he : Kp.escF l = Kp.escGo l (l.length - 2) 0 := by unfold Kp.escF; rw [if_neg hl1, if_neg (by rw [hy]; simp [h91])]
        obtain ⟨i0, hi0, _, hsz, _⟩ := info_parts Tryd.info5
        obtain ⟨A1, hcut, hA1⟩ := print_cut_of (P := Tryd.prog) eb 0 22 5 .i64 Tryd.underlying22 hi0 hsz (some ad) l.length c 2 hl2
        have hcut' : ∀ W : World, (Instr.slice 22 (.slice (some ad) l.length c) (some (.int .i64 2)) none none).run Tryd.prog W = .ok (.slice A1 (l.length - 2) (c - 2)) W := hcut
        obtain ⟨q, hq⟩ : ∃ q, l.drop 2 = q := ⟨_, rfl⟩
        have hql : l.length - 2 = q.length := by rw [← hq, List.length_drop]
        have hr1 := hA1 W l hc HR.out
        rw [hq] at hr1
        rw [hql] at hcut' hr1 he
        have HR1 : Hid (RB W A1 q) := hr1
        have HE := Lib.hid he
        have HQq := Lib.hid hq
        have hqL : q.length ≤ 140737488355328 := by omega
        have HQL := Lib.hid hql
        have h12 : (1 : Int) < l.length := by omega
        clear hA1 hcut hr1 hq hql he hl1 hy h91
        go_enter Tryd.func25, Tryd.ntmps25
        go_wp2_with fail
        clear hcut'
        go_loop [46] (fun v46 => ∃ i : Nat, i ≤ q.length ∧ v46 = .int .i64 i ∧ Hid (Kp.escF l = Kp.escGo l (q.length - i) i) ∧ Hid (i ≤ 30 ∨ i = q.length)) (fun v46 => q.length - (intOf v46).toNat)
        case atStart => exact ⟨0, by omega, rfl, by rw [Nat.sub_zero]; exact HE, Lib.hid (.inl (by omega))⟩
        case round =>
          obtain ⟨i, hi1, rfl, HS, HI⟩ := hrel
          by_cases hlt : i < q.length
          · have hi30 : i ≤ 30 := by have := HI.out; omega
            obtain ⟨z, hz⟩ : ∃ z, Kp.gb l (i + 2) = z := ⟨_, rfl⟩
            obtain ⟨ad1, rfl, hcell3⟩ := HR1.out.2.2 (by omega)
            have hcz : W.cell? (ad1.add i) = some (.int .u8 z) := by
              rw [hcell3 i hlt, ← hz, ← HQq.out]
              simp [Kp.gb, List.getD_eq_getElem?_getD, Nat.add_comm]
            have hzr := Kp.gb_range l (i + 2)
            rw [hz] at hzr
            have hstep : Kp.escF l = if 64 ≤ z ∧ z ≤ 126 then (i + 3, some (⟨((l.drop 2).take i).toArray⟩, z)) else if z < 32 ∨ 63 < z ∨ 30 ≤ i then (i + 3, none) else Kp.escGo l (q.length - (i + 1)) (i + 1) := by
              rw [HS.out, show q.length - i = (q.length - (i + 1)) + 1 from by omega, Kp.escGo, hz]
            have HStep := Lib.hid hstep
            clear hz hcell3 hstep HS HI
            by_cases hend : 64 ≤ z ∧ z ≤ 126
            · obtain ⟨A2, hcut2, hA2, hC2⟩ := print_mid_of (P := Tryd.prog) eb 0 22 5 .i64 .i64 Tryd.underlying22 hi0 hsz (some ad) c l 2 (2 + (i : Int)) (by omega) (by omega) (by have := HQL.out; omega) hc
              obtain ⟨u, hu⟩ : ∃ u, (l.take (2 + i)).drop 2 = u := ⟨_, rfl⟩
              have hu' : (l.take (Int.toNat (2 + (i : Int)))).drop (Int.toNat 2) = u := by
                rw [← hu, show Int.toNat (2 + (i : Int)) = 2 + i from by omega, show Int.toNat 2 = 2 from rfl]
              have hul : u.length ≤ 40 := by rw [← hu, List.length_drop, List.length_take]; omega
              rw [hu'] at hcut2 hA2 hC2
              have hstr := run_string_of (W := W) (c - 2) (hA2 W HR.out)
              have hu2 : (l.drop 2).take i = u := by rw [← hu, List.drop_take]; congr 1; omega
              have hF : Kp.escF l = (i + 3, some (⟨u.toArray⟩, z)) := by rw [HStep.out, if_pos hend, hu2]
              have HF := Lib.hid hF
              have d1 : decide (64 ≤ z) = true := by simp; omega
              have d2 : decide (z ≤ 126) = true := by simp; omega
              clear hA2 hu hu' hF hC2 hu2 hend
              go_wp2_with fail
              refine (sequence2_calls W base g gc t wv ⟨u.toArray⟩ z m H.out (by show u.toArray.size ≤ 900; rw [List.size_toArray]; omega) HM.out).mono ?_
              rintro e w2 ⟨rfl, htu⟩
              have HTu := Lib.hid htu
              clear htu
              go_wp2_with fail
              go_ret
              exact TermPost.mk HTu.out (by rw [HQ.out, HF.out]; rfl) (by rw [HQ.out, HF.out]; simp)
            · by_cases hbad : z < 32 ∨ 63 < z ∨ 30 ≤ i
              · have hF : Kp.escF l = (i + 3, none) := by rw [HStep.out, if_neg hend, if_pos hbad]
                have HF := Lib.hid hF
                clear hF
                have hcs : (decide (64 ≤ z) = false ∧ (z < 32 ∨ 63 < z ∨ 30 ≤ i)) ∨ (decide (64 ≤ z) = true ∧ decide (z ≤ 126) = false ∧ 63 < z) := by
                  by_cases h64 : 64 ≤ z
                  · exact .inr ⟨by simp; omega, by simp; omega, by omega⟩
                  · exact .inl ⟨by simp; omega, hbad⟩
                clear hend hbad
                rcases hcs with ⟨d1, hb⟩ | ⟨d1, d2, hb⟩
                · by_cases h32 : z < 32
                  · go_wp2_with fail
                    all_goals first
                      | (exfalso; omega)
                      | (go_ret; exact TermPost.mk (Turned.refl H.out) (by rw [HQ.out, HF.out]; rfl) (by rw [HQ.out, HF.out]; simp))
                  · by_cases h63 : 63 < z
                    · go_wp2_with fail
                      all_goals first
                        | (exfalso; omega)
                        | (go_ret; exact TermPost.mk (Turned.refl H.out) (by rw [HQ.out, HF.out]; rfl) (by rw [HQ.out, HF.out]; simp))
                    · have h30 : (30 : Int) ≤ i := by omega
                      go_wp2_with fail
                      all_goals first
                        | (exfalso; omega)
                        | (go_ret; exact TermPost.mk (Turned.refl H.out) (by rw [HQ.out, HF.out]; rfl) (by rw [HQ.out, HF.out]; simp))
                · have h32 : ¬ z < 32 := by omega
                  go_wp2_with fail
                  all_goals first
                    | (exfalso; omega)
                    | (go_ret; exact TermPost.mk (Turned.refl H.out) (by rw [HQ.out, HF.out]; rfl) (by rw [HQ.out, HF.out]; simp))
              · have hS2 : Kp.escF l = Kp.escGo l (q.length - (i + 1)) (i + 1) := by rw [HStep.out, if_neg hend, if_neg hbad]
                have HS2 := Lib.hid hS2
                have d1 : decide (64 ≤ z) = false := by simp; omega
                have e1 : decide (z < 32) = false := by simp; omega
                have e2 : decide (63 < z) = false := by simp; omega
                have e3 : decide (30 ≤ (i : Int)) = false := by simp; omega
                have hi31 : i + 1 ≤ 30 := by omega
                clear hS2 hend hbad
                go_wp2_with fail
                go_round
                case rel => exact ⟨i + 1, by omega, by go_num, HS2, Lib.hid (.inl hi31)⟩
                case measure => simp [intOf]; omega
          · have hie : i = q.length := by omega
            have hF : Kp.escF l = (0, none) := by rw [HS.out, hie, Nat.sub_self]; rfl
            have HF := Lib.hid hF
            clear hF hie
            go_wp2_with fail
            go_ret
            exact TermPost.mk (Turned.refl H.out) (by rw [HQ.out, HF.out]; rfl) (by rw [HQ.out, HF.out]; simp)
      · have b91 : (y != 91) = true := by simp [h91]
        have he : Kp.escF l = (2, none) := by unfold Kp.escF; rw [if_neg hl1, if_pos (by rw [hy]; exact h91)]
        have HE := Lib.hid he
        have hl2 : (1 : Int) < l.length := by omega
        clear he hl1 hy h91
        go_enter Tryd.func25, Tryd.ntmps25
        go_wp2_with fail
        go_ret
        exact TermPost.mk (Turned.refl H.out) (by rw [HQ.out, HE.out]; rfl) (by rw [HQ.out, HE.out]; rfl)
  · have b27 : (x != 27) = true := by simp [h27]
    by_cases hlow : x < 32 ∨ x = 127
    · have hq : Kp.stepT t l = (1, t) := by unfold Kp.stepT; rw [hx, if_pos h27, if_pos hlow]
      have HQ := Lib.hid hq
      clear hq hx h27
      rcases hlow with h1 | h1
      · go_enter Tryd.func25, Tryd.ntmps25
        go_wp2_with fail
        go_ret
        exact TermPost.mk (Turned.refl H.out) (by rw [HQ.out]) (by rw [HQ.out]; rfl)
      · have h2 : decide (x < 32) = false := by simp; omega
        have h3 : (x == 127) = true := by simp [h1]
        clear h1
        go_enter Tryd.func25, Tryd.ntmps25
        go_wp2_with fail
        go_ret
        exact TermPost.mk (Turned.refl H.out) (by rw [HQ.out]) (by rw [HQ.out]; rfl)
    · have h2 : decide (x < 32) = false := by simp; omega
      have h3 : (x == 127) = false := by simp; omega
      obtain ⟨hfr1, hfr2⟩ := Kp.firstF_n l
      have hfr3 := Kp.firstF_range l
      have hq : Kp.stepT t l = ((Kp.firstF l).2.toNat, if 0 < (Kp.firstF l).2 then Kp.put t (Kp.firstF l).1 else t) := by unfold Kp.stepT; rw [hx, if_pos h27, if_neg hlow]
      have HQ := Lib.hid hq
      clear hq hx h27 hlow
      go_enter Tryd.func25, Tryd.ntmps25
      go_wp2_with fail
      refine (first_calls _ c l W HR.out hc hL).mono ?_
      rintro e W2 ⟨rfl, hb2⟩
      obtain ⟨⟨r, n⟩, hf⟩ : ∃ y, Kp.firstF l = y := ⟨_, rfl⟩
      rw [hf] at hfr1 hfr2 hfr3 ⊢
      simp only at hfr1 hfr2 hfr3 ⊢
      have HF := Lib.hid hf
      have HB2 := Lib.hid hb2
      clear hf hb2
      by_cases hn : 0 < n
      · go_wp2_with fail
        refine (put_calls W2 base g gc t wv r hfr3 (H.out.below HB2.out)).mono ?_
        rintro e W3 ⟨rfl, htu⟩
        have HTu := Lib.hid (htu.pre HB2.out hgW)
        clear htu
        go_wp2_with fail
        go_ret
        exact TermPost.mk HTu.out (by rw [HQ.out, HF.out]; simp only; rw [if_pos hn]) (by rw [HQ.out, HF.out]; simp only; omega)
      · go_wp2_with fail
        go_ret
        exact TermPost.mk ((Turned.refl H.out).post hgW HB2.out) (by rw [HQ.out, HF.out]; simp only; rw [if_neg (by omega)]) (by rw [HQ.out, HF.out]; simp only; omega)
end Go.Proofs.YtbjckccgbmimpabDoor
