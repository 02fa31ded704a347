/- The walk of utf.First. -/
import Derived.Test.YtbjckccgbmimpabGreatDoorK6
import Derived.Lib.Hide
namespace Go.Proofs.YtbjckccgbmimpabGreatDoor
open Go.RowKit Go.Proofs.YtbjckccgbmimpabGreatDoorW.PrintWords Go.Proofs.YtbjckccgbmimpabGreatDoorW.PrintLast Go.Proofs.YtbjckccgbmimpabGreatDoorW.PrintMore
attribute [local go_sem] max2_int min2_int max_two min_two
abbrev eb (b : UInt8) : Value := .int .u8 (b.toNat : Int)
abbrev RB (w : World) (A : Option Addr) (l : List UInt8) : Prop := ReadsOf eb 0 w A l.length l
theorem Tryz.info5 : (Tryz.prog.info? 5).map (fun i => (i.zero, i.size, i.bytes)) = some (some (.int .u8 0), 1, 1) := by kernel_rfl

theorem Kp.badAt0 (f t x : Int) : Kp.badAt f t 0 x = ((decide (x < f) || decide (t < x)) || decide (x < 128) || decide (192 ≤ x)) := by simp [Kp.badAt]
def FirstPost (l : List UInt8) (w : World) (e : Ending) (w' : World) : Prop :=
  e = .returned (.tuple #[.int .i32 (Kp.firstF l).1, .int .i64 (Kp.firstF l).2]) ∧ Below w.heap.size w w'
theorem FirstPost.mk {l : List UInt8} {w w' : World} {x y : Int} (h : Kp.firstF l = (x, y)) (hb : Below w.heap.size w w') : FirstPost l w (.returned (.tuple #[.int .i32 x, .int .i64 y])) w' := by
  unfold FirstPost; rw [h]; exact ⟨rfl, hb⟩

set_option maxRecDepth 100000 in
set_option maxHeartbeats 1000000 in
theorem first_calls (A : Option Addr) (c : Nat) (l : List UInt8) (w : World) (hr : RB w A l) (hc : l.length ≤ c) (hL : l.length ≤ 140737488355328) :
    Calls Tryz.prog 35 #[.slice A l.length c] w (FirstPost l w) := by
  have HR := Lib.hid hr
  clear hr
  by_cases hl : l = []
  · subst hl
    go_enter Tryz.func35, Tryz.ntmps35
    go_wp2_with fail
    go_ret2
    exact FirstPost.mk rfl (Below.refl _ _)
  · have hpos : 0 < l.length := List.length_pos_iff.2 hl
    obtain ⟨b0, hb0⟩ : ∃ x, Kp.gb l 0 = x := ⟨_, rfl⟩
    obtain ⟨⟨N, F, T⟩, hs⟩ : ∃ x, Kp.shp b0 = x := ⟨_, rfl⟩
    obtain ⟨ad, rfl, hcell⟩ := HR.out.2.2 hpos
    have h0 : w.cell? (ad.add 0) = some (.int .u8 (Kp.gb l 0)) := hcell 0 hpos
    rw [Addr.add_zero', hb0] at h0
    have HB0 := Lib.hid hb0
    have hb0a : 0 ≤ b0 := by rw [← hb0]; exact (Kp.gb_range l 0).1
    have hb0b : b0 < 256 := by rw [← hb0]; exact (Kp.gb_range l 0).2
    have hN := Kp.shp_n b0
    rw [hs] at hN
    have HS := Lib.hid hs
    clear hs
    have hz : ((l.length : Int) == 0) = false := by rw [beq_eq_false_iff_ne]; omega
    have hp : decide (0 < l.length) = true := decide_eq_true hpos
    obtain ⟨M, hM⟩ : ∃ M : Int, (if 1 < N then N else 1) = M := ⟨_, rfl⟩
    have hM1 : 1 ≤ M := by rw [← hM]; split <;> omega
    obtain ⟨m, hm⟩ : ∃ m : Nat, (if M < (l.length : Int) then M else (l.length : Int)) = (m : Int) := by
      refine ⟨(if M < (l.length : Int) then M else (l.length : Int)).toNat, ?_⟩
      split <;> omega
    have hlook : Kp.look N l.length = m := by
      simp only at hN
      unfold Kp.look
      split at hm <;> split at hM <;> omega
    have hm1 : 1 ≤ m := by split at hm <;> omega
    have hm2 : m ≤ l.length := by split at hm <;> omega
    obtain ⟨i0, hi0, _, hsz, _⟩ := info_parts Tryz.info5
    obtain ⟨A1, hcut, hA1, hC1⟩ := print_mid_of (P := Tryz.prog) eb 0 26 5 .i64 .i64 Tryz.underlying26 hi0 hsz (some ad) c l 1 (m : Int) (by omega) (by omega) (by omega) hc
    obtain ⟨u, hu⟩ : ∃ u, (l.take m).drop 1 = u := ⟨_, rfl⟩
    have hu' : (l.take (Int.toNat (m : Int))).drop (Int.toNat 1) = u := hu
    rw [hu'] at hcut hA1 hC1
    have HA1 := Lib.hid (hA1 w HR.out)
    have HFst : Hid (Kp.firstF l = if Kp.badTail F T u then (65533, 1) else if N = 0 then (65533, 1) else if (l.length : Int) < N then (0, 0) else if N = 1 then (b0, 1)
        else (Kp.acc (Kp.lead N b0) ((l.take N.toNat).drop 1) (N.toNat - 1), N)) := by
      unfold Kp.firstF
      rw [if_neg (by omega), hb0]
      simp only [HS.out, hlook, hu]
      trivial
    have huL : u.length ≤ 140737488355328 := by rw [← hu, List.length_drop, List.length_take]; omega
    have HU := Lib.hid hu
    have HN := Lib.hid hN
    clear hu hu' hA1 hl hb0 hlook hcell hN
    go_enter Tryz.func35, Tryz.ntmps35
    go_wp2_with fail
    refine (begins_calls _ _).mono ?_
    rintro e w1 ⟨rfl, hb⟩
    rw [HS.out]
    have HB := Lib.hid hb
    clear hb
    go_wp2_with fail
    generalize hW2 : w1.alloc (Obj.cells #[Value.int IntKind.i64 N, Value.int IntKind.u8 F, Value.int IntKind.u8 T] 84) = W2
    have hcN : W2.cell? ⟨w1.heap.size, 0, none⟩ = some (.int .i64 N) := by rw [← hW2]; exact blk_cell (heap_alloc_new w1 _) 0
    have hcF : W2.cell? ⟨w1.heap.size, 1, none⟩ = some (.int .u8 F) := by rw [← hW2]; exact blk_cell (heap_alloc_new w1 _) 1
    have hcT : W2.cell? ⟨w1.heap.size, 2, none⟩ = some (.int .u8 T) := by rw [← hW2]; exact blk_cell (heap_alloc_new w1 _) 2
    have HB2 : Hid (Below w.heap.size w W2) := by rw [← hW2]; exact below_alloc HB.out _
    have HR2 : Hid (RB W2 (some ad) l) := HR.out.below HB2.out
    have HA2 : Hid (RB W2 A1 u) := HA1.out.below HB2.out
    clear hW2 HR HA1 HB h0 hcut HS hM hm hM1 hm1
    go_loop [26] (fun v => ∃ k : Nat, k ≤ u.length ∧ v = .int .i64 k ∧ Hid (∀ j, j < k → Kp.badAt F T j (Kp.gb u j) = false)) (fun v => u.length - (intOf v).toNat)
    case atStart => exact ⟨0, by omega, rfl, fun j hj => by omega⟩
    case round =>
      obtain ⟨k, hk, rfl, hrel⟩ := hrel
      by_cases hlt : k < u.length
      · obtain ⟨ad1, rfl, hcell⟩ := HA2.out.2.2 (by omega)
        have hx : W2.cell? (ad1.add k) = some (.int .u8 (Kp.gb u k)) := hcell k hlt
        have Hcell := Lib.hid hcell
        clear hcell
        obtain ⟨x, hxe⟩ : ∃ x, Kp.gb u k = x := ⟨_, rfl⟩
        rw [hxe] at hx
        have Hxe := Lib.hid hxe
        clear hxe
        have hbad : Kp.badAt F T k x = true → FirstPost l w (.returned (.tuple #[.int .i32 65533, .int .i64 1])) W2 := fun h =>
          FirstPost.mk (by rw [HFst.out, if_pos (Kp.badTail_true k hlt (by rw [Hxe.out]; exact h))]) HB2.out
        have HBad := Lib.hid hbad
        clear hbad
        have hnext : Kp.badAt F T k x = false → Hid (∀ j, j < k + 1 → Kp.badAt F T j (Kp.gb u j) = false) := fun h j hj => by
          rcases Nat.lt_succ_iff_lt_or_eq.1 hj with h1 | rfl
          · exact hrel.out j h1
          · rw [Hxe.out]; exact h
        have HNext := Lib.hid hnext
        clear hnext
        rcases Nat.eq_zero_or_pos k with rfl | hk0
        · rw [Addr.add_zero'] at hx
          go_wp2_with fail
          all_goals first
            | (go_ret2; exact HBad.out (by rw [Kp.badAt0]; simp only [Bool.or_eq_true, decide_eq_true_eq]; omega))
            | (go_round
               case rel => exact ⟨1, by omega, rfl, HNext.out (by rw [Kp.badAt0]; simp only [Bool.or_eq_false_iff, decide_eq_false_iff_not]; omega)⟩
               case measure => simp [intOf]; omega)
        · have hk1 : ((k : Int) == 0) = false := by rw [beq_eq_false_iff_ne]; omega
          go_wp2_with fail
          all_goals first
            | (go_ret2; exact HBad.out (by simp only [Kp.badAt, Bool.or_eq_true, Bool.and_eq_true, decide_eq_true_eq]; omega))
            | (go_round
               case rel => exact ⟨k + 1, by omega, by go_num, HNext.out (by simp only [Kp.badAt, Bool.or_eq_false_iff, Bool.and_eq_false_iff, decide_eq_false_iff_not]; omega)⟩
               case measure => simp [intOf]; omega)
      · have hke : k = u.length := by omega
        subst hke
        have hgood := Kp.badTail_false hrel.out
        have hfst := HFst.out
        rw [if_neg (by rw [hgood]; decide)] at hfst
        have HF2 := Lib.hid hfst
        clear hfst hgood hrel hk HFst
        have h02 : W2.cell? (ad.add 0) = some (.int .u8 (Kp.gb l 0)) := by
          obtain ⟨ad', he, hcell⟩ := HR2.out.2.2 hpos
          cases he
          exact hcell 0 hpos
        rw [Addr.add_zero', HB0.out] at h02
        have hlE : (l.length : Int) = 1 ∨ True := Or.inr trivial
        clear hlE
        rcases HN.out with rfl | rfl | rfl | rfl | rfl
        · clear HN
          go_wp2_with fail
          go_ret2
          exact FirstPost.mk HF2.out HB2.out
        · clear HN
          have hF3 : Kp.firstF l = (b0, 1) := by
            rw [HF2.out, if_neg (by decide), if_neg (by omega), if_pos rfl]
          have HF3 := Lib.hid hF3
          clear hF3 HF2
          have hl1 : decide ((l.length : Int) < 1) = false := by simp; omega
          go_wp2_with fail
          go_ret2
          exact FirstPost.mk HF3.out HB2.out
        · clear HN
          by_cases hl2 : (l.length : Int) < 2
          · have hF3 : Kp.firstF l = (0, 0) := by
              rw [HF2.out, if_neg (by decide), if_pos hl2]
            have HF3 := Lib.hid hF3
            clear hF3 HF2
            go_wp2_with fail
            go_ret2
            exact FirstPost.mk HF3.out HB2.out
          · have hF3 : Kp.firstF l = (Kp.acc (Kp.lead 2 b0) ((l.take 2).drop 1) 1, 2) := by
              rw [HF2.out, if_neg (by decide), if_neg hl2, if_neg (by decide)]; rfl
            have hl3 : decide ((l.length : Int) < 2) = false := decide_eq_false hl2
            obtain ⟨A3, hcut, hA3, hC3⟩ := print_mid_of (P := Tryz.prog) eb 0 26 5 .i64 .i64 Tryz.underlying26 hi0 hsz (some ad) c l 1 2 (by omega) (by omega) (by omega) hc
            obtain ⟨q, hq⟩ : ∃ q, (l.take 2).drop 1 = q := ⟨_, rfl⟩
            have hq' : (l.take (Int.toNat 2)).drop (Int.toNat 1) = q := hq
            have hql : q.length = 1 := by rw [← hq, List.length_drop, List.length_take]; omega
            rw [hq'] at hcut hA3 hC3
            have HA3 := Lib.hid (hA3 W2 HR2.out)
            rw [hq] at hF3
            have HF3 := Lib.hid hF3
            have HQL := Lib.hid hql
            have hqL : q.length ≤ 140737488355328 := by omega
            clear hF3 HF2 hq hq' hA3 hql
            go_wp2_with fail
            go_quiet (fail)
            go_wp2
            go_loop [7, 87] (fun v7 v => ∃ k : Nat, k ≤ q.length ∧ v = .int .i64 k ∧ v7 = .int .i32 (Kp.acc (Kp.lead 2 b0) q k)) (fun _ v => q.length - (intOf v).toNat)
            case atStart => exact ⟨0, by omega, rfl, rfl⟩
            case round =>
              obtain ⟨k, hk, rfl, rfl⟩ := hrel
              by_cases hlt2 : k < q.length
              · obtain ⟨ad3, rfl, hcell⟩ := HA3.out.2.2 (by omega)
                have hx : W2.cell? (ad3.add k) = some (.int .u8 (Kp.gb q k)) := hcell k hlt2
                have hx1 := (Kp.gb_range q k).1
                have hx2 := (Kp.gb_range q k).2
                have hstep : Hid (Kp.acc (Kp.lead 2 b0) q (k + 1) = Kp.accStep (Kp.acc (Kp.lead 2 b0) q k) (Kp.gb q k)) := rfl
                generalize Kp.acc (Kp.lead 2 b0) q k = rr at hstep ⊢
                generalize Kp.gb q k = x at hstep hx hx1 hx2
                clear hcell
                go_wp2_with fail
                go_round
                case rel => exact ⟨k + 1, by omega, by go_num, by rw [hstep.out]; rfl⟩
                case measure => simp [intOf]; omega
              · have hke : k = 1 := by have := HQL.out; omega
                subst hke
                clear HA3
                go_wp2_with fail
                go_quiet (fail)
                go_wp2
                go_ret2
                exact FirstPost.mk HF3.out (pw_below_drewN (pw_below_drewN HB2.out _) _)
        · clear HN
          by_cases hl2 : (l.length : Int) < 3
          · have hF3 : Kp.firstF l = (0, 0) := by
              rw [HF2.out, if_neg (by decide), if_pos hl2]
            have HF3 := Lib.hid hF3
            clear hF3 HF2
            go_wp2_with fail
            go_ret2
            exact FirstPost.mk HF3.out HB2.out
          · have hF3 : Kp.firstF l = (Kp.acc (Kp.lead 3 b0) ((l.take 3).drop 1) 2, 3) := by
              rw [HF2.out, if_neg (by decide), if_neg hl2, if_neg (by decide)]; rfl
            have hl3 : decide ((l.length : Int) < 3) = false := decide_eq_false hl2
            obtain ⟨A3, hcut, hA3, hC3⟩ := print_mid_of (P := Tryz.prog) eb 0 26 5 .i64 .i64 Tryz.underlying26 hi0 hsz (some ad) c l 1 3 (by omega) (by omega) (by omega) hc
            obtain ⟨q, hq⟩ : ∃ q, (l.take 3).drop 1 = q := ⟨_, rfl⟩
            have hq' : (l.take (Int.toNat 3)).drop (Int.toNat 1) = q := hq
            have hql : q.length = 2 := by rw [← hq, List.length_drop, List.length_take]; omega
            rw [hq'] at hcut hA3 hC3
            have HA3 := Lib.hid (hA3 W2 HR2.out)
            rw [hq] at hF3
            have HF3 := Lib.hid hF3
            have HQL := Lib.hid hql
            have hqL : q.length ≤ 140737488355328 := by omega
            clear hF3 HF2 hq hq' hA3 hql
            go_wp2_with fail
            go_quiet (fail)
            go_wp2
            go_loop [7, 87] (fun v7 v => ∃ k : Nat, k ≤ q.length ∧ v = .int .i64 k ∧ v7 = .int .i32 (Kp.acc (Kp.lead 3 b0) q k)) (fun _ v => q.length - (intOf v).toNat)
            case atStart => exact ⟨0, by omega, rfl, rfl⟩
            case round =>
              obtain ⟨k, hk, rfl, rfl⟩ := hrel
              by_cases hlt2 : k < q.length
              · obtain ⟨ad3, rfl, hcell⟩ := HA3.out.2.2 (by omega)
                have hx : W2.cell? (ad3.add k) = some (.int .u8 (Kp.gb q k)) := hcell k hlt2
                have hx1 := (Kp.gb_range q k).1
                have hx2 := (Kp.gb_range q k).2
                have hstep : Hid (Kp.acc (Kp.lead 3 b0) q (k + 1) = Kp.accStep (Kp.acc (Kp.lead 3 b0) q k) (Kp.gb q k)) := rfl
                generalize Kp.acc (Kp.lead 3 b0) q k = rr at hstep ⊢
                generalize Kp.gb q k = x at hstep hx hx1 hx2
                clear hcell
                go_wp2_with fail
                go_round
                case rel => exact ⟨k + 1, by omega, by go_num, by rw [hstep.out]; rfl⟩
                case measure => simp [intOf]; omega
              · have hke : k = 2 := by have := HQL.out; omega
                subst hke
                clear HA3
                go_wp2_with fail
                go_quiet (fail)
                go_wp2
                go_ret2
                exact FirstPost.mk HF3.out (pw_below_drewN (pw_below_drewN HB2.out _) _)
        · clear HN
          by_cases hl2 : (l.length : Int) < 4
          · have hF3 : Kp.firstF l = (0, 0) := by
              rw [HF2.out, if_neg (by decide), if_pos hl2]
            have HF3 := Lib.hid hF3
            clear hF3 HF2
            go_wp2_with fail
            go_ret2
            exact FirstPost.mk HF3.out HB2.out
          · have hF3 : Kp.firstF l = (Kp.acc (Kp.lead 4 b0) ((l.take 4).drop 1) 3, 4) := by
              rw [HF2.out, if_neg (by decide), if_neg hl2, if_neg (by decide)]; rfl
            have hl3 : decide ((l.length : Int) < 4) = false := decide_eq_false hl2
            obtain ⟨A3, hcut, hA3, hC3⟩ := print_mid_of (P := Tryz.prog) eb 0 26 5 .i64 .i64 Tryz.underlying26 hi0 hsz (some ad) c l 1 4 (by omega) (by omega) (by omega) hc
            obtain ⟨q, hq⟩ : ∃ q, (l.take 4).drop 1 = q := ⟨_, rfl⟩
            have hq' : (l.take (Int.toNat 4)).drop (Int.toNat 1) = q := hq
            have hql : q.length = 3 := by rw [← hq, List.length_drop, List.length_take]; omega
            rw [hq'] at hcut hA3 hC3
            have HA3 := Lib.hid (hA3 W2 HR2.out)
            rw [hq] at hF3
            have HF3 := Lib.hid hF3
            have HQL := Lib.hid hql
            have hqL : q.length ≤ 140737488355328 := by omega
            clear hF3 HF2 hq hq' hA3 hql
            go_wp2_with fail
            go_quiet (fail)
            go_wp2
            go_loop [7, 87] (fun v7 v => ∃ k : Nat, k ≤ q.length ∧ v = .int .i64 k ∧ v7 = .int .i32 (Kp.acc (Kp.lead 4 b0) q k)) (fun _ v => q.length - (intOf v).toNat)
            case atStart => exact ⟨0, by omega, rfl, rfl⟩
            case round =>
              obtain ⟨k, hk, rfl, rfl⟩ := hrel
              by_cases hlt2 : k < q.length
              · obtain ⟨ad3, rfl, hcell⟩ := HA3.out.2.2 (by omega)
                have hx : W2.cell? (ad3.add k) = some (.int .u8 (Kp.gb q k)) := hcell k hlt2
                have hx1 := (Kp.gb_range q k).1
                have hx2 := (Kp.gb_range q k).2
                have hstep : Hid (Kp.acc (Kp.lead 4 b0) q (k + 1) = Kp.accStep (Kp.acc (Kp.lead 4 b0) q k) (Kp.gb q k)) := rfl
                generalize Kp.acc (Kp.lead 4 b0) q k = rr at hstep ⊢
                generalize Kp.gb q k = x at hstep hx hx1 hx2
                clear hcell
                go_wp2_with fail
                go_round
                case rel => exact ⟨k + 1, by omega, by go_num, by rw [hstep.out]; rfl⟩
                case measure => simp [intOf]; omega
              · have hke : k = 3 := by have := HQL.out; omega
                subst hke
                clear HA3
                go_wp2_with fail
                go_quiet (fail)
                go_wp2
                go_ret2
                exact FirstPost.mk HF3.out (pw_below_drewN (pw_below_drewN HB2.out _) _)
end Go.Proofs.YtbjckccgbmimpabGreatDoor
