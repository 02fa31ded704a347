/- The walk of Feed. -/
import Derived.Test.YtbjckccgbmimpabDoorK11
namespace Go.Proofs.YtbjckccgbmimpabDoor
open Go.RowKit Go.Proofs.YtbjckccgbmimpabDoorW.PrintWords Go.Proofs.YtbjckccgbmimpabDoorW.PrintLast Go.Proofs.YtbjckccgbmimpabDoorW.PrintMore

set_option maxRecDepth 100000 in
set_option maxHeartbeats 4000000 in
theorem feed_calls (W : World) (base g : Nat) (v : Value) (l bs : List UInt8) (A : Option Addr) (c : Nat) (m : Int) (hd : Dec W base g v l) (hr : RB W A bs) (_hc : bs.length ≤ c) (hL : l.length + bs.length ≤ 100000)
    (h3 : 3 < base) (hb : base ≤ W.heap.size) (hm : W.cell? ⟨3, 0, none⟩ = some (.int .i64 m)) :
    Calls Tryd.prog 7 #[.pointer (some ⟨g, 0, none⟩), .slice A bs.length c] W (FeedPost W base g v (l ++ bs)) := by
  have hcv : W.cell? ⟨g, 0, none⟩ = some v := (blk_cell hd.blk 0).trans rfl
  have HR := Lib.hid hr
  have HD := Lib.hid hd
  have HM := Lib.hid hm
  clear hr hd hm
  go_enter Tryd.func7, Tryd.ntmps7
  go_wp2_with (at_builtin; refine print_append_row (w0 := W) base rfl _ _ 22 5 .u8 1 rfl Tryd.underlying22 Tryd.info5 (by decide) v (bz l) (bz bs) A bs.length c rfl rfl HD.out.own HR.out.ints (Below.refl _ _) hb (by rw [bz_length]; omega) ?_; intro v1 w1 hown hB1 hg hat; have HO1 := Lib.hid hown; have HB1 := Lib.hid hB1; have HG1 := Lib.hid hg; have HA1 := Lib.hid hat; clear hown hB1 hg hat)
  obtain ⟨all, hall⟩ : ∃ all, l ++ bs = all := ⟨_, rfl⟩
  have hallL : all.length ≤ 100000 := by rw [← hall, List.length_append]; exact hL
  have ho : w1.ownsRow base 5 1 v1 (bz all).length (nums .u8 (bz all)) := by rw [← hall, bz_append]; exact HO1.out
  obtain ⟨A1, c1, rfl, hc1, hrb⟩ := own_RB ho
  have HRB := Lib.hid hrb
  have hg1 := blk_grown HD.out.blk HG1.out HD.out.ne
  have HGB := Lib.hid hg1
  have HM1 : Hid (w1.cell? ⟨3, 0, none⟩ = some (.int .i64 m)) := (HB1.out.cell h3).trans HM.out
  have hW1 : 3 < w1.heap.size := Nat.lt_of_lt_of_le h3 (Nat.le_trans hb HB1.out.size)
  rw [hall]
  clear ho hrb hg1 HO1 hcv
  go_loopw [5, 6] (fun v5 v6 wr => ∃ (vo : Value) (A2 : Option Addr) (c2 : Nat) (done : List Key) (rest : List UInt8), vo = v5 ∧ v6 = .slice A2 rest.length c2 ∧ rest.length ≤ c2 ∧ done.length + rest.length ≤ 100000 ∧ Hid (RB w1 A2 rest)
      ∧ Hid (Kp.keysOf all = (done ++ (Kp.keysOf rest).1, (Kp.keysOf rest).2)) ∧ Hid (wr.ownsRow w1.heap.size 30 3 vo done.length (kcs done)) ∧ Hid (Below w1.heap.size w1 wr)) (fun _ v6 _ => lenOfV v6)
  case atStart => exact ⟨_, A1, c1, [], all, rfl, rfl, hc1, by simpa using hallL, HRB.out, by show _ = _; simp, own_nil w1 w1.heap.size 30 3, Below.refl _ _⟩
  case round =>
    obtain ⟨vo, A2, c2, done, rest, rfl, rfl, hc2, hlen, HR2, HK, HO, HB⟩ := hrel
    have HRr := Lib.hid (HR2.out.below HB.out)
    have HMr : Hid (wr.cell? ⟨3, 0, none⟩ = some (.int .i64 m)) := (HB.out.cell hW1).trans HM1.out
    by_cases hr0 : 0 < rest.length
    · go_wp2_with fail
      refine (key_calls A2 c2 rest m _ HRr.out hc2 (by omega) hr0 HMr.out).mono ?_
      rintro e w2 ⟨rfl, hb2⟩
      have HB2 := Lib.hid (below_then HB.out HB.out.size hb2)
      have HO2 := Lib.hid (pw_own_below HO.out hb2)
      have hkn := Kp.keyF_le rest hr0
      obtain ⟨⟨n, k1, k2, k3⟩, hs⟩ : ∃ y, Kp.keyF rest = y := ⟨_, rfl⟩
      rw [hs] at hkn ⊢
      have HS := Lib.hid hs
      have hn1 : 0 ≤ n := hkn.1
      have hn2 : n ≤ rest.length := hkn.2
      clear hs hb2 hkn
      by_cases hn0 : n = 0
      · subst hn0
        have hkr := Kp.keysOf_stop rest (.inr (by rw [HS.out]))
        have hK3 : Kp.keysOf all = (done, rest) := by rw [HK.out, hkr]; simp
        have HK3 := Lib.hid hK3
        have hsz1 := HB1.out.size
        have hsz2 := HB2.out.size
        have HRr2 := Lib.hid (HR2.out.below HB2.out)
        clear hkr hK3 HK
        go_wp2_with (at_builtin; refine print_append_row (w0 := (w2.alloc (.cells #[.int .i64 0, .int .i64 k1, .int .i32 k2, .int .i64 k3] 53)).alloc (.cells #[] 5)) W.heap.size rfl _ _ 22 5 .u8 1 rfl Tryd.underlying22 Tryd.info5 (by decide) (.slice (some ⟨w2.heap.size + 1, 0, none⟩) 0 0) [] (bz rest) A2 rest.length c2 rfl rfl (own_empty (by first | omega | (simp; omega)) (by simp)) (RB.ints ((HRr2.out.below (below_alloc (Below.refl _ _) _)).below (below_alloc (Below.refl _ _) _))) (Below.refl _ _) (by first | omega | (simp; omega)) (by first | omega | (simp; omega)) ?_; intro v5 w5 hown _ hg hat; obtain ⟨A5, c5, rfl⟩ := own_slice hown; obtain ⟨Hc, Hf, HFed⟩ := fed_done' (by simp) HD.out HG1.out HB1.out hb (HB2.out.alloc HB2.out.size _) (HO2.out.alloc _) hg hown hat; have hcg := Hc.out; have hfg := Hf.out; clear hown hg hat)
        go_ret
        exact FeedPost.mk (by rw [hall, HK3.out]; exact HFed.out)
      · have hn0' : (n == 0) = false := beq_eq_false_iff_ne.2 hn0
        obtain ⟨i0, hi0, _, hsz, _⟩ := info_parts Tryd.info5
        obtain ⟨j, rfl⟩ : ∃ j : Nat, n = (j : Int) := ⟨n.toNat, by omega⟩
        obtain ⟨A3, hcut, hA3⟩ := print_cut_of (P := Tryd.prog) eb 0 22 5 .i64 Tryd.underlying22 hi0 hsz A2 rest.length c2 j (by omega)
        obtain ⟨q, hq⟩ : ∃ q, rest.drop j = q := ⟨_, rfl⟩
        have hql : rest.length - j = q.length := by rw [← hq, List.length_drop]
        have hr3 := hA3 w1 rest hc2 HR2.out
        rw [hq] at hr3
        rw [hql] at hcut hr3
        have HR3 : Hid (RB w1 A3 q) := hr3
        have hK2 : Kp.keysOf all = ((done ++ (if k1 ≠ 0 then [(k1, k2, k3)] else [])) ++ (Kp.keysOf q).1, (Kp.keysOf q).2) := by
          rw [HK.out, Kp.keysOf_step rest hr0 (by rw [HS.out]; exact hn0), HS.out]
          simp only [Int.toNat_natCast, hq, List.append_assoc]
        have HK2 := Lib.hid hK2
        have hqc : q.length ≤ c2 - j := by omega
        have hq1 : q.length + 1 ≤ rest.length := by omega
        clear hA3 hr3 hq hK2 hn0 HK
        by_cases hk1 : k1 = 0
        · have hk1' : (k1 == 0) = true := beq_iff_eq.2 hk1
          have hK3 : Kp.keysOf all = (done ++ (Kp.keysOf q).1, (Kp.keysOf q).2) := by
            rw [HK2.out, if_neg (fun h => h hk1)]; simp
          have HK3 := Lib.hid hK3
          clear hK3 hk1
          go_wp2_with fail
          go_roundw
          case rel => exact ⟨vo, A3, c2 - j, done, q, rfl, rfl, hqc, by omega, HR3.out, HK3.out, HO2.out.alloc _, HB2.out.alloc HB2.out.size _⟩
          case measure => simp [lenOfV]; omega
        · have hk1' : (k1 == 0) = false := beq_eq_false_iff_ne.2 hk1
          have hK3 : Kp.keysOf all = ((done ++ [(k1, k2, k3)]) ++ (Kp.keysOf q).1, (Kp.keysOf q).2) := by
            rw [HK2.out, if_pos hk1]
          have HK3 := Lib.hid hK3
          clear hK3 hk1
          go_wp2_with (at_builtin; refine append_key (w0 := w1) w1.heap.size rfl _ _ rfl vo done (k1, k2, k3) _ rfl rfl (by simp) (HO2.out.alloc _) (HB2.out.alloc HB2.out.size _) (by simp; have := HB2.out.size; omega) (by omega) ?_; intro v4 w4 hown hB4 hg4; have HO4 := Lib.hid hown; have HB4 := Lib.hid hB4; have hst := blk_grown (heap_alloc_new w2 _) hg4 (fun h => by have := own_lt HO2.out _ h.symm; omega); have hcn : w4.cell? ⟨w2.heap.size, 0, none⟩ = some (.int .i64 j) := (blk_cell hst 0).trans rfl; clear hown hB4 hg4 hst)
          go_roundw
          case rel => exact ⟨v4, A3, c2 - j, done ++ [(k1, k2, k3)], q, rfl, rfl, hqc, by simp; omega, HR3.out, HK3.out, HO4.out, HB4.out⟩
          case measure => simp [lenOfV]; omega
    · have hkr := Kp.keysOf_stop rest (.inl (by omega))
      have hK3 : Kp.keysOf all = (done, rest) := by rw [HK.out, hkr]; simp
      have HK3 := Lib.hid hK3
      have hsz1 := HB1.out.size
      have hsz2 := HB.out.size
      have hr00 : rest.length = 0 := by omega
      clear hkr hK3 HK
      go_wp2_with (at_builtin; refine print_append_row (w0 := wr.alloc (.cells #[] 5)) W.heap.size rfl _ _ 22 5 .u8 1 rfl Tryd.underlying22 Tryd.info5 (by decide) (.slice (some ⟨wr.heap.size, 0, none⟩) 0 0) [] (bz rest) A2 rest.length c2 rfl rfl (own_empty (by first | omega | (simp; omega)) (by simp)) (RB.ints (HRr.out.below (below_alloc (Below.refl _ _) _))) (Below.refl _ _) (by first | omega | (simp; omega)) (by first | omega | (simp; omega)) ?_; intro v5 w5 hown _ hg hat; obtain ⟨A5, c5, rfl⟩ := own_slice hown; obtain ⟨Hc, Hf, HFed⟩ := fed_done' (by simp) HD.out HG1.out HB1.out hb HB.out HO.out hg hown hat; have hcg := Hc.out; have hfg := Hf.out; clear hown hg hat)
      go_ret
      exact FeedPost.mk (by rw [hall, HK3.out]; exact HFed.out)
end Go.Proofs.YtbjckccgbmimpabDoor
