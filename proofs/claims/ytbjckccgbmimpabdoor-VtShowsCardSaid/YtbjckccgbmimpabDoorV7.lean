/- The walk of vt.paint. -/
import Derived.Test.YtbjckccgbmimpabDoorV6
import Derived.Test.YtbjckccgbmimpabDoorK11
namespace Go.Proofs.YtbjckccgbmimpabDoor
open Go.RowKit Go.Proofs.YtbjckccgbmimpabDoorW.PrintWords Go.Proofs.YtbjckccgbmimpabDoorW.PrintLast Go.Proofs.YtbjckccgbmimpabDoorW.PrintMore
/-- The bytes of cells; last: the style that the terminal has. -/
def Kp.paintCells : Int → List Cell → List UInt8
  | _, [] => []
  | last, c :: r => if c.1 = 0 then Kp.paintCells last r else (if c.2 = last then [] else Kp.dress c.2.toNat) ++ Lib.encodeRune c.1 ++ Kp.paintCells c.2 r
/-- The bytes of a row. -/
def Kp.paintRow (n : Nat) (l : List Cell) : List UInt8 := [27, 91] ++ Lib.decDigits (n + 1) ++ [59, 49, 72] ++ Kp.paintCells (-1) l
theorem Kp.paint_step (l : List Cell) (i : Nat) (last : Int) (h : i < l.length) : Kp.paintCells last (l.drop i) = if Kp.gr l i = 0 then Kp.paintCells last (l.drop (i + 1)) else (if Kp.gs l i = last then [] else Kp.dress (Kp.gs l i).toNat) ++ Lib.encodeRune (Kp.gr l i) ++ Kp.paintCells (Kp.gs l i) (l.drop (i + 1)) := by
  rw [List.drop_eq_getElem_cons h]
  have e1 : Kp.gr l i = l[i].1 := by simp [Kp.gr, h]
  have e2 : Kp.gs l i = l[i].2 := by simp [Kp.gs, h]
  rw [e1, e2]
  rfl
theorem Kp.dress_len (s : Nat) : (Kp.dress s).length ≤ 10 := by
  unfold Kp.dress
  split <;> split <;> split <;> simp
theorem Bld.alloc {B b : Nat} {l : List UInt8} {w : World} (h : Bld B b l w) (o : Obj) : Bld B b l (w.alloc o) := by
  rcases h with ⟨hB, v, hb, hown, hne⟩ | ⟨hB, v, hb, hown, hne⟩
  · exact .inl ⟨hB, v, blk_alloc hb o, hown.alloc o, hne⟩
  · exact .inr ⟨hB, v, blk_alloc hb o, hown.alloc o, hne⟩
theorem Bld.below {B b : Nat} {l : List UInt8} {w w' : World} (h : Bld B b l w) (hb : Below w.heap.size w w') : Bld B b l w' := by
  have hk : Kept w w' (fun _ => False) := (Kept.refl w _).below hb
  rcases h with ⟨hB, v, hbk, hown, hne⟩ | ⟨hB, v, hbk, hown, hne⟩
  · exact .inl ⟨hB, v, blk_below hbk hb, own_kept hown hk (fun _ _ h => h), hne⟩
  · exact .inr ⟨hB, v, blk_below hbk hb, own_kept hown hk (fun _ _ h => h), hne⟩
theorem decDigits_len (u : Nat) (h : u < 100) : (Lib.decDigits u).length ≤ 100 := by
  rw [Lib.decDigits]
  split
  · simp
  · rw [Lib.decDigits]
    split
    · simp
    · omega
theorem Bld.new (W : World) : Bld W.heap.size W.heap.size [] (W.alloc (.cells #[.pointer none, .slice none 0 0] 78)) :=
  .inl ⟨Nat.le_refl _, _, heap_alloc_new W _, own_nil _ _ _ _, by simp [Value.ownBlock]⟩
set_option maxRecDepth 100000 in
set_option maxHeartbeats 4000000 in
theorem paint_calls (n : Nat) (A : Option Addr) (l : List Cell) (c : Nat) (W : World) (hn : n < 60) (hr : RC W A l) (hwf : Kp.wf l) (hst : ∀ i, i < l.length → 0 ≤ Kp.gs l i ∧ Kp.gs l i < 8) (hl : l.length ≤ 60) :
    Calls Tryd.prog 24 #[.int .i64 n, .slice A l.length c] W fun e w' => e = .returned (.string ⟨(Kp.paintRow n l).toArray⟩) ∧ Below W.heap.size W w' := by
  have HR := Lib.hid hr
  clear hr
  go_enter Tryd.func24, Tryd.ntmps24
  go_wp2_with fail
  have hbl := Bld.new W
  have hb1 := below_alloc (Below.refl W.heap.size W) (.cells #[.pointer none, .slice none 0 0] 78)
  generalize W.alloc (.cells #[.pointer none, .slice none 0 0] 78) = W1 at hbl hb1 ⊢
  generalize hg : W.heap.size = g at hbl ⊢
  have HBl := Lib.hid hbl
  have HB1 := Lib.hid hb1
  have HGs := Lib.hid hg
  have hs1 : g ≤ W1.heap.size := by rw [← hg]; exact hb1.size
  clear hbl hb1 hg
  have hn1 : ((n + 1 : Nat) : Int) = (n : Int) + 1 := by push_cast; rfl
  obtain ⟨dd, hdd⟩ : ∃ dd, Lib.decDigits (n + 1) = dd := ⟨_, rfl⟩
  have hd : dd.length ≤ 100 := by rw [← hdd]; exact decDigits_len _ (by omega)
  have hit := Tryd.strconv_Itoa_small (n + 1) (by omega) W1
  rw [hn1, hdd] at hit
  refine hit.mono ?_
  rintro e w ⟨rfl, hww⟩
  subst w
  clear hit hn1
  have HDD := Lib.hid hdd
  clear hdd
  have hstr : ((⟨#[27, 91]⟩ : ByteArray) ++ ⟨dd.toArray⟩ ++ ⟨#[59, 49, 72]⟩).data.toList = [27, 91] ++ dd ++ [59, 49, 72] := by simp
  have hsz : ((⟨#[27, 91]⟩ : ByteArray) ++ ⟨dd.toArray⟩ ++ ⟨#[59, 49, 72]⟩).size ≤ 200 := by simp [ByteArray.size_append]; simp [ByteArray.size]; omega
  have HST := Lib.hid hstr
  clear hstr
  go_wp2_with fail
  refine (writeString_calls g g [] _ W1 HBl.out (by simp only [List.length_nil]; omega) hs1).mono ?_
  rintro e W2 ⟨n2, rfl, hbl2, hb2, _⟩
  rw [HST.out] at hbl2
  clear hsz HST
  have hl2 : ([] ++ ([27, 91] ++ dd ++ [59, 49, 72]) : List UInt8).length ≤ 200 := by simp; omega
  obtain ⟨hd0, hhd0⟩ : ∃ x, ([] ++ ([27, 91] ++ dd ++ [59, 49, 72]) : List UInt8) = x := ⟨_, rfl⟩
  rw [hhd0] at hbl2 hl2
  have HHD := Lib.hid hhd0
  have HBl2 := Lib.hid hbl2
  have HB2 := Lib.hid (HB1.out.trans (by rw [HGs.out]; exact hb2))
  have HR0 := Lib.hid HR.out
  clear HR
  have hs2 : g ≤ W2.heap.size := Nat.le_trans hs1 hb2.size
  clear hhd0 hbl2 hb2 HB1 HBl hs1
  go_wp2_with fail
  go_loopw [6, 17] (fun v6 v17 wr => ∃ (i : Nat) (last : Int) (bs : List UInt8), v6 = .int .i64 last ∧ v17 = .int .i64 i ∧ i ≤ l.length ∧ bs.length ≤ 200 + i * 20 ∧ Hid (bs ++ Kp.paintCells last (l.drop i) = hd0 ++ Kp.paintCells (-1) l) ∧ Hid (Bld g g bs wr) ∧ Hid (Below W.heap.size W wr) ∧ g ≤ wr.heap.size) (fun _ v17 _ => l.length - (intOf v17).toNat)
  case atStart => exact ⟨0, -1, hd0, rfl, rfl, by omega, by omega, Lib.hid rfl, HBl2, HB2, hs2⟩
  case round =>
    clear HB2 HBl2 hs2
    obtain ⟨i, last, bs, rfl, rfl, hi, hbs, HV, HBl, HB, hs⟩ := hrel
    by_cases hlt : i < l.length
    · obtain ⟨b, o, hA, r1, r2⟩ := (HR0.out.below HB.out).at_ i hlt
      subst hA
      obtain ⟨hw1, hw2⟩ := hwf i
      have hs8 := hst i hlt
      have hstep := Kp.paint_step l i last hlt
      obtain ⟨x, hx⟩ : ∃ x, Kp.gr l i = x := ⟨_, rfl⟩
      obtain ⟨s, hs'⟩ : ∃ x, Kp.gs l i = x := ⟨_, rfl⟩
      rw [hx, hs'] at hstep
      rw [hx] at r1 hw1
      rw [hs'] at r2 hw2 hs8
      have HSt := Lib.hid hstep
      clear hstep
      by_cases h0 : x = 0
      · have e0 : (x == 0) = true := by simp [h0]
        have HV2 : Hid (bs ++ Kp.paintCells last (l.drop (i + 1)) = hd0 ++ Kp.paintCells (-1) l) := Lib.hid (by rw [← HV.out, HSt.out, if_pos h0])
        clear h0
        go_wp2_with fail
        refine ⟨⟨i + 1, last, bs, rfl, by go_num, by omega, by omega, HV2, Lib.hid (HBl.out.alloc _), Lib.hid (below_alloc HB.out _), by simp; omega⟩, ?_⟩
        simp [intOf]; omega
      · have e0 : (x == 0) = false := by simp [h0]
        by_cases h1 : s = last
        · subst h1
          have e1 : (s != s) = false := by simp
          have e2 : (s == s) = true := by simp
          have HV2 : Hid ((bs ++ Lib.encodeRune x) ++ Kp.paintCells s (l.drop (i + 1)) = hd0 ++ Kp.paintCells (-1) l) := Lib.hid (by rw [← HV.out, HSt.out, if_neg h0, if_pos rfl]; simp)
          clear h0
          have hbl5 := HBl.out.alloc (.cells #[.int .i32 x, .int .i64 s] 57)
          have hb5 := below_alloc HB.out (.cells #[.int .i32 x, .int .i64 s] 57)
          have hs5 : g ≤ (wr.alloc (.cells #[.int .i32 x, .int .i64 s] 57)).heap.size := by simp; omega
          have k0 : (wr.alloc (.cells #[.int .i32 x, .int .i64 s] 57)).cell? ⟨wr.heap.size, 0, none⟩ = some (.int .i32 x) := blk_cell (heap_alloc_new wr _) 0
          go_wp2_with fail
          refine (writeRune_calls g g bs x hw1 _ hbl5 (by omega) hs5).mono ?_
          rintro e W6 ⟨n6, rfl, hbl6, hb6, _⟩
          have hl4 := encodeRune_len x
          have HB6 : Hid (Below W.heap.size W W6) := Lib.hid (hb5.trans (by rw [HGs.out]; exact hb6))
          have HBl6 := Lib.hid hbl6
          have hs6 : g ≤ W6.heap.size := Nat.le_trans hs5 hb6.size
          clear hbl6 hb6 hbl5 hb5 hs5 k0 HB HBl hs
          go_wp2_with fail
          refine ⟨⟨i + 1, s, bs ++ Lib.encodeRune x, rfl, by go_num, by omega, by rw [List.length_append]; omega, HV2, HBl6, HB6, hs6⟩, ?_⟩
          simp [intOf]; omega
        · have e1 : (s != last) = true := by simp [h1]
          have e2 : (s == last) = false := by simp [h1]
          have HV2 : Hid ((bs ++ Kp.dress s.toNat ++ Lib.encodeRune x) ++ Kp.paintCells s (l.drop (i + 1)) = hd0 ++ Kp.paintCells (-1) l) := Lib.hid (by rw [← HV.out, HSt.out, if_neg h0, if_neg h1]; simp)
          clear h0 h1
          have hbl5 := HBl.out.alloc (.cells #[.int .i32 x, .int .i64 s] 57)
          have hb5 := below_alloc HB.out (.cells #[.int .i32 x, .int .i64 s] 57)
          have hs5 : g ≤ (wr.alloc (.cells #[.int .i32 x, .int .i64 s] 57)).heap.size := by simp; omega
          have hc5 := heap_alloc_new wr (.cells #[.int .i32 x, .int .i64 s] 57)
          obtain ⟨sn, hsn⟩ : ∃ sn : Nat, s = sn := ⟨s.toNat, by omega⟩
          subst hsn
          rw [Int.toNat_natCast] at HV2
          go_wp2_with fail
          generalize wr.alloc (.cells #[.int .i32 x, .int .i64 (sn : Int)] 57) = W4 at hbl5 hb5 hs5 hc5 ⊢
          generalize wr.heap.size = cb at hc5 ⊢
          refine (dress_calls sn (by omega) W4).mono ?_
          rintro e W5 ⟨rfl, hb⟩
          have hbl6 := hbl5.below hb
          have hb6 := below_step hb5 hb
          have hs6 : g ≤ W5.heap.size := Nat.le_trans hs5 hb.size
          have hc6 := blk_below hc5 hb
          clear hb hbl5 hb5 hs5 hc5
          have HC6 := Lib.hid hc6
          have HBl6 := Lib.hid hbl6
          have HB6 := Lib.hid hb6
          clear hc6 hbl6 hb6 HB HBl hs
          go_wp2_with fail
          have hdl := Kp.dress_len sn
          refine (writeString_calls g g bs _ W5 HBl6.out (by simp [ByteArray.size]; omega) hs6).mono ?_
          rintro e W7 ⟨n7, rfl, hbl7, hb7, ho7⟩
          have hst7 : (⟨(Kp.dress sn).toArray⟩ : ByteArray).data.toList = Kp.dress sn := by simp
          rw [hst7] at hbl7
          have hcg : cb ≠ g := fun e => by
            subst e
            rcases HBl6.out with ⟨_, v, hbk, _⟩ | ⟨_, v, hbk, _⟩
            · rw [HC6.out] at hbk; injection hbk with hbk; injection hbk with _ ht; exact absurd ht (by decide)
            · rw [HC6.out] at hbk; injection hbk with hbk; injection hbk with _ ht; exact absurd ht (by decide)
          have k0 : W7.cell? ⟨cb, 0, none⟩ = some (.int .i32 x) := blk_cell (ho7 cb _ _ _ HC6.out (by decide) hcg) 0
          have k1 : W7.cell? ⟨cb, 1, none⟩ = some (.int .i64 (sn : Int)) := blk_cell (ho7 cb _ _ _ HC6.out (by decide) hcg) 1
          have HB7 : Hid (Below W.heap.size W W7) := Lib.hid (HB6.out.trans (by rw [HGs.out]; exact hb7))
          have HBl7 := Lib.hid hbl7
          have hs7 : g ≤ W7.heap.size := Nat.le_trans hs6 hb7.size
          clear hbl7 hb7 ho7 HC6 HBl6 HB6 hs6 hst7
          go_wp2_with fail
          refine (writeRune_calls g g _ x hw1 W7 HBl7.out (by rw [List.length_append]; omega) hs7).mono ?_
          rintro e W8 ⟨n8, rfl, hbl8, hb8, _⟩
          have hl4 := encodeRune_len x
          have HB8 : Hid (Below W.heap.size W W8) := Lib.hid (HB7.out.trans (by rw [HGs.out]; exact hb8))
          have HBl8 := Lib.hid hbl8
          have hs8 : g ≤ W8.heap.size := Nat.le_trans hs7 hb8.size
          clear hbl8 hb8 HB7 HBl7 hs7 k0 k1
          go_wp2_with fail
          refine ⟨⟨i + 1, sn, bs ++ Kp.dress sn ++ Lib.encodeRune x, rfl, by go_num, by omega, by simp only [List.length_append]; omega, HV2, HBl8, HB8, hs8⟩, ?_⟩
          simp [intOf]; omega
    · obtain rfl : i = l.length := by omega
      have HE : Hid (bs = hd0 ++ Kp.paintCells (-1) l) := Lib.hid (by have := HV.out; rw [List.drop_length] at this; simpa [Kp.paintCells] using this)
      go_wp2_with fail
      refine (Tryd.Builder_String_any g g bs wr HBl.out hs).mono ?_
      rintro e W8 ⟨rfl, hb8⟩
      have HB8 : Hid (Below W.heap.size W W8) := Lib.hid (HB.out.trans (by rw [HGs.out]; exact hb8))
      clear hb8
      go_wp2_with fail
      go_ret
      refine ⟨?_, HB8.out⟩
      rw [HE.out, ← HHD.out, ← HDD.out]
      simp [Kp.paintRow]
end Go.Proofs.YtbjckccgbmimpabDoor
