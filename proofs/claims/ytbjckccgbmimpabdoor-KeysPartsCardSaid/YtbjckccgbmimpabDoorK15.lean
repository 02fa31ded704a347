/- The walk of KeysParts. -/
import Derived.Test.YtbjckccgbmimpabDoorK14
namespace Go.Proofs.YtbjckccgbmimpabDoor
open Go.RowKit Go.Proofs.YtbjckccgbmimpabDoorW.PrintWords Go.Proofs.YtbjckccgbmimpabDoorW.PrintLast Go.Proofs.YtbjckccgbmimpabDoorW.PrintMore

theorem waiting_calls (g : Nat) (A : Option Addr) (n c : Nat) (w : World) (hc : w.cell? ⟨g, 0, none⟩ = some (.slice A n c)) :
    Calls Tryd.prog 8 #[.pointer (some ⟨g, 0, none⟩)] w fun e w' => e = .returned (.int .i64 n) ∧ w = w' := by
  go_enter Tryd.func8, Tryd.ntmps8
  go_wp2
  go_ret
  exact ⟨rfl, rfl⟩

/-- What the loop over the parts keeps. -/
structure Parts (W wr : World) (g1 g2 : Nat) (bs : List UInt8) (va vd : Value) (A3 : Option Addr) (c3 : Nat) (rest : List UInt8) (done : List Key) (wait : List UInt8) : Prop where
  read : RB W A3 rest
  le : rest.length ≤ c3
  dec : Dec wr W.heap.size g1 vd wait
  other : wr.heap[g2]? = some (.cells #[.slice none 0 0] 51 (0, 0))
  all : wr.ownsRow W.heap.size 30 3 va done.length (kcs done)
  keys : ∃ had, had ++ rest = bs ∧ Kp.keysOf had = (done, wait)
  below : Below W.heap.size W wr

theorem own_apart {w : World} {b b' e e' s s' n n' : Nat} {v v' : Value} {xs xs' : List Value} (h : w.ownsRow b e s v n xs) (h' : w.ownsRow b' e' s' v' n' xs') (hne : e ≠ e') : ∀ k, v.ownBlock = some k → ¬ some k = v'.ownBlock := fun k hk hk' => by
  obtain ⟨_, hc⟩ := own_blk h hk
  exact own_ne_blk h' hc (fun e => hne e.symm) k hk'.symm rfl
theorem Parts.step {W wr w2 w3 : World} {g1 g2 c3 c4 : Nat} {bs rest rest' part wait : List UInt8} {va vd va' kv : Value} {A3 A4 : Option Addr} {done : List Key} (h : Parts W wr g1 g2 bs va vd A3 c3 rest done wait) (hg : g1 ≠ g2)
    (hf : Fed wr w2 W.heap.size g1 vd (Kp.keysOf (wait ++ part)).2 kv (Kp.keysOf (wait ++ part)).1) (hw : w2.grownBy w3 va.ownBlock)
    (hown : w3.ownsRow W.heap.size 30 3 va' (done ++ (Kp.keysOf (wait ++ part)).1).length (kcs (done ++ (Kp.keysOf (wait ++ part)).1))) (hbel : Below W.heap.size W w3) (hp : part ++ rest' = rest) (hrb : RB W A4 rest') (hle : rest'.length ≤ c4) :
    ∃ vd', Parts W w3 g1 g2 bs va' vd' A4 c4 rest' (done ++ (Kp.keysOf (wait ++ part)).1) (Kp.keysOf (wait ++ part)).2 := by
  obtain ⟨vd', hdec, _⟩ := hf.dec
  have a1 := own_ne_blk h.all h.dec.blk (by decide)
  have a2 := own_apart h.all h.dec.own (by decide)
  have hva : w2.ownsRow W.heap.size 30 3 va done.length (kcs done) := own_kept h.all hf.kept (fun k hk hS => by
    rcases hS with hS | hS
    · exact a1 k hk hS
    · exact a2 k hk hS)
  have hk : Kept w2 w3 (fun k => some k = va.ownBlock) := Kept.of_grown hw (Kept.refl w2 _) (fun k hk => .inl hk.symm)
  have o2 : w2.heap[g2]? = some (.cells #[.slice none 0 0] 51 (0, 0)) := blk_kept h.other hf.kept (fun hS => by
    rcases hS with hS | hS
    · exact hg hS.symm
    · exact own_ne_blk h.dec.own h.other (by decide) g2 hS.symm rfl)
  obtain ⟨had, h1, h2⟩ := h.keys
  refine ⟨vd', ⟨hrb, hle, hdec.kept hk (fun hS => own_ne_blk hva hdec.blk (by decide) g1 hS.symm rfl) (fun k hk' hS => own_apart hdec.own hva (by decide) k hk' hS),
    blk_kept o2 hk (fun hS => own_ne_blk hva o2 (by decide) g2 hS.symm rfl), hown, ⟨had ++ part, by rw [List.append_assoc, hp, h1], ?_⟩, hbel⟩⟩
  rw [Kp.keysOf_append had.length had part (Nat.le_refl _), h2]

theorem Parts.sizes {W wr : World} {g1 g2 c3 : Nat} {bs rest wait : List UInt8} {va vd : Value} {A3 : Option Addr} {done : List Key} (h : Parts W wr g1 g2 bs va vd A3 c3 rest done wait) :
    done.length + rest.length ≤ bs.length ∧ wait.length + rest.length ≤ bs.length := by
  obtain ⟨had, h1, h2⟩ := h.keys
  have := Kp.keysOf_rest_le had.length had (Nat.le_refl _)
  rw [h2] at this
  rw [← h1, List.length_append]
  simp only at this
  omega
theorem Parts.all_fed {W wr w2 : World} {g1 g2 c3 : Nat} {bs rest wait r : List UInt8} {va vd kv : Value} {A3 : Option Addr} {done ks : List Key} (h : Parts W wr g1 g2 bs va vd A3 c3 rest done wait) (hf : Fed wr w2 W.heap.size g1 vd r kv ks) :
    w2.ownsRow W.heap.size 30 3 va done.length (kcs done) := own_kept h.all hf.kept (fun k hk hS => by
    rcases hS with hS | hS
    · exact own_ne_blk h.all h.dec.blk (by decide) k hk hS
    · exact own_apart h.all h.dec.own (by decide) k hk hS)

theorem Parts.final {W wr : World} {g1 g2 c3 : Nat} {bs wait : List UInt8} {va vd : Value} {A3 : Option Addr} {done : List Key} (h : Parts W wr g1 g2 bs va vd A3 c3 [] done wait) : done = (Kp.keysOf bs).1 ∧ wait = (Kp.keysOf bs).2 := by
  obtain ⟨had, h1, h2⟩ := h.keys
  rw [List.append_nil] at h1
  subst h1
  rw [h2]
  exact ⟨rfl, rfl⟩
/-- Both decoders at the end. -/
structure Both (W w5 : World) (g1 g2 : Nat) (va kv : Value) (c1 c2 : Nat) (B1 B2 : Option Addr) (ks : List Key) (n : Nat) : Prop where
  all : w5.ownsRow W.heap.size 30 3 va ks.length (kcs ks)
  l : ∃ b, w5.ownsRow b 30 3 kv ks.length (kcs ks)
  d1 : w5.cell? ⟨g1, 0, none⟩ = some (.slice B1 n c1)
  d2 : w5.cell? ⟨g2, 0, none⟩ = some (.slice B2 n c2)
  below : Below W.heap.size W w5
theorem Parts.both {W w4 w5 : World} {g1 g2 c3 : Nat} {bs : List UInt8} {va vd kv : Value} {A3 : Option Addr} (h : Parts W w4 g1 g2 bs va vd A3 c3 [] (Kp.keysOf bs).1 (Kp.keysOf bs).2) (hg : g1 ≠ g2)
    (hf : Fed w4 w5 W.heap.size g2 (.slice none 0 0) (Kp.keysOf bs).2 kv (Kp.keysOf bs).1) : ∃ c1 c2 B1 B2, Both W w5 g1 g2 va kv c1 c2 B1 B2 (Kp.keysOf bs).1 (Kp.keysOf bs).2.length := by
  obtain ⟨vd', hd2, _⟩ := hf.dec
  have hn : ∀ k, some k = (Value.slice none 0 0).ownBlock → False := fun k hk => by simp [Value.ownBlock] at hk
  have hd1 := h.dec.kept hf.kept (fun hS => by
    rcases hS with hS | hS
    · exact hg hS
    · exact hn _ hS) (fun k hk hS => by
    rcases hS with rfl | hS
    · exact own_ne_blk h.dec.own h.other (by decide) _ hk rfl
    · exact hn _ hS)
  have hva := own_kept h.all hf.kept (fun k hk hS => by
    rcases hS with rfl | hS
    · exact own_ne_blk h.all h.other (by decide) _ hk rfl
    · exact hn _ hS)
  obtain ⟨B1, c1, e1, _, _⟩ := own_RB hd1.own
  obtain ⟨B2, c2, e2, _, _⟩ := own_RB hd2.own
  subst e1 e2
  exact ⟨c1, c2, B1, B2, hva, ⟨_, hf.keys⟩, blk_cell hd1.blk 0, blk_cell hd2.blk 0, h.below.trans hf.below⟩

theorem Both.drewN {W w5 : World} {g1 g2 : Nat} {va kv : Value} {c1 c2 : Nat} {B1 B2 : Option Addr} {ks : List Key} {n : Nat} (h : Both W w5 g1 g2 va kv c1 c2 B1 B2 ks n) (q : Nat) : Both W (w5.drewN q) g1 g2 va kv c1 c2 B1 B2 ks n :=
  ⟨h.all, h.l, h.d1, h.d2, h.below.trans ⟨rfl, rfl, rfl, Nat.le_refl _, fun _ _ => rfl⟩⟩
theorem Both.keys {W w5 : World} {g1 g2 : Nat} {c1 c2 cL1 cL2 : Nat} {L1 L2 B1 B2 : Option Addr} {ks : List Key} {n : Nat} (h : Both W w5 g1 g2 (.slice L1 ks.length cL1) (.slice L2 ks.length cL2) c1 c2 B1 B2 ks n) (i : Nat) (hi : i < ks.length) : ∃ x y z g g',
    L1 = some ⟨g, 0, none⟩ ∧ L2 = some ⟨g', 0, none⟩ ∧ w5.cell? ⟨g, i * 3, none⟩ = some (.int .i64 x) ∧ w5.cell? ⟨g, i * 3 + 1, none⟩ = some (.int .i32 y) ∧ w5.cell? ⟨g, i * 3 + 2, none⟩ = some (.int .i64 z)
      ∧ w5.cell? ⟨g', i * 3, none⟩ = some (.int .i64 x) ∧ w5.cell? ⟨g', i * 3 + 1, none⟩ = some (.int .i32 y) ∧ w5.cell? ⟨g', i * 3 + 2, none⟩ = some (.int .i64 z) := by
  obtain ⟨g, cap, e1, a1, a2, a3⟩ := own_key h.all i hi
  obtain ⟨_, hl⟩ := h.l
  obtain ⟨g', cap', e2, b1, b2, b3⟩ := own_key hl i hi
  injection e1 with e1; injection e2 with e2
  exact ⟨_, _, _, g, g', e1, e2, a1, a2, a3, b1, b2, b3⟩

set_option maxRecDepth 100000 in
set_option maxHeartbeats 4000000 in
theorem parts_calls (W : World) (bs cuts : List UInt8) (A A2 : Option Addr) (c c2 : Nat) (m : Int) (hr : RB W A bs) (hc : bs.length ≤ c) (hr2 : RB W A2 cuts) (hL : bs.length ≤ 140737488355328) (hL2 : cuts.length ≤ 140737488355328) (hm : W.cell? ⟨3, 0, none⟩ = some (.int .i64 m)) :
    Calls Tryd.prog 3 #[.slice A bs.length c, .slice A2 cuts.length c2] W (KnowsPost W) := by
  have h3 : 3 < W.heap.size := World.block_lt_of_cell? W _ hm
  have HR := Lib.hid hr
  have HR2 := Lib.hid hr2
  have HM := Lib.hid hm
  clear hr hr2 hm
  go_enter Tryd.func3, Tryd.ntmps3
  go_wp2_with fail
  refine (new_calls W).mono ?_
  rintro e w1 ⟨rfl, rfl⟩
  have hd := Dec.new W W.heap.size (Nat.le_refl _)
  have hb1 := below_alloc (Below.refl W.heap.size W) (.cells #[.slice none 0 0] 51)
  have hs1 : (W.alloc (.cells #[.slice none 0 0] 51)).heap.size = W.heap.size + 1 := by simp
  generalize W.alloc (.cells #[.slice none 0 0] 51) = W1 at hd hb1 hs1 ⊢
  have HS1 := Lib.hid hs1
  clear hs1
  go_wp2_with fail
  refine (new_calls W1).mono ?_
  rintro e w1 ⟨rfl, rfl⟩
  have hd2 := hd.kept (S := fun _ => False) ((Kept.refl W1 _).alloc (.cells #[.slice none 0 0] 51)) (fun h => h) (fun _ _ h => h)
  have hb2 := below_alloc hb1 (.cells #[.slice none 0 0] 51)
  have ho2 := heap_alloc_new W1 (.cells #[.slice none 0 0] 51)
  generalize W1.alloc (.cells #[.slice none 0 0] 51) = W2 at hd2 hb2 ho2 ⊢
  rw [HS1.out] at ho2 ⊢
  have HD := Lib.hid hd2
  have HB := Lib.hid hb2
  have HO := Lib.hid ho2
  clear hd hb1 hd2 hb2 ho2
  by_cases hbig : 500 < bs.length ∨ 100 < cuts.length
  · by_cases hb5 : 500 < bs.length
    · have hb5' : decide (500 < (bs.length : Int)) = true := by simp; omega
      clear hbig
      go_wp2_with fail
      refine (knows_calls m W2 (pw_cell_below HB.out HM.out)).mono ?_
      rintro e w3 ⟨rfl, hb3⟩
      have HB3 := Lib.hid (below_step HB.out hb3)
      clear hb3
      go_wp2_with fail
      go_ret
      exact ⟨rfl, HB3.out⟩
    · have hb5' : decide (500 < (bs.length : Int)) = false := by simp; omega
      have hb6' : decide (100 < (cuts.length : Int)) = true := by simp; omega
      clear hbig
      go_wp2_with fail
      refine (knows_calls m W2 (pw_cell_below HB.out HM.out)).mono ?_
      rintro e w3 ⟨rfl, hb3⟩
      have HB3 := Lib.hid (below_step HB.out hb3)
      clear hb3
      go_wp2_with fail
      go_ret
      exact ⟨rfl, HB3.out⟩
  · have hbs : bs.length ≤ 500 := by omega
    have hcs : cuts.length ≤ 100 := by omega
    have hb5' : decide (500 < (bs.length : Int)) = false := by simp; omega
    have hb6' : decide (100 < (cuts.length : Int)) = false := by simp; omega
    clear hbig
    go_wp2_with fail
    go_loopw [7, 8, 9] (fun v7 v8 v9 wr => ∃ (va vd : Value) (A3 : Option Addr) (c3 : Nat) (rest : List UInt8) (done : List Key) (wait : List UInt8) (i : Nat), va = v7 ∧ v8 = .slice A3 rest.length c3 ∧ v9 = .int .i64 i ∧ i ≤ cuts.length
        ∧ Hid (Parts W wr W.heap.size (W.heap.size + 1) bs va vd A3 c3 rest done wait)) (fun _ _ v9 _ => cuts.length - (intOf v9).toNat)
    case atStart => exact ⟨_, .slice none 0 0, A, c, bs, [], [], 0, rfl, rfl, rfl, by omega, ⟨HR.out, hc, HD.out, HO.out, own_nil _ _ _ _, ⟨[], rfl, rfl⟩, HB.out⟩⟩
    case round =>
      obtain ⟨va, vd, A3, c3, rest, done, wait, i, rfl, rfl, rfl, hi, HP⟩ := hrel
      obtain ⟨i0, hi0, _, hsz, _⟩ := info_parts Tryd.info5
      by_cases hlt : i < cuts.length
      · obtain ⟨adc, he, hcell⟩ := RB.at_ (HR2.out.below HP.out.below) i hlt
        subst he
        obtain ⟨x, hx⟩ : ∃ x, Kp.gb cuts i = x := ⟨_, rfl⟩
        have hx1 := (Kp.gb_range cuts i).1
        have hx2 := (Kp.gb_range cuts i).2
        rw [hx] at hcell hx1 hx2
        obtain ⟨n0, rfl⟩ : ∃ n0 : Nat, x = (n0 : Int) := ⟨x.toNat, by omega⟩
        clear hx
        by_cases hbig : rest.length < n0
        · have hbig' : decide ((rest.length : Int) < (n0 : Int)) = true := by simp; omega
          obtain ⟨A4, hcut1, hA4⟩ := print_cut_of (P := Tryd.prog) eb 0 22 5 .i64 Tryd.underlying22 hi0 hsz A3 rest.length c3 rest.length (by omega)
          obtain ⟨hcut2, hA5, hC5⟩ := print_take_of (P := Tryd.prog) eb 0 22 5 .i64 Tryd.underlying22 hi0 hsz A3 c3 rest (rest.length : Int) (by omega) (by omega) HP.out.le
          obtain ⟨part, hpart⟩ : ∃ part, rest.take rest.length = part := ⟨_, rfl⟩
          obtain ⟨rest', hrest'⟩ : ∃ rest', rest.drop rest.length = rest' := ⟨_, rfl⟩
          have hrl : rest.length - rest.length = rest'.length := by rw [← hrest', List.length_drop]
          have hp : part ++ rest' = rest := by rw [← hpart, ← hrest', List.take_append_drop]
          have hr4 := hA4 W rest HP.out.le HP.out.read
          have hr5 := hA5 wr (HP.out.read.below HP.out.below)
          rw [show (rest.length : Int).toNat = rest.length from rfl, hpart] at hcut2 hr5 hC5
          rw [hrl, hrest'] at hr4
          rw [hrl] at hcut1
          have HR4 : Hid (RB W A4 rest') := hr4
          have HR5 : Hid (RB wr A3 part) := hr5
          have HP2 := Lib.hid hp
          have hle4 : rest'.length ≤ c3 - rest.length := by have := HP.out.le; omega
          have hwl := HP.out.sizes
          have hpl : part.length + rest'.length = rest.length := by rw [← hp, List.length_append]
          clear hA4 hA5 hpart hrest' hrl hp hr4 hr5
          go_wp2_with fail
          refine (feed_calls wr W.heap.size W.heap.size vd wait part A3 c3 m HP.out.dec HR5.out hC5 (by omega) h3 HP.out.below.size ((HP.out.below.cell h3).trans HM.out)).mono ?_
          rintro e w2 ⟨kv, rfl, hf⟩
          have HF := Lib.hid hf
          have hks := Kp.keysOf_rest_le _ (wait ++ part) (Nat.le_refl _)
          rw [List.length_append] at hks
          have HB2 := Lib.hid (HP.out.below.trans hf.below)
          have HVA := Lib.hid (HP.out.all_fed hf)
          clear hf
          go_wp2_with (at_builtin; refine append_keys (w0 := W) W.heap.size rfl _ _ rfl va kv done (Kp.keysOf (wait ++ part)).1 rfl rfl HVA.out HF.out.keys HB2.out HB2.out.size (by omega) ?_; intro v4 w4 hown hB4 hg4; obtain ⟨vd', hparts⟩ := HP.out.step (by omega) HF.out hg4 hown hB4 HP2.out HR4.out hle4; have HPs := Lib.hid hparts; clear hown hB4 hg4 hparts)
          go_roundw
          case rel => exact ⟨v4, vd', A4, c3 - rest.length, rest', _, _, i + 1, rfl, rfl, by go_num, by omega, HPs.out⟩
          case measure => simp [intOf]; omega
        · have hbig' : decide ((rest.length : Int) < (n0 : Int)) = false := by simp; omega
          obtain ⟨n, rfl⟩ : ∃ n, n = n0 := ⟨_, rfl⟩
          obtain ⟨A4, hcut1, hA4⟩ := print_cut_of (P := Tryd.prog) eb 0 22 5 .i64 Tryd.underlying22 hi0 hsz A3 rest.length c3 n (by omega)
          obtain ⟨hcut2, hA5, hC5⟩ := print_take_of (P := Tryd.prog) eb 0 22 5 .i64 Tryd.underlying22 hi0 hsz A3 c3 rest (n : Int) (by omega) (by omega) HP.out.le
          obtain ⟨part, hpart⟩ : ∃ part, rest.take n = part := ⟨_, rfl⟩
          obtain ⟨rest', hrest'⟩ : ∃ rest', rest.drop n = rest' := ⟨_, rfl⟩
          have hrl : rest.length - n = rest'.length := by rw [← hrest', List.length_drop]
          have hp : part ++ rest' = rest := by rw [← hpart, ← hrest', List.take_append_drop]
          have hr4 := hA4 W rest HP.out.le HP.out.read
          have hr5 := hA5 wr (HP.out.read.below HP.out.below)
          rw [show (n : Int).toNat = n from rfl, hpart] at hcut2 hr5 hC5
          rw [hrl, hrest'] at hr4
          rw [hrl] at hcut1
          have HR4 : Hid (RB W A4 rest') := hr4
          have HR5 : Hid (RB wr A3 part) := hr5
          have HP2 := Lib.hid hp
          have hle4 : rest'.length ≤ c3 - n := by have := HP.out.le; omega
          have hwl := HP.out.sizes
          have hpl : part.length + rest'.length = rest.length := by rw [← hp, List.length_append]
          clear hA4 hA5 hpart hrest' hrl hp hr4 hr5
          go_wp2_with fail
          refine (feed_calls wr W.heap.size W.heap.size vd wait part A3 c3 m HP.out.dec HR5.out hC5 (by omega) h3 HP.out.below.size ((HP.out.below.cell h3).trans HM.out)).mono ?_
          rintro e w2 ⟨kv, rfl, hf⟩
          have HF := Lib.hid hf
          have hks := Kp.keysOf_rest_le _ (wait ++ part) (Nat.le_refl _)
          rw [List.length_append] at hks
          have HB2 := Lib.hid (HP.out.below.trans hf.below)
          have HVA := Lib.hid (HP.out.all_fed hf)
          clear hf
          go_wp2_with (at_builtin; refine append_keys (w0 := W) W.heap.size rfl _ _ rfl va kv done (Kp.keysOf (wait ++ part)).1 rfl rfl HVA.out HF.out.keys HB2.out HB2.out.size (by omega) ?_; intro v4 w4 hown hB4 hg4; obtain ⟨vd', hparts⟩ := HP.out.step (by omega) HF.out hg4 hown hB4 HP2.out HR4.out hle4; have HPs := Lib.hid hparts; clear hown hB4 hg4 hparts)
          go_roundw
          case rel => exact ⟨v4, vd', A4, c3 - n, rest', _, _, i + 1, rfl, rfl, by go_num, by omega, HPs.out⟩
          case measure => simp [intOf]; omega
      · obtain rfl : i = cuts.length := by omega
        have hwl := HP.out.sizes
        have HP2 := Lib.hid (List.append_nil rest)
        go_wp2_with fail
        refine (feed_calls wr W.heap.size W.heap.size vd wait rest A3 c3 m HP.out.dec (HP.out.read.below HP.out.below) HP.out.le (by omega) h3 HP.out.below.size ((HP.out.below.cell h3).trans HM.out)).mono ?_
        rintro e w2 ⟨kv, rfl, hf⟩
        have HF := Lib.hid hf
        have hks := Kp.keysOf_rest_le _ (wait ++ rest) (Nat.le_refl _)
        rw [List.length_append] at hks
        have HB2 := Lib.hid (HP.out.below.trans hf.below)
        have HVA := Lib.hid (HP.out.all_fed hf)
        clear hf
        have HR4 : Hid (RB W none []) := Lib.hid (ReadsOf.nil eb 0 W)
        go_wp2_with (at_builtin; refine append_keys (w0 := W) W.heap.size rfl _ _ rfl va kv done (Kp.keysOf (wait ++ rest)).1 rfl rfl HVA.out HF.out.keys HB2.out HB2.out.size (by omega) ?_; intro v4 w4 hown hB4 hg4; obtain ⟨vd', hparts⟩ := HP.out.step (c4 := 0) (by omega) HF.out hg4 hown hB4 HP2.out HR4.out (by simp); obtain ⟨hf1, hf2⟩ := hparts.final; rw [hf1, hf2] at hparts; rw [hf1] at hown; have HPs := Lib.hid hparts; have HOw := Lib.hid hown; clear hown hB4 hg4 hparts hf1 hf2)
        refine (feed_calls w4 W.heap.size (W.heap.size + 1) (.slice none 0 0) [] bs A c m ⟨HPs.out.other, by omega, own_nil _ _ _ _⟩ (HR.out.below HPs.out.below) hc (by simp; omega) h3 HPs.out.below.size ((HPs.out.below.cell h3).trans HM.out)).mono ?_
        rintro e w5 ⟨kv2, rfl, hf5⟩
        rw [List.nil_append] at hf5
        obtain ⟨c1, c2, B1, B2, hb⟩ := HPs.out.both (by omega) hf5
        have HBo := Lib.hid hb
        have hk1 := Kp.keysOf_rest_le bs.length bs (Nat.le_refl _)
        generalize (Kp.keysOf bs).1 = ks at *
        generalize (Kp.keysOf bs).2.length = nw at *
        clear HPs HOw hf5 hb
        obtain ⟨L1, cL1, rfl⟩ := own_key_slice HBo.out.all
        obtain ⟨_, hl⟩ := HBo.out.l
        obtain ⟨L2, cL2, rfl⟩ := own_key_slice hl
        clear hl
        go_wp2_with fail
        refine (waiting_calls W.heap.size B1 nw c1 w5 HBo.out.d1).mono ?_
        rintro e w6 ⟨rfl, rfl⟩
        go_wp2_with fail
        refine (waiting_calls (W.heap.size + 1) B2 nw c2 w5 HBo.out.d2).mono ?_
        rintro e w6 ⟨rfl, rfl⟩
        go_wp2_with fail
        go_loopw [12] (fun v12 wr => ∃ i : Nat, v12 = .int .i64 i ∧ i ≤ ks.length
            ∧ Hid (Both W wr W.heap.size (W.heap.size + 1) (Value.slice L1 ks.length cL1) (Value.slice L2 ks.length cL2) c1 c2 B1 B2 ks nw)) (fun v12 _ => ks.length - (intOf v12).toNat)
        case atStart => exact ⟨0, rfl, by omega, HBo⟩
        case round =>
          clear HBo
          obtain ⟨i, rfl, hi, HBo⟩ := hrel
          by_cases hlt : i < ks.length
          · obtain ⟨x, y, z, g, g', e1, e2, a1, a2, a3, b1, b2, b3⟩ := HBo.out.keys i hlt
            subst e1 e2
            have c30 : Tryd.prog.cellsOf 30 = 3 := by kernel_rfl
            go_wp2_with fail
            go_quiet (fail)
            go_wp2_with fail
            refine ⟨⟨i + 1, by go_num, by omega, Lib.hid (HBo.out.drewN _)⟩, ?_⟩
            simp [intOf]; omega
          · obtain rfl : i = ks.length := by omega
            go_wp2_with fail
            refine (knows_calls m wr (pw_cell_below HBo.out.below HM.out)).mono ?_
            rintro e w3 ⟨rfl, hb3⟩
            have HB3 := Lib.hid (below_step HBo.out.below hb3)
            clear hb3
            go_wp2_with fail
            go_ret
            exact ⟨rfl, HB3.out⟩
end Go.Proofs.YtbjckccgbmimpabDoor
