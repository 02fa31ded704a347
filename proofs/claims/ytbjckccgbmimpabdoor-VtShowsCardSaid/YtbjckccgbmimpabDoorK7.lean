/- The walk of keys.told. -/
import Derived.Test.YtbjckccgbmimpabDoorK6
import Derived.Lib.Hide
import Derived.Outline
import Derived.Laws.NewBlocks
namespace Go.Proofs.YtbjckccgbmimpabDoor
open Go.RowKit Go.Proofs.YtbjckccgbmimpabDoorW.PrintWords Go.Proofs.YtbjckccgbmimpabDoorW.PrintLast Go.Proofs.YtbjckccgbmimpabDoorW.PrintMore

abbrev keyCells (k : Int × Int × Int) : Array Value := #[.int .i64 k.1, .int .i32 k.2.1, .int .i64 k.2.2]
def ToldPost (s : ByteArray) (e : Int) (w : World) (en : Ending) (w' : World) : Prop := en = .returned (.agg (keyCells (Kp.toldF s e))) ∧ Below w.heap.size w w'
theorem ToldPost.mk {s : ByteArray} {e : Int} {w w' : World} {x y z : Int} (h : Kp.toldF s e = (x, y, z)) (hb : Below w.heap.size w w') : ToldPost s e w (.returned (.agg #[.int .i64 x, .int .i32 y, .int .i64 z])) w' := by
  unfold ToldPost; rw [h]; exact ⟨rfl, hb⟩
theorem Tryd.info3 : (Tryd.prog.info? 3).map (fun i => (i.zero, i.size, i.bytes)) = some (some (.int .i64 0), 1, 8) := by kernel_rfl
theorem zero3 (w : World) : (zeroValue 3).run Tryd.prog w = .ok (.int .i64 0) w := by kernel_rfl

theorem alloc_size (W : World) (o : Obj) : (W.alloc o).heap.size = W.heap.size + 1 := by simp
theorem frozen_alloc_past {W : World} (o : Obj) (b i : Nat) (h : b < W.heap.size) : (W.alloc o).frozen? ⟨b, i, none⟩ = W.frozen? ⟨b, i, none⟩ :=
  (below_alloc (Below.refl W.heap.size W) o).frozen (p := ⟨b, i, none⟩) h
structure Looked (w W3 : World) (g n : Nat) (l0 l1 : Int) : Prop where
  d0 : W3.cell? ⟨g, 0, none⟩ = some (.int .i64 l0)
  d1 : 1 < n → W3.cell? ⟨g, 1, none⟩ = some (.int .i64 l1)
  b : Below w.heap.size w W3
  r : W3.heap[w.heap.size]? = some (.cells #[Value.int IntKind.i64 0, Value.int IntKind.i32 0, Value.int IntKind.i64 0] 30 (0, 0))
  gl : g < W3.heap.size
theorem Looked.next {w wr W3 : World} {g n : Nat} {l0 l1 : Int} (h : Looked w wr g n l0 l1) {o : Obj} (hW3 : wr.alloc o = W3) : Looked w W3 g n l0 l1 := by
  subst hW3
  exact ⟨by rw [World.cell?_alloc_past _ _ _ h.gl]; exact h.d0, fun k => by rw [World.cell?_alloc_past _ _ _ h.gl]; exact h.d1 k, below_alloc h.b _, blk_alloc h.r _, by rw [alloc_size]; have := h.gl; omega⟩
theorem Looked.rules {w W3 : World} {g n : Nat} {l0 l1 : Int} (h : Looked w W3 g n l0 l1) :
    W3.cell? ⟨g, 0, none⟩ = some (.int .i64 l0) ∧ (∀ (o1 : Obj) (i : Nat), (W3.alloc o1).cell? ⟨g, i, none⟩ = W3.cell? ⟨g, i, none⟩) ∧ (∀ (o1 o2 : Obj) (i : Nat), ((W3.alloc o1).alloc o2).cell? ⟨g, i, none⟩ = W3.cell? ⟨g, i, none⟩)
    ∧ (∀ (o1 : Obj) (i : Nat), (W3.alloc o1).cell? ⟨w.heap.size, i, none⟩ = W3.cell? ⟨w.heap.size, i, none⟩) ∧ (∀ (o1 o2 : Obj) (i : Nat), ((W3.alloc o1).alloc o2).cell? ⟨w.heap.size, i, none⟩ = W3.cell? ⟨w.heap.size, i, none⟩)
    ∧ (∀ (o1 : Obj) (i : Nat), (W3.alloc o1).frozen? ⟨w.heap.size, i, none⟩ = false) ∧ (∀ (o1 o2 : Obj) (i : Nat), ((W3.alloc o1).alloc o2).frozen? ⟨w.heap.size, i, none⟩ = false)
    ∧ W3.cell? ⟨w.heap.size, 0, none⟩ = some (.int .i64 0) ∧ W3.cell? ⟨w.heap.size, 1, none⟩ = some (.int .i32 0) ∧ W3.cell? ⟨w.heap.size, 2, none⟩ = some (.int .i64 0)
    ∧ ¬ w.heap.size = W3.heap.size ∧ ¬ W3.heap.size = w.heap.size := by
  have hw := blk_lt h.r
  have h2 : ∀ (b : Nat), b < W3.heap.size → ∀ (o1 o2 : Obj) (i : Nat), ((W3.alloc o1).alloc o2).cell? ⟨b, i, none⟩ = W3.cell? ⟨b, i, none⟩ := fun b hb o1 o2 i => by
    rw [World.cell?_alloc_past _ _ _ (by rw [alloc_size]; omega), World.cell?_alloc_past _ _ _ hb]
  refine ⟨h.d0, fun _ _ => World.cell?_alloc_past _ _ _ h.gl, h2 g h.gl, fun _ _ => World.cell?_alloc_past _ _ _ hw, h2 _ hw, fun _ i => ?_, fun _ _ i => ?_, (blk_cell h.r 0).trans rfl, (blk_cell h.r 1).trans rfl, (blk_cell h.r 2).trans rfl, by omega, by omega⟩
  · rw [frozen_alloc_past _ _ _ hw]; exact blk_frozen h.r i
  · rw [frozen_alloc_past _ _ _ (by rw [alloc_size]; omega), frozen_alloc_past _ _ _ hw]; exact blk_frozen h.r i

set_option maxRecDepth 100000 in
set_option maxHeartbeats 4000000 in
theorem told_calls (s : ByteArray) (e m : Int) (w : World) (hs : s.size ≤ 1000) (hm : w.cell? ⟨3, 0, none⟩ = some (.int .i64 m)) :
    Calls Tryd.prog 40 #[.string s, .int .u8 e] w (ToldPost s e w) := by
  have h3 : 3 < w.heap.size := World.block_lt_of_cell? w _ hm
  obtain ⟨ps, hps⟩ : ∃ ps, Kp.pcs s = ps := ⟨_, rfl⟩
  have hp1 : 1 ≤ ps.length := by rw [← hps]; exact Kp.pcs_pos s
  have hp2 : ps.length ≤ 1002 := by have := Kp.pcs_le s; rw [hps] at this; omega
  have hp3 : ∀ p ∈ ps, p.size ≤ 1000 := fun p hp => Nat.le_trans (Kp.pcs_size s p (by rw [hps]; exact hp)) hs
  have HP3 := Lib.hid hp3
  have HPS := Lib.hid hps
  have HM := Lib.hid hm
  clear hp3 hps hm
  go_enter Tryd.func40, Tryd.ntmps40
  go_wp2_with fail
  refine (split_calls s m _ (by omega) (pw_cell_below (below_alloc (Below.refl _ _) _) HM.out)).mono ?_
  rintro en w1 ⟨rfl, rfl⟩
  rw [HPS.out]
  go_wp2_with fail
  obtain ⟨W0, hW0⟩ : ∃ W0, (w.alloc (Obj.cells #[Value.int IntKind.i64 0, Value.int IntKind.i32 0, Value.int IntKind.i64 0] 30)).alloc (Obj.cells (List.map Value.string ps).toArray 9) = W0 := ⟨_, rfl⟩
  have hsz : W0.heap.size = w.heap.size + 2 := by rw [← hW0]; simp
  have hres : W0.heap[w.heap.size]? = some (.cells #[Value.int IntKind.i64 0, Value.int IntKind.i32 0, Value.int IntKind.i64 0] 30 (0, 0)) := by
    rw [← hW0]; exact blk_alloc (heap_alloc_new w _) _
  have hpb : W0.heap[w.heap.size + 1]? = some (.cells (List.map Value.string ps).toArray 9 (0, 0)) := by
    have := heap_alloc_new (w.alloc (Obj.cells #[Value.int IntKind.i64 0, Value.int IntKind.i32 0, Value.int IntKind.i64 0] 30)) (Obj.cells (List.map Value.string ps).toArray 9)
    rw [← hW0]; simpa using this
  have hB0 : Below w.heap.size w W0 := by rw [← hW0]; exact below_alloc (below_alloc (Below.refl _ _) _) _
  rw [hW0]
  have HSZ := Lib.hid hsz
  have HRES := Lib.hid hres
  have HPB := Lib.hid hpb
  have HB0 := Lib.hid hB0
  clear hW0 hsz hres hpb hB0
  go_loopw [6, 16] (fun v6 v16 wr => ∃ (v : Value) (k : Nat), v = v6 ∧ k ≤ ps.length ∧ v16 = .int .i64 k ∧ Hid (wr.ownsRow W0.heap.size 3 1 v k (nums .i64 ((Kp.nsOf ps).take k))) ∧ Hid (Below W0.heap.size W0 wr) ∧ Hid (s.toList.isEmpty = false → ∀ p ∈ ps.take k, (Kp.numF p.data.toList).2 = true)) (fun _ v16 _ => ps.length - (intOf v16).toNat)
  case atStart => exact ⟨_, 0, rfl, by omega, rfl, own_nil W0 W0.heap.size 3 1, Below.refl _ _, fun _ p hp => by simp at hp⟩
  case round =>
    obtain ⟨v6, k, rfl, hk, rfl, HO, HB, HQ⟩ := hrel
    by_cases hlt : k < ps.length
    · have hcell : wr.cell? ⟨w.heap.size + 1, k, none⟩ = some (.string ps[k]) := by
        have h1 : wr.heap[w.heap.size + 1]? = some (.cells (List.map Value.string ps).toArray 9 (0, 0)) := (HB.out.block _ (by have := HSZ.out; omega)).trans HPB.out
        rw [blk_cell h1]; simp [hlt]
      obtain ⟨p, hp⟩ : ∃ p, ps[k] = p := ⟨_, rfl⟩
      rw [hp] at hcell
      have hps1 : p.size ≤ 1000 := HP3.out p (by rw [← hp]; exact List.getElem_mem hlt)
      have HPk := Lib.hid hp
      clear hp
      go_wp2_with fail
      refine (number_calls p _ (by omega)).mono ?_
      rintro en w2 ⟨rfl, hb2⟩
      obtain ⟨⟨nv, okb⟩, hn⟩ : ∃ x, Kp.numF p.data.toList = x := ⟨_, rfl⟩
      rw [hn]
      have HN := Lib.hid hn
      clear hn
      have HO2 := Lib.hid (pw_own_below HO.out hb2)
      have HB2 := Lib.hid (below_then HB.out HB.out.size hb2)
      clear hb2
      have HL : Hid (((Kp.nsOf ps).take k).length = k) := by show _ = _; rw [List.length_take]; simp [Kp.nsOf]; omega
      have HS : Hid ((Kp.nsOf ps).take (k + 1) = (Kp.nsOf ps).take k ++ [nv]) := by
        show _ = _
        rw [List.take_add_one]
        have : (Kp.nsOf ps)[k]? = some nv := by simp [Kp.nsOf, hlt, HPk.out, HN.out]
        rw [this]; rfl
      have HO3 : Hid (w2.ownsRow W0.heap.size 3 1 v6 ((Kp.nsOf ps).take k).length (nums .i64 ((Kp.nsOf ps).take k))) := by show World.ownsRow _ _ _ _ _ _ _; rw [HL.out]; exact HO2.out
      clear HO HO2 HB
      have hstep : (s.toList.isEmpty = false → okb = true) → Hid (s.toList.isEmpty = false → ∀ p ∈ ps.take (k + 1), (Kp.numF p.data.toList).2 = true) := fun h1 h2 q hq => by
        rw [List.take_add_one, List.getElem?_eq_getElem hlt, HPk.out] at hq
        rcases List.mem_append.1 hq with hq | hq
        · exact HQ.out h2 q hq
        · have : q = p := by simpa using hq
          subst this
          rw [HN.out]; exact h1 h2
      have HStep := Lib.hid hstep
      clear hstep
      by_cases hgo : okb = true ∨ s.toList.isEmpty = true
      · have hnx : Hid (s.toList.isEmpty = false → ∀ p ∈ ps.take (k + 1), (Kp.numF p.data.toList).2 = true) := HStep.out (fun h => by
          rcases hgo with h1 | h1
          · exact h1
          · rw [h1] at h; cases h)
        clear HStep HQ
        rcases hgo with rfl | hgo
        · go_wp2_with (at_builtin; refine print_append_num (w0 := W0) W0.heap.size rfl _ _ 101 3 .i64 8 rfl Tryd.underlying101 Tryd.info3 (by decide) v6 _ _ rfl rfl HO3.out HB2.out HB2.out.size (by rw [HL.out]; omega) ?_; intro v1 w3 hown hB3 _ _; have HO4 := Lib.hid hown; have HB4 := Lib.hid hB3; clear hown hB3)
          go_roundw
          case rel => exact ⟨v1, k + 1, rfl, by omega, by go_num, by
            show World.ownsRow _ _ _ _ _ _ _
            rw [HS.out]; have h := HO4.out; rwa [List.length_append, HL.out] at h, HB4.out, hnx.out⟩
          case measure => simp [intOf]; omega
        · cases okb <;> go_wp2_with (at_builtin; refine print_append_num (w0 := W0) W0.heap.size rfl _ _ 101 3 .i64 8 rfl Tryd.underlying101 Tryd.info3 (by decide) v6 _ _ rfl rfl HO3.out HB2.out HB2.out.size (by rw [HL.out]; omega) ?_; intro v1 w3 hown hB3 _ _; have HO4 := Lib.hid hown; have HB4 := Lib.hid hB3; clear hown hB3)
          all_goals
            go_roundw
            case rel => exact ⟨v1, k + 1, rfl, by omega, by go_num, by
            show World.ownsRow _ _ _ _ _ _ _
            rw [HS.out]; have h := HO4.out; rwa [List.length_append, HL.out] at h, HB4.out, hnx.out⟩
            case measure => simp [intOf]; omega
      · have ho : okb = false := by cases okb <;> simp_all
        have he : s.toList.isEmpty = false := by cases h : s.toList.isEmpty <;> simp_all
        subst ho
        have hf : Kp.toldF s e = (0, 0, 0) := by
          unfold Kp.toldF
          rw [if_pos]
          refine ⟨he, p, ?_, by rw [HN.out]⟩
          rw [HPS.out, ← HPk.out]; exact List.getElem_mem hlt
        have HF := Lib.hid hf
        clear hf
        have hr2 := blk_below HRES.out HB2.out
        have hc0 : w2.cell? ⟨w.heap.size, 0, none⟩ = some (.int .i64 0) := (blk_cell hr2 0).trans rfl
        have hc1 : w2.cell? ⟨w.heap.size, 1, none⟩ = some (.int .i32 0) := (blk_cell hr2 1).trans rfl
        have hc2 : w2.cell? ⟨w.heap.size, 2, none⟩ = some (.int .i64 0) := (blk_cell hr2 2).trans rfl
        have hf0 := blk_frozen hr2 0
        have hf1 := blk_frozen hr2 1
        have hf2 := blk_frozen hr2 2
        clear hr2
        go_wp2_with fail
        refine bodyPost_ret ?_ rfl (ToldPost.mk HF.out ?_)
        · simp [results, Tryd.results40, go_sem, hc0, hc1, hc2]
        · exact ((((HB0.out.trans (HB2.out.mono (by have := HSZ.out; omega))).setCell (Nat.le_refl _) _).setCell (Nat.le_refl _) _).setCell (Nat.le_refl _) _)
    · obtain rfl : k = ps.length := by omega
      have hF : Kp.toldF s e = Kp.toldN (Kp.nsOf ps) e := by
        unfold Kp.toldF
        rw [HPS.out, if_neg]
        rintro ⟨h1, p, hp, h2⟩
        have := HQ.out h1 p (by rw [List.take_length]; exact hp)
        rw [h2] at this; cases this
      have HF := Lib.hid hF
      have hnl : (Kp.nsOf ps).length = ps.length := by simp [Kp.nsOf]
      have HO1 : wr.ownsRow W0.heap.size 3 1 v6 ps.length (nums .i64 (Kp.nsOf ps)) := by
        have := HO.out
        rwa [← hnl, List.take_length, hnl] at this
      obtain ⟨g, c, rfl, _, _⟩ := HO1.form (by omega)
      have hgl : g < wr.heap.size := own_lt HO1 g rfl
      obtain ⟨ns, hns⟩ : ∃ ns, Kp.nsOf ps = ns := ⟨_, rfl⟩
      rw [hns] at hnl HO1
      have hcell : ∀ j : Nat, j < ps.length → wr.cell? ⟨g, j, none⟩ = some (.int .i64 (ns.getD j 0)) := fun j hj => by
        have := (own_at HO1 j (by omega) (by omega)).1
        simpa [rd] using this
      have hc0 : wr.cell? ⟨g, 0, none⟩ = some (.int .i64 (ns.getD 0 0)) := hcell 0 (by omega)
      have hc1 : 1 < ps.length → wr.cell? ⟨g, 1, none⟩ = some (.int .i64 (ns.getD 1 0)) := fun h => hcell 1 h
      have hg1 : ¬ g = wr.heap.size + 1 := by omega
      have hg2 : ¬ wr.heap.size + 1 = g := by omega
      rw [hns] at HF
      obtain ⟨l0, hl0⟩ : ∃ x, ns.getD 0 0 = x := ⟨_, rfl⟩
      obtain ⟨l1, hl1⟩ : ∃ x, ns.getD 1 0 = x := ⟨_, rfl⟩
      rw [hl0] at hc0
      rw [hl1] at hc1
      have HL0 := Lib.hid hl0
      have HL1 := Lib.hid hl1
      have HNL := Lib.hid hnl
      have HC1 := Lib.hid hc1
      clear hl0 hl1 hnl hns hcell HO HO1 hF HQ hc1 hk
      have HBw : Below w.heap.size w wr := HB0.out.trans (HB.out.mono (by have := HSZ.out; omega))
      have HLk := Lib.hid (show Looked w wr g ps.length l0 l1 from ⟨hc0, HC1.out, HBw, blk_below HRES.out HB.out, hgl⟩)
      have hmm := @run_makeMap Tryd.prog
      clear hg1 hg2 HRES HPB HB0 HB HSZ HPS HP3 HBw hc0 HC1 hgl
      have hmods : Kp.modsF ns = if (1 : Int) < (ps.length : Int) ∧ 2 ≤ l1 ∧ l1 ≤ 8 then l1 - 1 else 0 := by
        unfold Kp.modsF
        rw [HL1.out, HNL.out]
        by_cases hc : (1 : Int) < (ps.length : Int) ∧ 2 ≤ l1 ∧ l1 ≤ 8
        · rw [if_pos hc, if_pos ⟨by omega, hc.2⟩]
        · rw [if_neg hc, if_neg (fun h => hc ⟨by omega, h.2⟩)]
      by_cases he1 : e = 126
      · subst he1
        obtain ⟨kd, hkd⟩ : ∃ x, tabV Kp.tabB l0 = x := ⟨_, rfl⟩
        have key : (kd = 0 ∧ Kp.toldF s 126 = (0, 0, 0)) ∨ (kd ≠ 0 ∧ ((1 : Int) < (ps.length : Int) ∧ 2 ≤ l1 ∧ l1 ≤ 8) ∧ Kp.toldF s 126 = (kd, 0, l1 - 1)) ∨ (kd ≠ 0 ∧ ¬ ((1 : Int) < (ps.length : Int) ∧ 2 ≤ l1 ∧ l1 ≤ 8) ∧ Kp.toldF s 126 = (kd, 0, 0)) := by
          rw [HF.out, Kp.toldN, if_pos rfl, HL0.out, hkd, hmods]
          by_cases h1 : kd = 0
          · exact .inl ⟨h1, by rw [if_pos h1]⟩
          · by_cases h2 : (1 : Int) < (ps.length : Int) ∧ 2 ≤ l1 ∧ l1 ≤ 8
            · exact .inr (.inl ⟨h1, h2, by rw [if_neg h1, if_pos h2]⟩)
            · exact .inr (.inr ⟨h1, h2, by rw [if_neg h1, if_neg h2]⟩)
        have HKey := Lib.hid key
        have HKD := Lib.hid hkd
        clear hkd hmods key
        go_wp2_with (first
          | ((with_reducible refine gate_insert 107 rfl ?_); refine wpList_insert_new _ rfl 107 _ _ _ rfl Tryd.underlying107 Tryd.underlying5 _ _ _ _ rfl (by simp) rfl (by rfl) ?_)
          | ((with_reducible refine gate_lookup 107 rfl ?_); refine wpList_lookup_ents _ rfl 107 _ _ rfl Tryd.underlying107 Tryd.underlying5 zero3 (heap_alloc_at (by simp)) Kp.tabA rfl _ rfl rfl ?_
             generalize hW3 : wr.alloc _ = W3
             have HL3 := Lib.hid (HLk.out.next hW3)
             obtain ⟨r1, _, r3, _⟩ := HL3.out.rules
             clear hW3)
          | ((with_reducible refine gate_insert 108 rfl ?_); refine wpList_insert_new _ rfl 108 _ _ _ rfl Tryd.underlying108 Tryd.underlying3 _ _ _ _ rfl (by simp) rfl (by rfl) ?_)
          | ((with_reducible refine gate_lookup 108 rfl ?_); refine wpList_lookup_ents _ rfl 108 _ _ rfl Tryd.underlying108 Tryd.underlying3 zero3 (heap_alloc_at (by simp)) Kp.tabB rfl _ rfl rfl ?_
             generalize Obj.map _ _ = om
             rw [HKD.out]
             have r13 : (1 : Int) < (ps.length : Int) → W3.cell? ⟨g, 1, none⟩ = some (.int .i64 l1) := fun h => HL3.out.d1 (by omega)
             obtain ⟨_, _, _, _, r5, _, r7, r8, r9, r10, r11, r12⟩ := HL3.out.rules))
        all_goals
          (try simp only [beq_iff_eq, beq_eq_false_iff_ne] at *)
          rcases HKey.out with ⟨k1, h⟩ | ⟨k1, k2, h⟩ | ⟨k1, k2, h⟩ <;> first
            | (exfalso; omega)
            | (refine bodyPost_ret ?_ rfl (ToldPost.mk h ((((below_alloc (below_alloc HL3.out.b _) _).setCell (Nat.le_refl _) _).setCell (Nat.le_refl _) _).setCell (Nat.le_refl _) _)); simp [results, Tryd.results40, go_sem, r5, r8, r9, r10]; done)
      · by_cases he2 : e = 90
        · subst he2
          have key : (((1 : Int) < (ps.length : Int) ∧ 2 ≤ l1 ∧ l1 ≤ 8) ∧ Kp.toldF s 90 = (3, 0, Go.bits .or .i64 (l1 - 1) 1)) ∨ (¬ ((1 : Int) < (ps.length : Int) ∧ 2 ≤ l1 ∧ l1 ≤ 8) ∧ Kp.toldF s 90 = (3, 0, Go.bits .or .i64 0 1)) := by
            rw [HF.out, Kp.toldN, if_neg (by decide), if_pos rfl, hmods]
            by_cases h2 : (1 : Int) < (ps.length : Int) ∧ 2 ≤ l1 ∧ l1 ≤ 8
            · exact .inl ⟨h2, by rw [if_pos h2]⟩
            · exact .inr ⟨h2, by rw [if_neg h2]⟩
          have HKey := Lib.hid key
          have h90 : Hid (tabV Kp.tabA 90 = 3) := by show _ = _; decide
          clear hmods key
          go_wp2_with (first
          | ((with_reducible refine gate_insert 107 rfl ?_); refine wpList_insert_new _ rfl 107 _ _ _ rfl Tryd.underlying107 Tryd.underlying5 _ _ _ _ rfl (by simp) rfl (by rfl) ?_)
          | ((with_reducible refine gate_lookup 107 rfl ?_); refine wpList_lookup_ents _ rfl 107 _ _ rfl Tryd.underlying107 Tryd.underlying5 zero3 (heap_alloc_at (by simp)) Kp.tabA rfl _ rfl rfl ?_
             generalize hW3 : wr.alloc _ = W3
             have HL3 := Lib.hid (HLk.out.next hW3)
             rw [h90.out]
             have r13 : (1 : Int) < (ps.length : Int) → W3.cell? ⟨g, 1, none⟩ = some (.int .i64 l1) := fun h => HL3.out.d1 (by omega)
             obtain ⟨_, r2, _, r4, _, r6, _, r8, r9, r10, r11, r12⟩ := HL3.out.rules
             clear hW3))
          all_goals
            (try simp only [beq_iff_eq, beq_eq_false_iff_ne] at *)
            rcases HKey.out with ⟨k2, h⟩ | ⟨k2, h⟩ <;> first
              | (exfalso; omega)
              | (refine bodyPost_ret ?_ rfl (ToldPost.mk h ((((below_alloc HL3.out.b _).setCell (Nat.le_refl _) _).setCell (Nat.le_refl _) _).setCell (Nat.le_refl _) _)); simp [results, Tryd.results40, go_sem, r4, r8, r9, r10]; done)
        · obtain ⟨kd, hkd⟩ : ∃ x, tabV Kp.tabA e = x := ⟨_, rfl⟩
          have key : (kd = 0 ∧ Kp.toldF s e = (0, 0, 0)) ∨ (kd ≠ 0 ∧ ((1 : Int) < (ps.length : Int) ∧ 2 ≤ l1 ∧ l1 ≤ 8) ∧ Kp.toldF s e = (kd, 0, l1 - 1)) ∨ (kd ≠ 0 ∧ ¬ ((1 : Int) < (ps.length : Int) ∧ 2 ≤ l1 ∧ l1 ≤ 8) ∧ Kp.toldF s e = (kd, 0, 0)) := by
            rw [HF.out, Kp.toldN, if_neg he1, if_neg he2, hkd, hmods]
            by_cases h1 : kd = 0
            · exact .inl ⟨h1, by rw [if_pos h1]⟩
            · by_cases h2 : (1 : Int) < (ps.length : Int) ∧ 2 ≤ l1 ∧ l1 ≤ 8
              · exact .inr (.inl ⟨h1, h2, by rw [if_neg h1, if_pos h2]⟩)
              · exact .inr (.inr ⟨h1, h2, by rw [if_neg h1, if_neg h2]⟩)
          have HKey := Lib.hid key
          have HKD := Lib.hid hkd
          have he1' : (e == 126) = false := beq_eq_false_iff_ne.2 he1
          have he2' : (e == 90) = false := beq_eq_false_iff_ne.2 he2
          clear hkd hmods key he1 he2
          go_wp2_with (first
          | ((with_reducible refine gate_insert 107 rfl ?_); refine wpList_insert_new _ rfl 107 _ _ _ rfl Tryd.underlying107 Tryd.underlying5 _ _ _ _ rfl (by simp) rfl (by rfl) ?_)
          | ((with_reducible refine gate_lookup 107 rfl ?_); refine wpList_lookup_ents _ rfl 107 _ _ rfl Tryd.underlying107 Tryd.underlying5 zero3 (heap_alloc_at (by simp)) Kp.tabA rfl _ rfl rfl ?_
             generalize hW3 : wr.alloc _ = W3
             have HL3 := Lib.hid (HLk.out.next hW3)
             rw [HKD.out]
             have r13 : (1 : Int) < (ps.length : Int) → W3.cell? ⟨g, 1, none⟩ = some (.int .i64 l1) := fun h => HL3.out.d1 (by omega)
             obtain ⟨_, r2, _, r4, _, r6, _, r8, r9, r10, r11, r12⟩ := HL3.out.rules
             clear hW3))
          all_goals
            (try simp only [beq_iff_eq, beq_eq_false_iff_ne] at *)
            rcases HKey.out with ⟨k1, h⟩ | ⟨k1, k2, h⟩ | ⟨k1, k2, h⟩ <;> first
              | (exfalso; omega)
              | (refine bodyPost_ret ?_ rfl (ToldPost.mk h ((((below_alloc HL3.out.b _).setCell (Nat.le_refl _) _).setCell (Nat.le_refl _) _).setCell (Nat.le_refl _) _)); simp [results, Tryd.results40, go_sem, r4, r8, r9, r10]; done)
end Go.Proofs.YtbjckccgbmimpabDoor
