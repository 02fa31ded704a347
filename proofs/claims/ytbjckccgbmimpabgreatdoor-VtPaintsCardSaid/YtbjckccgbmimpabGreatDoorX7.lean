/- Proved: for any two grids, styluslaw23.VtPaints returns true and the grids read behind the call as they read before. Conditions: those of the given row and card: the row's listed package-level variables start as the program's text lays them, which the card ties; each argument takes at most the bytes that the row's form allows; no premise was added. -/
import Derived.Test.YtbjckccgbmimpabGreatDoorX6
import Derived.Test.YtbjckccgbmimpabGreatDoorRows
import Derived.Test.YtbjckccgbmimpabGreatDoorTie
import Derived.Test.YtbjckccgbmimpabGreatDoorCards
import Derived.WalkKit
import Derived.ProofKit
import Derived.OpenShut
import Derived.Carry
import Derived.Lay
import Derived.MakeChecks
import Derived.ChangeSame
import Derived.ChangeSlices
import Derived.SevenTiedAt
import Derived.Deep.DeepHandedRow
import Derived.Deep.Slices
import Derived.Deep.Fields
import Derived.Deep.MidRow
import Derived.Lib.SmallJoins
namespace Go.Proofs.YtbjckccgbmimpabGreatDoor
open Go.ChangeShapes Go.WideShapes Go.ChangeAt Go.RowKit
open Go.Proofs.YtbjckccgbmimpabGreatDoorW.PrintWords

theorem Vr.own : ownKnob Tryz.prog.godebug = none := by kernel_rfl
theorem Vr.laidOut : laidOutB Tryz.prog = true := by kernel_rfl
theorem Vr.cells41 : Tryz.prog.cellsOf 41 = 2 := by kernel_rfl
theorem Vr.cells24 : Tryz.prog.cellsOf 24 = 3 := by kernel_rfl
theorem Vr.bytes41 : Tryz.prog.bytesOf 41 = 16 := by kernel_rfl
theorem Vr.readable24 : Tryz.prog.readableRec 24 = true := by kernel_rfl
theorem Vr.row24 : 24 < Tryz.prog.types.size := of_decide_eq_true (by kernel_rfl)
theorem cell_spot {w : World} {a : Addr} {v : Value} (h : w.cell? a = some v) : a.spot = none := by
  unfold World.cell? at h
  split at h
  · split at h
    · cases h
    · rename_i hs
      cases hsp : a.spot with
      | none => rfl
      | some x => rw [hsp] at hs; exact absurd rfl hs
  · cases h

set_option maxRecDepth 100000 in
/-- ONE CELL THAT CAME IN. -/
theorem cell_in {H : Type} {enc : TypeId × Value → H} {W : World} {base n : Nat} {a : Addr} {cs : List Value} {x : DataW H × List MemPlace}
    (hc : W.cells? 0 a 2 = some cs) (h : DataW.trod enc Tryz.prog W base (fun _ => true) true n 41 cs = some x) :
    ∃ z y : Int, W.cell? a = some (.int .i32 z) ∧ W.cell? (a.add 1) = some (.int .i64 y) ∧ (-2147483648 ≤ z ∧ z ≤ 2147483647) ∧ (-9223372036854775808 ≤ y ∧ y ≤ 9223372036854775807) := by
  obtain ⟨xs, n', rfl, rfl, hlen, hxs, hf⟩ := DataW.trod_struct Tryz.underlying41 h
  obtain ⟨_, hl, hat⟩ := World.cells?_some hc
  match cs, hl with
  | [v0, v1], _ =>
    have h0 := hf 0 _ rfl
    have h1 := hf 1 _ rfl
    have e0 : Tryz.prog.cellsOf 21 = 1 := by kernel_rfl
    have e1 : Tryz.prog.cellsOf 3 = 1 := by kernel_rfl
    replace h0 : DataW.trod enc Tryz.prog W base (fun _ => true) true n' 21 [v0] = xs[0]? := by rw [← h0]; show _ = DataW.trod enc Tryz.prog W base (fun _ => true) true n' 21 (List.take (Tryz.prog.cellsOf 21) [v0, v1]); rw [e0]; rfl
    replace h1 : DataW.trod enc Tryz.prog W base (fun _ => true) true n' 3 [v1] = xs[1]? := by rw [← h1]; show _ = DataW.trod enc Tryz.prog W base (fun _ => true) true n' 3 (List.take (Tryz.prog.cellsOf 3) [v1]); rw [e1]; rfl
    have hs : xs.length = 2 := hxs
    match xs, hs with
    | [x0, x1], _ =>
      obtain ⟨z, ez, _, wz⟩ := DataW.trod_int Tryz.underlying21 h0
      obtain ⟨y, ey, _, wy⟩ := DataW.trod_int Tryz.underlying3 h1
      injection ez with ez
      injection ey with ey
      have a0 := hat 0 (by decide)
      have a1 := hat 1 (by decide)
      have ea : a.add 0 = a := by unfold Addr.add; simp
      rw [ea] at a0
      subst ez
      subst ey
      exact ⟨z, y, a0, a1, bounds_i32 wz, bounds_i64 wy⟩

set_option maxRecDepth 100000 in
/-- A ROW OF CELLS THAT CAME IN. -/
theorem cells_in {H : Type} {enc : TypeId × Value → H} {W : World} {n : Nat} {v : Value} {y : DataW H × List MemPlace}
    (h : DataW.trod enc Tryz.prog W 0 (fun _ => true) true n 22 [v] = some y) (hw : (y.1.weights Tryz.prog 22).all (· ≤ reachBytes) = true) :
    ∃ (A : Option Addr) (l : List Cell) (c : Nat), v = .slice A l.length c ∧ RC W A l ∧ Kp.wf l ∧ l.length ≤ c := by
  rcases Deep.open_slice Tryz.underlying22 h with ⟨hc, _⟩ | ⟨a, len, cap, m, k, D, Pl, hc, _, hl, _, hm, rfl, hat⟩
  · injection hc with hc
    exact ⟨none, [], 0, hc, ⟨Nat.zero_le _, fun i hi => absurd hi (Nat.not_lt_zero _)⟩, fun i => by simp [Kp.gr, Kp.gs], Nat.le_refl _⟩
  · injection hc with hc
    subst hc
    simp only [if_true] at hm
    subst hm
    rw [Vr.cells41] at hat
    have hL : len ≤ 140737488355328 := by
      simp only [DataW.weights, Tryz.underlying22, List.all_cons, Bool.and_eq_true, Vr.bytes41, decide_eq_true_eq] at hw
      have := hw.1
      simp only [List.length_map, List.length_range] at this
      simp only [reachBytes] at this
      omega
    have hex : ∀ i, i < len → ∃ p : Cell, W.cell? (a.add (i * 2)) = some (.int .i32 p.1) ∧ W.cell? ((a.add (i * 2)).add 1) = some (.int .i64 p.2) ∧ (-2147483648 ≤ p.1 ∧ p.1 ≤ 2147483647) ∧ (-9223372036854775808 ≤ p.2 ∧ p.2 ≤ 9223372036854775807) := fun i hi => by
      obtain ⟨cs', h1, h2⟩ := hat i (by omega)
      obtain ⟨z, y, g⟩ := cell_in h1 h2
      exact ⟨(z, y), g⟩
    obtain ⟨F, hF⟩ := Deep.choose_lt hex
    have hlen : ((List.range len).map F).length = len := by simp
    have hget : ∀ i, i < len → ((List.range len).map F).getD i (0, 0) = F i := fun i hi => by
      simp [List.getD, List.getElem?_map, List.getElem?_range hi]
    refine ⟨some a, (List.range len).map F, m, by rw [hlen], ⟨by rw [hlen]; exact hL, fun i hi => ?_⟩, fun i => ?_, by rw [hlen]; exact hl⟩
    · rw [hlen] at hi
      obtain ⟨h1, h2, _⟩ := hF i hi
      unfold Kp.gr Kp.gs
      rw [hget i hi]
      have hsp : a.spot = none := by
        have h0 := cell_spot (hF 0 (by omega)).1
        unfold Addr.add at h0
        exact h0
      obtain ⟨b, o, sp⟩ := a
      simp only at hsp
      subst hsp
      rw [Addr.add_mid] at h1 h2
      rw [Addr.add_mid] at h2
      exact ⟨b, o, rfl, h1, h2⟩
    · by_cases hi : i < len
      · unfold Kp.gr Kp.gs
        rw [hget i hi]
        exact (hF i hi).2.2
      · have e : ((List.range len).map F).getD i (0, 0) = (0, 0) := by simp [List.getD, List.getElem?_eq_none (show ((List.range len).map F).length ≤ i by omega)]
        unfold Kp.gr Kp.gs
        rw [e]
        simp

set_option maxRecDepth 100000 in
/-- A GRID THAT CAME IN. -/
theorem grid_in {H : Type} {enc : TypeId × Value → H} {W : World} {base : Nat} {v : Value} {d : DataW H} {ps : List MemPlace} (hval : Value.okWide Tryz.prog W .any base 24 v)
    (h : DataW.Trod enc Tryz.prog W 0 (fun _ => true) true 24 v d ps) (hw : (d.weights Tryz.prog 24).all (· ≤ reachBytes) = true) :
    ∃ (R C : Int) (A : Option Addr) (l : List Cell) (c : Nat), v = .agg #[.int .i64 R, .int .i64 C, .slice A l.length c] ∧ RC W A l ∧ Kp.wf l ∧ l.length ≤ c := by
  obtain ⟨v0, v1, v2, y0, y1, y2, n, rfl, rfl, rfl, h0, h1, h2⟩ := Joins.open_agg3 Tryz.underlying24 (by kernel_rfl) Vr.cells24 hval h
  obtain ⟨R, e0, _, _⟩ := DataW.trod_int Tryz.underlying3 h0
  obtain ⟨C, e1, _, _⟩ := DataW.trod_int Tryz.underlying3 h1
  injection e0 with e0
  injection e1 with e1
  subst e0
  subst e1
  simp only [DataW.weights, Tryz.underlying24, List.map_cons, List.map_nil, DataW.weightsEach, List.all_append, Bool.and_eq_true] at hw
  obtain ⟨A, l, c, rfl, hr, hf, hc⟩ := cells_in h2 hw.2.2.1
  exact ⟨R, C, A, l, c, rfl, hr, hf, hc⟩

set_option maxRecDepth 100000 in
/-- THE CONTRACT. -/
theorem Vr.contract (H : Type) (enc : TypeId × Value → H) (W : World) (base : Nat) (args : Array Value) (ds gs : List (DataW H)) (before : List MemPlace)
    (hval : ∀ (j : Nat) t v, Tryz.f3.params[j]? = some t → args[j]? = some v → Value.okWide Tryz.prog W .any base t v)
    (hW : DataW.Whole enc Tryz.prog Tryz.f3.params.toList Rows.vtPaintsSpec.vars false W args.toList ds gs before)
    (hsz : (DataW.weightsEach Tryz.prog (Tryz.f3.params.toList ++ Rows.vtPaintsSpec.plain.varTypes Tryz.prog) (ds ++ gs)).all (· ≤ reachBytes) = true)
    (hsh : W.ShapedOpen Tryz.prog) :
    Calls Tryz.prog 3 args W fun e W' => ∃ v, e = .returned v ∧ Rows.vtPaintsSpec.post enc Tryz.prog Tryz.f3 false true false false W args v W' := by
  have hW' := hW
  obtain ⟨p, q, hA0, hV, rfl, hfz, hnd⟩ := hW
  have hA : DataW.TrodAll enc Tryz.prog W 0 (fun _ => true) true Tryz.f3.params.toList args.toList ds p := hA0
  rw [Tryz.params3] at hA hval hsz
  obtain ⟨v0, v1, d0, d1, p0, p1, rfl, rfl, rfl, h0, h1⟩ := trodAll_two hA
  obtain ⟨rfl, rfl⟩ := trodVars_none hV
  simp only [List.cons_append, List.nil_append, DataW.weightsEach, List.all_append, Bool.and_eq_true] at hsz
  obtain ⟨fR, fC, fA, fl, fc, rfl, hr, hwf, hc⟩ := grid_in (hval 0 24 v0 rfl rfl) h0 hsz.1
  obtain ⟨tR, tC, tA, tl, tc, rfl, hr2, hwf2, hc2⟩ := grid_in (hval 1 24 v1 rfl rfl) h1 hsz.2.1
  have h0k := h0
  have h1k := h1
  obtain ⟨m, hm⟩ := Tryz.laysM146.s1_3 W hsh
  simp only [List.append_nil] at hW'
  have hlt0 : ∀ x ∈ p0, x.block < W.heap.size := fun x hx => by simpa using hW'.lt x (List.mem_append_left _ hx)
  have hlt1 : ∀ x ∈ p1, x.block < W.heap.size := fun x hx => by simpa using hW'.lt x (List.mem_append_right _ (by simpa using hx))
  refine (VtPaints_calls W fR fC tR tC fA tA fl tl fc tc m hr hr2 hwf2 hc hc2 hm).mono fun e W' ⟨he, hb⟩ => ?_
  subst he
  exact ⟨_, rfl, _, _, _, [], _, [], hW', trodAll_mk1 (shut_bool Tryz.underlying4 _),
    trodAll_mk2 (Below.trod Vr.laidOut Vr.readable24 Vr.row24 h0k hb hlt0) (Below.trod Vr.laidOut Vr.readable24 Vr.row24 h1k hb hlt1), rfl, hb.frame _, fun h => by cases h⟩
set_option maxRecDepth 100000 in
theorem Vr.reads (os : Os) {H : Type} (enc : TypeId × Value → H) :
    (DataW.whole enc Tryz.prog ((World.laidAll Tryz.prog os Rows.vtPaintsRow.laid).forCall (fun _ _ => 0) ⟨#[], #[.agg #[.int .i64 0, .int .i64 0, .slice none 0 0], .agg #[.int .i64 0, .int .i64 0, .slice none 0 0]], []⟩).memory Tryz.f3.params.toList Rows.vtPaintsSpec.vars false #[Value.agg #[.int .i64 0, .int .i64 0, .slice none 0 0], Value.agg #[.int .i64 0, .int .i64 0, .slice none 0 0]].toList 8).map (fun x => (x.1, x.2.1)) = some ([.agg [.lit (.int .i64 0), .lit (.int .i64 0), .nil], .agg [.lit (.int .i64 0), .lit (.int .i64 0), .nil]], []) := by kernel_rfl
set_option maxRecDepth 100000 in
theorem Vr.laidB : (Rows.vtPaintsRow.laid.all fun x => x.2.handleName?.isNone) = true := by kernel_rfl
set_option maxRecDepth 100000 in
theorem Vr.laid_met (os : Os) (args : Array Value) : laidMetH Tryz.prog Rows.vtPaintsRow.laid ((World.laidAll Tryz.prog os Rows.vtPaintsRow.laid).forCall (fun _ _ => 0) ⟨#[], args, []⟩).memory := by
  rw [MakeChecks.laidMetH_plain _ _ _ Vr.laidB]
  exact laidMet_laidAll _ (by kernel_rfl) (by kernel_rfl)
set_option maxRecDepth 100000 in
theorem Vr.lifted (os : Os) (started : os.Started) (H : Type) (enc : TypeId × Value → H) (F : Stop.Interp) :
    ReturnsInHanded {} Tryz.checked os 3 .any ((OpenSpec.ofChange Rows.vtPaintsSpec).preRow enc Tryz.prog Tryz.f3 Rows.vtPaintsRow.domain false Rows.vtPaintsRow.laid) (((OpenSpec.ofChange Rows.vtPaintsSpec).at F).post enc Tryz.prog Tryz.f3 false true false false) := by
  obtain ⟨⟨x1, x2, x3⟩, hx, hx1⟩ := Option.map_eq_some_iff.1 (Vr.reads os enc)
  simp only [Prod.mk.injEq] at hx1
  obtain ⟨rfl, rfl⟩ := hx1
  have hok : Input.okWideB Tryz.prog ((World.laidAll Tryz.prog os Rows.vtPaintsRow.laid).forCall (fun _ _ => 0) ⟨#[], #[.agg #[.int .i64 0, .int .i64 0, .slice none 0 0], .agg #[.int .i64 0, .int .i64 0, .slice none 0 0]], []⟩) 3 ⟨#[], #[.agg #[.int .i64 0, .int .i64 0, .slice none 0 0], .agg #[.int .i64 0, .int .i64 0, .slice none 0 0]], []⟩ = true := by kernel_rfl
  refine returnsInHanded_of_row (C := Tryz.checked) (s := OpenSpec.ofChange Rows.vtPaintsSpec) Vr.own started (by kernel_rfl) Tryz.func3
    ⟨World.laidAll Tryz.prog os Rows.vtPaintsRow.laid, fun _ _ => 0, ⟨#[], #[.agg #[.int .i64 0, .int .i64 0, .slice none 0 0], .agg #[.int .i64 0, .int .i64 0, .slice none 0 0]], []⟩, World.laidAll_os _ _ _, World.shaped_of_ZipB (by kernel_rfl) (by kernel_rfl), (Input.okWide_of_okWideB (base := 0) hok).1, (Input.okWide_of_okWideB hok).2,
      OpenSpec.preRow_of_cond 8 hx (by kernel_rfl) (fun k hk => by cases hk) (by kernel_rfl) (Vr.laid_met os _), by
        simp only [Assume.holds]
        exact ⟨by simp, by simp, fun _ => Modest.zero, by simp, by simp⟩⟩ ?_
  intro W base args ds gs before hval hW _ _ hsz _ hsh _
  exact Vr.contract H enc W base args ds gs before hval hW hsz hsh

theorem vtPaints_holds : Rows.VtPaintsSaid :=
  OpenClaim.holds_of_cond 3 Tryz.f3 rfl rfl rfl rfl rfl rfl rfl ⟨rfl, rfl, rfl, rfl, rfl⟩ rfl rfl rfl rfl rfl (by kernel_rfl) Tryz.func3 (by kernel_rfl)
    (of_decide_eq_true (by kernel_rfl)) (by unfold Func.isWrapper; first | (rw [if_pos (by decide +kernel)]; kernel_rfl) | (rw [if_neg (by decide +kernel)]; exact ⟨rfl, rfl⟩))
    (fun os started H enc _ F => by rw [OpenClaim.pre_eq_preRow]; exact Vr.lifted os started H enc F)
theorem Vr.plain (f : FuncId) (fn : Func) (hf : Tryz.pinned.checked.prog.funcNamed "stylus/styluslaw23.VtPaints" = some f) (hfn : Tryz.pinned.checked.prog.funcs[f]? = some fn) :
    true = Tryz.pinned.checked.prog.looks [] ∧ ∀ (j : Nat) t, fn.params[j]? = some t → Tryz.pinned.checked.prog.wantsStandIn t = false := by
  obtain rfl : f = 3 := Option.some.inj ((show Tryz.prog.funcNamed "stylus/styluslaw23.VtPaints" = some 3 by kernel_rfl).symm.trans hf) |>.symm
  obtain rfl : fn = Tryz.f3 := (Option.some.inj (Tryz.func3.symm.trans hfn)).symm
  refine ⟨by kernel_rfl, fun j t ht => ?_⟩
  rw [Tryz.params3] at ht
  obtain rfl : t = 24 := by simpa using Array.mem_of_getElem? ht
  exact (show Tryz.prog.wantsStandIn 24 = false by kernel_rfl)

/-- THE CARD. -/
theorem vtPaints_card_holds : Rows.VtPaintsCardSaid :=
  Claim7.holds_tied_plain_at .later [] _ _ _ _ vtPaints_holds (fun _ h => by cases h) (by kernel_rfl) (fun _ h => by cases h) vtPaints_row_tie rfl ⟨rfl, rfl⟩ (by kernel_rfl) rfl Vr.plain (by kernel_rfl)
end Go.Proofs.YtbjckccgbmimpabGreatDoor
