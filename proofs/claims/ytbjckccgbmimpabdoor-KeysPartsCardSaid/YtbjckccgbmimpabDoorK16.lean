/- Proved: for every slice of bytes and every slice of cuts, styluslaw20.KeysParts returns true and both slices read behind the call as they read before. Conditions: those of the given row and card: the row's listed package-level variables start as the program's text lays them, which the card ties; each argument takes at most the bytes that the row's form allows; no premise was added. -/
import Derived.Test.YtbjckccgbmimpabDoorK15
import Derived.Test.YtbjckccgbmimpabDoorRows
import Derived.Test.YtbjckccgbmimpabDoorTie
import Derived.Test.YtbjckccgbmimpabDoorCards
import Derived.WalkKit
import Derived.ProofKit
import Derived.OpenShut
import Derived.Carry
import Derived.Lay
import Derived.MakeChecks
import Derived.ChangeSame
import Derived.ChangeSlices
import Derived.SevenTiedAt
import Derived.Deep.DeepHandedRow
namespace Go.Proofs.YtbjckccgbmimpabDoor
open Go.ChangeShapes Go.WideShapes Go.ChangeAt Go.RowKit
open Go.Proofs.YtbjckccgbmimpabDoorW.PrintWords

theorem Kr.own : ownKnob Tryd.prog.godebug = none := by kernel_rfl
theorem Kr.laidOut : laidOutB Tryd.prog = true := by kernel_rfl
theorem Kr.cells5 : Tryd.prog.cellsOf 5 = 1 := by kernel_rfl
theorem Kr.bytes5 : Tryd.prog.bytesOf 5 = 1 := by kernel_rfl
theorem Kr.readable22 : Tryd.prog.readableRec 22 = true := by kernel_rfl
theorem Kr.row22 : 22 < Tryd.prog.types.size := of_decide_eq_true (by kernel_rfl)

theorem byte_of (z : Int) (h0 : 0 ≤ z) (h1 : z ≤ 255) : ((UInt8.ofNat z.toNat).toNat : Int) = z := by
  simp only [UInt8.toNat_ofNat']
  omega
set_option maxRecDepth 100000 in
/-- A SLICE OF BYTES THAT CAME IN, as the walk wants it. -/
theorem bytes_in {H : Type} {enc : TypeId × Value → H} {W : World} {base : Nat} {v : Value} {d : DataW H} {ps : List MemPlace} (hval : Value.okWide Tryd.prog W .any base 22 v)
    (h : DataW.Trod enc Tryd.prog W 0 (fun _ => true) true 22 v d ps) (hw : (d.weights Tryd.prog 22).all (· ≤ reachBytes) = true) :
    ∃ (A : Option Addr) (bs : List UInt8) (c : Nat), v = .slice A bs.length c ∧ RB W A bs ∧ bs.length ≤ c ∧ bs.length ≤ 140737488355328 := by
  obtain ⟨a1, len, cap, rfl⟩ := okWide_slice Tryd.underlying22 hval
  obtain ⟨fuel, hf⟩ := h
  rcases open_ints Tryd.underlying22 Tryd.underlying5 Kr.cells5 hf with ⟨hcs, hx⟩ | ⟨a, len', cap', zs, hcs, _, hl, hm, hz, hx, hcell, hwz⟩
  · simp [Value.cells] at hcs
    obtain ⟨rfl, rfl, rfl⟩ := hcs
    exact ⟨none, [], 0, rfl, ReadsOf.nil eb 0 W, Nat.le_refl _, Nat.zero_le _⟩
  · simp [Value.cells] at hcs
    obtain ⟨rfl, rfl, rfl⟩ := hcs
    simp only [Prod.mk.injEq] at hx
    obtain ⟨rfl, rfl⟩ := hx
    simp only [if_true] at hz
    have hlen : ((zs.take len).map fun n => UInt8.ofNat n.toNat).length = len := by simp; omega
    have hL : len ≤ 140737488355328 := by
      simp only [DataW.weights, Tryd.underlying22, List.all_cons, Bool.and_eq_true, Kr.bytes5, decide_eq_true_eq] at hw
      have := hw.1
      simp [lits] at this
      simp only [reachBytes] at this
      omega
    refine ⟨some a, (zs.take len).map fun n => UInt8.ofNat n.toNat, cap, by rw [hlen], ⟨rfl, by rw [hlen]; omega, fun _ => ⟨a, rfl, fun j hj => ?_⟩⟩, by rw [hlen]; omega, by rw [hlen]; exact hL⟩
    rw [hlen] at hj
    rw [hcell j (by omega)]
    have hb := range_u8 hwz j
    have e : zs.getD j 0 = zs[j]'(by omega) := by simp [List.getD, List.getElem?_eq_getElem (show j < zs.length by omega)]
    rw [← List.getD_eq_getElem?_getD] at hb
    simp only [List.getD_eq_getElem?_getD, List.getElem?_map, List.getElem?_take, hj, if_true, List.getElem?_eq_getElem (show j < zs.length by omega), Option.map_some, Option.getD_some, eb] at hb ⊢
    rw [byte_of _ hb.1 hb.2]

set_option maxRecDepth 100000 in
/-- THE CONTRACT. -/
theorem Kr.contract (H : Type) (enc : TypeId × Value → H) (W : World) (base : Nat) (args : Array Value) (ds gs : List (DataW H)) (before : List MemPlace)
    (hval : ∀ (j : Nat) t v, Tryd.f3.params[j]? = some t → args[j]? = some v → Value.okWide Tryd.prog W .any base t v)
    (hW : DataW.Whole enc Tryd.prog Tryd.f3.params.toList Rows.keysPartsSpec.vars false W args.toList ds gs before)
    (hsz : (DataW.weightsEach Tryd.prog (Tryd.f3.params.toList ++ Rows.keysPartsSpec.plain.varTypes Tryd.prog) (ds ++ gs)).all (· ≤ reachBytes) = true)
    (hsh : W.ShapedOpen Tryd.prog) :
    Calls Tryd.prog 3 args W fun e W' => ∃ v, e = .returned v ∧ Rows.keysPartsSpec.post enc Tryd.prog Tryd.f3 false true false false W args v W' := by
  have hW' := hW
  obtain ⟨p, q, hA0, hV, rfl, hfz, hnd⟩ := hW
  have hA : DataW.TrodAll enc Tryd.prog W 0 (fun _ => true) true Tryd.f3.params.toList args.toList ds p := hA0
  rw [Tryd.params3] at hA hval hsz
  obtain ⟨v0, v1, d0, d1, p0, p1, rfl, rfl, rfl, h0, h1⟩ := trodAll_two hA
  obtain ⟨rfl, rfl⟩ := trodVars_none hV
  simp only [List.cons_append, List.nil_append, DataW.weightsEach, List.all_append, Bool.and_eq_true] at hsz
  obtain ⟨A, bs, c, rfl, hr, hc, hL⟩ := bytes_in (hval 0 22 v0 rfl rfl) h0 hsz.1
  obtain ⟨A2, cuts, c2, rfl, hr2, hc2, hL2⟩ := bytes_in (hval 1 22 v1 rfl rfl) h1 hsz.2.1
  obtain ⟨m, hm⟩ := Tryd.laysM146.s1_3 W hsh
  have h0k := h0
  have h1k := h1
  simp only [List.append_nil] at hW'
  have hlt0 : ∀ x ∈ p0, x.block < W.heap.size := fun x hx => by simpa using hW'.lt x (List.mem_append_left _ hx)
  have hlt1 : ∀ x ∈ p1, x.block < W.heap.size := fun x hx => by simpa using hW'.lt x (List.mem_append_right _ hx)
  refine (parts_calls W bs cuts A A2 c c2 m hr hc hr2 hL hL2 hm).mono fun e W' ⟨he, hb⟩ => ?_
  subst he
  exact ⟨_, rfl, _, _, _, [], _, [], hW', trodAll_mk1 (shut_bool Tryd.underlying4 _),
    trodAll_mk2 (Below.trod Kr.laidOut Kr.readable22 Kr.row22 h0k hb hlt0) (Below.trod Kr.laidOut Kr.readable22 Kr.row22 h1k hb hlt1), rfl, hb.frame _, fun h => by cases h⟩

set_option maxRecDepth 100000 in
theorem Kr.reads (os : Os) {H : Type} (enc : TypeId × Value → H) :
    (DataW.whole enc Tryd.prog ((World.laidAll Tryd.prog os Rows.keysPartsRow.laid).forCall (fun _ _ => 0) ⟨#[], #[.slice none 0 0, .slice none 0 0], []⟩).memory Tryd.f3.params.toList Rows.keysPartsSpec.vars false #[Value.slice none 0 0, Value.slice none 0 0].toList 8).map (fun x => (x.1, x.2.1)) = some ([.nil, .nil], []) := by kernel_rfl
set_option maxRecDepth 100000 in
theorem Kr.laidB : (Rows.keysPartsRow.laid.all fun x => x.2.handleName?.isNone) = true := by kernel_rfl
set_option maxRecDepth 100000 in
theorem Kr.laid_met (os : Os) (args : Array Value) : laidMetH Tryd.prog Rows.keysPartsRow.laid ((World.laidAll Tryd.prog os Rows.keysPartsRow.laid).forCall (fun _ _ => 0) ⟨#[], args, []⟩).memory := by
  rw [MakeChecks.laidMetH_plain _ _ _ Kr.laidB]
  exact laidMet_laidAll _ (by kernel_rfl) (by kernel_rfl)
set_option maxRecDepth 100000 in
theorem Kr.lifted (os : Os) (started : os.Started) (H : Type) (enc : TypeId × Value → H) (F : Stop.Interp) :
    ReturnsInHanded {} Tryd.checked os 3 .any ((OpenSpec.ofChange Rows.keysPartsSpec).preRow enc Tryd.prog Tryd.f3 Rows.keysPartsRow.domain false Rows.keysPartsRow.laid) (((OpenSpec.ofChange Rows.keysPartsSpec).at F).post enc Tryd.prog Tryd.f3 false true false false) := by
  obtain ⟨⟨x1, x2, x3⟩, hx, hx1⟩ := Option.map_eq_some_iff.1 (Kr.reads os enc)
  simp only [Prod.mk.injEq] at hx1
  obtain ⟨rfl, rfl⟩ := hx1
  have hok : Input.okWideB Tryd.prog ((World.laidAll Tryd.prog os Rows.keysPartsRow.laid).forCall (fun _ _ => 0) ⟨#[], #[.slice none 0 0, .slice none 0 0], []⟩) 3 ⟨#[], #[.slice none 0 0, .slice none 0 0], []⟩ = true := by kernel_rfl
  refine returnsInHanded_of_row (C := Tryd.checked) (s := OpenSpec.ofChange Rows.keysPartsSpec) Kr.own started (by kernel_rfl) Tryd.func3
    ⟨World.laidAll Tryd.prog os Rows.keysPartsRow.laid, fun _ _ => 0, ⟨#[], #[.slice none 0 0, .slice none 0 0], []⟩, World.laidAll_os _ _ _, World.shaped_of_ZipB (by kernel_rfl) (by kernel_rfl), (Input.okWide_of_okWideB (base := 0) hok).1, (Input.okWide_of_okWideB hok).2,
      OpenSpec.preRow_of_cond 8 hx (by kernel_rfl) (fun k hk => by cases hk) (by kernel_rfl) (Kr.laid_met os _), by
        simp only [Assume.holds]
        exact ⟨by simp, by simp, fun _ => Modest.zero, by simp, by simp⟩⟩ ?_
  intro W base args ds gs before hval hW _ _ hsz _ hsh _
  exact Kr.contract H enc W base args ds gs before hval hW hsz hsh

theorem keysParts_holds : Rows.KeysPartsSaid :=
  OpenClaim.holds_of_cond 3 Tryd.f3 rfl rfl rfl rfl rfl rfl rfl ⟨rfl, rfl, rfl, rfl, rfl⟩ rfl rfl rfl rfl rfl (by kernel_rfl) Tryd.func3 (by kernel_rfl)
    (of_decide_eq_true (by kernel_rfl)) (by unfold Func.isWrapper; first | (rw [if_pos (by decide +kernel)]; kernel_rfl) | (rw [if_neg (by decide +kernel)]; exact ⟨rfl, rfl⟩))
    (fun os started H enc _ F => by rw [OpenClaim.pre_eq_preRow]; exact Kr.lifted os started H enc F)
theorem Kr.plain (f : FuncId) (fn : Func) (hf : Tryd.pinned.checked.prog.funcNamed "stylus/styluslaw20.KeysParts" = some f) (hfn : Tryd.pinned.checked.prog.funcs[f]? = some fn) :
    true = Tryd.pinned.checked.prog.looks [] ∧ ∀ (j : Nat) t, fn.params[j]? = some t → Tryd.pinned.checked.prog.wantsStandIn t = false := by
  obtain rfl : f = 3 := Option.some.inj ((show Tryd.prog.funcNamed "stylus/styluslaw20.KeysParts" = some 3 by kernel_rfl).symm.trans hf) |>.symm
  obtain rfl : fn = Tryd.f3 := (Option.some.inj (Tryd.func3.symm.trans hfn)).symm
  refine ⟨by kernel_rfl, fun j t ht => ?_⟩
  rw [Tryd.params3] at ht
  obtain rfl : t = 22 := by simpa using Array.mem_of_getElem? ht
  exact (show Tryd.prog.wantsStandIn 22 = false by kernel_rfl)

/-- THE CARD. -/
theorem keysParts_card_holds : Rows.KeysPartsCardSaid :=
  Claim7.holds_tied_plain_at .later [] _ _ _ _ keysParts_holds (fun _ h => by cases h) (by kernel_rfl) (fun _ h => by cases h) keysParts_row_tie rfl ⟨rfl, rfl⟩ (by kernel_rfl) rfl Kr.plain (by kernel_rfl)
end Go.Proofs.YtbjckccgbmimpabDoor
