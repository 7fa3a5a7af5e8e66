/- The law BooleanCovers of package boolean returns true for every input, and its arguments read afterwards as before: the prime implicants cover exactly the table, none is contained in another one, and no fact of one can be left out.
   Condition: the tables of math/bits hold what their own initialisers lay (tied by the card). -/
import Derived.Test.YtfaehcooldhddaaDoorRowKit
import Derived.Test.YtfaehcooldhddaaDoorL5
set_option linter.unusedSectionVars false
set_option linter.unusedVariables false
set_option linter.unusedSimpArgs false
set_option linter.defProp false
set_option maxRecDepth 20000
namespace Go.Proofs.YtfaehcooldhddaaDoor.booleanCovers
open Go.ChangeShapes Go.WideShapes Go.ChangeAt Go.RowKit Go.Pd Go.Pd.Rs Go.Pd.Fm
theorem contract (H : Type) (enc : TypeId × Value → H) (W : World) (base : Nat) (args : Array Value) (ds gs : List (DataW H)) (before : List MemPlace)
    (hval : ∀ (j : Nat) t v, Tryd.f7.params[j]? = some t → args[j]? = some v → Value.okWide Tryd.prog W .any base t v)
    (hW : DataW.Whole enc Tryd.prog Tryd.f7.params.toList Rows.booleanCoversSpec.vars false W args.toList ds gs before) (hL : laidMetH Tryd.prog Rows.booleanCoversRow.laid W) :
    Calls Tryd.prog 7 args W fun e W' => ∃ v, e = .returned v ∧ Rows.booleanCoversSpec.post enc Tryd.prog Tryd.f7 false true false false W args v W' := by
  have hW' := hW
  obtain ⟨p, q, hA0, hV, rfl, hfz, hnd⟩ := hW
  obtain ⟨rfl, rfl⟩ := trodVars_none hV
  rw [Tryd.params7] at hA0
  obtain ⟨av, l1, l2, l3, rel, sh⟩ := args_rp (n := 5) (b := base) (by kernel_rfl) (fun j t v h1 h2 => hval j t v (by rw [Tryd.params7]; simpa using h1) (by simpa using h2)) hA0
  simp only [shapesV] at sh
  obtain ⟨a0, _, rfl, s0, rfl⟩ := sh
  have r0 := rel 0 (by simp)
  simp only [List.getD_cons_zero, List.getD_cons_succ] at r0
  obtain ⟨m0, l0, rfl⟩ := u16_of r0 s0
  have hds : ∃ d0, ds = [d0] := by
    match ds, l3 with
    | [d0], _ => exact ⟨d0, rfl⟩
  obtain ⟨d0, rfl⟩ := hds
  refine (Runs.calls (booleanCovers_runs m0 l0) (tabs_ok hL) (by simpa using l1.symm) (fun j hj => by rw [toList_getD]; exact rel j hj)).mono fun e W' hh => ?_
  obtain ⟨rfl, bel⟩ := hh
  exact ⟨_, rfl, law_post laidOut (by kernel_rfl) rfl Tryd.underlying4 rfl hW' rfl bel⟩
theorem laid_met (os : Os) : laidMet Tryd.prog Rows.booleanCoversRow.laid ((laidWorld os).forCall (fun _ _ => 0) ⟨#[], #[(.int .u16 0 : Value)], []⟩).memory :=
  laidMet_of_run' 8 (by kernel_rfl) (by kernel_rfl)
theorem reads (os : Os) {H : Type} (enc : TypeId × Value → H) : ∃ places, DataW.whole enc Tryd.prog ((laidWorld os).forCall (fun _ _ => 0) ⟨#[], #[(.int .u16 0 : Value)], []⟩).memory Tryd.f7.params.toList Rows.booleanCoversSpec.vars false (#[(.int .u16 0 : Value)] : Array Value).toList 8 = some ([.lit (.int .u16 0)], [], places) :=
  ⟨[], by kernel_rfl⟩
set_option maxRecDepth 100000 in
theorem lifted (os : Os) (started : os.Started) (H : Type) (enc : TypeId × Value → H) (F : Stop.Interp) :
    ReturnsInHanded {} Tryd.checked os 7 .any ((OpenSpec.ofChange Rows.booleanCoversSpec).preRow enc Tryd.prog Tryd.f7 Rows.booleanCoversRow.domain false Rows.booleanCoversRow.laid) (((OpenSpec.ofChange Rows.booleanCoversSpec).at F).post enc Tryd.prog Tryd.f7 false true false false) := by
  obtain ⟨places, hx⟩ := reads os enc
  refine returnsInHanded_of_row (C := Tryd.checked) (s := OpenSpec.ofChange Rows.booleanCoversSpec) own started (by kernel_rfl) Tryd.func7
    (witness_row_at (enc := enc) (C := Tryd.checked) false (laidWorld os) #[(.int .u16 0 : Value)] rfl (by kernel_rfl) (by kernel_rfl) (by kernel_rfl)
      (OpenSpec.preRow_of_cond 8 hx (by kernel_rfl) (fun k hk => by cases hk) (by kernel_rfl) (laid_met os))) ?_
  intro W base args ds gs before hval hW _ _ _ hL _ _
  exact contract H enc W base args ds gs before hval hW hL
theorem said : Rows.BooleanCoversSaid :=
  OpenClaim.holds_of_cond 7 Tryd.f7 rfl rfl rfl rfl rfl rfl rfl ⟨rfl, rfl, rfl, rfl, rfl⟩ rfl rfl rfl rfl rfl (by kernel_rfl) Tryd.func7 (by kernel_rfl)
    (of_decide_eq_true (by kernel_rfl)) (by unfold Func.isWrapper; first | (rw [if_pos (by decide +kernel)]; kernel_rfl) | (rw [if_neg (by decide +kernel)]; exact ⟨rfl, rfl⟩))
    (fun os started H enc _ F => by rw [OpenClaim.pre_eq_preRow]; exact lifted os started H enc F)
theorem plain (f : FuncId) (fn : Func) (hf : Tryd.pinned.checked.prog.funcNamed "witting/wittinglaw09.BooleanCovers" = some f) (hfn : Tryd.pinned.checked.prog.funcs[f]? = some fn) :
    false = Tryd.pinned.checked.prog.looks [] ∧ ∀ (j : Nat) t, fn.params[j]? = some t → Tryd.pinned.checked.prog.wantsStandIn t = false := by
  obtain rfl : f = 7 := Option.some.inj ((show Tryd.prog.funcNamed "witting/wittinglaw09.BooleanCovers" = some 7 by kernel_rfl).symm.trans hf) |>.symm
  obtain rfl : fn = Tryd.f7 := (Option.some.inj (Tryd.func7.symm.trans hfn)).symm
  refine ⟨by kernel_rfl, fun j t ht => ?_⟩
  rw [Tryd.params7] at ht
  have hm : t ∈ #[40] := Array.mem_of_getElem? ht
  have all : (#[40] : Array TypeId).all (fun t => Tryd.prog.wantsStandIn t == false) = true := by kernel_rfl
  have := Array.all_eq_true'.1 all t hm
  show Tryd.prog.wantsStandIn t = false
  simpa using this
/-- The card. -/
theorem card : Rows.BooleanCoversCardSaid :=
  Claim7.holds_tied_plain_at .later [] _ _ _ _ said (fun _ h => by cases h) (by kernel_rfl) (fun _ h => by cases h) booleanCovers_row_tie rfl ⟨rfl, rfl⟩ (by kernel_rfl) rfl plain (by kernel_rfl)
end Go.Proofs.YtfaehcooldhddaaDoor.booleanCovers
namespace Go.Proofs.YtfaehcooldhddaaDoor
/-- ████ THE STATEMENT ████ -/
theorem booleanCovers_holds : Rows.BooleanCoversCardSaid := booleanCovers.card
end Go.Proofs.YtfaehcooldhddaaDoor
