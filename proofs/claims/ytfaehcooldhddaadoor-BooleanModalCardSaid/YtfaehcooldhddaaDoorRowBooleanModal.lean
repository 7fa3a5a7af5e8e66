/- The law BooleanModal of package boolean returns true for every input, and its arguments read afterwards as before: if the facts of a propositional tautology are replaced by formulas that know them, it remains one, and an excluded middle of any formula is one.
   Condition: the tables of math/bits hold what their own initialisers lay (tied by the card). -/
import Derived.Test.YtfaehcooldhddaaDoorRowKit
import Derived.Test.YtfaehcooldhddaaDoorL6
set_option linter.unusedSectionVars false
set_option linter.unusedVariables false
set_option linter.unusedSimpArgs false
set_option linter.defProp false
set_option maxRecDepth 20000
namespace Go.Proofs.YtfaehcooldhddaaDoor.booleanModal
open Go.ChangeShapes Go.WideShapes Go.ChangeAt Go.RowKit Go.Pd Go.Pd.Rs Go.Pd.Fm
theorem contract (H : Type) (enc : TypeId × Value → H) (W : World) (base : Nat) (args : Array Value) (ds gs : List (DataW H)) (before : List MemPlace)
    (hval : ∀ (j : Nat) t v, Tryd.f9.params[j]? = some t → args[j]? = some v → Value.okWide Tryd.prog W .any base t v)
    (hW : DataW.Whole enc Tryd.prog Tryd.f9.params.toList Rows.booleanModalSpec.vars false W args.toList ds gs before) (hL : laidMetH Tryd.prog Rows.booleanModalRow.laid W) :
    Calls Tryd.prog 9 args W fun e W' => ∃ v, e = .returned v ∧ Rows.booleanModalSpec.post enc Tryd.prog Tryd.f9 false true false false W args v W' := by
  have hW' := hW
  obtain ⟨p, q, hA0, hV, rfl, hfz, hnd⟩ := hW
  obtain ⟨rfl, rfl⟩ := trodVars_none hV
  rw [Tryd.params9] at hA0
  obtain ⟨av, l1, l2, l3, rel, sh⟩ := args_rp (n := 5) (b := base) (by kernel_rfl) (fun j t v h1 h2 => hval j t v (by rw [Tryd.params9]; simpa using h1) (by simpa using h2)) hA0
  simp only [shapesV] at sh
  obtain ⟨a0, _, rfl, s0, a1, _, rfl, s1, rfl⟩ := sh
  have r0 := rel 0 (by simp)
  simp only [List.getD_cons_zero, List.getD_cons_succ] at r0
  have r1 := rel 1 (by simp)
  simp only [List.getD_cons_zero, List.getD_cons_succ] at r1
  obtain ⟨m0, rfl⟩ := nds_of s0
  obtain ⟨m1, b1, rfl⟩ := u8_of r1 s1
  have hds : ∃ d0 d1, ds = [d0, d1] := by
    match ds, l3 with
    | [d0, d1], _ => exact ⟨d0, d1, rfl⟩
  obtain ⟨d0, d1, rfl⟩ := hds
  refine (Runs.calls (booleanModal_runs m0 m1 b1) (tabs_ok hL) (by simpa using l1.symm) (fun j hj => by rw [toList_getD]; exact rel j hj)).mono fun e W' hh => ?_
  obtain ⟨rfl, bel⟩ := hh
  exact ⟨_, rfl, law_post laidOut (by kernel_rfl) rfl Tryd.underlying4 rfl hW' rfl bel⟩
theorem laid_met (os : Os) : laidMet Tryd.prog Rows.booleanModalRow.laid ((laidWorld os).forCall (fun _ _ => 0) ⟨#[], #[(.slice none 0 0 : Value), (.int .u8 0 : Value)], []⟩).memory :=
  laidMet_of_run' 8 (by kernel_rfl) (by kernel_rfl)
theorem reads (os : Os) {H : Type} (enc : TypeId × Value → H) : ∃ places, DataW.whole enc Tryd.prog ((laidWorld os).forCall (fun _ _ => 0) ⟨#[], #[(.slice none 0 0 : Value), (.int .u8 0 : Value)], []⟩).memory Tryd.f9.params.toList Rows.booleanModalSpec.vars false (#[(.slice none 0 0 : Value), (.int .u8 0 : Value)] : Array Value).toList 8 = some ([.nil, .lit (.int .u8 0)], [], places) :=
  ⟨[], by kernel_rfl⟩
set_option maxRecDepth 100000 in
theorem lifted (os : Os) (started : os.Started) (H : Type) (enc : TypeId × Value → H) (F : Stop.Interp) :
    ReturnsInHanded {} Tryd.checked os 9 .any ((OpenSpec.ofChange Rows.booleanModalSpec).preRow enc Tryd.prog Tryd.f9 Rows.booleanModalRow.domain false Rows.booleanModalRow.laid) (((OpenSpec.ofChange Rows.booleanModalSpec).at F).post enc Tryd.prog Tryd.f9 false true false false) := by
  obtain ⟨places, hx⟩ := reads os enc
  refine returnsInHanded_of_row (C := Tryd.checked) (s := OpenSpec.ofChange Rows.booleanModalSpec) own started (by kernel_rfl) Tryd.func9
    (witness_row_at (enc := enc) (C := Tryd.checked) false (laidWorld os) #[(.slice none 0 0 : Value), (.int .u8 0 : Value)] rfl (by kernel_rfl) (by kernel_rfl) (by kernel_rfl)
      (OpenSpec.preRow_of_cond 8 hx (by kernel_rfl) (fun k hk => by cases hk) (by kernel_rfl) (laid_met os))) ?_
  intro W base args ds gs before hval hW _ _ _ hL _ _
  exact contract H enc W base args ds gs before hval hW hL
theorem said : Rows.BooleanModalSaid :=
  OpenClaim.holds_of_cond 9 Tryd.f9 rfl rfl rfl rfl rfl rfl rfl ⟨rfl, rfl, rfl, rfl, rfl⟩ rfl rfl rfl rfl rfl (by kernel_rfl) Tryd.func9 (by kernel_rfl)
    (of_decide_eq_true (by kernel_rfl)) (by unfold Func.isWrapper; first | (rw [if_pos (by decide +kernel)]; kernel_rfl) | (rw [if_neg (by decide +kernel)]; exact ⟨rfl, rfl⟩))
    (fun os started H enc _ F => by rw [OpenClaim.pre_eq_preRow]; exact lifted os started H enc F)
theorem plain (f : FuncId) (fn : Func) (hf : Tryd.pinned.checked.prog.funcNamed "witting/wittinglaw09.BooleanModal" = some f) (hfn : Tryd.pinned.checked.prog.funcs[f]? = some fn) :
    false = Tryd.pinned.checked.prog.looks [] ∧ ∀ (j : Nat) t, fn.params[j]? = some t → Tryd.pinned.checked.prog.wantsStandIn t = false := by
  obtain rfl : f = 9 := Option.some.inj ((show Tryd.prog.funcNamed "witting/wittinglaw09.BooleanModal" = some 9 by kernel_rfl).symm.trans hf) |>.symm
  obtain rfl : fn = Tryd.f9 := (Option.some.inj (Tryd.func9.symm.trans hfn)).symm
  refine ⟨by kernel_rfl, fun j t ht => ?_⟩
  rw [Tryd.params9] at ht
  have hm : t ∈ #[22, 5] := Array.mem_of_getElem? ht
  have all : (#[22, 5] : Array TypeId).all (fun t => Tryd.prog.wantsStandIn t == false) = true := by kernel_rfl
  have := Array.all_eq_true'.1 all t hm
  show Tryd.prog.wantsStandIn t = false
  simpa using this
/-- The card. -/
theorem card : Rows.BooleanModalCardSaid :=
  Claim7.holds_tied_plain_at .later [] _ _ _ _ said (fun _ h => by cases h) (by kernel_rfl) (fun _ h => by cases h) booleanModal_row_tie rfl ⟨rfl, rfl⟩ (by kernel_rfl) rfl plain (by kernel_rfl)
end Go.Proofs.YtfaehcooldhddaaDoor.booleanModal
namespace Go.Proofs.YtfaehcooldhddaaDoor
/-- ████ THE STATEMENT ████ -/
theorem booleanModal_holds : Rows.BooleanModalCardSaid := booleanModal.card
end Go.Proofs.YtfaehcooldhddaaDoor
