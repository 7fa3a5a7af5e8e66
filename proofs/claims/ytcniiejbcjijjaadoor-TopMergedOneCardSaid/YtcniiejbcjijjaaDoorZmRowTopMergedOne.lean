/- The law TopMergedOne of package wittingtop returns true for every input, and its arguments read afterwards as before: merging a single source, in each of the three ways, is Dalal's revision of its belief by the constraint; so is merging several equal sources (4 facts, 4 copies).
   Condition: the table of the postulates of revision holds what its own initialiser lays (tied by the card). -/
import Derived.Test.YtcniiejbcjijjaaDoorZmRowKit
import Derived.Deep.DeepWitnessRowRef
set_option linter.unusedSectionVars false
set_option linter.unusedVariables false
set_option linter.unusedSimpArgs false
set_option linter.defProp false
set_option maxRecDepth 20000
set_option maxHeartbeats 1000000
namespace Go.Proofs.YtcniiejbcjijjaaDoor.topMergedOne
open Go.ChangeShapes Go.WideShapes Go.ChangeAt Go.RowKit Go.Pd
theorem contract (H : Type) (enc : TypeId × Value → H) (W : World) (base : Nat) (args : Array Value) (ds gs : List (DataW H)) (before : List MemPlace)
    (hval : ∀ (j : Nat) t v, Tryd.f4.params[j]? = some t → args[j]? = some v → Value.okWide Tryd.prog W .any base t v)
    (hW : DataW.Whole enc Tryd.prog Tryd.f4.params.toList Rows.topMergedOneSpec.vars false W args.toList ds gs before) (hL : laidMetH Tryd.prog Rows.topMergedOneRow.laid W) :
    Calls Tryd.prog 4 args W fun e W' => ∃ v, e = .returned v ∧ Rows.topMergedOneSpec.post enc Tryd.prog Tryd.f4 false true false false W args v W' := by
  have hW' := hW
  obtain ⟨p, q, hA0, hV, rfl, hfz, hnd⟩ := hW
  obtain ⟨rfl, rfl⟩ := trodVars_none hV
  rw [Tryd.params4] at hA0
  obtain ⟨av, l1, l2, l3, rel, sh⟩ := dY (n := 8) (b := base) (by kernel_rfl) (fun j t v h1 h2 => hval j t v (by rw [Tryd.params4]; simpa using h1) (by simpa using h2)) hA0
  simp only [lA] at sh
  obtain ⟨a0, _, rfl, s0, a1, _, rfl, s1, a2, _, rfl, s2, rfl⟩ := sh
  have r0 := rel 0 (by simp)
  simp only [List.getD_cons_zero, List.getD_cons_succ] at r0
  have r1 := rel 1 (by simp)
  simp only [List.getD_cons_zero, List.getD_cons_succ] at r1
  have r2 := rel 2 (by simp)
  simp only [List.getD_cons_zero, List.getD_cons_succ] at r2
  obtain ⟨m0, rfl⟩ := nz s0
  obtain ⟨x1, y1, rfl⟩ := vi r1 s1
  obtain ⟨m2, b2, rfl⟩ := p8 r2 s2
  have hds : ∃ d0 d1 d2, ds = [d0, d1, d2] := by
    match ds, l3 with
    | [d0, d1, d2], _ => exact ⟨d0, d1, d2, rfl⟩
  obtain ⟨d0, d1, d2, rfl⟩ := hds
  refine (yY.calls (zu m0 x1 y1 b2) (vo hL) (by simpa using l1.symm) (fun j hj => by rw [mC]; exact rel j hj)).mono fun e W' hh => ?_
  obtain ⟨rfl, bel⟩ := hh
  exact ⟨_, rfl, bF laidOut (by kernel_rfl) rfl Tryd.underlying4 rfl hW' rfl bel⟩
theorem laid_met (os : Os) : laidMetH Tryd.prog Rows.topMergedOneRow.laid ((World.doorLaid Tryd.prog 600 os).forCall (fun _ _ => 0) ⟨#[], #[(.int .i64 0 : Value), (.agg #[.int .u64 0, .int .u64 0] : Value), (.int .u8 0 : Value)], []⟩).memory :=
  laidMetH_of_parts3 (fuel := 8) (laidMet_of_run' 8 (by kernel_rfl) (by kernel_rfl)) (by kernel_rfl) (by kernel_rfl)
theorem reads (os : Os) {H : Type} (enc : TypeId × Value → H) : ∃ places, DataW.whole enc Tryd.prog ((World.doorLaid Tryd.prog 600 os).forCall (fun _ _ => 0) ⟨#[], #[(.int .i64 0 : Value), (.agg #[.int .u64 0, .int .u64 0] : Value), (.int .u8 0 : Value)], []⟩).memory Tryd.f4.params.toList Rows.topMergedOneSpec.vars false (#[(.int .i64 0 : Value), (.agg #[.int .u64 0, .int .u64 0] : Value), (.int .u8 0 : Value)] : Array Value).toList 8 = some ([.lit (.int .i64 0), .agg [.lit (.int .u64 0), .lit (.int .u64 0)], .lit (.int .u8 0)], [], places) :=
  ⟨[], by kernel_rfl⟩
set_option maxRecDepth 100000 in
theorem lifted (os : Os) (started : os.Started) (H : Type) (enc : TypeId × Value → H) (F : Stop.Interp) :
    ReturnsInHanded {} Tryd.checked os 4 .any ((OpenSpec.ofChange Rows.topMergedOneSpec).preRow enc Tryd.prog Tryd.f4 Rows.topMergedOneRow.domain false Rows.topMergedOneRow.laid) (((OpenSpec.ofChange Rows.topMergedOneSpec).at F).post enc Tryd.prog Tryd.f4 false true false false) := by
  obtain ⟨places, hx⟩ := reads os enc
  refine returnsInHanded_of_row (C := Tryd.checked) (s := OpenSpec.ofChange Rows.topMergedOneSpec) own started (by kernel_rfl) Tryd.func4
    (witness_row_atRef (enc := enc) (C := Tryd.checked) false (World.doorLaid Tryd.prog 600 os) #[(.int .i64 0 : Value), (.agg #[.int .u64 0, .int .u64 0] : Value), (.int .u8 0 : Value)] rfl (by kernel_rfl) (by kernel_rfl) (by kernel_rfl)
      (OpenSpec.preRow_of_cond 8 hx (by kernel_rfl) (fun k hk => by cases hk) (by kernel_rfl) (laid_met os))) ?_
  intro W base args ds gs before hval hW _ _ _ hL _ _
  exact contract H enc W base args ds gs before hval hW hL
theorem said : Rows.TopMergedOneSaid :=
  OpenClaim.holds_of_cond 4 Tryd.f4 rfl rfl rfl rfl rfl rfl rfl ⟨rfl, rfl, rfl, rfl, rfl⟩ rfl rfl rfl rfl rfl (by kernel_rfl) Tryd.func4 (by kernel_rfl)
    (of_decide_eq_true (by kernel_rfl)) (by unfold Func.isWrapper; first | (rw [if_pos (by decide +kernel)]; kernel_rfl) | (rw [if_neg (by decide +kernel)]; exact ⟨rfl, rfl⟩))
    (fun os started H enc _ F => by rw [OpenClaim.pre_eq_preRow]; exact lifted os started H enc F)
theorem plain (f : FuncId) (fn : Func) (hf : Tryd.pinned.checked.prog.funcNamed "witting/wittingtop.TopMergedOne" = some f) (hfn : Tryd.pinned.checked.prog.funcs[f]? = some fn) :
    false = Tryd.pinned.checked.prog.looks [] ∧ ∀ (j : Nat) t, fn.params[j]? = some t → Tryd.pinned.checked.prog.wantsStandIn t = false := by
  obtain rfl : f = 4 := Option.some.inj ((show Tryd.prog.funcNamed "witting/wittingtop.TopMergedOne" = some 4 by kernel_rfl).symm.trans hf) |>.symm
  obtain rfl : fn = Tryd.f4 := (Option.some.inj (Tryd.func4.symm.trans hfn)).symm
  refine ⟨by kernel_rfl, fun j t ht => ?_⟩
  rw [Tryd.params4] at ht
  have hm : t ∈ #[3, 24, 5] := Array.mem_of_getElem? ht
  have all : (#[3, 24, 5] : Array TypeId).all (fun t => Tryd.prog.wantsStandIn t == false) = true := by kernel_rfl
  have := Array.all_eq_true'.1 all t hm
  show Tryd.prog.wantsStandIn t = false
  simpa using this
theorem card : Rows.TopMergedOneCardSaid :=
  Claim7.holds_tied_plain_at .later [] [.funcs] true _ _ said (fun _ h => by cases h) (by kernel_rfl) (fun _ h => by cases h) topMergedOne_row_tie rfl ⟨rfl, rfl⟩ (by kernel_rfl) rfl plain (by kernel_rfl)
end Go.Proofs.YtcniiejbcjijjaaDoor.topMergedOne
namespace Go.Proofs.YtcniiejbcjijjaaDoor
theorem topMergedOne_holds : Rows.TopMergedOneCardSaid := topMergedOne.card
end Go.Proofs.YtcniiejbcjijjaaDoor
