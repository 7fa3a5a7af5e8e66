/- The law TopTautologies of package wittingtop returns true for every input, and its arguments read afterwards as before: a propositional formula is a tautology exactly if its diagram is constant, and exactly if the clauses of its negation have a refutation by resolution.
   Conditions: none. -/
import Derived.Test.YtjmfdgonjighpaaZqRowKit
import Derived.Test.YtjmfdgonjighpaaZqOC
set_option linter.unusedSectionVars false
set_option linter.unusedVariables false
set_option linter.unusedSimpArgs false
set_option linter.defProp false
set_option maxRecDepth 20000
set_option maxHeartbeats 1000000
namespace Go.Proofs.Ytjmfdgonjighpaa.topTautologies
open Go.ChangeShapes Go.WideShapes Go.ChangeAt Go.RowKit Go.Pd
theorem contract (H : Type) (enc : TypeId × Value → H) (W : World) (base : Nat) (args : Array Value) (ds gs : List (DataW H)) (before : List MemPlace)
    (hval : ∀ (j : Nat) t v, Try.f3.params[j]? = some t → args[j]? = some v → Value.okWide Try.prog W .any base t v)
    (hW : DataW.Whole enc Try.prog Try.f3.params.toList Rows.topTautologiesSpec.vars false W args.toList ds gs before) :
    Calls Try.prog 3 args W fun e W' => ∃ v, e = .returned v ∧ Rows.topTautologiesSpec.post enc Try.prog Try.f3 false true false false W args v W' := by
  have hW' := hW
  obtain ⟨p, q, hA0, hV, rfl, hfz, hnd⟩ := hW
  obtain ⟨rfl, rfl⟩ := trodVars_none hV
  rw [Try.params3] at hA0
  obtain ⟨av, l1, l2, l3, rel, sh⟩ := Zm (n := 8) (b := base) (by kernel_rfl) (fun j t v h1 h2 => hval j t v (by rw [Try.params3]; simpa using h1) (by simpa using h2)) hA0
  simp only [jk] at sh
  obtain ⟨a0, _, rfl, s0, rfl⟩ := sh
  have r0 := rel 0 (by simp)
  simp only [List.getD_cons_zero, List.getD_cons_succ] at r0
  obtain ⟨m0, rfl⟩ := QE s0
  have hds : ∃ d0, ds = [d0] := by
    match ds, l3 with
    | [d0], _ => exact ⟨d0, rfl⟩
  obtain ⟨d0, rfl⟩ := hds
  refine (zX.calls (gw m0) (Si W) (by simpa using l1.symm) (fun j hj => by rw [u9]; exact rel j hj)).mono fun e W' hh => ?_
  obtain ⟨rfl, bel⟩ := hh
  exact ⟨_, rfl, Tp laidOut (by kernel_rfl) rfl Try.underlying4 rfl hW' rfl bel⟩
set_option maxRecDepth 100000 in
theorem lifted (os : Os) (started : os.Started) (H : Type) (enc : TypeId × Value → H) :
    ReturnsInHanded {} Try.checked os 3 .any (Rows.topTautologiesSpec.pre6 enc Try.prog Try.f3 Rows.topTautologiesRow.domain false) (Rows.topTautologiesSpec.post enc Try.prog Try.f3 false true false false) := by
  refine returnsInHanded_of_change (C := Try.checked) own started (by kernel_rfl) Try.func3
    (ChangeSpec.witness6 (enc := enc) (C := Try.checked) false ⟨#[], #[(.slice none 0 0 : Value)], []⟩ 8 (by kernel_rfl) (by kernel_rfl) (by kernel_rfl) (by kernel_rfl)) ?_
  intro W base args ds gs before hval hW _ _
  exact contract H enc W base args ds gs before hval hW
theorem named : Try.pinned.checked.prog.funcNamed Rows.topTautologiesRow.func = some 3 := by kernel_rfl
theorem facts : joinedFacts Try.pinned.checked.prog 3 Try.f3 Rows.topTautologiesSpec Rows.topTautologiesRow = true := by kernel_rfl
theorem said : Rows.TopTautologiesSaid :=
  OpenClaim.holds_of_wide 3 Try.f3 rfl rfl rfl rfl rfl rfl rfl ⟨rfl, rfl, rfl, rfl, rfl⟩ rfl rfl rfl rfl rfl named Try.func3 facts
    (of_decide_eq_true (by kernel_rfl)) (by unfold Func.isWrapper; first | (rw [if_pos (by decide +kernel)]; kernel_rfl) | (rw [if_neg (by decide +kernel)]; exact ⟨rfl, rfl⟩))
    (fun os started H enc _ => lifted os started H enc)
end Go.Proofs.Ytjmfdgonjighpaa.topTautologies
namespace Go.Proofs.Ytjmfdgonjighpaa
theorem topTautologies_holds : Rows.TopTautologiesSaid := topTautologies.said
end Go.Proofs.Ytjmfdgonjighpaa
