/- The law KbpTells of package wittinglaw56 returns true for every input, and its arguments read afterwards as before: an agent that copies a fact that it sees into one that another agent sees, whenever it knows that the other one does not know the fact, makes the other one know it if it is true, and it stops then.
   Conditions: none. -/
import Derived.Test.YtndfaefmmcoapaaGreatUaRowKit
import Derived.Test.YtndfaefmmcoapaaGreatUaNB
set_option linter.unusedSectionVars false
set_option linter.unusedVariables false
set_option linter.unusedSimpArgs false
set_option linter.defProp false
set_option maxRecDepth 20000
set_option maxHeartbeats 1000000
namespace Go.Proofs.YtndfaefmmcoapaaGreat.kbpTells
open Go.ChangeShapes Go.WideShapes Go.ChangeAt Go.RowKit Go.Pd
theorem contract (H : Type) (enc : TypeId × Value → H) (W : World) (base : Nat) (args : Array Value) (ds gs : List (DataW H)) (before : List MemPlace)
    (hval : ∀ (j : Nat) t v, Tryz.f9.params[j]? = some t → args[j]? = some v → Value.okWide Tryz.prog W .any base t v)
    (hW : DataW.Whole enc Tryz.prog Tryz.f9.params.toList Rows.kbpTellsSpec.vars false W args.toList ds gs before) :
    Calls Tryz.prog 9 args W fun e W' => ∃ v, e = .returned v ∧ Rows.kbpTellsSpec.post enc Tryz.prog Tryz.f9 false true false false W args v W' := by
  have hW' := hW
  obtain ⟨p, q, hA0, hV, rfl, hfz, hnd⟩ := hW
  obtain ⟨rfl, rfl⟩ := trodVars_none hV
  rw [Tryz.params9] at hA0
  obtain ⟨av, l1, l2, l3, rel, sh⟩ := aUu (n := 8) (b := base) (by kernel_rfl) (fun j t v h1 h2 => hval j t v (by rw [Tryz.params9]; simpa using h1) (by simpa using h2)) hA0
  simp only [aC] at sh
  obtain ⟨a0, _, rfl, s0, rfl⟩ := sh
  have r0 := rel 0 (by simp)
  simp only [List.getD_cons_zero, List.getD_cons_succ] at r0
  obtain ⟨m0, b0, rfl⟩ := bY3 r0 s0
  have hds : ∃ d0, ds = [d0] := by
    match ds, l3 with
    | [d0], _ => exact ⟨d0, rfl⟩
  obtain ⟨d0, rfl⟩ := hds
  refine (yU.calls (bY4 m0 b0) (aN3 W) (by simpa using l1.symm) (fun j hj => by rw [eB]; exact rel j hj)).mono fun e W' hh => ?_
  obtain ⟨rfl, bel⟩ := hh
  exact ⟨_, rfl, aRc laidOut (by kernel_rfl) rfl Tryz.underlying4 rfl hW' rfl bel⟩
set_option maxRecDepth 100000 in
theorem lifted (os : Os) (started : os.Started) (H : Type) (enc : TypeId × Value → H) :
    ReturnsInHanded {} Tryz.checked os 9 .any (Rows.kbpTellsSpec.pre6 enc Tryz.prog Tryz.f9 Rows.kbpTellsRow.domain false) (Rows.kbpTellsSpec.post enc Tryz.prog Tryz.f9 false true false false) := by
  refine returnsInHanded_of_change (C := Tryz.checked) own started (by kernel_rfl) Tryz.func9
    (ChangeSpec.witness6 (enc := enc) (C := Tryz.checked) false ⟨#[], #[(.int .u16 0 : Value)], []⟩ 8 (by kernel_rfl) (by kernel_rfl) (by kernel_rfl) (by kernel_rfl)) ?_
  intro W base args ds gs before hval hW _ _
  exact contract H enc W base args ds gs before hval hW
theorem named : Tryz.pinned.checked.prog.funcNamed Rows.kbpTellsRow.func = some 9 := by kernel_rfl
theorem facts : joinedFacts Tryz.pinned.checked.prog 9 Tryz.f9 Rows.kbpTellsSpec Rows.kbpTellsRow = true := by kernel_rfl
theorem said : Rows.KbpTellsSaid :=
  OpenClaim.holds_of_wide 9 Tryz.f9 rfl rfl rfl rfl rfl rfl rfl ⟨rfl, rfl, rfl, rfl, rfl⟩ rfl rfl rfl rfl rfl named Tryz.func9 facts
    (of_decide_eq_true (by kernel_rfl)) (by unfold Func.isWrapper; first | (rw [if_pos (by decide +kernel)]; kernel_rfl) | (rw [if_neg (by decide +kernel)]; exact ⟨rfl, rfl⟩))
    (fun os started H enc _ => lifted os started H enc)
end Go.Proofs.YtndfaefmmcoapaaGreat.kbpTells
namespace Go.Proofs.YtndfaefmmcoapaaGreat
theorem kbpTells_holds : Rows.KbpTellsSaid := kbpTells.said
end Go.Proofs.YtndfaefmmcoapaaGreat
