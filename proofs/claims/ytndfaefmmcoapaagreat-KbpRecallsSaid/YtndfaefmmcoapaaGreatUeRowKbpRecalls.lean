/- The law KbpRecalls of package wittinglaw56 returns true for every input, and its arguments read afterwards as before: the system of a program is synchronous, its agents recall, and begins with the initial states.
   Conditions: none. -/
import Derived.Test.YtndfaefmmcoapaaGreatUeRowKit
import Derived.Test.YtndfaefmmcoapaaGreatUeAY
set_option linter.unusedSectionVars false
set_option linter.unusedVariables false
set_option linter.unusedSimpArgs false
set_option linter.defProp false
set_option maxRecDepth 20000
set_option maxHeartbeats 1000000
namespace Go.Proofs.YtndfaefmmcoapaaGreat.kbpRecalls
open Go.ChangeShapes Go.WideShapes Go.ChangeAt Go.RowKit Go.Pd
theorem contract (H : Type) (enc : TypeId × Value → H) (W : World) (base : Nat) (args : Array Value) (ds gs : List (DataW H)) (before : List MemPlace)
    (hval : ∀ (j : Nat) t v, Tryz.f10.params[j]? = some t → args[j]? = some v → Value.okWide Tryz.prog W .any base t v)
    (hW : DataW.Whole enc Tryz.prog Tryz.f10.params.toList Rows.kbpRecallsSpec.vars false W args.toList ds gs before) :
    Calls Tryz.prog 10 args W fun e W' => ∃ v, e = .returned v ∧ Rows.kbpRecallsSpec.post enc Tryz.prog Tryz.f10 false true false false W args v W' := by
  have hW' := hW
  obtain ⟨p, q, hA0, hV, rfl, hfz, hnd⟩ := hW
  obtain ⟨rfl, rfl⟩ := trodVars_none hV
  rw [Tryz.params10] at hA0
  obtain ⟨av, l1, l2, l3, rel, sh⟩ := aMo (n := 8) (b := base) (by kernel_rfl) (fun j t v h1 h2 => hval j t v (by rw [Tryz.params10]; simpa using h1) (by simpa using h2)) hA0
  simp only [aVr] at sh
  obtain ⟨a0, _, rfl, s0, a1, _, rfl, s1, rfl⟩ := sh
  have r0 := rel 0 (by simp)
  simp only [List.getD_cons_zero, List.getD_cons_succ] at r0
  have r1 := rel 1 (by simp)
  simp only [List.getD_cons_zero, List.getD_cons_succ] at r1
  obtain ⟨m0, rfl⟩ := aCj r0 s0
  obtain ⟨m1, b1, rfl⟩ := bWq r1 s1
  have hds : ∃ d0 d1, ds = [d0, d1] := by
    match ds, l3 with
    | [d0, d1], _ => exact ⟨d0, d1, rfl⟩
  obtain ⟨d0, d1, rfl⟩ := hds
  refine (yV.calls (aLv m0 m1 b1) (aD2 W) (by simpa using l1.symm) (fun j hj => by rw [aUg]; exact rel j hj)).mono fun e W' hh => ?_
  obtain ⟨rfl, bel⟩ := hh
  exact ⟨_, rfl, aGw laidOut (by kernel_rfl) rfl Tryz.underlying4 rfl hW' rfl bel⟩
set_option maxRecDepth 100000 in
theorem lifted (os : Os) (started : os.Started) (H : Type) (enc : TypeId × Value → H) :
    ReturnsInHanded {} Tryz.checked os 10 .any (Rows.kbpRecallsSpec.pre6 enc Tryz.prog Tryz.f10 Rows.kbpRecallsRow.domain false) (Rows.kbpRecallsSpec.post enc Tryz.prog Tryz.f10 false true false false) := by
  refine returnsInHanded_of_change (C := Tryz.checked) own started (by kernel_rfl) Tryz.func10
    (ChangeSpec.witness6 (enc := enc) (C := Tryz.checked) false ⟨#[], #[(.agg #[.int .i64 0, .slice none 0 0, .slice none 0 0, .slice none 0 0, .slice none 0 0] : Value), (.int .u8 0 : Value)], []⟩ 8 (by kernel_rfl) (by kernel_rfl) (by kernel_rfl) (by kernel_rfl)) ?_
  intro W base args ds gs before hval hW _ _
  exact contract H enc W base args ds gs before hval hW
theorem named : Tryz.pinned.checked.prog.funcNamed Rows.kbpRecallsRow.func = some 10 := by kernel_rfl
theorem facts : joinedFacts Tryz.pinned.checked.prog 10 Tryz.f10 Rows.kbpRecallsSpec Rows.kbpRecallsRow = true := by kernel_rfl
theorem said : Rows.KbpRecallsSaid :=
  OpenClaim.holds_of_wide 10 Tryz.f10 rfl rfl rfl rfl rfl rfl rfl ⟨rfl, rfl, rfl, rfl, rfl⟩ rfl rfl rfl rfl rfl named Tryz.func10 facts
    (of_decide_eq_true (by kernel_rfl)) (by unfold Func.isWrapper; first | (rw [if_pos (by decide +kernel)]; kernel_rfl) | (rw [if_neg (by decide +kernel)]; exact ⟨rfl, rfl⟩))
    (fun os started H enc _ => lifted os started H enc)
end Go.Proofs.YtndfaefmmcoapaaGreat.kbpRecalls
namespace Go.Proofs.YtndfaefmmcoapaaGreat
theorem kbpRecalls_holds : Rows.KbpRecallsSaid := kbpRecalls.said
end Go.Proofs.YtndfaefmmcoapaaGreat
