/- The law TopProgramRuns of package wittingtop returns true for every input, and its arguments read afterwards as before: in the system of a knowledge-based program every state follows from the one before by the xM of the first clauses whose tests the agents PO, where knowledge is checked over all points of the system, and not only those of the same time.
   Conditions: none. -/
import Derived.Test.YtndfaefmmcoapaaGreatUfRowKit
import Derived.Test.YtndfaefmmcoapaaGreatUfLC
set_option linter.unusedSectionVars false
set_option linter.unusedVariables false
set_option linter.unusedSimpArgs false
set_option linter.defProp false
set_option maxRecDepth 20000
set_option maxHeartbeats 1000000
namespace Go.Proofs.YtndfaefmmcoapaaGreat.topProgramRuns
open Go.ChangeShapes Go.WideShapes Go.ChangeAt Go.RowKit Go.Pd
theorem contract (H : Type) (nY : TypeId × Value → H) (W : World) (base : Nat) (args : Array Value) (ds gs : List (DataW H)) (before : List MemPlace)
    (hval : ∀ (j : Nat) t v, Tryz.f11.params[j]? = some t → args[j]? = some v → Value.okWide Tryz.prog W .any base t v)
    (hW : DataW.Whole nY Tryz.prog Tryz.f11.params.toList Rows.topProgramRunsSpec.vars false W args.toList ds gs before) :
    Calls Tryz.prog 11 args W fun e W' => ∃ v, e = .returned v ∧ Rows.topProgramRunsSpec.post nY Tryz.prog Tryz.f11 false true false false W args v W' := by
  have hW' := hW
  obtain ⟨p, q, hA0, hV, rfl, hfz, hnd⟩ := hW
  obtain ⟨rfl, rfl⟩ := trodVars_none hV
  rw [Tryz.params11] at hA0
  obtain ⟨av, l1, l2, l3, rel, sh⟩ := Vk (n := 8) (b := base) (by kernel_rfl) (fun j t v h1 h2 => hval j t v (by rw [Tryz.params11]; simpa using h1) (by simpa using h2)) hA0
  simp only [bn] at sh
  obtain ⟨a0, _, rfl, s0, a1, _, rfl, s1, rfl⟩ := sh
  have r0 := rel 0 (by simp)
  simp only [List.getD_cons_zero, List.getD_cons_succ] at r0
  have r1 := rel 1 (by simp)
  simp only [List.getD_cons_zero, List.getD_cons_succ] at r1
  obtain ⟨m0, rfl⟩ := Od r0 s0
  obtain ⟨m1, b1, rfl⟩ := K8 r1 s1
  have hds : ∃ d0 d1, ds = [d0, d1] := by
    match ds, l3 with
    | [d0, d1], _ => exact ⟨d0, d1, rfl⟩
  obtain ⟨d0, d1, rfl⟩ := hds
  refine (yW.calls (M6 m0 m1 b1) (Ov W) (by simpa using l1.symm) (fun j hj => by rw [Yw]; exact rel j hj)).mono fun e W' hh => ?_
  obtain ⟨rfl, bel⟩ := hh
  exact ⟨_, rfl, QK laidOut (by kernel_rfl) rfl Tryz.underlying4 rfl hW' rfl bel⟩
set_option maxRecDepth 100000 in
theorem lifted (os : Os) (started : os.Started) (H : Type) (nY : TypeId × Value → H) :
    ReturnsInHanded {} Tryz.checked os 11 .any (Rows.topProgramRunsSpec.pre6 nY Tryz.prog Tryz.f11 Rows.topProgramRunsRow.domain false) (Rows.topProgramRunsSpec.post nY Tryz.prog Tryz.f11 false true false false) := by
  refine returnsInHanded_of_change (C := Tryz.checked) own started (by kernel_rfl) Tryz.func11
    (ChangeSpec.witness6 (enc := nY) (C := Tryz.checked) false ⟨#[], #[(.agg #[.int .i64 0, .slice none 0 0, .slice none 0 0, .slice none 0 0, .slice none 0 0] : Value), (.int .u8 0 : Value)], []⟩ 8 (by kernel_rfl) (by kernel_rfl) (by kernel_rfl) (by kernel_rfl)) ?_
  intro W base args ds gs before hval hW _ _
  exact contract H nY W base args ds gs before hval hW
theorem named : Tryz.pinned.checked.prog.funcNamed Rows.topProgramRunsRow.func = some 11 := by kernel_rfl
theorem facts : joinedFacts Tryz.pinned.checked.prog 11 Tryz.f11 Rows.topProgramRunsSpec Rows.topProgramRunsRow = true := by kernel_rfl
theorem said : Rows.TopProgramRunsSaid :=
  OpenClaim.holds_of_wide 11 Tryz.f11 rfl rfl rfl rfl rfl rfl rfl ⟨rfl, rfl, rfl, rfl, rfl⟩ rfl rfl rfl rfl rfl named Tryz.func11 facts
    (of_decide_eq_true (by kernel_rfl)) (by unfold Func.isWrapper; first | (rw [if_pos (by decide +kernel)]; kernel_rfl) | (rw [if_neg (by decide +kernel)]; exact ⟨rfl, rfl⟩))
    (fun os started H nY _ => lifted os started H nY)
end Go.Proofs.YtndfaefmmcoapaaGreat.topProgramRuns
namespace Go.Proofs.YtndfaefmmcoapaaGreat
theorem topProgramRuns_holds : Rows.TopProgramRunsSaid := topProgramRuns.said
end Go.Proofs.YtndfaefmmcoapaaGreat
