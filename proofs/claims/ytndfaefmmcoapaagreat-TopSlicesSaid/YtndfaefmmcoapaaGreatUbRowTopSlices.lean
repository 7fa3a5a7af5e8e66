/- The law TopSlices of package wittingtop returns true for every input, and its arguments read afterwards as before: in a synchronous system a formula about knowledge holds at a point exactly if it holds at the run in the slice of this time (40 points, 30 nodes).
   Conditions: none. -/
import Derived.Test.YtndfaefmmcoapaaGreatUbRowKit
import Derived.Test.YtndfaefmmcoapaaGreatUbXE
set_option linter.unusedSectionVars false
set_option linter.unusedVariables false
set_option linter.unusedSimpArgs false
set_option linter.defProp false
set_option maxRecDepth 20000
set_option maxHeartbeats 1000000
namespace Go.Proofs.YtndfaefmmcoapaaGreat.topSlices
open Go.ChangeShapes Go.WideShapes Go.ChangeAt Go.RowKit Go.Pd
theorem contract (H : Type) (enc : TypeId × Value → H) (W : World) (base : Nat) (args : Array Value) (ds gs : List (DataW H)) (before : List MemPlace)
    (hval : ∀ (j : Nat) t v, Tryz.f14.params[j]? = some t → args[j]? = some v → Value.okWide Tryz.prog W .any base t v)
    (hW : DataW.Whole enc Tryz.prog Tryz.f14.params.toList Rows.topSlicesSpec.vars false W args.toList ds gs before) :
    Calls Tryz.prog 14 args W fun e W' => ∃ v, e = .returned v ∧ Rows.topSlicesSpec.post enc Tryz.prog Tryz.f14 false true false false W args v W' := by
  have hW' := hW
  obtain ⟨p, q, hA0, hV, rfl, hfz, hnd⟩ := hW
  obtain ⟨rfl, rfl⟩ := trodVars_none hV
  rw [Tryz.params14] at hA0
  obtain ⟨av, l1, l2, l3, rel, sh⟩ := Zj (n := 8) (b := base) (by kernel_rfl) (fun j t v h1 h2 => hval j t v (by rw [Tryz.params14]; simpa using h1) (by simpa using h2)) hA0
  simp only [my] at sh
  obtain ⟨a0, _, rfl, s0, a1, _, rfl, s1, rfl⟩ := sh
  have r0 := rel 0 (by simp)
  simp only [List.getD_cons_zero, List.getD_cons_succ] at r0
  have r1 := rel 1 (by simp)
  simp only [List.getD_cons_zero, List.getD_cons_succ] at r1
  obtain ⟨m0, rfl⟩ := Od r0 s0
  obtain ⟨m1, rfl⟩ := OF s1
  have hds : ∃ d0 d1, ds = [d0, d1] := by
    match ds, l3 with
    | [d0, d1], _ => exact ⟨d0, d1, rfl⟩
  obtain ⟨d0, d1, rfl⟩ := hds
  refine (zX.calls (Us m0 m1) (RW W) (by simpa using l1.symm) (fun j hj => by rw [jx]; exact rel j hj)).mono fun e W' hh => ?_
  obtain ⟨rfl, bel⟩ := hh
  exact ⟨_, rfl, Tf laidOut (by kernel_rfl) rfl Tryz.underlying4 rfl hW' rfl bel⟩
set_option maxRecDepth 100000 in
theorem lifted (os : Os) (started : os.Started) (H : Type) (enc : TypeId × Value → H) :
    ReturnsInHanded {} Tryz.checked os 14 .any (Rows.topSlicesSpec.pre6 enc Tryz.prog Tryz.f14 Rows.topSlicesRow.domain false) (Rows.topSlicesSpec.post enc Tryz.prog Tryz.f14 false true false false) := by
  refine returnsInHanded_of_change (C := Tryz.checked) own started (by kernel_rfl) Tryz.func14
    (ChangeSpec.witness6 (enc := enc) (C := Tryz.checked) false ⟨#[], #[(.agg #[.int .i64 0, .int .i64 0, .int .i64 0, .slice none 0 0] : Value), (.slice none 0 0 : Value)], []⟩ 8 (by kernel_rfl) (by kernel_rfl) (by kernel_rfl) (by kernel_rfl)) ?_
  intro W base args ds gs before hval hW _ _
  exact contract H enc W base args ds gs before hval hW
theorem named : Tryz.pinned.checked.prog.funcNamed Rows.topSlicesRow.func = some 14 := by kernel_rfl
theorem facts : joinedFacts Tryz.pinned.checked.prog 14 Tryz.f14 Rows.topSlicesSpec Rows.topSlicesRow = true := by kernel_rfl
theorem said : Rows.TopSlicesSaid :=
  OpenClaim.holds_of_wide 14 Tryz.f14 rfl rfl rfl rfl rfl rfl rfl ⟨rfl, rfl, rfl, rfl, rfl⟩ rfl rfl rfl rfl rfl named Tryz.func14 facts
    (of_decide_eq_true (by kernel_rfl)) (by unfold Func.isWrapper; first | (rw [if_pos (by decide +kernel)]; kernel_rfl) | (rw [if_neg (by decide +kernel)]; exact ⟨rfl, rfl⟩))
    (fun os started H enc _ => lifted os started H enc)
end Go.Proofs.YtndfaefmmcoapaaGreat.topSlices
namespace Go.Proofs.YtndfaefmmcoapaaGreat
theorem topSlices_holds : Rows.TopSlicesSaid := topSlices.said
end Go.Proofs.YtndfaefmmcoapaaGreat
