/- The law KbpUnique of package wittinglaw56 returns true for every input, and its arguments read afterwards as before: a protocol that implements a program generates the system of the program, and agrees with its protocol on all histories that occur. (stage theorem).
   Conditions: none. -/
import Derived.Test.YtndfaefmmcoapaaGreatUoRowKit
import Derived.Test.YtndfaefmmcoapaaGreatUoAY
set_option linter.unusedSectionVars false
set_option linter.unusedVariables false
set_option linter.unusedSimpArgs false
set_option linter.defProp false
set_option maxRecDepth 20000
set_option maxHeartbeats 1000000
namespace Go.Proofs.YtndfaefmmcoapaaGreat.kbpUnique
open Go.ChangeShapes Go.WideShapes Go.ChangeAt Go.RowKit Go.Pd
theorem contract (H : Type) (enc : TypeId × Value → H) (W : World) (base : Nat) (args : Array Value) (ds gs : List (DataW H)) (before : List MemPlace)
    (hval : ∀ (j : Nat) t v, Tryz.f7.params[j]? = some t → args[j]? = some v → Value.okWide Tryz.prog W .any base t v)
    (hW : DataW.Whole enc Tryz.prog Tryz.f7.params.toList Rows.kbpUniqueSpec.vars false W args.toList ds gs before) :
    Calls Tryz.prog 7 args W fun e W' => ∃ v, e = .returned v ∧ Rows.kbpUniqueSpec.post enc Tryz.prog Tryz.f7 false true false false W args v W' := by
  have hW' := hW
  obtain ⟨p, q, hA0, hV, rfl, hfz, hnd⟩ := hW
  obtain ⟨rfl, rfl⟩ := trodVars_none hV
  rw [Tryz.params7] at hA0
  obtain ⟨av, l1, l2, l3, rel, sh⟩ := aNi (n := 8) (b := base) (by kernel_rfl) (fun j t v h1 h2 => hval j t v (by rw [Tryz.params7]; simpa using h1) (by simpa using h2)) hA0
  simp only [aW2] at sh
  obtain ⟨a0, _, rfl, s0, a1, _, rfl, s1, a2, _, rfl, s2, rfl⟩ := sh
  have r0 := rel 0 (by simp)
  simp only [List.getD_cons_zero, List.getD_cons_succ] at r0
  have r1 := rel 1 (by simp)
  simp only [List.getD_cons_zero, List.getD_cons_succ] at r1
  have r2 := rel 2 (by simp)
  simp only [List.getD_cons_zero, List.getD_cons_succ] at r2
  obtain ⟨m0, rfl⟩ := aEv r0 s0
  obtain ⟨m1, rfl⟩ := bXm r1 s1
  obtain ⟨m2, b2, rfl⟩ := bYy r2 s2
  have hds : ∃ d0 d1 d2, ds = [d0, d1, d2] := by
    match ds, l3 with
    | [d0, d1, d2], _ => exact ⟨d0, d1, d2, rfl⟩
  obtain ⟨d0, d1, d2, rfl⟩ := hds
  refine (yT.calls (aEc m0 m1 m2 b2) (aEf W) (by simpa using l1.symm) (fun j hj => by rw [aVo]; exact rel j hj)).mono fun e W' hh => ?_
  obtain ⟨rfl, bel⟩ := hh
  exact ⟨_, rfl, aHf laidOut (by kernel_rfl) rfl Tryz.underlying4 rfl hW' rfl bel⟩
set_option maxRecDepth 100000 in
theorem lifted (os : Os) (started : os.Started) (H : Type) (enc : TypeId × Value → H) :
    ReturnsInHanded {} Tryz.checked os 7 .any (Rows.kbpUniqueSpec.pre6 enc Tryz.prog Tryz.f7 Rows.kbpUniqueRow.domain false) (Rows.kbpUniqueSpec.post enc Tryz.prog Tryz.f7 false true false false) := by
  refine returnsInHanded_of_change (C := Tryz.checked) own started (by kernel_rfl) Tryz.func7
    (ChangeSpec.witness6 (enc := enc) (C := Tryz.checked) false ⟨#[], #[(.agg #[.int .i64 0, .slice none 0 0, .slice none 0 0, .slice none 0 0, .slice none 0 0] : Value), (.slice none 0 0 : Value), (.int .u8 0 : Value)], []⟩ 8 (by kernel_rfl) (by kernel_rfl) (by kernel_rfl) (by kernel_rfl)) ?_
  intro W base args ds gs before hval hW _ _
  exact contract H enc W base args ds gs before hval hW
theorem named : Tryz.pinned.checked.prog.funcNamed Rows.kbpUniqueRow.func = some 7 := by kernel_rfl
theorem facts : joinedFacts Tryz.pinned.checked.prog 7 Tryz.f7 Rows.kbpUniqueSpec Rows.kbpUniqueRow = true := by kernel_rfl
theorem said : Rows.KbpUniqueSaid :=
  OpenClaim.holds_of_wide 7 Tryz.f7 rfl rfl rfl rfl rfl rfl rfl ⟨rfl, rfl, rfl, rfl, rfl⟩ rfl rfl rfl rfl rfl named Tryz.func7 facts
    (of_decide_eq_true (by kernel_rfl)) (by unfold Func.isWrapper; first | (rw [if_pos (by decide +kernel)]; kernel_rfl) | (rw [if_neg (by decide +kernel)]; exact ⟨rfl, rfl⟩))
    (fun os started H enc _ => lifted os started H enc)
end Go.Proofs.YtndfaefmmcoapaaGreat.kbpUnique
namespace Go.Proofs.YtndfaefmmcoapaaGreat
theorem kbpUnique_holds : Rows.KbpUniqueSaid := kbpUnique.said
end Go.Proofs.YtndfaefmmcoapaaGreat
