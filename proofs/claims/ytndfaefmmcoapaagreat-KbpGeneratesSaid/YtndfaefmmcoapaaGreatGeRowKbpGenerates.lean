/- The law KbpGenerates of package wittinglaw56 returns true for every input, and its arguments read afterwards as before: Generate and Implements return what is specified for any protocol.
   Conditions: none. -/
import Derived.Test.YtndfaefmmcoapaaGreatGeRowKit
import Derived.Test.YtndfaefmmcoapaaGreatGeRB
set_option linter.unusedSectionVars false
set_option linter.unusedVariables false
set_option linter.unusedSimpArgs false
set_option linter.defProp false
set_option maxRecDepth 20000
set_option maxHeartbeats 1000000
namespace Go.Proofs.YtndfaefmmcoapaaGreat.kbpGenerates
open Go.ChangeShapes Go.WideShapes Go.ChangeAt Go.RowKit Go.Pd
theorem contract (H : Type) (enc : TypeId × Value → H) (W : World) (base : Nat) (args : Array Value) (ds gs : List (DataW H)) (before : List MemPlace)
    (hval : ∀ (j : Nat) t v, Tryz.f5.params[j]? = some t → args[j]? = some v → Value.okWide Tryz.prog W .any base t v)
    (hW : DataW.Whole enc Tryz.prog Tryz.f5.params.toList Rows.kbpGeneratesSpec.vars false W args.toList ds gs before) :
    Calls Tryz.prog 5 args W fun e W' => ∃ v, e = .returned v ∧ Rows.kbpGeneratesSpec.post enc Tryz.prog Tryz.f5 false true false false W args v W' := by
  have hW' := hW
  obtain ⟨p, q, hA0, hV, rfl, hfz, hnd⟩ := hW
  obtain ⟨rfl, rfl⟩ := trodVars_none hV
  rw [Tryz.params5] at hA0
  obtain ⟨av, l1, l2, l3, rel, sh⟩ := VL (n := 8) (b := base) (by kernel_rfl) (fun j t v h1 h2 => hval j t v (by rw [Tryz.params5]; simpa using h1) (by simpa using h2)) hA0
  simp only [y9] at sh
  obtain ⟨a0, _, rfl, s0, a1, _, rfl, s1, a2, _, rfl, s2, rfl⟩ := sh
  have r0 := rel 0 (by simp)
  simp only [List.getD_cons_zero, List.getD_cons_succ] at r0
  have r1 := rel 1 (by simp)
  simp only [List.getD_cons_zero, List.getD_cons_succ] at r1
  have r2 := rel 2 (by simp)
  simp only [List.getD_cons_zero, List.getD_cons_succ] at r2
  obtain ⟨m0, rfl⟩ := Ot r0 s0
  obtain ⟨m1, rfl⟩ := Lu r1 s1
  obtain ⟨m2, rfl⟩ := MC s2
  have hds : ∃ d0 d1 d2, ds = [d0, d1, d2] := by
    match ds, l3 with
    | [d0, d1, d2], _ => exact ⟨d0, d1, d2, rfl⟩
  obtain ⟨d0, d1, d2, rfl⟩ := hds
  refine (xA.calls (WX m0 m1 m2) (PA W) (by simpa using l1.symm) (fun j hj => by rw [YN]; exact rel j hj)).mono fun e W' hh => ?_
  obtain ⟨rfl, bel⟩ := hh
  exact ⟨_, rfl, QW laidOut (by kernel_rfl) rfl Tryz.underlying4 rfl hW' rfl bel⟩
set_option maxRecDepth 100000 in
theorem lifted (os : Os) (started : os.Started) (H : Type) (enc : TypeId × Value → H) :
    ReturnsInHanded {} Tryz.checked os 5 .any (Rows.kbpGeneratesSpec.pre6 enc Tryz.prog Tryz.f5 Rows.kbpGeneratesRow.domain false) (Rows.kbpGeneratesSpec.post enc Tryz.prog Tryz.f5 false true false false) := by
  refine returnsInHanded_of_change (C := Tryz.checked) own started (by kernel_rfl) Tryz.func5
    (ChangeSpec.witness6 (enc := enc) (C := Tryz.checked) false ⟨#[], #[(.agg #[.int .i64 0, .slice none 0 0, .slice none 0 0, .slice none 0 0, .slice none 0 0] : Value), (.slice none 0 0 : Value), (.int .i64 0 : Value)], []⟩ 8 (by kernel_rfl) (by kernel_rfl) (by kernel_rfl) (by kernel_rfl)) ?_
  intro W base args ds gs before hval hW _ _
  exact contract H enc W base args ds gs before hval hW
theorem named : Tryz.pinned.checked.prog.funcNamed Rows.kbpGeneratesRow.func = some 5 := by kernel_rfl
theorem k10 : (Rows.kbpGeneratesRow.inPlace == Tryz.pinned.checked.prog.inPlace 5) = true := by kernel_rfl
theorem k11 : (Rows.kbpGeneratesRow.unfollowed == Tryz.pinned.checked.prog.unfollowed 5) = true := by kernel_rfl
theorem k12 : (Rows.kbpGeneratesRow.recurses == Tryz.pinned.checked.prog.recurses 5) = true := by kernel_rfl
theorem k13 : (Rows.kbpGeneratesRow.named == Tryz.pinned.checked.prog.varsNamed 5) = true := by kernel_rfl
theorem k22 : (Rows.kbpGeneratesRow.plainKeys == Tryz.pinned.checked.prog.plainKeys) = true := by kernel_rfl
theorem k23b : Tryz.pinned.checked.prog.stopsHeard = true := by kernel_rfl
theorem k24 : Tryz.pinned.checked.prog.mayEnter = true := by kernel_rfl
theorem k24b : (Rows.kbpGeneratesRow.lifted == Tryz.pinned.checked.prog.liftsFinal) = true := by kernel_rfl
theorem k3 : mapsRowed Tryz.pinned.checked.prog = true := by kernel_rfl
theorem k2 : laidOutB Tryz.pinned.checked.prog = true := by kernel_rfl
theorem facts : joinedFacts Tryz.pinned.checked.prog 5 Tryz.f5 Rows.kbpGeneratesSpec Rows.kbpGeneratesRow = true := by
  unfold joinedFacts
  simp only [Bool.and_eq_true]
  exact ⟨⟨⟨⟨⟨⟨⟨⟨⟨⟨⟨⟨⟨⟨⟨⟨⟨⟨⟨⟨⟨⟨⟨⟨⟨⟨⟨⟨⟨⟨⟨by kernel_rfl, k2⟩, k3⟩, by kernel_rfl⟩, by kernel_rfl⟩, by kernel_rfl⟩, by kernel_rfl⟩, by kernel_rfl⟩, by kernel_rfl⟩, k10⟩, k11⟩, k12⟩, k13⟩, by kernel_rfl⟩, by kernel_rfl⟩, by kernel_rfl⟩, by kernel_rfl⟩, by kernel_rfl⟩, by kernel_rfl⟩, by kernel_rfl⟩, by kernel_rfl⟩, by kernel_rfl⟩, k22⟩, by kernel_rfl⟩, k23b⟩, k24⟩, k24b⟩, by kernel_rfl⟩, by kernel_rfl⟩, by kernel_rfl⟩, by kernel_rfl⟩, by kernel_rfl⟩
theorem said : Rows.KbpGeneratesSaid :=
  OpenClaim.holds_of_wide 5 Tryz.f5 rfl rfl rfl rfl rfl rfl rfl ⟨rfl, rfl, rfl, rfl, rfl⟩ rfl rfl rfl rfl rfl named Tryz.func5 facts
    (of_decide_eq_true (by kernel_rfl)) (by unfold Func.isWrapper; first | (rw [if_pos (by decide +kernel)]; kernel_rfl) | (rw [if_neg (by decide +kernel)]; exact ⟨rfl, rfl⟩))
    (fun os started H enc _ => lifted os started H enc)
end Go.Proofs.YtndfaefmmcoapaaGreat.kbpGenerates
namespace Go.Proofs.YtndfaefmmcoapaaGreat
theorem kbpGenerates_holds : Rows.KbpGeneratesSaid := kbpGenerates.said
end Go.Proofs.YtndfaefmmcoapaaGreat
