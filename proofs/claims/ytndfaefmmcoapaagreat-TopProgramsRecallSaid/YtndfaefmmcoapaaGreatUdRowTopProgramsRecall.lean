/- The law TopProgramsRecall of package wittingtop returns true for every input, and its arguments read afterwards as before: in the systems of knowledge-based programs the agents tell the time and recall, so that what they bVo to be the case next is next known; and what they bVo of the present they bVo to have known (4 times, 20 nodes).
   Conditions: none. -/
import Derived.Test.YtndfaefmmcoapaaGreatUdRowKit
import Derived.Test.YtndfaefmmcoapaaGreatUdMH
import Derived.SizedLaws
set_option linter.unusedSectionVars false
set_option linter.unusedVariables false
set_option linter.unusedSimpArgs false
set_option linter.defProp false
set_option maxRecDepth 20000
set_option maxHeartbeats 1000000
namespace Go.Proofs.YtndfaefmmcoapaaGreat.topProgramsRecall
open Go.ChangeShapes Go.WideShapes Go.ChangeAt Go.RowKit Go.Pd
open Go.Pd.Kb Go.Pd.Fm in
theorem prog_small {m : PrA} (s : mU reachBytes Tryz.prog 8 26 m.d) : ∀ l ∈ m.xF, l.length ≤ 4400000000000 := by
  have h1 : ∃ ds, m.d = .agg ds ∧ vH reachBytes Tryz.prog 8 26 ds := by
    unfold mU at s
    rw [Tryz.underlying26] at s
    exact s
  obtain ⟨ds, e, q⟩ := h1
  have e : ds = m.cells := by
    have : D.agg m.cells = D.agg ds := e
    injection this with h
    exact h.symm
  subst e
  rw [vH.eq_def] at q
  simp only [Tryz.underlying26] at q
  simp only [List.map_cons, List.map_nil, uN] at q
  obtain ⟨a1, b1, e1, s1, a2, b2, e2, s2, a3, b3, e3, s3, a4, b4, e4, s4, a5, b5, e5, s5, _⟩ := q
  rw [vH, Tryz.underlying3] at s1
  obtain ⟨x, rfl⟩ := s1
  rw [vH, Tryz.underlying22] at s2 s3
  obtain ⟨y, rfl, _⟩ := s2
  obtain ⟨z, rfl, _⟩ := s3
  rw [vH, Tryz.underlying23] at s4
  obtain ⟨els, rfl, _, h4⟩ := s4
  simp only [PrA.cells, List.cons_append, List.nil_append, List.cons.injEq] at e1
  obtain ⟨_, rfl⟩ := e1
  simp only [List.cons_append, List.nil_append, List.cons.injEq] at e2
  obtain ⟨_, rfl⟩ := e2
  simp only [List.cons_append, List.nil_append, List.cons.injEq] at e3
  obtain ⟨_, rfl⟩ := e3
  simp only [List.cons_append, List.nil_append, List.cons.injEq, D.sl.injEq] at e4
  intro l hl
  have hm := h4 [D.sl 2 (asR l)] (by rw [← e4.1.2]; exact List.mem_map.2 ⟨l, hl, rfl⟩)
  rw [vH, Tryz.underlying93] at hm
  simp only [List.map_cons, List.map_nil, uN] at hm
  obtain ⟨a, b, e, s1, _⟩ := hm
  rw [vH, Tryz.underlying91] at s1
  obtain ⟨els2, rfl, hb, _⟩ := s1
  simp only [List.cons_append, List.nil_append, List.cons.injEq, D.sl.injEq] at e
  rw [← e.1.2, show Tryz.prog.bytesOf 95 = 32 by kernel_rfl, qL] at hb
  have : reachBytes = 140737488351232 := rfl
  omega
theorem contract (H : Type) (enc : TypeId × Value → H) (W : World) (base : Nat) (args : Array Value) (ds gs : List (DataW H)) (before : List MemPlace)
    (hval : ∀ (j : Nat) t v, Tryz.f12.params[j]? = some t → args[j]? = some v → Value.okWide Tryz.prog W .any base t v)
    (hsz : (DataW.weightsEach Tryz.prog (Tryz.f12.params.toList ++ Rows.topProgramsRecallSpec.plain.varTypes Tryz.prog) (ds ++ gs)).all (· ≤ reachBytes) = true)
    (hW : DataW.Whole enc Tryz.prog Tryz.f12.params.toList Rows.topProgramsRecallSpec.vars false W args.toList ds gs before) :
    Calls Tryz.prog 12 args W fun e W' => ∃ v, e = .returned v ∧ Rows.topProgramsRecallSpec.post enc Tryz.prog Tryz.f12 false true false false W args v W' := by
  have hW' := hW
  obtain ⟨p, q, hA0, hV, rfl, hfz, hnd⟩ := hW
  obtain ⟨rfl, rfl⟩ := trodVars_none hV
  rw [List.append_nil, show Rows.topProgramsRecallSpec.plain.varTypes Tryz.prog = [] by kernel_rfl, List.append_nil, Tryz.params12] at hsz
  rw [Tryz.params12] at hA0
  obtain ⟨av, l1, l2, l3, rel, sh⟩ := aQp (B := reachBytes) (n := 8) (b := base) (by kernel_rfl) (fun j t v h1 h2 => hval j t v (by rw [Tryz.params12]; simpa using h1) (by simpa using h2)) hA0 fun k hk => by simpa using List.all_eq_true.1 hsz k hk
  simp only [aUl] at sh
  obtain ⟨a0, _, rfl, s0, a1, _, rfl, s1, a2, _, rfl, s2, rfl⟩ := sh
  have r0 := rel 0 (by simp)
  simp only [List.getD_cons_zero, List.getD_cons_succ] at r0
  have r1 := rel 1 (by simp)
  simp only [List.getD_cons_zero, List.getD_cons_succ] at r1
  have r2 := rel 2 (by simp)
  simp only [List.getD_cons_zero, List.getD_cons_succ] at r2
  obtain ⟨m0, rfl⟩ := aB0 r0 (fD s0)
  obtain ⟨m1, rfl⟩ := bWn (fD s1)
  obtain ⟨m2, b2, rfl⟩ := bUh r2 (fD s2)
  have hds : ∃ d0 d1 d2, ds = [d0, d1, d2] := by
    match ds, l3 with
    | [d0, d1, d2], _ => exact ⟨d0, d1, d2, rfl⟩
  obtain ⟨d0, d1, d2, rfl⟩ := hds
  refine (yB.calls (aKw m0 m1 m2 b2 (prog_small s0)) (aBo W) (by simpa using l1.symm) (fun j hj => by rw [aTi]; exact rel j hj)).mono fun e W' hh => ?_
  obtain ⟨rfl, bel⟩ := hh
  exact ⟨_, rfl, aEd laidOut (by kernel_rfl) rfl Tryz.underlying4 rfl hW' rfl bel⟩
set_option maxRecDepth 100000 in
theorem lifted (os : Os) (started : os.Started) (H : Type) (enc : TypeId × Value → H) :
    ReturnsInHanded {} Tryz.checked os 12 .any (Rows.topProgramsRecallSpec.pre6 enc Tryz.prog Tryz.f12 Rows.topProgramsRecallRow.domain false) (Rows.topProgramsRecallSpec.post enc Tryz.prog Tryz.f12 false true false false) := by
  refine returnsInHanded_of_change_sized (C := Tryz.checked) own started (by kernel_rfl) Tryz.func12
    (ChangeSpec.witness6 (enc := enc) (C := Tryz.checked) false ⟨#[], #[(.agg #[.int .i64 0, .slice none 0 0, .slice none 0 0, .slice none 0 0, .slice none 0 0] : Value), (.slice none 0 0 : Value), (.int .u8 0 : Value)], []⟩ 8 (by kernel_rfl) (by kernel_rfl) (by kernel_rfl) (by kernel_rfl)) ?_
  intro W base args ds gs before hval hW _ hsz _
  exact contract H enc W base args ds gs before hval hsz hW
theorem named : Tryz.pinned.checked.prog.funcNamed Rows.topProgramsRecallRow.func = some 12 := by kernel_rfl
theorem facts : joinedFacts Tryz.pinned.checked.prog 12 Tryz.f12 Rows.topProgramsRecallSpec Rows.topProgramsRecallRow = true := by kernel_rfl
theorem said : Rows.TopProgramsRecallSaid :=
  OpenClaim.holds_of_wide 12 Tryz.f12 rfl rfl rfl rfl rfl rfl rfl ⟨rfl, rfl, rfl, rfl, rfl⟩ rfl rfl rfl rfl rfl named Tryz.func12 facts
    (of_decide_eq_true (by kernel_rfl)) (by unfold Func.isWrapper; first | (rw [if_pos (by decide +kernel)]; kernel_rfl) | (rw [if_neg (by decide +kernel)]; exact ⟨rfl, rfl⟩))
    (fun os started H enc _ => lifted os started H enc)
end Go.Proofs.YtndfaefmmcoapaaGreat.topProgramsRecall
namespace Go.Proofs.YtndfaefmmcoapaaGreat
theorem topProgramsRecall_holds : Rows.TopProgramsRecallSaid := topProgramsRecall.said
end Go.Proofs.YtndfaefmmcoapaaGreat
