/- The law MergingJoins of package merging returns true for every input, and its arguments read afterwards as before: what two groups of sources both choose is chosen by all of them together; by sums and leximax nothing else is, if there is something.
   Conditions: none. -/
import Derived.Test.YtjaohaomninnlaaRowKit
import Derived.Test.YtjaohaomninnlaaR6
set_option linter.unusedSectionVars false
set_option linter.unusedVariables false
set_option linter.unusedSimpArgs false
set_option linter.defProp false
set_option maxRecDepth 20000
namespace Go.Proofs.Ytjaohaomninnlaa.mergingJoins
open Go.ChangeShapes Go.WideShapes Go.ChangeAt Go.RowKit Go.Pd
theorem uu_of {M : Nat → Prop} {W : World} {v : Value} {a : D} (h : RP M W v a) (s : shapeV Try.prog 5 34 a) : ∃ p q : List (BitVec 64), a = .agg [.sl 1 (us p), .sl 1 (us q)] := by
  have c1 : Try.prog.cellsOf 23 = 1 := by kernel_rfl
  simp only [shapeV, Try.underlying34, Try.underlying22, Try.underlying23, shapeC, shapeF, List.replicate, c1, List.cons.injEq, and_true] at s
  obtain ⟨ds, rfl, x, y, rfl, ⟨e1, rfl, h1⟩, z, u, rfl, ⟨e2, rfl, h2⟩, rfl⟩ := s
  have hf := h.fact
  simp only [D.fact, D.factL, List.cons_append, List.nil_append, List.append_nil] at hf
  obtain ⟨l, rfl⟩ := us_of (fun e he => h1 e he) hf.1.2
  obtain ⟨l', rfl⟩ := us_of (fun e he => h2 e he) hf.2.1.2
  exact ⟨l, l', rfl⟩
/-- No element: nil, or a slice of length 0. -/
theorem empty_of {M : Nat → Prop} {W : World} {v : Value} (h : RP M W v (.sl 1 [])) : RP M W v .nils ∨ RP M W v .emp := by
  cases h with
  | sl0 a cap sz h => match a, h with
    | none, h => rw [h rfl]; exact .inl .nils
    | some a, _ => exact .inr (.emp a cap)
  | sl vs hs hM hc hm hl hcell hr => exact .inr (.emp _ _)
theorem split_of {M : Nat → Prop} {W : World} {v : Value} {p : List (BitVec 64)} {d : D} (h : RP M W v (.agg [.sl 1 (us p), d])) : p ≠ [] ∨ RP M W v (.agg [.nils, d]) ∨ RP M W v (.agg [.emp, d]) := by
  by_cases hp : p = []
  · subst hp
    cases h with
    | @agg vs cs hl hr =>
      have h1 := hr 1 (by simp)
      rcases empty_of (hr 0 (by simp)) with h0 | h0
      · refine .inr (.inl (.agg hl fun j hj => ?_))
        match j, hj with
        | 0, _ => exact h0
        | 1, _ => exact h1
      · refine .inr (.inr (.agg hl fun j hj => ?_))
        match j, hj with
        | 0, _ => exact h0
        | 1, _ => exact h1
  · exact .inl hp
theorem contract (H : Type) (enc : TypeId × Value → H) (W : World) (base : Nat) (args : Array Value) (ds gs : List (DataW H)) (before : List MemPlace)
    (hval : ∀ (j : Nat) t v, Try.f5.params[j]? = some t → args[j]? = some v → Value.okWide Try.prog W .any base t v)
    (hW : DataW.Whole enc Try.prog Try.f5.params.toList Rows.mergingJoinsSpec.vars false W args.toList ds gs before) :
    Calls Try.prog 5 args W fun e W' => ∃ v, e = .returned v ∧ Rows.mergingJoinsSpec.post enc Try.prog Try.f5 false true false false W args v W' := by
  have hW' := hW
  obtain ⟨p, q, hA0, hV, rfl, hfz, hnd⟩ := hW
  obtain ⟨rfl, rfl⟩ := trodVars_none hV
  rw [Try.params5] at hA0
  obtain ⟨av, l1, l2, l3, rel, sh⟩ := args_rp (n := 5) (b := base) (by kernel_rfl) (fun j t v h1 h2 => hval j t v (by rw [Try.params5]; simpa using h1) (by simpa using h2)) hA0
  simp only [shapesV] at sh
  obtain ⟨a0, _, rfl, s0, a1, _, rfl, s1, a2, _, rfl, s2, rfl⟩ := sh
  have r0 := rel 0 (by simp)
  simp only [List.getD_cons_zero, List.getD_cons_succ] at r0
  have r1 := rel 1 (by simp)
  simp only [List.getD_cons_zero, List.getD_cons_succ] at r1
  have r2 := rel 2 (by simp)
  simp only [List.getD_cons_zero, List.getD_cons_succ] at r2
  obtain ⟨m0, rfl⟩ := int_of s0
  obtain ⟨m1, n1, rfl⟩ := uu_of r1 s1
  obtain ⟨m2, rfl⟩ := u64_of r2 s2
  have hds : ∃ d0 d1 d2, ds = [d0, d1, d2] := by
    match ds, l3 with
    | [d0, d1, d2], _ => exact ⟨d0, d1, d2, rfl⟩
  obtain ⟨d0, d1, d2, rfl⟩ := hds
  have fin : ∀ dd : List D, Runs Try.prog 5 dd (.bool true) → dd.length = 3 → (∀ j, j < dd.length → RP (fun _ => False) W (args.toList.getD j undef) (dd.getD j .top)) → Calls Try.prog 5 args W fun e W' => ∃ v, e = .returned v ∧ Rows.mergingJoinsSpec.post enc Try.prog Try.f5 false true false false W args v W' := fun dd hr hl hj => by
    refine (Runs.calls hr (tabs_ok W) (by rw [hl]; simpa using l1.symm) (fun j h => by rw [toList_getD]; exact hj j h)).mono fun e W' hh => ?_
    obtain ⟨rfl, bel⟩ := hh
    exact ⟨_, rfl, law_post laidOut (by kernel_rfl) rfl Try.underlying4 rfl hW' rfl bel⟩
  have h0 := rel 0 (by simp)
  have h2 := rel 2 (by simp)
  have re : ∀ a : D, RP (fun _ => False) W (args.toList.getD 1 undef) a → ∀ j, j < 3 → RP (fun _ => False) W (args.toList.getD j undef) (([.int .i64 m0, a, .int .u64 (ui m2)] : List D).getD j .top) := fun a ha j hj => by
    match j, hj with
    | 0, _ => exact h0
    | 1, _ => exact ha
    | 2, _ => exact h2
  rcases split_of r1 with hp | hn | he
  · match m1, hp, r1 with
    | x :: l, _, r1 => exact fin _ (joins_some x l n1 m0 m2) rfl (re _ r1)
  · by_cases hq : n1 = []
    · subst hq; exact fin _ (joins_nil0 m0 m2) rfl (re _ hn)
    · exact fin _ (joins_nils hq m0 m2) rfl (re _ hn)
  · exact fin _ (joins_emp n1 m0 m2) rfl (re _ he)
set_option maxRecDepth 100000 in
theorem lifted (os : Os) (started : os.Started) (H : Type) (enc : TypeId × Value → H) :
    ReturnsInHanded {} Try.checked os 5 .any (Rows.mergingJoinsSpec.pre6 enc Try.prog Try.f5 Rows.mergingJoinsRow.domain false) (Rows.mergingJoinsSpec.post enc Try.prog Try.f5 false true false false) := by
  refine returnsInHanded_of_change (C := Try.checked) own started (by kernel_rfl) Try.func5
    (ChangeSpec.witness6 (enc := enc) (C := Try.checked) false ⟨#[], #[(.int .i64 0 : Value), (.agg #[.slice none 0 0, .slice none 0 0] : Value), (.int .u64 0 : Value)], []⟩ 8 (by kernel_rfl) (by kernel_rfl) (by kernel_rfl) (by kernel_rfl)) ?_
  intro W base args ds gs before hval hW _ _
  exact contract H enc W base args ds gs before hval hW
theorem said : Rows.MergingJoinsSaid :=
  OpenClaim.holds_of_wide 5 Try.f5 rfl rfl rfl rfl rfl rfl rfl ⟨rfl, rfl, rfl, rfl, rfl⟩ rfl rfl rfl rfl rfl (by kernel_rfl) Try.func5 (by kernel_rfl)
    (of_decide_eq_true (by kernel_rfl)) (by unfold Func.isWrapper; first | (rw [if_pos (by decide +kernel)]; kernel_rfl) | (rw [if_neg (by decide +kernel)]; exact ⟨rfl, rfl⟩))
    (fun os started H enc _ => lifted os started H enc)
end Go.Proofs.Ytjaohaomninnlaa.mergingJoins
namespace Go.Proofs.Ytjaohaomninnlaa
/-- ████ THE STATEMENT ████ -/
theorem mergingJoins_holds : Rows.MergingJoinsSaid := mergingJoins.said
end Go.Proofs.Ytjaohaomninnlaa
