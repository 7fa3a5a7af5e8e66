/- Part F18. -/
import Derived.Test.YtjklmijiccabfaaKF16
set_option linter.unusedSectionVars false
set_option linter.unusedVariables false
set_option linter.unusedSimpArgs false
set_option linter.defProp false
set_option maxRecDepth 20000
set_option maxHeartbeats 1000000
namespace Go.Pd
open Go Go.Proofs
open Rs Fm
namespace Fm
def rb (l : List Bool) : List (List D) := l.map fun b => [.bool b]
theorem rb_len (l : List Bool) : (rb l).length = l.length := by simp [rb]
theorem rb_get (l : List Bool) {i : Nat} (h : i < l.length) : (rb l).getD i [] = [.bool (l.getD i false)] := by simp [rb, List.getD, h]
theorem rb_set (l : List Bool) (i : Nat) (b : Bool) : (rb l).set i [.bool b] = rb (l.set i b) := by simp [rb, List.map_set]
theorem rb_replicate (n : Nat) (b : Bool) : List.replicate n [D.bool b] = rb (List.replicate n b) := by simp [rb]
theorem rb_pure (l : List Bool) : ∀ e ∈ rb l, D.isPureL e = true := by
 intro e he
 simp only [rb, List.mem_map] at he
 obtain ⟨n, _, rfl⟩ := he
 rfl
theorem pureE_rb (l : List Bool) : pureE (rb l) = True := eq_true (rb_pure l)
theorem set1 (a b : D) : List.set [a] 0 b = [b] := rfl
theorem node_xy {p : Nd} {k : Nat} (h : nodeE p k = 0) : (∃ x : Nat, p.x = x ∧ x ≤ k) ∧ (∃ y : Nat, p.y = y ∧ y ≤ k) := by
 obtain ⟨_, h2, h3, _⟩ := nodeE_iff.1 h
 refine ⟨?_, ?_⟩
 ·unfold operandB at h2
  split at h2
  ·simp only [Bool.and_eq_true, decide_eq_true_eq] at h2
   exact ⟨p.x.toNat, by omega, by omega⟩
  ·simp only [decide_eq_true_eq] at h2
   exact ⟨0, by omega, by omega⟩
 ·unfold operandB at h3
  split at h3
  ·simp only [Bool.and_eq_true, decide_eq_true_eq] at h3
   exact ⟨p.y.toNat, by omega, by omega⟩
  ·simp only [decide_eq_true_eq] at h3
   exact ⟨0, by omega, by omega⟩
end Fm
open Rs Fm
namespace Fm
end Fm
end Go.Pd
