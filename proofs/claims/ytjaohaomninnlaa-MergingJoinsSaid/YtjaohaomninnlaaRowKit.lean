/- What all rows of this seat share: the arguments as data. -/
import Derived.Test.YtjaohaomninnlaaRows
import Derived.Test.YtjaohaomninnlaaR5
import Derived.WalkKit
import Derived.ProofKit
import Derived.OpenShut
set_option linter.unusedSectionVars false
set_option linter.unusedVariables false
set_option linter.unusedSimpArgs false
set_option linter.defProp false
set_option maxRecDepth 20000
namespace Go.Proofs.Ytjaohaomninnlaa
open Go.ChangeShapes Go.WideShapes Go.ChangeAt Go.RowKit Go.Pd
theorem own : ownKnob Try.prog.godebug = none := by kernel_rfl
theorem laidOut : laidOutB Try.prog = true := by kernel_rfl
theorem tabs_ok (W : World) : TabOK W fun _ => False := by
  intro p hp
  simp [Tabs.tabs] at hp
theorem u64_cell {M : Nat → Prop} {W : World} {v : Value} {n : Int} (h : RP M W v (.int .u64 n)) : ∃ w : BitVec 64, n = ui w := by
  have hf := h.fact
  simp only [D.fact] at hf
  have e2 : IntKind.u64.max = 18446744073709551615 := rfl
  have e1 : IntKind.u64.min = 0 := rfl
  exact ⟨BitVec.ofInt 64 n, by rw [ui_of (by omega) (by omega)]⟩
theorem u64_fact {n : Int} (hf : (D.int .u64 n).fact) : ∃ w : BitVec 64, n = ui w := by
  simp only [D.fact] at hf
  have e2 : IntKind.u64.max = 18446744073709551615 := rfl
  have e1 : IntKind.u64.min = 0 := rfl
  exact ⟨BitVec.ofInt 64 n, by rw [ui_of (by omega) (by omega)]⟩
theorem int_of {a : D} (s : shapeV Try.prog 5 3 a) : ∃ w : Int, a = .int .i64 w := by
  simp only [shapeV, Try.underlying3, shapeC, List.cons.injEq, and_true] at s
  exact s
theorem u64_of {M : Nat → Prop} {W : World} {v : Value} {a : D} (h : RP M W v a) (s : shapeV Try.prog 5 23 a) : ∃ w : BitVec 64, a = .int .u64 (ui w) := by
  simp only [shapeV, Try.underlying23, shapeC, List.cons.injEq, and_true] at s
  obtain ⟨n, rfl⟩ := s
  obtain ⟨w, rfl⟩ := u64_cell h
  exact ⟨w, rfl⟩
theorem us_of' {M : Nat → Prop} {W : World} {v : Value} {a : D} (h : RP M W v a) (s : shapeV Try.prog 5 22 a) : ∃ l : List (BitVec 64), a = .sl 1 (us l) := by
  have c1 : Try.prog.cellsOf 23 = 1 := by kernel_rfl
  simp only [shapeV, Try.underlying22, Try.underlying23, shapeC, List.cons.injEq, and_true, c1] at s
  obtain ⟨els, rfl, h1⟩ := s
  have hf := h.fact
  simp only [D.fact] at hf
  obtain ⟨l, rfl⟩ := us_of (fun e he => h1 e he) hf.2
  exact ⟨l, rfl⟩
theorem ask_of {M : Nat → Prop} {W : World} {v : Value} {a : D} (h : RP M W v a) (s : shapeV Try.prog 5 25 a) : ∃ (w : Int) (c : BitVec 64), a = .agg [.int .i64 w, .int .u64 (ui c)] := by
  simp only [shapeV, Try.underlying25, Try.underlying3, Try.underlying23, shapeC, shapeF, List.map_cons, List.map_nil] at s
  obtain ⟨ds, rfl, x, y, rfl, ⟨n, rfl⟩, z, u, rfl, ⟨m, rfl⟩, rfl⟩ := s
  have hf := h.fact
  simp only [D.fact, D.factL, List.cons_append, List.nil_append, List.append_nil] at hf
  obtain ⟨w, rfl⟩ := u64_fact hf.2.1
  exact ⟨n, w, rfl⟩
theorem u2_of {M : Nat → Prop} {W : World} {v : Value} {a : D} (h : RP M W v a) (s : shapeV Try.prog 5 30 a) : ∃ (b c : BitVec 64), a = .agg [.int .u64 (ui b), .int .u64 (ui c)] := by
  simp only [shapeV, Try.underlying30, Try.underlying23, shapeC, shapeF, List.replicate] at s
  obtain ⟨ds, rfl, x, y, rfl, ⟨n, rfl⟩, z, u, rfl, ⟨m, rfl⟩, rfl⟩ := s
  have hf := h.fact
  simp only [D.fact, D.factL, List.cons_append, List.nil_append, List.append_nil] at hf
  obtain ⟨w, rfl⟩ := u64_fact hf.1
  obtain ⟨w', rfl⟩ := u64_fact hf.2.1
  exact ⟨w, w', rfl⟩
theorem i2_of {a : D} (s : shapeV Try.prog 5 38 a) : ∃ (x y : Int), a = .agg [.int .i64 x, .int .i64 y] := by
  simp only [shapeV, Try.underlying38, Try.underlying3, shapeC, shapeF, List.replicate] at s
  obtain ⟨ds, rfl, x, y, rfl, ⟨n, rfl⟩, z, u, rfl, ⟨m, rfl⟩, rfl⟩ := s
  exact ⟨n, m, rfl⟩
end Go.Proofs.Ytjaohaomninnlaa
