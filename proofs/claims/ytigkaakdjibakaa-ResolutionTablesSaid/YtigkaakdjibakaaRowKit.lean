/- What all rows of this seat share: the arguments as data. -/
import Derived.Test.YtigkaakdjibakaaRows
import Derived.Test.YtigkaakdjibakaaD7
import Derived.WalkKit
import Derived.ProofKit
import Derived.OpenShut
set_option linter.unusedSectionVars false
set_option linter.unusedVariables false
set_option linter.unusedSimpArgs false
set_option linter.defProp false
set_option maxRecDepth 20000
namespace Go.Proofs.Ytigkaakdjibakaa
open Go.ChangeShapes Go.WideShapes Go.ChangeAt Go.RowKit Go.Pd Go.Pd.Rs
theorem own : ownKnob Try.prog.godebug = none := by kernel_rfl
theorem laidOut : laidOutB Try.prog = true := by kernel_rfl
theorem tabs_ok (W : World) : TabOK W fun _ => False := by
  intro p hp
  simp [Tabs.tabs] at hp
theorem cells3 : Try.prog.cellsOf 3 = 1 := by kernel_rfl
theorem cells23 : Try.prog.cellsOf 23 = 1 := by kernel_rfl
theorem cellsLn : Try.prog.cellsOf 38 = 4 := by kernel_rfl
theorem int_of {a : D} (s : shapeV Try.prog 5 3 a) : ∃ w : Int, a = .int .i64 w := by
  simp only [shapeV, Try.underlying3, shapeC, List.cons.injEq, and_true] at s
  exact s
theorem rows_of : ∀ {els : List (List D)}, (∀ e ∈ els, ∃ i : Int, e = [.int .i64 i]) → ∃ l, els = rows .i64 l
  | [], _ => ⟨[], rfl⟩
  | e :: r, h => by
    obtain ⟨i, rfl⟩ := h e (by simp)
    obtain ⟨l, rfl⟩ := rows_of (els := r) fun e he => h e (by simp [he])
    exact ⟨i :: l, rfl⟩
theorem clC {n : Nat} {ds : List D} (s : shapeC Try.prog (n + 2) 23 ds) : ∃ l, ds = [.sl 1 (rows .i64 l)] := by
  simp only [shapeC, Try.underlying23, Try.underlying3, cells3] at s
  obtain ⟨els, rfl, h⟩ := s
  obtain ⟨l, rfl⟩ := rows_of h
  exact ⟨l, rfl⟩
theorem cl_of {a : D} (s : shapeV Try.prog 5 23 a) : ∃ l : List Int, a = .sl 1 (rows .i64 l) := by
  have h : shapeC Try.prog 5 23 [a] := by
    unfold shapeV at s
    rw [Try.underlying23] at s
    exact s
  obtain ⟨l, e⟩ := clC (n := 3) h
  exact ⟨l, by simpa using e⟩
theorem rl_of : ∀ {els : List (List D)}, (∀ e ∈ els, ∃ l, e = [.sl 1 (rows .i64 l)]) → ∃ l, els = rl l
  | [], _ => ⟨[], rfl⟩
  | e :: r, h => by
    obtain ⟨i, rfl⟩ := h e (by simp)
    obtain ⟨l, rfl⟩ := rl_of (els := r) fun e he => h e (by simp [he])
    exact ⟨i :: l, rfl⟩
theorem cls_of {a : D} (s : shapeV Try.prog 5 22 a) : ∃ l : List (List Int), a = .sl 1 (rl l) := by
  have h : shapeC Try.prog 5 22 [a] := by
    unfold shapeV at s
    rw [Try.underlying22] at s
    exact s
  rw [shapeC, Try.underlying22] at h
  simp only [cells23] at h
  obtain ⟨els, e, h⟩ := h
  obtain ⟨l, rfl⟩ := rl_of fun e he => clC (n := 2) (h e he)
  exact ⟨l, by simpa using e⟩
theorem lnC {ds : List D} (s : shapeC Try.prog 4 38 ds) : ∃ p, ds = lnRow p := by
  rw [shapeC, Try.underlying38] at s
  simp only [List.map_cons, List.map_nil, shapeF] at s
  obtain ⟨a, b, rfl, s1, c, d, rfl, s2, e, f, rfl, s3, g, h, rfl, s4, rfl⟩ := s
  obtain ⟨l, rfl⟩ := clC (n := 1) s1
  rw [shapeC, Try.underlying3] at s2 s3 s4
  obtain ⟨x, rfl⟩ := s2
  obtain ⟨y, rfl⟩ := s3
  obtain ⟨z, rfl⟩ := s4
  exact ⟨⟨l, x, y, z⟩, rfl⟩
theorem lnR_of : ∀ {els : List (List D)}, (∀ e ∈ els, ∃ p, e = lnRow p) → ∃ l, els = lnR l
  | [], _ => ⟨[], rfl⟩
  | e :: r, h => by
    obtain ⟨i, rfl⟩ := h e (by simp)
    obtain ⟨l, rfl⟩ := lnR_of (els := r) fun e he => h e (by simp [he])
    exact ⟨i :: l, rfl⟩
theorem lns_of {a : D} (s : shapeV Try.prog 5 36 a) : ∃ l : List Ln, a = .sl 4 (lnR l) := by
  have h : shapeC Try.prog 5 36 [a] := by
    unfold shapeV at s
    rw [Try.underlying36] at s
    exact s
  rw [shapeC, Try.underlying36] at h
  simp only [cellsLn] at h
  obtain ⟨els, e, h⟩ := h
  obtain ⟨l, rfl⟩ := lnR_of fun e he => lnC (h e he)
  exact ⟨l, by simpa using e⟩
end Go.Proofs.Ytigkaakdjibakaa
