/- Lines for the claim RowTemporalForms: part RowKit. -/
import Derived.Test.YtjklmijiccabfaaRows
import Derived.Test.YtjklmijiccabfaaAS1
import Derived.Test.YtjklmijiccabfaaAF4
import Derived.WalkKit
import Derived.ProofKit
import Derived.OpenShut
set_option linter.unusedSectionVars false
set_option linter.unusedVariables false
set_option linter.unusedSimpArgs false
set_option linter.defProp false
set_option maxRecDepth 20000
namespace Go.Proofs.Ytjklmijiccabfaa
open Go.ChangeShapes Go.WideShapes Go.ChangeAt Go.RowKit Go.Pd
theorem own : ownKnob Try.prog.godebug = none := by kernel_rfl
theorem laidOut : laidOutB Try.prog = true := by kernel_rfl
theorem tabs_ok (W : World) : TabOK W fun _ => False := by
  intro p hp
  simp [Tabs.tabs] at hp
section
open Go.Pd.Ru
end
section
open Go.Pd.Fm
theorem cellsNd : Try.prog.cellsOf 62 = 6 := by kernel_rfl
theorem ndC {ds : List D} (s : shapeC Try.prog 7 62 ds) : ∃ p : Nd, ds = p.row := by
  rw [shapeC, Try.underlying62] at s
  simp only [List.map_cons, List.map_nil, shapeF] at s
  obtain ⟨a1, b1, rfl, s1, a2, b2, rfl, s2, a3, b3, rfl, s3, a4, b4, rfl, s4, a5, b5, rfl, s5, a6, b6, rfl, s6, rfl⟩ := s
  rw [shapeC, Try.underlying3] at s1 s2 s3 s4 s5 s6
  obtain ⟨x1, rfl⟩ := s1
  obtain ⟨x2, rfl⟩ := s2
  obtain ⟨x3, rfl⟩ := s3
  obtain ⟨x4, rfl⟩ := s4
  obtain ⟨x5, rfl⟩ := s5
  obtain ⟨x6, rfl⟩ := s6
  exact ⟨⟨x1, x2, x3, x4, x5, x6⟩, rfl⟩
theorem ndR_of : ∀ {els : List (List D)}, (∀ e ∈ els, ∃ p : Nd, e = p.row) → ∃ l, els = ndR l
  | [], _ => ⟨[], rfl⟩
  | e :: r, h => by
    obtain ⟨i, rfl⟩ := h e (by simp)
    obtain ⟨l, rfl⟩ := ndR_of (els := r) fun e he => h e (by simp [he])
    exact ⟨i :: l, rfl⟩
theorem nds_of {a : D} (s : shapeV Try.prog 8 22 a) : ∃ l : List Nd, a = .sl 6 (ndR l) := by
  have h : shapeC Try.prog 8 22 [a] := by
    unfold shapeV at s
    rw [Try.underlying22] at s
    exact s
  rw [shapeC, Try.underlying22] at h
  simp only [cellsNd] at h
  obtain ⟨els, e, h⟩ := h
  obtain ⟨l, rfl⟩ := ndR_of fun e he => ndC (h e he)
  exact ⟨l, by simpa using e⟩
end
end Go.Proofs.Ytjklmijiccabfaa
