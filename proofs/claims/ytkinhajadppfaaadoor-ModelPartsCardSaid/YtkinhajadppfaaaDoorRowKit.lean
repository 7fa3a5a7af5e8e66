/- Package model: what all rows of this seat share: the table, the arguments as data, the witness's world. -/
import Derived.Test.YtkinhajadppfaaaDoorCards
import Derived.Test.YtkinhajadppfaaaDoorTie
import Derived.Test.YtkinhajadppfaaaDoorLa
import Derived.WalkKit
import Derived.ProofKit
import Derived.OpenShut
import Derived.Deep.DeepHandedRow
import Derived.Lib.LaidTab
set_option linter.unusedSectionVars false
set_option linter.unusedVariables false
set_option linter.unusedSimpArgs false
set_option linter.defProp false
namespace Go.Proofs.YtkinhajadppfaaaDoor
open Go.ChangeShapes Go.WideShapes Go.ChangeAt Go.RowKit Go.Pd
theorem own : ownKnob Tryd.prog.godebug = none := by kernel_rfl
theorem laidOut : laidOutB Tryd.prog = true := by kernel_rfl
theorem gTab : Tryd.prog.globalNamed "math/bits.deBruijn64tab" = some 0 := by kernel_rfl
theorem gTabType : (Tryd.prog.globals[0]?).map (·.type) = some 68 := by kernel_rfl
theorem cellsTab : Tryd.prog.cellsOf 68 = 64 := by kernel_rfl
theorem cells5 : Tryd.prog.cellsOf 5 = 1 := by kernel_rfl
def tabZ : List Int := Lib.deBruijn64tab.map fun (n : Nat) => (n : Int)
theorem tabZ_len : tabZ.length = 64 := by kernel_rfl
/-- What the row's list gives: the table's cells. -/
theorem table {W : World} (h : laidMetH Tryd.prog [("math/bits.deBruijn64tab", Rows.laid_math_bits_deBruijn64tab)] W) : Lib.TabIs Tryd.prog W "math/bits.deBruijn64tab" .u8 tabZ :=
  Lib.tabIs_of_head (rest := []) gTab gTabType Tryd.underlying68 Tryd.underlying5 cells5 cellsTab h
theorem tabs_ok {W : World} (h : laidMetH Tryd.prog [("math/bits.deBruijn64tab", Rows.laid_math_bits_deBruijn64tab)] W) : TabOK W fun _ => False := by
  intro p hp
  simp only [Tabs.tabs, List.mem_singleton] at hp
  subst hp
  have cell : ∀ i, i < tabZ.length → W.cell? ⟨0, i, none⟩ = some (.int .u8 (tabZ.getD i 0)) := fun i hi => (table h).cell gTab i hi
  refine ⟨cell_lt (cell 0 (by rw [tabZ_len]; omega)), fun h => h, fun j v hv => ?_⟩
  simp only [List.getElem?_map, Option.map_eq_some_iff] at hv
  obtain ⟨n, hn, rfl⟩ := hv
  have hj : j < Lib.deBruijn64tab.length := (List.getElem?_eq_some_iff.1 hn).1
  rw [cell j (by unfold tabZ; simpa using hj)]
  simp [tabZ, List.getD, hn]
theorem int_of {a : D} (s : shapeV Tryd.prog 5 3 a) : ∃ w : Int, a = .int .i64 w := by
  simp only [shapeV, Tryd.underlying3, shapeC, List.cons.injEq, and_true] at s
  exact s
theorem u64_of {M : Nat → Prop} {W : World} {v : Value} {a : D} (h : RP M W v a) (s : shapeV Tryd.prog 5 31 a) : ∃ w : BitVec 64, a = .int .u64 (ui w) := by
  simp only [shapeV, Tryd.underlying31, shapeC, List.cons.injEq, and_true] at s
  obtain ⟨n, rfl⟩ := s
  have hf := h.fact
  simp only [D.fact] at hf
  have e2 : IntKind.u64.max = 18446744073709551615 := rfl
  have e1 : IntKind.u64.min = 0 := rfl
  exact ⟨BitVec.ofInt 64 n, by rw [ui_of (by omega) (by omega)]⟩
theorem ints_of {a : D} (s : shapeV Tryd.prog 5 32 a) : ∃ l : List Int, a = .sl 1 (rows .i64 l) := by
  have c : Tryd.prog.cellsOf 3 = 1 := by kernel_rfl
  simp only [shapeV, Tryd.underlying32, Tryd.underlying3, shapeC, List.cons.injEq, and_true, c] at s
  obtain ⟨els, rfl, h⟩ := s
  refine ⟨els.map fun r => match r with | [.int _ n] => n | _ => 0, ?_⟩
  congr 1
  unfold rows
  rw [List.map_map]
  conv => lhs; rw [← List.map_id els]
  refine List.map_congr_left fun r hr => ?_
  obtain ⟨i, rfl⟩ := h r hr
  rfl
theorem mod_of {M : Nat → Prop} {W : World} {v : Value} {a : D} (h : RP M W v a) (s : shapeV Tryd.prog 5 25 a) : ∃ m : Mod, a = m.d := by
  have c1 : Tryd.prog.cellsOf 31 = 1 := by kernel_rfl
  have c2 : Tryd.prog.cellsOf 22 = 1 := by kernel_rfl
  simp only [shapeV, Tryd.underlying25, Tryd.underlying22, Tryd.underlying23, Tryd.underlying31, Tryd.underlying3, shapeC, shapeF, List.map_cons, List.map_nil, c1, c2] at s
  obtain ⟨ds, rfl, x, y, rfl, ⟨n, rfl⟩, z, u, rfl, ⟨els, rfl, h1⟩, z2, u2, rfl, ⟨els2, rfl, h2⟩, rfl⟩ := s
  have hf := h.fact
  simp only [D.fact, D.factL, List.cons_append, List.nil_append, List.append_nil] at hf
  obtain ⟨l, rfl⟩ := us_of (fun e he => h1 e he) hf.2.1.2
  have key : ∀ els2 : List (List D), (∀ row ∈ els2, ∃ els, row = [D.sl 1 els] ∧ ∀ r ∈ els, ∃ i : Int, r = [D.int .u64 i]) → D.factE els2 → ∃ ll, els2 = rr ll := by
    intro els2
    induction els2 with
    | nil => intro _ _; exact ⟨[], rfl⟩
    | cons e r ih =>
      intro h hf
      obtain ⟨els, rfl, he⟩ := h e (by simp)
      obtain ⟨ll, rfl⟩ := ih (fun row hr => h row (by simp [hr])) hf.2
      have h1 := hf.1
      simp only [D.factL, D.fact, and_true] at h1
      obtain ⟨l, rfl⟩ := us_of he h1.2
      exact ⟨l :: ll, rfl⟩
  obtain ⟨ll, rfl⟩ := key els2 h2 hf.2.2.1.2
  exact ⟨⟨n, l, ll⟩, rfl⟩
/-- The witness's world: the settled one, the table (block 0) holding what its initialiser lays. -/
noncomputable def laidWorld (os : Os) : World :=
  { World.holding Tryd.prog os ⟨#[], #[], []⟩ with heap := (World.holding Tryd.prog os ⟨#[], #[], []⟩).heap.modify 0 fun
      | .cells _ t frozen => .cells (tabZ.map fun n => Value.int .u8 n).toArray t frozen
      | o => o }
def wMod : Value := .agg #[.int .i64 0, .slice none 0 0, .slice none 0 0]
end Go.Proofs.YtkinhajadppfaaaDoor
