/- Package boolean: what all rows of this seat share: the tables, the arguments as data, the witness's world. -/
import Derived.Test.YtfaehcooldhddaaDoorCards
import Derived.Test.YtfaehcooldhddaaDoorTie
import Derived.Test.YtfaehcooldhddaaDoorF4
import Derived.WalkKit
import Derived.ProofKit
import Derived.OpenShut
import Derived.Deep.DeepHandedRow
import Derived.Lib.LaidTab
set_option linter.unusedSectionVars false
set_option linter.unusedVariables false
set_option linter.unusedSimpArgs false
set_option linter.defProp false
set_option maxRecDepth 20000
namespace Go.Proofs.YtfaehcooldhddaaDoor
open Go.ChangeShapes Go.WideShapes Go.ChangeAt Go.RowKit Go.Pd Go.Pd.Rs Go.Pd.Fm
theorem own : ownKnob Tryd.prog.godebug = none := by kernel_rfl
theorem laidOut : laidOutB Tryd.prog = true := by kernel_rfl
theorem gTab : Tryd.prog.globalNamed "math/bits.deBruijn64tab" = some 1 := by kernel_rfl
theorem gTabType : (Tryd.prog.globals[1]?).map (·.type) = some 103 := by kernel_rfl
theorem cellsTab : Tryd.prog.cellsOf 103 = 64 := by kernel_rfl
theorem cells5 : Tryd.prog.cellsOf 5 = 1 := by kernel_rfl
def tabZ : List Int := Lib.deBruijn64tab.map fun (n : Nat) => (n : Int)
def tabY : List Int := [0, 1, 28, 2, 29, 14, 24, 3, 30, 22, 20, 15, 25, 17, 4, 8, 31, 27, 13, 23, 21, 19, 16, 7, 26, 12, 18, 6, 11, 5, 10, 9]
theorem tabZ_len : tabZ.length = 64 := by kernel_rfl
theorem laidTail {P : Program} {x : String × DataW Unit} {r : List (String × DataW Unit)} {w : World} (h : laidMet P (x :: r) w) : laidMet P r w := by
  obtain ⟨ps, hv, hnd, hrows⟩ := h
  obtain ⟨n, d⟩ := x
  obtain ⟨g, t, cs, fuel, p, q, _, _, _, _, hq, rfl⟩ := hv
  exact ⟨q, hq, List.Nodup.sublist (List.sublist_append_right _ _) hnd, fun b off hm => hrows b off (List.mem_append_right _ hm)⟩
def laidL : List (String × DataW Unit) := [("math/bits.deBruijn32tab", Rows.laid_math_bits_deBruijn32tab), ("math/bits.deBruijn64tab", Rows.laid_math_bits_deBruijn64tab)]
/-- What the row's list gives: the table's cells. -/
theorem table {W : World} (h : laidMetH Tryd.prog laidL W) : Lib.TabIs Tryd.prog W "math/bits.deBruijn64tab" .u8 tabZ := by
  have h' : laidMet Tryd.prog laidL W := h
  exact Lib.tabIs_of_head (rest := []) gTab gTabType Tryd.underlying103 Tryd.underlying5 cells5 cellsTab (laidTail h')
theorem tabs_ok {W : World} (h : laidMetH Tryd.prog laidL W) : TabOK W fun _ => False := by
  intro p hp
  simp only [Tabs.tabs, List.mem_singleton] at hp
  subst hp
  have cell : ∀ i, i < tabZ.length → W.cell? ⟨1, i, none⟩ = some (.int .u8 (tabZ.getD i 0)) := fun i hi => (table h).cell gTab i hi
  refine ⟨cell_lt (cell 0 (by rw [tabZ_len]; omega)), fun h => h, fun j v hv => ?_⟩
  simp only [List.getElem?_map, Option.map_eq_some_iff] at hv
  obtain ⟨n, hn, rfl⟩ := hv
  have hj : j < Lib.deBruijn64tab.length := (List.getElem?_eq_some_iff.1 hn).1
  rw [cell j (by unfold tabZ; simpa using hj)]
  simp [tabZ, List.getD, hn]
theorem int_of {a : D} (s : shapeV Tryd.prog 5 3 a) : ∃ w : Int, a = .int .i64 w := by
  simp only [shapeV, Tryd.underlying3, shapeC, List.cons.injEq, and_true] at s
  exact s
theorem u64_of {M : Nat → Prop} {W : World} {v : Value} {a : D} (h : RP M W v a) (s : shapeV Tryd.prog 5 24 a) : ∃ w : BitVec 64, a = .int .u64 (ui w) := by
  simp only [shapeV, Tryd.underlying24, shapeC, List.cons.injEq, and_true] at s
  obtain ⟨n, rfl⟩ := s
  have hf := h.fact
  simp only [D.fact] at hf
  have e2 : IntKind.u64.max = 18446744073709551615 := rfl
  have e1 : IntKind.u64.min = 0 := rfl
  exact ⟨BitVec.ofInt 64 n, by rw [ui_of (by omega) (by omega)]⟩
theorem u16_of {M : Nat → Prop} {W : World} {v : Value} {a : D} (h : RP M W v a) (s : shapeV Tryd.prog 5 40 a) : ∃ n : Nat, n < 65536 ∧ a = .int .u16 (n : Int) := by
  simp only [shapeV, Tryd.underlying40, shapeC, List.cons.injEq, and_true] at s
  obtain ⟨n, rfl⟩ := s
  have hf := h.fact
  simp only [D.fact] at hf
  have e2 : IntKind.u16.max = 65535 := rfl
  have e1 : IntKind.u16.min = 0 := rfl
  exact ⟨n.toNat, by omega, by rw [Int.toNat_of_nonneg (by omega)]⟩
theorem u8_of {M : Nat → Prop} {W : World} {v : Value} {a : D} (h : RP M W v a) (s : shapeV Tryd.prog 5 5 a) : ∃ n : Nat, n < 256 ∧ a = .int .u8 (n : Int) := by
  simp only [shapeV, Tryd.underlying5, shapeC, List.cons.injEq, and_true] at s
  obtain ⟨n, rfl⟩ := s
  have hf := h.fact
  simp only [D.fact] at hf
  have e2 : IntKind.u8.max = 255 := rfl
  have e1 : IntKind.u8.min = 0 := rfl
  exact ⟨n.toNat, by omega, by rw [Int.toNat_of_nonneg (by omega)]⟩
theorem cellsNd : Tryd.prog.cellsOf 50 = 6 := by kernel_rfl
theorem ndC {ds : List D} (s : shapeC Tryd.prog 4 50 ds) : ∃ p : Nd, ds = p.row := by
  rw [shapeC, Tryd.underlying50] at s
  simp only [List.map_cons, List.map_nil, shapeF] at s
  obtain ⟨a1, b1, rfl, s1, a2, b2, rfl, s2, a3, b3, rfl, s3, a4, b4, rfl, s4, a5, b5, rfl, s5, a6, b6, rfl, s6, rfl⟩ := s
  rw [shapeC, Tryd.underlying3] at s1 s2 s3 s4 s5 s6
  obtain ⟨x1, rfl⟩ := s1
  obtain ⟨x2, rfl⟩ := s2
  obtain ⟨x3, rfl⟩ := s3
  obtain ⟨x4, rfl⟩ := s4
  obtain ⟨x5, rfl⟩ := s5
  obtain ⟨x6, rfl⟩ := s6
  exact ⟨⟨x1, x2, x3, x4, x5, x6⟩, rfl⟩
theorem ndR_of : ∀ {els : List (List D)}, (∀ e ∈ els, ∃ p : Nd, e = p.row) → ∃ l, els = ndR l
  | [], _ => ⟨[], rfl⟩
  | e :: r, h => by
    obtain ⟨i, rfl⟩ := h e (by simp)
    obtain ⟨l, rfl⟩ := ndR_of (els := r) fun e he => h e (by simp [he])
    exact ⟨i :: l, rfl⟩
theorem nds_of {a : D} (s : shapeV Tryd.prog 5 22 a) : ∃ l : List Nd, a = .sl 6 (ndR l) := by
  have h : shapeC Tryd.prog 5 22 [a] := by
    unfold shapeV at s
    rw [Tryd.underlying22] at s
    exact s
  rw [shapeC, Tryd.underlying22] at h
  simp only [cellsNd] at h
  obtain ⟨els, e, h⟩ := h
  obtain ⟨l, rfl⟩ := ndR_of fun e he => ndC (h e he)
  exact ⟨l, by simpa using e⟩
def layAs (l : List Int) : Obj → Obj
  | .cells _ t frozen => .cells (l.map fun n => Value.int .u8 n).toArray t frozen
  | o => o
/-- The witness's world: the settled one, the tables (blocks 0 and 1) holding what their initialisers lay. -/
noncomputable def laidWorld (os : Os) : World :=
  { World.holding Tryd.prog os ⟨#[], #[], []⟩ with heap := ((World.holding Tryd.prog os ⟨#[], #[], []⟩).heap.modify 0 (layAs tabY)).modify 1 (layAs tabZ) }
end Go.Proofs.YtfaehcooldhddaaDoor
