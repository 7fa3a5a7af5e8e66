/- The reference's formulas: the canonical list. -/
import Derived.Test.YtfaehcooldhddaaDoorP4
set_option linter.unusedSectionVars false
set_option linter.unusedVariables false
set_option linter.unusedSimpArgs false
set_option linter.defProp false
set_option maxRecDepth 20000
namespace Go.Pd
open Go Go.Proofs
open Rs Fm
namespace Fm
/-- The state holds the walk. -/
structure InvW (f : List Nd) (nx : Nat) (objs : List (Nat × Ob)) (kO kD : Nat) (s : CS) (dl : List Int) : Prop where
  hn : 1 ≤ nx
  h0 : St.look objs 0 = some (wOb kO kD s.out dl)
  hO : s.out = [] ∨ (kO < nx ∧ kO ≠ 0 ∧ kO ≠ kD ∧ St.look objs kO = growG 6 (ndR s.out))
  hD : kD ≠ 0 ∧ kD < nx ∧ St.look objs kD = some ⟨1, rows .i64 dl⟩
  dn : dl.length = f.length
  rel : ∀ i, i < f.length → dl.getD i 0 = (ulook (i : Int) s.done).getD (-1)
  pos : ∀ z k, ulook z s.done = some k → 0 ≤ k
  fr : ∀ k, nx ≤ k → St.look objs k = none
theorem wOb_nil (kO kO' kD : Nat) (dl : List Int) : wOb kO kD [] dl = wOb kO' kD [] dl := rfl
/-- The key of the list so far, chosen apart where there is none. -/
theorem InvW.key {f : List Nd} {nx : Nat} {objs : List (Nat × Ob)} {kO kD : Nat} {s : CS} {dl : List Int} (h : InvW f nx objs kO kD s dl) : ∃ k, St.look objs 0 = some (wOb k kD s.out dl) ∧ k ≠ 0 ∧ k ≠ kD ∧ St.look objs k = growG 6 (ndR s.out) ∧ ((s.out = [] ∧ k = nx + 9) ∨ (s.out ≠ [] ∧ k = kO ∧ k < nx)) := by
  rcases h.hO with ho | ⟨h1, h2, h3, h4⟩
  · refine ⟨nx + 9, ?_, by have := h.hn; omega, by have := h.hD; omega, ?_, .inl ⟨ho, rfl⟩⟩
    · rw [h.h0, ho]; rfl
    · rw [h.fr _ (by omega), ho]; rfl
  · by_cases ho : s.out = []
    · refine ⟨nx + 9, ?_, by have := h.hn; omega, by have := h.hD; omega, ?_, .inl ⟨ho, rfl⟩⟩
      · rw [h.h0, ho]; rfl
      · rw [h.fr _ (by omega), ho]; rfl
    · exact ⟨kO, h.h0, h2, h3, h4, .inr ⟨ho, rfl, h1⟩⟩
theorem InvW.alloc {f : List Nd} {nx : Nat} {objs : List (Nat × Ob)} {kO kD : Nat} {s : CS} {dl : List Int} (h : InvW f nx objs kO kD s dl) (o : Ob) : InvW f (nx + 1) ((nx, o) :: objs) kO kD s dl := by
  obtain ⟨hn, h0, hO, hD, dn, rel, pos, fr⟩ := h
  have hl : ∀ k, k ≠ nx → St.look ((nx, o) :: objs) k = St.look objs k := fun k a => by rw [look_cons, if_neg (fun e => a e.symm)]
  refine ⟨by omega, by rw [hl 0 (by omega)]; exact h0, ?_, ⟨hD.1, by omega, by rw [hl kD (by omega)]; exact hD.2.2⟩, dn, rel, pos, fun k hk => by rw [hl k (by omega)]; exact fr k (by omega)⟩
  rcases hO with ho | ⟨a, b, c, d⟩
  · exact .inl ho
  · exact .inr ⟨by omega, b, c, by rw [hl kO (by omega)]; exact d⟩
theorem InvW.set {f : List Nd} {nx : Nat} {objs : List (Nat × Ob)} {kO kD : Nat} {s : CS} {dl : List Int} (h : InvW f nx objs kO kD s dl) {j : Nat} (hj : j ≠ 0 ∧ j ≠ kD ∧ (s.out = [] ∨ j ≠ kO)) (o : Ob) : InvW f nx (setL objs j o) kO kD s dl := by
  obtain ⟨hn, h0, hO, hD, dn, rel, pos, fr⟩ := h
  have hl : ∀ k, k ≠ j → St.look (setL objs j o) k = St.look objs k := fun k a => by rw [look_setL, if_neg (fun e => a e.symm)]
  refine ⟨hn, by rw [hl 0 (by omega)]; exact h0, ?_, ⟨hD.1, hD.2.1, by rw [hl kD (by omega)]; exact hD.2.2⟩, dn, rel, pos, fun k hk => look_none_set (fr k hk)⟩
  rcases hO with ho | ⟨a, b, c, d⟩
  · exact .inl ho
  · rcases hj.2.2 with e | e
    · exact .inl e
    · exact .inr ⟨a, b, c, by rw [hl kO (fun h => e h.symm)]; exact d⟩
theorem ulook_none' {x : Int} {u : List (Int × Int)} {dv : Int} (h : dv = (ulook x u).getD (-1)) (hp : ∀ z k, ulook z u = some k → 0 ≤ k) : (dv = -1 ∧ ulook x u = none) ∨ (0 ≤ dv ∧ ulook x u = some dv) := by
  cases hu : ulook x u with
  | none => rw [hu] at h; exact .inl ⟨h, rfl⟩
  | some k => rw [hu] at h; simp only [Option.getD_some] at h; subst h; exact .inr ⟨hp x _ hu, rfl⟩
/-- Behind a node's walk. -/
theorem endF_inv {f : List Nd} {nx nx2 i : Nat} {objs2 : List (Nat × Ob)} {kO kD : Nat} {s2 : CS} {dl2 : List Int} {q : Nd} (hI : InvW f nx2 objs2 kO kD s2 dl2) (hi : i < f.length) (hnx : 1 ≤ nx) (hlt : nx < nx2) (hk : s2.out = [] ∨ kO ≠ nx) :
    ∃ k2 nx' objs' kO' dl', EndF i nx2 objs2 k2 kD s2.out dl2 q (.int .i64 (endS i q s2).1) ⟨nx', objs'⟩ ∧ InvW f nx' objs' kO' kD (endS i q s2).2 dl' ∧ nx2 ≤ nx' ∧ ((kO' = kO ∧ s2.out ≠ []) ∨ nx2 ≤ kO') ∧
      St.look objs2 0 = some (wOb k2 kD s2.out dl2) ∧ (k2 ≠ 0 ∧ k2 ≠ nx ∧ k2 ≠ nx2 ∧ k2 ≠ kD ∧ St.look objs2 k2 = growG 6 (ndR s2.out)) ∧
      (∀ k, 1 ≤ k → k < nx2 → k ≠ kD → (k ≠ kO ∨ s2.out = []) → St.look objs' k = St.look objs2 k) := by
  obtain ⟨k2, g0, gz, gD, gO, gk⟩ := hI.key
  obtain ⟨hn, h0, hO, hD, dn, rel, pos, fr⟩ := hI
  have hk2 : k2 ≠ nx ∧ k2 ≠ nx2 := by
    rcases gk with ⟨ho, e⟩ | ⟨ho, e, e2⟩
    · omega
    · rcases hk with h | h
      · exact absurd h ho
      · omega
  have hdl : ∀ x : Int, (dl2.set i x).length = f.length := fun x => by rw [List.length_set, dn]
  have hrel : ∀ (x : Int) (out : List Nd) (j : Nat), j < f.length → (dl2.set i x).getD j 0 = (ulook (j : Int) (⟨out, uput i x s2.done⟩ : CS).done).getD (-1) := by
    intro x out j hj
    simp only
    rw [ulook_uput]
    by_cases e : j = i
    · subst e
      rw [if_pos rfl]
      simp [List.getD, dn, hj]
    · rw [if_neg (by omega), ← rel j hj]
      simp only [List.getD, List.getElem?_set_ne (Ne.symm e)]
  have hpos : ∀ (x : Int) (out : List Nd), 0 ≤ x → ∀ z k, ulook z (⟨out, uput i x s2.done⟩ : CS).done = some k → 0 ≤ k := by
    intro x out hx z k h
    simp only at h
    rw [ulook_uput] at h
    split at h
    · cases h; exact hx
    · exact pos z k h
  cases hq : idxN q s2.out 0 with
  | some k =>
    have e : endS i q s2 = ((k : Int), (⟨s2.out, uput i k s2.done⟩ : CS)) := by simp only [endS, hq]
    rw [e]
    refine ⟨k2, nx2 + 1, _, kO, dl2.set i k, .inl ⟨k, hq, rfl, rfl⟩, ?_, by omega, .inl ⟨rfl, fun e => by rw [e] at hq; cases hq⟩, g0, ⟨gz, hk2.1, hk2.2, gD, gO⟩, fun j a1 a2 a3 a4 => ?_⟩
    · have hl : ∀ j, j ≠ nx2 → j ≠ kD → St.look ((nx2, ndOb q.op q.i q.e q.g q.x q.y) :: setL objs2 kD ⟨1, rows .i64 (dl2.set i k)⟩) j = St.look objs2 j := fun j a b => by
        rw [look_cons, if_neg (fun e => a e.symm), look_setL, if_neg (fun e => b e.symm)]
      refine ⟨by omega, ?_, ?_, ⟨hD.1, by omega, ?_⟩, hdl _, hrel _ _, hpos _ _ (by omega), fun j hj => ?_⟩
      · rw [hl 0 (by omega) (fun e => hD.1 e.symm), h0]
        obtain ⟨d0, dr, hdr⟩ : ∃ a b, dl2 = a :: b := by
          cases dl2 with
          | nil => simp at dn; omega
          | cons a b => exact ⟨a, b, rfl⟩
        have : growD kD 1 (rows IntKind.i64 (dl2.set i k)) = growD kD 1 (rows IntKind.i64 dl2) := by
          rw [hdr]
          cases i with
          | zero => simp [growD, rows]
          | succ i => simp [growD, rows]
        simp only [wOb, this]
      · rcases hO with ho | ⟨a, b, c, d⟩
        · exact .inl ho
        · exact .inr ⟨by omega, b, c, by rw [hl kO (by omega) c]; exact d⟩
      · rw [look_cons, if_neg (by omega), look_setL, if_pos rfl, hD.2.2]; rfl
      · rw [hl j (by omega) (by omega)]; exact fr j (by omega)
    · rw [look_cons, if_neg (by omega), look_setL, if_neg (by omega)]
  | none =>
    have e : endS i q s2 = ((s2.out.length : Int), (⟨s2.out ++ [q], uput i s2.out.length s2.done⟩ : CS)) := by simp only [endS, hq]
    rw [e]
    refine ⟨k2, nx2 + 1 + 1, _, nx2 + 1, dl2.set i (s2.out.length : Int), .inr ⟨hq, rfl, rfl⟩, ?_, by omega, .inr (by omega), g0, ⟨gz, hk2.1, hk2.2, gD, gO⟩, fun j a1 a2 a3 a4 => ?_⟩
    · have hne : growG 6 (ndR (s2.out ++ [q])) ≠ none := by
        obtain ⟨e, r, h⟩ := ndR_ne s2.out q
        rw [h]; simp [growG]
      have hl : ∀ j, j ≠ nx2 + 1 → j ≠ nx2 → j ≠ kD → j ≠ 0 → j ≠ k2 → St.look (growO (nx2 + 1) 6 (ndR (s2.out ++ [q])) ++ (nx2, ndOb q.op q.i q.e q.g q.x q.y) :: setL (setL (eraseL objs2 k2) 0 (wOb (nx2 + 1) kD (s2.out ++ [q]) dl2)) kD ⟨1, rows .i64 (dl2.set i (s2.out.length : Int))⟩) j = St.look objs2 j := fun j a b c d e => by
        rw [look_growO, if_neg (fun e => a e.symm), look_cons, if_neg (fun e => b e.symm), look_setL, if_neg (fun e => c e.symm), look_setL, if_neg (fun e => d e.symm), look_eraseL, if_neg (fun h => e h.symm)]
      have hgD : growD kD 1 (rows IntKind.i64 (dl2.set i (s2.out.length : Int))) = growD kD 1 (rows IntKind.i64 dl2) := by
        obtain ⟨d0, dr, hdr⟩ : ∃ a b, dl2 = a :: b := by
          cases dl2 with
          | nil => simp at dn; omega
          | cons a b => exact ⟨a, b, rfl⟩
        rw [hdr]
        cases i with
        | zero => simp [growD, rows]
        | succ i => simp [growD, rows]
      refine ⟨by omega, ?_, .inr ⟨by omega, by omega, by omega, ?_⟩, ⟨hD.1, by omega, ?_⟩, hdl _, hrel _ _, hpos _ _ (by omega), fun j hj => ?_⟩
      · rw [look_growO, if_neg (by omega), look_cons, if_neg (by omega), look_setL, if_neg hD.1, look_setL, if_pos rfl, look_eraseL, if_neg gz, h0]
        simp only [wOb, hgD, Option.map_some]
      · rw [look_growO, if_pos rfl]
        cases hgg : growG 6 (ndR (s2.out ++ [q])) with
        | none => exact absurd hgg hne
        | some o => rfl
      · rw [look_growO, if_neg (by omega), look_cons, if_neg (by omega), look_setL, if_pos rfl, look_setL, if_neg (fun e => hD.1 e.symm), look_eraseL, if_neg gD, hD.2.2]; rfl
      · rw [look_growO, if_neg (by omega), look_cons, if_neg (by omega)]
        refine look_none_set (look_none_set ?_)
        rw [look_eraseL]
        split
        · rfl
        · exact fr j (by omega)
    · have hjk : j ≠ k2 := by
        rcases gk with ⟨ho, e⟩ | ⟨ho, e, e2⟩
        · omega
        · rcases a4 with a4 | a4
          · rw [e]; exact a4
          · exact absurd a4 ho
      rw [look_growO, if_neg (by omega), look_cons, if_neg (by omega), look_setL, if_neg (fun e => a3 e.symm), look_setL, if_neg (by omega), look_eraseL, if_neg (fun e => hjk e.symm)]
end Fm
end Go.Pd
