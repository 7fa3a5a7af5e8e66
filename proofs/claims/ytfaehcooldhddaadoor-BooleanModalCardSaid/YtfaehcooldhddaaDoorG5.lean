/- Boolean: contracts: atoms, tautologies. -/
import Derived.Test.YtfaehcooldhddaaDoorG4
set_option linter.unusedSectionVars false
set_option linter.unusedVariables false
set_option linter.unusedSimpArgs false
set_option linter.defProp false
set_option maxRecDepth 20000
namespace Go.Pd
open Go Go.Proofs
open Rs Fm
theorem Weak.then_ {C : Cx} {f f1 f2 : Fr} {σ σ1 σ2 : St} (h1 : Weak C f σ f1 σ1) (h2 : Weak C f1 σ1 f2 σ2) : Weak C f σ f2 σ2 := fun E a w G => h2 E a w (h1 E a w G)
namespace Fm
def leavesA (c : List Nd) : List Int := (leavesS c c.length (c.length - 1) (List.replicate c.length false, [])).2
def atomsA (f : List Nd) : List (List Nd) × Int := if checkF f ≠ 0 then ([], checkF f) else ((leavesA (compactA f)).map (subA (compactA f)), 0)
theorem pureE_nl (l : List (List Nd)) : pureE (nl l) = True := eq_true (nl_pure l)
theorem nl_snoc (l : List (List Nd)) (c : List Nd) : nl l ++ [[.sl 6 (ndR c)]] = nl (l ++ [c]) := by simp [nl]
theorem leavesS_in {c : List Nd} (hv : validL c) : ∀ (n : Nat) {i : Nat} {s : List Bool × List Int}, i < n → i < c.length → s.1.length = c.length → (∀ x ∈ s.2, 0 ≤ x ∧ x < c.length) → s.2.length + s.1.count false ≤ c.length →
    (leavesS c n i s).1.length = c.length ∧ (∀ x ∈ (leavesS c n i s).2, 0 ≤ x ∧ x < c.length) ∧ (leavesS c n i s).2.length + (leavesS c n i s).1.count false ≤ c.length
  | 0, i, s, h, _, _, _, _ => by omega
  | n + 1, i, s, h, hi, hl, hs, hc => by
    unfold leavesS
    cases hb : s.1.getD i false
    case true => rw [if_pos rfl]; exact ⟨hl, hs, hc⟩
    rw [if_neg (by simp)]
    have hct := count_set (l := s.1) (i := i) (by omega) hb
    have hnd := hv i hi
    obtain ⟨ox, oy⟩ := node_ops hnd
    generalize c.getD i nd0 = p at hnd ox oy
    by_cases hp : p.op = 3 ∨ 8 < p.op
    · rw [if_pos hp]
      refine ⟨by simpa using hl, fun x hx => ?_, by simp only [List.length_append, List.length_singleton]; omega⟩
      rcases List.mem_append.1 hx with hx | hx
      · exact hs x hx
      · rw [List.mem_singleton] at hx; subst hx; exact ⟨by omega, by omega⟩
    rw [if_neg hp]
    by_cases h4 : 4 ≤ p.op
    case neg =>
      simp only [if_neg h4, if_neg (show ¬ 5 ≤ p.op by omega)]
      exact ⟨by simpa using hl, hs, by omega⟩
    obtain ⟨ux, uy⟩ := uses_mid h4 (by omega)
    have hx := ox ux
    simp only [if_pos h4]
    have r1 := leavesS_in hv n (i := p.x.toNat) (s := (s.1.set i true, s.2)) (by omega) (by omega) (by simpa using hl) hs (by simp only; omega)
    generalize leavesS c n p.x.toNat (s.1.set i true, s.2) = s1 at r1
    by_cases h5 : 5 ≤ p.op
    case neg => rw [if_neg h5]; exact r1
    rw [if_pos h5]
    have hy := oy (uy h5)
    exact leavesS_in hv n (i := p.y.toNat) (by omega) (by omega) r1.1 r1.2.1 r1.2.2
theorem leavesA_in {c : List Nd} (hv : validL c) (hn : 0 < c.length) : (∀ x ∈ leavesA c, 0 ≤ x ∧ x < c.length) ∧ (leavesA c).length ≤ c.length := by
  have := leavesS_in hv c.length (i := c.length - 1) (s := (List.replicate c.length false, [])) (by omega) (by omega) (by simp) (by simp) (by simp)
  exact ⟨this.2.1, by have := this.2.2; unfold leavesA; omega⟩
end Fm
theorem leavesC {c : List Nd} (hv : validL c) (hn : 0 < c.length) (hlen : c.length ≤ 1000) : ∃ nx objs ko, CallT Tryd.prog 44 [.sl 6 (ndR c), .int .i64 ((c.length - 1 : Nat) : Int), .osl 0 1 c.length, .nils] ⟨1, [(0, ⟨1, rb (List.replicate c.length false)⟩)]⟩ (growD ko 1 (rows .i64 (leavesA c))) ⟨nx, objs⟩ ∧
    1 ≤ nx ∧ St.look objs ko = growG 1 (rows .i64 (leavesA c)) ∧ ((leavesA c) = [] ∨ ko < nx) := by
  have hI : InvL c 0 1 1 [(0, ⟨1, rb (List.replicate c.length false)⟩)] (List.replicate c.length false, []) := by
    refine ⟨by omega, by simp [St.look], by simp, by simp [St.look, rows, growG], by omega, by simp; omega, fun k hk => ?_⟩
    rw [look_cons, if_neg (by omega), look_nil]
  obtain ⟨nx, objs, ko, I, l, q, fr, hc⟩ := leaves44 hv hlen c.length (i := c.length - 1) (by omega) (by omega) hI
  obtain ⟨ko', I', kd, k'⟩ := I.rekey
  refine ⟨nx, objs, ko', ?_, l, I'.ho, ?_⟩
  · have e : growD ko' 1 (rows .i64 (leavesA c)) = growD ko 1 (rows .i64 (leavesA c)) := kd
    rw [e]; exact hc
  · rcases k' with ⟨h, _⟩ | ⟨_, h1, h2⟩
    · exact .inl h
    · exact .inr (by omega)
theorem Atoms14 (f : List Nd) : Runs Tryd.prog 14 [.sl 6 (ndR f)] (.tup [.sl 1 (nl (atomsA f).1), .int .i64 (atomsA f).2]) := by
  refine CallT.go_fn mixed Tryd.func14 k14 (by simp) fun hf => ?_
  simp only [Int.reduceToNat, Int.reduceLT, Int.reduceLE, Int.reduceBEq, Int.reduceBNe, St0, argFr, ↓callZ, ↓midZ, ↓unZ, ↓thenW, ↓blockW, ↓opX, ↓opV, ↓pX, ↓pW, ↓putK, ↓putP, ↓atK, ↓normK, ↓postZ, ↓reduceIte, reduceIte, Nat.reduceEqDiff, Nat.reduceAdd, Nat.reduceBEq, Nat.reduceLT, Nat.reduceLeDiff, binW, bodyQ, ressW, resW, ne_eq, forall_const, reduceCtorEq, implies_true, sets, oneAll, setD, rels, fillE, fillD, List.replicate, rowsOf, forall_eq, Nat.reduceMul, ↓zD, zT]
  refine .go (CallT.of_runs (checkF56 f) (by simp [D.isPureL, D.isPure])) ?_
  by_cases hc : checkF f = 0
  case neg =>
    have e : (checkF f != 0) = true := by simpa using hc
    simp only [Int.reduceToNat, Int.reduceLT, Int.reduceLE, Int.reduceBEq, Int.reduceBNe, St0, argFr, ↓callZ, ↓midZ, ↓unZ, ↓thenW, ↓blockW, ↓opX, ↓opV, ↓pX, ↓pW, ↓putK, ↓putP, ↓atK, ↓normK, ↓postZ, ↓reduceIte, reduceIte, Nat.reduceEqDiff, Nat.reduceAdd, Nat.reduceBEq, Nat.reduceLT, Nat.reduceLeDiff, binW, bodyQ, ressW, resW, ne_eq, forall_const, reduceCtorEq, implies_true, sets, oneAll, setD, rels, fillE, fillD, List.replicate, rowsOf, forall_eq, Nat.reduceMul, ↓zD, zT, e]
    rw [show atomsA f = ([], checkF f) from if_pos hc]
    exact .drop (by simp) (by simp [vw, vwL, nl])
  have e : (checkF f != 0) = false := by simpa using hc
  rw [show atomsA f = ((leavesA (compactA f)).map (subA (compactA f)), 0) by rw [atomsA, if_neg (by simpa using hc)]]
  simp only [Int.reduceToNat, Int.reduceLT, Int.reduceLE, Int.reduceBEq, Int.reduceBNe, St0, argFr, ↓callZ, ↓midZ, ↓unZ, ↓thenW, ↓blockW, ↓opX, ↓opV, ↓pX, ↓pW, ↓putK, ↓putP, ↓atK, ↓normK, ↓postZ, ↓reduceIte, reduceIte, Nat.reduceEqDiff, Nat.reduceAdd, Nat.reduceBEq, Nat.reduceLT, Nat.reduceLeDiff, binW, bodyQ, ressW, resW, ne_eq, forall_const, reduceCtorEq, implies_true, sets, oneAll, setD, rels, fillE, fillD, List.replicate, rowsOf, forall_eq, Nat.reduceMul, ↓zD, zT, e]
  refine .go (CallT.of_runs (Compact59 f) (by simp [D.isPureL, D.isPure])) ?_
  have hv := validC f
  have hne := compact_ne hc
  have hln : (compactA f).length ≤ 200 := sub_len f _
  generalize compactA f = c at hv hne hln
  obtain ⟨nx, objs, ko, hcall, hnx, hko, hk⟩ := leavesC hv hne (by omega)
  obtain ⟨hin, hll⟩ := leavesA_in hv hne
  generalize leavesA c = l at hcall hko hk hin hll
  have ew : IntKind.i64.wrap ((c.length : Int) - 1) = ((c.length - 1 : Nat) : Int) := by rw [wrap_i64 (by omega)]; omega
  simp only [Int.reduceToNat, Int.reduceLT, Int.reduceLE, Int.reduceBEq, Int.reduceBNe, St0, argFr, ↓callZ, ↓midZ, ↓unZ, ↓thenW, ↓blockW, ↓opX, ↓opV, ↓pX, ↓pW, ↓putK, ↓putP, ↓atK, ↓normK, ↓postZ, ↓reduceIte, reduceIte, Nat.reduceEqDiff, Nat.reduceAdd, Nat.reduceBEq, Nat.reduceLT, Nat.reduceLeDiff, binW, bodyQ, ressW, resW, ne_eq, forall_const, reduceCtorEq, implies_true, sets, oneAll, setD, rels, fillE, fillD, List.replicate, rowsOf, forall_eq, Nat.reduceMul, ↓zD, zT, ndR_len, ew]
  (repeat refine And.intro (by first | omega | exact ui_nonneg _ | exact Int.natCast_nonneg _ | rfl | exact rows_one' _ _ | exact us_one _ | (intro _ h; cases h; done)) ?_)
  rw [rb_replicate]
  refine .go hcall ?_
  simp only [Int.reduceToNat, Int.reduceLT, Int.reduceLE, Int.reduceBEq, Int.reduceBNe, St0, argFr, ↓callZ, ↓midZ, ↓unZ, ↓thenW, ↓blockW, ↓opX, ↓opV, ↓pX, ↓pW, ↓putK, ↓putP, ↓atK, ↓normK, ↓postZ, ↓reduceIte, reduceIte, Nat.reduceEqDiff, Nat.reduceAdd, Nat.reduceBEq, Nat.reduceLT, Nat.reduceLeDiff, binW, bodyQ, ressW, resW, ne_eq, forall_const, reduceCtorEq, implies_true, sets, oneAll, setD, rels, fillE, fillD, List.replicate, rowsOf, forall_eq, Nat.reduceMul, ↓zD, zT, rows_len]
  refine wpS_loop (fun k : Nat => [(25, .int .i64 k), (24, .int .i64 l.length), (23, .sl 1 (rows .i64 l)), (6, growD 0 1 (nl ((l.take k).map (subA c)))), (5, .sl 6 (ndR c))]) (fun k => ⟨1, growO 0 1 (nl ((l.take k).map (subA c)))⟩) (fun k => k ≤ l.length) (fun k => l.length - k) 0 (Nat.zero_le _) ?_ ?_
  · refine Weak.then_ (Weak.deep (f' := [(25, .int .i64 0), (24, .int .i64 l.length), (23, .sl 1 (rows .i64 l)), (6, .nils), (5, .sl 6 (ndR c))]) (objs' := []) (fun _ => False) trivial ⟨.inl (by simp [Fr.get]), .inl (by simp [Fr.get]), .inr ?_, .inl (by simp [Fr.get]), .inl (by simp [Fr.get]), trivial⟩) ?_
    · simp only [Fr.get, ↓reduceIte, reduceIte, Nat.reduceEqDiff]
      exact Seen.grow hko id (by omega) (fun e he => by simp only [rows, List.mem_map] at he; obtain ⟨x, _, rfl⟩ := he; rfl) (rows_pure _ _)
    · exact Weak.view (fun k => k) (by simp) (by simp) (by simp [vwF, vw, Fr.get, nl, growD]) (by simp [stays, nl, growO]) (by simp [apartNames, nl, growO])
  intro k hk2
  refine wpS_go mixed ?_
  have hw : IntKind.i64.wrap ((k : Int) + 1) = ((k + 1 : Nat) : Int) := wrap_i64 (by omega)
  by_cases h : k < l.length
  case neg =>
    have hd : ¬ ((k : Int) < (l.length : Int)) := by omega
    rw [take_all (show k = l.length by omega)]
    simp only [Int.reduceToNat, Int.reduceLT, Int.reduceLE, Int.reduceBEq, Int.reduceBNe, St0, argFr, ↓callZ, ↓midZ, ↓unZ, ↓thenW, ↓blockW, ↓opX, ↓opV, ↓pX, ↓pW, ↓putK, ↓putP, ↓atK, ↓normK, ↓postZ, ↓reduceIte, reduceIte, Nat.reduceEqDiff, Nat.reduceAdd, Nat.reduceBEq, Nat.reduceLT, Nat.reduceLeDiff, binW, bodyQ, ressW, resW, ne_eq, forall_const, reduceCtorEq, implies_true, sets, oneAll, setD, rels, fillE, fillD, List.replicate, rowsOf, forall_eq, Nat.reduceMul, ↓zD, zT, hd]
    exact .drop (by simp) ⟨rfl, grow_viewL (by simp) (nl_pure _) (by cases nl (l.map (subA c)) <;> simp [growO, growG, St.look]), by simp [vw], trivial⟩
  have hd : ((k : Int) < (l.length : Int)) := by omega
  have hg := rows_get .i64 l h
  have hs : (l.take (k + 1)).map (subA c) = (l.take k).map (subA c) ++ [subA c (l.getD k 0)] := by rw [take_snoc (d := 0) h, List.map_append]; rfl
  generalize l.getD k 0 = x at hg hs
  have hlk : ((l.take k).map (subA c)).length ≤ 1000 := by rw [List.length_map, List.length_take]; omega
  generalize (l.take k).map (subA c) = r at hs hlk
  simp only [Int.reduceToNat, Int.reduceLT, Int.reduceLE, Int.reduceBEq, Int.reduceBNe, St0, argFr, ↓callZ, ↓midZ, ↓unZ, ↓thenW, ↓blockW, ↓opX, ↓opV, ↓pX, ↓pW, ↓putK, ↓putP, ↓atK, ↓normK, ↓postZ, ↓reduceIte, reduceIte, Nat.reduceEqDiff, Nat.reduceAdd, Nat.reduceBEq, Nat.reduceLT, Nat.reduceLeDiff, binW, bodyQ, ressW, resW, ne_eq, forall_const, reduceCtorEq, implies_true, sets, oneAll, setD, rels, fillE, fillD, List.replicate, rowsOf, forall_eq, Nat.reduceMul, ↓zD, zT, hd, rows_len, hg]
  (repeat refine And.intro (by first | omega | exact ui_nonneg _ | exact Int.natCast_nonneg _ | rfl | exact rows_one' _ _ | exact us_one _ | (intro _ h; cases h; done)) ?_)
  refine .go (CallT.of_runs (Sub80 c x) (by simp [D.isPureL, D.isPure])) ?_
  simp only [Int.reduceToNat, Int.reduceLT, Int.reduceLE, Int.reduceBEq, Int.reduceBNe, St0, argFr, ↓callZ, ↓midZ, ↓unZ, ↓thenW, ↓blockW, ↓opX, ↓opV, ↓pX, ↓pW, ↓putK, ↓putP, ↓atK, ↓normK, ↓postZ, ↓reduceIte, reduceIte, Nat.reduceEqDiff, Nat.reduceAdd, Nat.reduceBEq, Nat.reduceLT, Nat.reduceLeDiff, binW, bodyQ, ressW, resW, ne_eq, forall_const, reduceCtorEq, implies_true, sets, oneAll, setD, rels, fillE, fillD, List.replicate, rowsOf, forall_eq, Nat.reduceMul, ↓zD, zT, nl_len]
  (repeat refine And.intro (by first | omega | exact ui_nonneg _ | exact Int.natCast_nonneg _ | rfl | exact rows_one' _ _ | exact us_one _ | (intro _ h; cases h; done)) ?_)
  refine ⟨k + 1, by omega, ?_, by omega⟩
  rw [hs]
  (refine Weak.ren [(0, 1)] [0] (by simp) (by simp) (by decide) ?_; simp only [stay1, vwL, vw, vwF, sw, St.get, St.look, Fr.get, ↓reduceIte, reduceIte, Nat.reduceEqDiff, Nat.reduceAdd, Nat.reduceBEq, Nat.reduceLT, Nat.reduceLeDiff, exists_eq_left', ne_eq, reduceCtorEq, zR, pureE_nl, nl_snoc, hw])
end Go.Pd
