/- The reference's atoms: the list. -/
import Derived.Test.YtfaehcooldhddaaDoorA1
set_option linter.unusedSectionVars false
set_option linter.unusedVariables false
set_option linter.unusedSimpArgs false
set_option linter.defProp false
set_option maxRecDepth 20000
namespace Go.Pd
open Go Go.Proofs
open Rs Fm
namespace Fm
theorem ordS_in {c : List Nd} (hv : validL c) : ∀ (n : Nat) {i : Nat} {s : List Bool × List Int}, i < n → i < c.length → s.1.length = c.length → (∀ x ∈ s.2, 0 ≤ x ∧ x < c.length) → s.2.length + s.1.count false ≤ c.length →
    (ordS c n i s).1.length = c.length ∧ (∀ x ∈ (ordS c n i s).2, 0 ≤ x ∧ x < c.length) ∧ (ordS c n i s).2.length + (ordS c n i s).1.count false ≤ c.length
  | 0, i, s, h, _, _, _, _ => by omega
  | n + 1, i, s, h, hi, hl, hs, hc => by
    rw [ordS_succ]
    cases hb : s.1.getD i false
    case true => rw [if_pos rfl]; exact ⟨hl, hs, hc⟩
    rw [if_neg (by simp)]
    have hct := count_set (l := s.1) (i := i) (by omega) hb
    have hm := mid_ops hv hi
    have hs' : ∀ x ∈ s.2 ++ [(i : Int)], 0 ≤ x ∧ x < c.length := fun x hx => by
      rcases List.mem_append.1 hx with hx | hx
      · exact hs x hx
      · rw [List.mem_singleton] at hx; subst hx; exact ⟨by omega, by omega⟩
    have hc' : (s.2 ++ [(i : Int)]).length + (s.1.set i true).count false ≤ c.length := by simp only [List.length_append, List.length_singleton]; omega
    have hl' : (s.1.set i true).length = c.length := by simpa using hl
    by_cases hp : (c.getD i nd0).op = 3 ∨ 8 < (c.getD i nd0).op
    · rw [if_pos hp]
      exact ⟨hl', hs', hc'⟩
    rw [if_neg hp]
    obtain ⟨ox, oy⟩ := hm hp
    by_cases h4 : 4 ≤ (c.getD i nd0).op
    case neg =>
      simp only [if_neg h4, if_neg (show ¬ 5 ≤ (c.getD i nd0).op by omega)]
      exact ⟨hl', hs', hc'⟩
    have hx := ox h4
    simp only [if_pos h4]
    have r1 := ordS_in hv n (i := (c.getD i nd0).x.toNat) (s := (s.1.set i true, s.2 ++ [(i : Int)])) (by omega) (by omega) hl' hs' hc'
    generalize ordS c n (c.getD i nd0).x.toNat (s.1.set i true, s.2 ++ [(i : Int)]) = s1 at r1
    by_cases h5 : 5 ≤ (c.getD i nd0).op
    case neg => rw [if_neg h5]; exact r1
    rw [if_pos h5]
    have hy := oy h5
    exact ordS_in hv n (i := (c.getD i nd0).y.toNat) (by omega) (by omega) r1.1 r1.2.1 r1.2.2
theorem orderA_in {c : List Nd} (hv : validL c) (hn : 0 < c.length) : (∀ x ∈ orderA c, 0 ≤ x ∧ x < c.length) ∧ (orderA c).length ≤ c.length := by
  have := ordS_in hv c.length (i := c.length - 1) (s := (List.replicate c.length false, [])) (by omega) (by omega) (by simp) (by simp) (by simp)
  exact ⟨this.2.1, by have := this.2.2; unfold orderA; omega⟩
/-- In a canonical list the sublists tell the nodes apart. -/
theorem sub_inj {c : List Nd} (hc : checkF c = 0) (hd : c.Nodup) {i j : Nat} (hi : i < c.length) (hj : j < c.length) (h : subA c i = subA c j) : i = j := by
  obtain ⟨_, _, hv⟩ := checkF_zero hc
  rw [subA_eq hc hi, subA_eq hc hj] at h
  exact tree_inj hv hd hi hj (canon_inj (tree_wf hv i hi) (tree_wf hv j hj) h)
theorem leavesA_take (c : List Nd) (k : Nat) : ∃ r, leavesA c = ((orderA c).take k).filter (atomI c) ++ r := by
  rw [order_leaves]
  exact ⟨((orderA c).drop k).filter (atomI c), by rw [← List.filter_append, List.take_append_drop]⟩
end Fm
theorem meet47 {nx ko : Nat} {objs : List (Nat × Ob)} {l : List (List Nd)} {a : List Nd} (hlen : l.length ≤ 1000) (hk : St.look objs ko = growG 1 (nl l)) (hn : a ∉ l) :
    CallT Tryd.prog 47 [growD ko 1 (nl l), .sl 6 (ndR a)] ⟨nx, objs⟩ (growD nx 1 (nl (l ++ [a]))) ⟨nx + 1, growO nx 1 (nl (l ++ [a])) ++ eraseL objs ko⟩ := by
  refine CallT.go_fn mixed Tryd.func47 k47 (by simp) fun hf => ?_
  simp only [Int.reduceToNat, Int.reduceLT, Int.reduceLE, Int.reduceBEq, Int.reduceBNe, St0, argFr, ↓callZ, ↓midZ, ↓unZ, ↓thenW, ↓blockW, ↓opX, ↓opV, ↓pX, ↓pW, ↓putK, ↓putP, ↓atK, ↓normK, ↓postZ, ↓reduceIte, reduceIte, Nat.reduceEqDiff, Nat.reduceAdd, Nat.reduceBEq, Nat.reduceLT, Nat.reduceLeDiff, binW, bodyQ, ressW, resW, ne_eq, forall_const, reduceCtorEq, implies_true, sets, oneAll, setD, rels, fillE, fillD, List.replicate, rowsOf, forall_eq, Nat.reduceMul, ↓zD, zT]
  refine wpS_loop (fun k : Nat => [(5, .int .i64 k), (1, .sl 6 (ndR a)), (0, growD ko 1 (nl l))]) (fun _ => ⟨nx, objs⟩) (fun k => k ≤ l.length) (fun k => l.length - k) 0 (Nat.zero_le _) ?_ ?_
  · (refine Weak.same ?_; simp [sameF, Fr.get])
  intro k hkl
  refine wpS_go mixed ?_
  by_cases h : k < l.length
  case neg =>
    have hd : ¬ ((k : Int) < (l.length : Int)) := by omega
    simp only [Int.reduceToNat, Int.reduceLT, Int.reduceLE, Int.reduceBEq, Int.reduceBNe, St0, argFr, ↓callZ, ↓midZ, ↓unZ, ↓thenW, ↓blockW, ↓opX, ↓opV, ↓pX, ↓pW, ↓putK, ↓putP, ↓atK, ↓normK, ↓postZ, ↓reduceIte, reduceIte, Nat.reduceEqDiff, Nat.reduceAdd, Nat.reduceBEq, Nat.reduceLT, Nat.reduceLeDiff, binW, bodyQ, ressW, resW, ne_eq, forall_const, reduceCtorEq, implies_true, sets, oneAll, setD, rels, fillE, fillD, List.replicate, rowsOf, forall_eq, Nat.reduceMul, ↓zD, zT, hd, hk, nl_len, nl_snoc]
    (repeat refine And.intro (by first | omega | exact ui_nonneg _ | exact Int.natCast_nonneg _ | rfl | exact rows_one' _ _ | exact us_one _ | (intro _ h; cases h; done)) ?_)
    exact .same
  have hd : ((k : Int) < (l.length : Int)) := by omega
  have hg := nl_get l h
  have hne : a ≠ l.getD k [] := fun e => hn (by rw [e]; simp only [List.getD, List.getElem?_eq_getElem h, Option.getD_some]; exact List.getElem_mem _)
  generalize l.getD k [] = p at hg hne
  simp only [Int.reduceToNat, Int.reduceLT, Int.reduceLE, Int.reduceBEq, Int.reduceBNe, St0, argFr, ↓callZ, ↓midZ, ↓unZ, ↓thenW, ↓blockW, ↓opX, ↓opV, ↓pX, ↓pW, ↓putK, ↓putP, ↓atK, ↓normK, ↓postZ, ↓reduceIte, reduceIte, Nat.reduceEqDiff, Nat.reduceAdd, Nat.reduceBEq, Nat.reduceLT, Nat.reduceLeDiff, binW, bodyQ, ressW, resW, ne_eq, forall_const, reduceCtorEq, implies_true, sets, oneAll, setD, rels, fillE, fillD, List.replicate, rowsOf, forall_eq, Nat.reduceMul, ↓zD, zT, hd, hk, nl_len, hg]
  (repeat refine And.intro (by first | omega | exact ui_nonneg _ | exact Int.natCast_nonneg _ | rfl | exact rows_one' _ _ | exact us_one _ | (intro _ h; cases h; done)) ?_)
  refine .go (CallT.of_runs (Equal29 p a) (by simp [D.isPureL, D.isPure])) ?_
  rw [show decide (p = a) = false from decide_eq_false fun e => hne e.symm]
  simp only [Int.reduceToNat, Int.reduceLT, Int.reduceLE, Int.reduceBEq, Int.reduceBNe, St0, argFr, ↓callZ, ↓midZ, ↓unZ, ↓thenW, ↓blockW, ↓opX, ↓opV, ↓pX, ↓pW, ↓putK, ↓putP, ↓atK, ↓normK, ↓postZ, ↓reduceIte, reduceIte, Nat.reduceEqDiff, Nat.reduceAdd, Nat.reduceBEq, Nat.reduceLT, Nat.reduceLeDiff, binW, bodyQ, ressW, resW, ne_eq, forall_const, reduceCtorEq, implies_true, sets, oneAll, setD, rels, fillE, fillD, List.replicate, rowsOf, forall_eq, Nat.reduceMul, ↓zD, zT]
  refine ⟨k + 1, by omega, ?_, by omega⟩
  (refine Weak.same ?_; simp only [sameF, Fr.get, ↓reduceIte, reduceIte, Nat.reduceEqDiff, reduceCtorEq, D.int.injEq, D.bool.injEq, D.sl.injEq, and_true, true_and, and_self])
  exact wrap_i64 (by omega)
theorem refAtoms15 (f : List Nd) : Runs Tryd.prog 15 [.sl 6 (ndR f)] (.tup [.sl 1 (nl (atomsA f).1), .int .i64 (atomsA f).2]) := by
  refine CallT.go_fn mixed Tryd.func15 k15 (by simp) fun hf => ?_
  simp only [Int.reduceToNat, Int.reduceLT, Int.reduceLE, Int.reduceBEq, Int.reduceBNe, St0, argFr, ↓callZ, ↓midZ, ↓unZ, ↓thenW, ↓blockW, ↓opX, ↓opV, ↓pX, ↓pW, ↓putK, ↓putP, ↓atK, ↓normK, ↓postZ, ↓reduceIte, reduceIte, Nat.reduceEqDiff, Nat.reduceAdd, Nat.reduceBEq, Nat.reduceLT, Nat.reduceLeDiff, binW, bodyQ, ressW, resW, ne_eq, forall_const, reduceCtorEq, implies_true, sets, oneAll, setD, rels, fillE, fillD, List.replicate, rowsOf, forall_eq, Nat.reduceMul, ↓zD, zT]
  refine .go (CallT.of_runs (Check39 f) (by simp [D.isPureL, D.isPure])) ?_
  by_cases hc : checkF f = 0
  case neg =>
    have e : (checkF f != 0) = true := by simpa using hc
    simp only [Int.reduceToNat, Int.reduceLT, Int.reduceLE, Int.reduceBEq, Int.reduceBNe, St0, argFr, ↓callZ, ↓midZ, ↓unZ, ↓thenW, ↓blockW, ↓opX, ↓opV, ↓pX, ↓pW, ↓putK, ↓putP, ↓atK, ↓normK, ↓postZ, ↓reduceIte, reduceIte, Nat.reduceEqDiff, Nat.reduceAdd, Nat.reduceBEq, Nat.reduceLT, Nat.reduceLeDiff, binW, bodyQ, ressW, resW, ne_eq, forall_const, reduceCtorEq, implies_true, sets, oneAll, setD, rels, fillE, fillD, List.replicate, rowsOf, forall_eq, Nat.reduceMul, ↓zD, zT, e]
    rw [show atomsA f = ([], checkF f) from if_pos hc]
    exact .drop (by simp) (by simp [vw, vwL, nl])
  have e : (checkF f != 0) = false := by simpa using hc
  rw [show atomsA f = ((leavesA (compactA f)).map (subA (compactA f)), 0) by rw [atomsA, if_neg (by simpa using hc)]]
  simp only [Int.reduceToNat, Int.reduceLT, Int.reduceLE, Int.reduceBEq, Int.reduceBNe, St0, argFr, ↓callZ, ↓midZ, ↓unZ, ↓thenW, ↓blockW, ↓opX, ↓opV, ↓pX, ↓pW, ↓putK, ↓putP, ↓atK, ↓normK, ↓postZ, ↓reduceIte, reduceIte, Nat.reduceEqDiff, Nat.reduceAdd, Nat.reduceBEq, Nat.reduceLT, Nat.reduceLeDiff, binW, bodyQ, ressW, resW, ne_eq, forall_const, reduceCtorEq, implies_true, sets, oneAll, setD, rels, fillE, fillD, List.replicate, rowsOf, forall_eq, Nat.reduceMul, ↓zD, zT, e]
  refine .go (CallT.of_runs (refCompact40 f) (by simp [D.isPureL, D.isPure])) ?_
  have hv := validC f
  have hne := compact_ne hc
  have hln : (compactA f).length ≤ 200 := sub_len f _
  have hcc := check_canon hc
  have hdn := (compact_tree hc).2
  generalize compactA f = c at hv hne hln hcc hdn
  simp only [Int.reduceToNat, Int.reduceLT, Int.reduceLE, Int.reduceBEq, Int.reduceBNe, St0, argFr, ↓callZ, ↓midZ, ↓unZ, ↓thenW, ↓blockW, ↓opX, ↓opV, ↓pX, ↓pW, ↓putK, ↓putP, ↓atK, ↓normK, ↓postZ, ↓reduceIte, reduceIte, Nat.reduceEqDiff, Nat.reduceAdd, Nat.reduceBEq, Nat.reduceLT, Nat.reduceLeDiff, binW, bodyQ, ressW, resW, ne_eq, forall_const, reduceCtorEq, implies_true, sets, oneAll, setD, rels, fillE, fillD, List.replicate, rowsOf, forall_eq, Nat.reduceMul, ↓zD, zT]
  refine .go (CallT.of_runs (trunk46 hv hne (by omega)) (by simp [D.isPureL, D.isPure])) ?_
  obtain ⟨hin, hol⟩ := orderA_in hv hne
  obtain ⟨lnd, _, _⟩ := leaves_facts hv hne
  have htk := leavesA_take c
  have hall := order_leaves c
  generalize orderA c = o at hin hol htk hall
  simp only [Int.reduceToNat, Int.reduceLT, Int.reduceLE, Int.reduceBEq, Int.reduceBNe, St0, argFr, ↓callZ, ↓midZ, ↓unZ, ↓thenW, ↓blockW, ↓opX, ↓opV, ↓pX, ↓pW, ↓putK, ↓putP, ↓atK, ↓normK, ↓postZ, ↓reduceIte, reduceIte, Nat.reduceEqDiff, Nat.reduceAdd, Nat.reduceBEq, Nat.reduceLT, Nat.reduceLeDiff, binW, bodyQ, ressW, resW, ne_eq, forall_const, reduceCtorEq, implies_true, sets, oneAll, setD, rels, fillE, fillD, List.replicate, rowsOf, forall_eq, Nat.reduceMul, ↓zD, zT]
  refine wpS_loop (fun k : Nat => [(7, .int .i64 k), (6, growD 0 1 (nl (((o.take k).filter (atomI c)).map (subA c)))), (5, .sl 1 (rows .i64 o)), (0, .sl 6 (ndR c))]) (fun k => ⟨1, growO 0 1 (nl (((o.take k).filter (atomI c)).map (subA c)))⟩) (fun k => k ≤ o.length) (fun k => o.length - k) 0 (Nat.zero_le _) ?_ ?_
  · exact Weak.view (fun k => k) (by simp) (by simp) (by simp [vwF, vw, Fr.get, nl, growD]) (by simp [stays, nl, growO]) (by simp [apartNames, nl, growO])
  intro k hk2
  refine wpS_go mixed ?_
  have hw : IntKind.i64.wrap ((k : Int) + 1) = ((k + 1 : Nat) : Int) := wrap_i64 (by omega)
  by_cases h : k < o.length
  case neg =>
    have hd : ¬ ((k : Int) < (o.length : Int)) := by omega
    rw [take_all (show k = o.length by omega), ← hall]
    simp only [Int.reduceToNat, Int.reduceLT, Int.reduceLE, Int.reduceBEq, Int.reduceBNe, St0, argFr, ↓callZ, ↓midZ, ↓unZ, ↓thenW, ↓blockW, ↓opX, ↓opV, ↓pX, ↓pW, ↓putK, ↓putP, ↓atK, ↓normK, ↓postZ, ↓reduceIte, reduceIte, Nat.reduceEqDiff, Nat.reduceAdd, Nat.reduceBEq, Nat.reduceLT, Nat.reduceLeDiff, binW, bodyQ, ressW, resW, ne_eq, forall_const, reduceCtorEq, implies_true, sets, oneAll, setD, rels, fillE, fillD, List.replicate, rowsOf, forall_eq, Nat.reduceMul, ↓zD, zT, hd, rows_len]
    exact .drop (by simp) ⟨rfl, grow_viewL (by simp) (nl_pure _) (by cases nl ((leavesA c).map (subA c)) <;> simp [growO, growG, St.look]), by simp [vw], trivial⟩
  have hd : ((k : Int) < (o.length : Int)) := by omega
  have hg := rows_get .i64 o h
  have hsn := take_snocI h
  have hz := hin (o.getD k 0) (by simp only [List.getD, List.getElem?_eq_getElem h, Option.getD_some]; exact List.getElem_mem _)
  obtain ⟨r, hr⟩ := htk (k + 1)
  obtain ⟨i, hi⟩ := Int.eq_ofNat_of_zero_le hz.1
  rw [hi] at hg hsn hz
  have hi2 : i < c.length := by omega
  have hgn := ndR_get c hi2
  rw [hsn, List.filter_append] at hr
  have hq := hv i hi2
  have hai : atomI c (i : Int) = decide (atomN (c.getD i nd0)) := rfl
  have hlk : (((o.take k).filter (atomI c)).map (subA c)).length ≤ 1000 := by
    rw [List.length_map]
    exact Nat.le_trans (List.length_filter_le _ _) (by rw [List.length_take]; omega)
  have hbd : ∀ z ∈ (o.take k).filter (atomI c), 0 ≤ z ∧ z < c.length := fun z hz => hin z (List.mem_of_mem_take (List.mem_filter.1 hz).1)
  have hS : ((o.take (k + 1)).filter (atomI c)).map (subA c) = ((o.take k).filter (atomI c)).map (subA c) ++ ([(i : Int)].filter (atomI c)).map (subA c) := by rw [hsn, List.filter_append, List.map_append]
  generalize (o.take k).filter (atomI c) = fl at hr hlk hbd hS
  have h1 : 1 ≤ (c.getD i nd0).op := by
    have hok := (nodeE_iff.1 hq).1
    rcases Int.lt_or_le (c.getD i nd0).op 1 with h | h
    · rw [uses_out (.inl h)] at hok; cases hok
    · exact h
  by_cases ha : atomN (c.getD i nd0)
  case neg =>
    rw [show [(i : Int)].filter (atomI c) = [] from List.filter_cons_of_neg (by rw [hai, decide_eq_false ha]; exact Bool.false_ne_true), List.map_nil, List.append_nil] at hS
    generalize fl.map (subA c) = ll at hS
    unfold atomN at ha
    generalize c.getD i nd0 = p at hgn ha h1
    have e3 : (p.op == 3) = false := by simp; omega
    simp only [Int.reduceToNat, Int.reduceLT, Int.reduceLE, Int.reduceBEq, Int.reduceBNe, St0, argFr, ↓callZ, ↓midZ, ↓unZ, ↓thenW, ↓blockW, ↓opX, ↓opV, ↓pX, ↓pW, ↓putK, ↓putP, ↓atK, ↓normK, ↓postZ, ↓reduceIte, reduceIte, Nat.reduceEqDiff, Nat.reduceAdd, Nat.reduceBEq, Nat.reduceLT, Nat.reduceLeDiff, binW, bodyQ, ressW, resW, ne_eq, forall_const, reduceCtorEq, implies_true, sets, oneAll, setD, rels, fillE, fillD, List.replicate, rowsOf, forall_eq, Nat.reduceMul, ↓zD, zT, hd, rows_len, hg, ndR_len, hgn, Nd.row, e3]
    (repeat refine And.intro (by first | omega | exact ui_nonneg _ | exact Int.natCast_nonneg _ | rfl | exact rows_one' _ _ | exact us_one _ | (intro _ h; cases h; done)) ?_)
    refine .go (CallT.of_runs (Propositional41 p.op) rfl) ?_
    rw [decide_eq_true h1, decide_eq_true (show p.op ≤ 8 by omega)]
    simp only [Int.reduceToNat, Int.reduceLT, Int.reduceLE, Int.reduceBEq, Int.reduceBNe, St0, argFr, ↓callZ, ↓midZ, ↓unZ, ↓thenW, ↓blockW, ↓opX, ↓opV, ↓pX, ↓pW, ↓putK, ↓putP, ↓atK, ↓normK, ↓postZ, ↓reduceIte, reduceIte, Nat.reduceEqDiff, Nat.reduceAdd, Nat.reduceBEq, Nat.reduceLT, Nat.reduceLeDiff, binW, bodyQ, ressW, resW, ne_eq, forall_const, reduceCtorEq, implies_true, sets, oneAll, setD, rels, fillE, fillD, List.replicate, rowsOf, forall_eq, Nat.reduceMul, ↓zD, zT]
    refine ⟨k + 1, by omega, ?_, by omega⟩
    rw [hS]
    (refine Weak.ren [] [0] (by simp) (by simp) (by decide) ?_; simp only [stay1, vwL, vw, vwF, sw, St.get, St.look, Fr.get, ↓reduceIte, reduceIte, Nat.reduceEqDiff, Nat.reduceAdd, Nat.reduceBEq, Nat.reduceLT, Nat.reduceLeDiff, exists_eq_left', ne_eq, reduceCtorEq, zR, hw, pureE_nl])
  have hat : [(i : Int)].filter (atomI c) = [(i : Int)] := List.filter_cons_of_pos (by rw [hai, decide_eq_true ha])
  rw [hat] at hr hS
  have hni : subA c i ∉ fl.map (subA c) := by
    intro hm
    obtain ⟨z, hz1, hz2⟩ := List.mem_map.1 hm
    obtain ⟨b1, b2⟩ := hbd z hz1
    obtain ⟨j, rfl⟩ := Int.eq_ofNat_of_zero_le b1
    have := sub_inj hcc hdn (by omega) hi2 hz2
    subst this
    rw [hr, List.append_assoc] at lnd
    exact (List.nodup_append.1 lnd).2.2 _ hz1 _ (by simp) rfl
  rw [show [(i : Int)].map (subA c) = [subA c i] from rfl] at hS
  generalize fl.map (subA c) = ll at hlk hni hS
  unfold atomN at ha
  have hlook : St.look (growO 0 1 (nl ll)) 0 = growG 1 (nl ll) := by cases nl ll <;> simp [growO, growG, St.look]
  have hme := fun (ob : Ob) => meet47 (nx := 2) (ko := 0) (objs := (1, ob) :: growO 0 1 (nl ll)) hlk (by rw [look_cons, if_neg (by omega)]; exact hlook) hni
  have her : ∀ ob : Ob, eraseL ((1, ob) :: growO 0 1 (nl ll)) 0 = [(1, ob)] := fun ob => by cases nl ll <;> simp [growO, eraseL]
  simp only [her] at hme
  by_cases h3 : (c.getD i nd0).op = 3
  · have e3 : ((c.getD i nd0).op == 3) = true := beq_iff_eq.2 h3
    generalize c.getD i nd0 = p at hgn e3
    simp only [Int.reduceToNat, Int.reduceLT, Int.reduceLE, Int.reduceBEq, Int.reduceBNe, St0, argFr, ↓callZ, ↓midZ, ↓unZ, ↓thenW, ↓blockW, ↓opX, ↓opV, ↓pX, ↓pW, ↓putK, ↓putP, ↓atK, ↓normK, ↓postZ, ↓reduceIte, reduceIte, Nat.reduceEqDiff, Nat.reduceAdd, Nat.reduceBEq, Nat.reduceLT, Nat.reduceLeDiff, binW, bodyQ, ressW, resW, ne_eq, forall_const, reduceCtorEq, implies_true, sets, oneAll, setD, rels, fillE, fillD, List.replicate, rowsOf, forall_eq, Nat.reduceMul, ↓zD, zT, hd, rows_len, hg, ndR_len, hgn, Nd.row, e3]
    (repeat refine And.intro (by first | omega | exact ui_nonneg _ | exact Int.natCast_nonneg _ | rfl | exact rows_one' _ _ | exact us_one _ | (intro _ h; cases h; done)) ?_)
    refine .go (CallT.of_runs (refSub48 c i) (by simp [D.isPureL, D.isPure])) ?_
    simp only [Int.reduceToNat, Int.reduceLT, Int.reduceLE, Int.reduceBEq, Int.reduceBNe, St0, argFr, ↓callZ, ↓midZ, ↓unZ, ↓thenW, ↓blockW, ↓opX, ↓opV, ↓pX, ↓pW, ↓putK, ↓putP, ↓atK, ↓normK, ↓postZ, ↓reduceIte, reduceIte, Nat.reduceEqDiff, Nat.reduceAdd, Nat.reduceBEq, Nat.reduceLT, Nat.reduceLeDiff, binW, bodyQ, ressW, resW, ne_eq, forall_const, reduceCtorEq, implies_true, sets, oneAll, setD, rels, fillE, fillD, List.replicate, rowsOf, forall_eq, Nat.reduceMul, ↓zD, zT]
    refine .go (hme _) ?_
    simp only [Int.reduceToNat, Int.reduceLT, Int.reduceLE, Int.reduceBEq, Int.reduceBNe, St0, argFr, ↓callZ, ↓midZ, ↓unZ, ↓thenW, ↓blockW, ↓opX, ↓opV, ↓pX, ↓pW, ↓putK, ↓putP, ↓atK, ↓normK, ↓postZ, ↓reduceIte, reduceIte, Nat.reduceEqDiff, Nat.reduceAdd, Nat.reduceBEq, Nat.reduceLT, Nat.reduceLeDiff, binW, bodyQ, ressW, resW, ne_eq, forall_const, reduceCtorEq, implies_true, sets, oneAll, setD, rels, fillE, fillD, List.replicate, rowsOf, forall_eq, Nat.reduceMul, ↓zD, zT]
    refine ⟨k + 1, by omega, ?_, by omega⟩
    rw [hS]
    (refine Weak.ren [(0, 2)] [0] (by simp) (by simp) (by decide) ?_; simp only [stay1, vwL, vw, vwF, sw, St.get, St.look, Fr.get, ↓reduceIte, reduceIte, Nat.reduceEqDiff, Nat.reduceAdd, Nat.reduceBEq, Nat.reduceLT, Nat.reduceLeDiff, exists_eq_left', ne_eq, reduceCtorEq, zR, hw, pureE_nl])
  · have e3 : ((c.getD i nd0).op == 3) = false := by simpa using h3
    have h8 : ¬ (c.getD i nd0).op ≤ 8 := by omega
    generalize c.getD i nd0 = p at hgn e3 h1 h8
    simp only [Int.reduceToNat, Int.reduceLT, Int.reduceLE, Int.reduceBEq, Int.reduceBNe, St0, argFr, ↓callZ, ↓midZ, ↓unZ, ↓thenW, ↓blockW, ↓opX, ↓opV, ↓pX, ↓pW, ↓putK, ↓putP, ↓atK, ↓normK, ↓postZ, ↓reduceIte, reduceIte, Nat.reduceEqDiff, Nat.reduceAdd, Nat.reduceBEq, Nat.reduceLT, Nat.reduceLeDiff, binW, bodyQ, ressW, resW, ne_eq, forall_const, reduceCtorEq, implies_true, sets, oneAll, setD, rels, fillE, fillD, List.replicate, rowsOf, forall_eq, Nat.reduceMul, ↓zD, zT, hd, rows_len, hg, ndR_len, hgn, Nd.row, e3]
    (repeat refine And.intro (by first | omega | exact ui_nonneg _ | exact Int.natCast_nonneg _ | rfl | exact rows_one' _ _ | exact us_one _ | (intro _ h; cases h; done)) ?_)
    refine .go (CallT.of_runs (Propositional41 p.op) rfl) ?_
    rw [decide_eq_true h1, decide_eq_false h8]
    simp only [Int.reduceToNat, Int.reduceLT, Int.reduceLE, Int.reduceBEq, Int.reduceBNe, St0, argFr, ↓callZ, ↓midZ, ↓unZ, ↓thenW, ↓blockW, ↓opX, ↓opV, ↓pX, ↓pW, ↓putK, ↓putP, ↓atK, ↓normK, ↓postZ, ↓reduceIte, reduceIte, Nat.reduceEqDiff, Nat.reduceAdd, Nat.reduceBEq, Nat.reduceLT, Nat.reduceLeDiff, binW, bodyQ, ressW, resW, ne_eq, forall_const, reduceCtorEq, implies_true, sets, oneAll, setD, rels, fillE, fillD, List.replicate, rowsOf, forall_eq, Nat.reduceMul, ↓zD, zT, rows_len, hg, ndR_len]
    (repeat refine And.intro (by first | omega | exact ui_nonneg _ | exact Int.natCast_nonneg _ | rfl | exact rows_one' _ _ | exact us_one _ | (intro _ h; cases h; done)) ?_)
    refine .go (CallT.of_runs (refSub48 c i) (by simp [D.isPureL, D.isPure])) ?_
    simp only [Int.reduceToNat, Int.reduceLT, Int.reduceLE, Int.reduceBEq, Int.reduceBNe, St0, argFr, ↓callZ, ↓midZ, ↓unZ, ↓thenW, ↓blockW, ↓opX, ↓opV, ↓pX, ↓pW, ↓putK, ↓putP, ↓atK, ↓normK, ↓postZ, ↓reduceIte, reduceIte, Nat.reduceEqDiff, Nat.reduceAdd, Nat.reduceBEq, Nat.reduceLT, Nat.reduceLeDiff, binW, bodyQ, ressW, resW, ne_eq, forall_const, reduceCtorEq, implies_true, sets, oneAll, setD, rels, fillE, fillD, List.replicate, rowsOf, forall_eq, Nat.reduceMul, ↓zD, zT]
    refine .go (hme _) ?_
    simp only [Int.reduceToNat, Int.reduceLT, Int.reduceLE, Int.reduceBEq, Int.reduceBNe, St0, argFr, ↓callZ, ↓midZ, ↓unZ, ↓thenW, ↓blockW, ↓opX, ↓opV, ↓pX, ↓pW, ↓putK, ↓putP, ↓atK, ↓normK, ↓postZ, ↓reduceIte, reduceIte, Nat.reduceEqDiff, Nat.reduceAdd, Nat.reduceBEq, Nat.reduceLT, Nat.reduceLeDiff, binW, bodyQ, ressW, resW, ne_eq, forall_const, reduceCtorEq, implies_true, sets, oneAll, setD, rels, fillE, fillD, List.replicate, rowsOf, forall_eq, Nat.reduceMul, ↓zD, zT]
    refine ⟨k + 1, by omega, ?_, by omega⟩
    rw [hS]
    (refine Weak.ren [(0, 2)] [0] (by simp) (by simp) (by decide) ?_; simp only [stay1, vwL, vw, vwF, sw, St.get, St.look, Fr.get, ↓reduceIte, reduceIte, Nat.reduceEqDiff, Nat.reduceAdd, Nat.reduceBEq, Nat.reduceLT, Nat.reduceLeDiff, exists_eq_left', ne_eq, reduceCtorEq, zR, hw, pureE_nl])
end Go.Pd
