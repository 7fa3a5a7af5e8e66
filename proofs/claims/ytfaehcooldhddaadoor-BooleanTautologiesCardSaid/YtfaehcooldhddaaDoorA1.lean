/- The reference's atoms: the order in which nodes are met. -/
import Derived.Test.YtfaehcooldhddaaDoorP6
import Derived.Test.YtfaehcooldhddaaDoorV1
set_option linter.unusedSectionVars false
set_option linter.unusedVariables false
set_option linter.unusedSimpArgs false
set_option linter.defProp false
set_option maxRecDepth 20000
namespace Go.Pd
open Go Go.Proofs
open Rs Fm
namespace Fm
/-- The walk that notes each node where it is first met. -/
def ordS (c : List Nd) : Nat → Nat → List Bool × List Int → List Bool × List Int
  | 0, _, s => s
  | n + 1, i, s =>
    if s.1.getD i false = true then s else
    if (c.getD i nd0).op = 3 ∨ 8 < (c.getD i nd0).op then (s.1.set i true, s.2 ++ [(i : Int)]) else
    let s2 := if 4 ≤ (c.getD i nd0).op then ordS c n (c.getD i nd0).x.toNat (s.1.set i true, s.2 ++ [(i : Int)]) else (s.1.set i true, s.2 ++ [(i : Int)])
    if 5 ≤ (c.getD i nd0).op then ordS c n (c.getD i nd0).y.toNat s2 else s2
def orderA (c : List Nd) : List Int := (ordS c c.length (c.length - 1) (List.replicate c.length false, [])).2
theorem ordS_succ (c : List Nd) (n i : Nat) (s : List Bool × List Int) : ordS c (n + 1) i s = if s.1.getD i false = true then s else
    if (c.getD i nd0).op = 3 ∨ 8 < (c.getD i nd0).op then (s.1.set i true, s.2 ++ [(i : Int)]) else
    let s2 := if 4 ≤ (c.getD i nd0).op then ordS c n (c.getD i nd0).x.toNat (s.1.set i true, s.2 ++ [(i : Int)]) else (s.1.set i true, s.2 ++ [(i : Int)])
    if 5 ≤ (c.getD i nd0).op then ordS c n (c.getD i nd0).y.toNat s2 else s2 := rfl
theorem ordS_fuel {c : List Nd} (hv : validL c) : ∀ (n m : Nat) {i : Nat} {s : List Bool × List Int}, i < n → i < m → i < c.length → ordS c n i s = ordS c m i s
  | 0, _, _, _, h, _, _ => by omega
  | _ + 1, 0, _, _, _, h, _ => by omega
  | n + 1, m + 1, i, s, h1, h2, hi => by
    rw [ordS_succ, ordS_succ]
    cases hb : s.1.getD i false
    case true => rw [if_pos rfl, if_pos rfl]
    rw [if_neg Bool.false_ne_true, if_neg Bool.false_ne_true]
    by_cases hp : (c.getD i nd0).op = 3 ∨ 8 < (c.getD i nd0).op
    · rw [if_pos hp, if_pos hp]
    rw [if_neg hp, if_neg hp]
    obtain ⟨ox, oy⟩ := mid_ops hv hi hp
    have fx : 4 ≤ (c.getD i nd0).op → ∀ s, ordS c n (c.getD i nd0).x.toNat s = ordS c m (c.getD i nd0).x.toNat s := fun h4 s => ordS_fuel hv _ _ (by have := (ox h4).2; omega) (by have := (ox h4).2; omega) (by have := (ox h4).2; omega)
    have fy : 5 ≤ (c.getD i nd0).op → ∀ s, ordS c n (c.getD i nd0).y.toNat s = ordS c m (c.getD i nd0).y.toNat s := fun h5 s => ordS_fuel hv _ _ (by have := (oy h5).2; omega) (by have := (oy h5).2; omega) (by have := (oy h5).2; omega)
    by_cases h4 : 4 ≤ (c.getD i nd0).op
    case neg => simp only [if_neg h4, if_neg (show ¬ 5 ≤ (c.getD i nd0).op by omega)]
    simp only [if_pos h4, fx h4]
    by_cases h5 : 5 ≤ (c.getD i nd0).op
    case neg => simp only [if_neg h5]
    simp only [if_pos h5, fy h5]
/-- One step of the walk. -/
theorem ordS_step {c : List Nd} (hv : validL c) {i : Nat} {s : List Bool × List Int} (hi : i < c.length) (hb : s.1.getD i false = false) :
    ordS c c.length i s = if (c.getD i nd0).op = 3 ∨ 8 < (c.getD i nd0).op then (s.1.set i true, s.2 ++ [(i : Int)]) else
      if 5 ≤ (c.getD i nd0).op then ordS c c.length (c.getD i nd0).y.toNat (ordS c c.length (c.getD i nd0).x.toNat (s.1.set i true, s.2 ++ [(i : Int)])) else
      if 4 ≤ (c.getD i nd0).op then ordS c c.length (c.getD i nd0).x.toNat (s.1.set i true, s.2 ++ [(i : Int)]) else (s.1.set i true, s.2 ++ [(i : Int)]) := by
  obtain ⟨n, hn⟩ : ∃ n, c.length = n + 1 := ⟨c.length - 1, by omega⟩
  conv => lhs; rw [hn, ordS_succ]
  rw [hb, if_neg Bool.false_ne_true]
  by_cases hp : (c.getD i nd0).op = 3 ∨ 8 < (c.getD i nd0).op
  · rw [if_pos hp, if_pos hp]
  rw [if_neg hp, if_neg hp]
  obtain ⟨ox, oy⟩ := mid_ops hv hi hp
  have fx : 4 ≤ (c.getD i nd0).op → ∀ s, ordS c n (c.getD i nd0).x.toNat s = ordS c c.length (c.getD i nd0).x.toNat s := fun h4 s => ordS_fuel hv _ _ (by have := (ox h4).2; omega) (by have := (ox h4).2; omega) (by have := (ox h4).2; omega)
  have fy : 5 ≤ (c.getD i nd0).op → ∀ s, ordS c n (c.getD i nd0).y.toNat s = ordS c c.length (c.getD i nd0).y.toNat s := fun h5 s => ordS_fuel hv _ _ (by have := (oy h5).2; omega) (by have := (oy h5).2; omega) (by have := (oy h5).2; omega)
  by_cases h4 : 4 ≤ (c.getD i nd0).op
  case neg => simp only [if_neg h4, if_neg (show ¬ 5 ≤ (c.getD i nd0).op by omega)]
  simp only [if_pos h4]
  by_cases h5 : 5 ≤ (c.getD i nd0).op
  case neg => simp only [if_neg h5]; exact fx h4 _
  simp only [if_pos h5]
  rw [fx h4, fy h5]
theorem ordS_seen {c : List Nd} {i : Nat} {s : List Bool × List Int} (hb : s.1.getD i false = true) : ∀ n, ordS c n i s = s
  | 0 => rfl
  | n + 1 => by rw [ordS_succ, if_pos hb]
def atomI (c : List Nd) (z : Int) : Bool := decide (atomN (c.getD z.toNat nd0))
/-- The atoms of the order are the leaves. -/
theorem ord_leaves {c : List Nd} : ∀ (n i : Nat) (s o : List Bool × List Int), s.1 = o.1 → s.2 = o.2.filter (atomI c) → (leavesS c n i s).1 = (ordS c n i o).1 ∧ (leavesS c n i s).2 = (ordS c n i o).2.filter (atomI c)
  | 0, i, s, o, h1, h2 => ⟨h1, h2⟩
  | n + 1, i, s, o, h1, h2 => by
    rw [ordS_succ]
    unfold leavesS
    rw [h1]
    cases hb : o.1.getD i false
    case true => rw [if_pos rfl, if_pos rfl]; exact ⟨h1, h2⟩
    rw [if_neg Bool.false_ne_true, if_neg Bool.false_ne_true]
    by_cases hp : (c.getD i nd0).op = 3 ∨ 8 < (c.getD i nd0).op
    · rw [if_pos hp, if_pos hp]
      refine ⟨rfl, ?_⟩
      rw [List.filter_append, h2, show [(i : Int)].filter (atomI c) = [(i : Int)] from List.filter_cons_of_pos (decide_eq_true (show atomN (c.getD i nd0) from hp))]
    rw [if_neg hp, if_neg hp]
    have h2' : s.2 = (o.2 ++ [(i : Int)]).filter (atomI c) := by
      rw [List.filter_append, h2, show [(i : Int)].filter (atomI c) = [] from List.filter_cons_of_neg (by rw [show atomI c (i : Int) = false from decide_eq_false (show ¬ atomN (c.getD i nd0) from hp)]; exact Bool.false_ne_true), List.append_nil]
    by_cases h4 : 4 ≤ (c.getD i nd0).op
    case neg => simp only [if_neg h4, if_neg (show ¬ 5 ≤ (c.getD i nd0).op by omega)]; exact ⟨trivial, h2'⟩
    simp only [if_pos h4]
    have r := ord_leaves (c := c) n (c.getD i nd0).x.toNat (o.1.set i true, s.2) (o.1.set i true, o.2 ++ [(i : Int)]) rfl h2'
    by_cases h5 : 5 ≤ (c.getD i nd0).op
    case neg => simp only [if_neg h5]; exact r
    simp only [if_pos h5]
    exact ord_leaves n _ _ _ r.1 r.2
theorem order_leaves (c : List Nd) : leavesA c = (orderA c).filter (atomI c) := (ord_leaves c.length (c.length - 1) _ (List.replicate c.length false, []) rfl rfl).2
/-- What a stack still has to walk. -/
def stackS (c : List Nd) (st : List Int) (s : List Bool × List Int) : List Bool × List Int := st.foldr (fun z s => ordS c c.length z.toNat s) s
theorem stackS_snoc (c : List Nd) (st : List Int) (z : Int) (s : List Bool × List Int) : stackS c (st ++ [z]) s = stackS c st (ordS c c.length z.toNat s) := by simp [stackS]
theorem take_snocI {l : List Int} {n : Nat} (h : n < l.length) : l.take (n + 1) = l.take n ++ [l.getD n 0] := take_snoc (d := 0) h
end Fm
theorem trunk46 {c : List Nd} (hv : validL c) (hn : 0 < c.length) (hlen : c.length ≤ 1000) : Runs Tryd.prog 46 [.sl 6 (ndR c)] (.sl 1 (rows .i64 (orderA c))) := by
  refine CallT.go_fn mixed Tryd.func46 k46 (by simp) fun hf => ?_
  have ew : IntKind.i64.wrap ((c.length : Int) - 1) = ((c.length - 1 : Nat) : Int) := by rw [wrap_i64 (by omega)]; omega
  simp only [Int.reduceToNat, Int.reduceLT, Int.reduceLE, Int.reduceBEq, Int.reduceBNe, St0, argFr, ↓callZ, ↓midZ, ↓unZ, ↓thenW, ↓blockW, ↓opX, ↓opV, ↓pX, ↓pW, ↓putK, ↓putP, ↓atK, ↓normK, ↓postZ, ↓reduceIte, reduceIte, Nat.reduceEqDiff, Nat.reduceAdd, Nat.reduceBEq, Nat.reduceLT, Nat.reduceLeDiff, binW, bodyQ, ressW, resW, ne_eq, forall_const, reduceCtorEq, implies_true, sets, oneAll, setD, rels, fillE, fillD, List.replicate, rowsOf, forall_eq, Nat.reduceMul, ↓zD, zT, ndR_len, ew]
  (repeat refine And.intro (by first | omega | exact ui_nonneg _ | exact Int.natCast_nonneg _ | rfl | exact rows_one' _ _ | exact us_one _ | (intro _ h; cases h; done)) ?_)
  rw [rb_replicate]
  refine wpS_loop (fun a : List Bool × List Int × List Int × Nat => [(5, .osl 2 1 a.2.2.2), (4, .osl 1 1 c.length), (3, .osl 0 1 a.2.1.length), (0, .sl 6 (ndR c))]) (fun a => ⟨3, [(2, ⟨1, rows .i64 a.2.2.1⟩), (1, ⟨1, rb a.1⟩), (0, ⟨1, rows .i64 a.2.1⟩)]⟩)
    (fun a => a.2.2.2 ≤ a.2.2.1.length ∧ a.1.length = c.length ∧ (∀ z ∈ a.2.2.1.take a.2.2.2, 0 ≤ z ∧ z < c.length) ∧ a.2.1.length + a.1.count false ≤ c.length ∧ a.2.2.2 + 2 * a.1.count false ≤ 2 * c.length + 1 ∧ (stackS c (a.2.2.1.take a.2.2.2) (a.1, a.2.1)).2 = orderA c)
    (fun a => a.2.2.2 + 2 * a.1.count false) (List.replicate c.length false, [], [((c.length - 1 : Nat) : Int)], 1) ⟨by simp, by simp, by simp; omega, by simp, by simp; omega, by simp [stackS, orderA]⟩ ?_ ?_
  · (refine Weak.ren [] [2, 1, 0] (by simp) (by simp) (by decide) ?_; simp only [stay1, vwL, vw, vwF, sw, St.get, St.look, Fr.get, ↓reduceIte, reduceIte, Nat.reduceEqDiff, Nat.reduceAdd, Nat.reduceBEq, Nat.reduceLT, Nat.reduceLeDiff, exists_eq_left', ne_eq, reduceCtorEq, zR, pureE_rb, pureE_rows, rows, List.map_cons, List.map_nil])
  rintro ⟨seen, ord, w, n⟩ ⟨hnw, hsl, hst, hol, hnc, hfin⟩
  simp only at hnw hsl hst hol hnc hfin
  refine wpS_go mixed ?_
  by_cases h : 0 < n
  case neg =>
    obtain rfl : n = 0 := by omega
    simp only [Int.reduceToNat, Int.reduceLT, Int.reduceLE, Int.reduceBEq, Int.reduceBNe, St0, argFr, ↓callZ, ↓midZ, ↓unZ, ↓thenW, ↓blockW, ↓opX, ↓opV, ↓pX, ↓pW, ↓putK, ↓putP, ↓atK, ↓normK, ↓postZ, ↓reduceIte, reduceIte, Nat.reduceEqDiff, Nat.reduceAdd, Nat.reduceBEq, Nat.reduceLT, Nat.reduceLeDiff, binW, bodyQ, ressW, resW, ne_eq, forall_const, reduceCtorEq, implies_true, sets, oneAll, setD, rels, fillE, fillD, List.replicate, rowsOf, forall_eq, Nat.reduceMul, ↓zD, zT]
    rw [← hfin, show (stackS c (w.take 0) (seen, ord)).2 = ord from by simp [stackS]]
    exact .drop (by simp) (by simp [vw, St.get, St.look, rows_len, List.take_of_length_le]; exact rows_pure _ _)
  obtain ⟨k, rfl⟩ : ∃ k, n = k + 1 := ⟨n - 1, by omega⟩
  have hd : ((0 : Int) < ((k + 1 : Nat) : Int)) := by omega
  have hwk : IntKind.i64.wrap (((k + 1 : Nat) : Int) - 1) = (k : Int) := by rw [wrap_i64 (by omega)]; omega
  have hgw := rows_get .i64 w (i := k) (by omega)
  rw [take_snocI (by omega)] at hst hfin
  have hz := hst (w.getD k 0) (by simp)
  obtain ⟨i, hi⟩ := Int.eq_ofNat_of_zero_le hz.1
  rw [hi] at hgw hfin hz
  have hi2 : i < c.length := by omega
  have hgs := rb_get seen (i := i) (by omega)
  have hst' : ∀ z ∈ w.take k, 0 ≤ z ∧ z < c.length := fun z hz => hst z (by simp [hz])
  rw [stackS_snoc, Int.toNat_natCast] at hfin
  cases hb : seen.getD i false
  case true =>
    rw [hb] at hgs
    rw [ordS_seen (s := (seen, ord)) hb] at hfin
    simp only [Int.reduceToNat, Int.reduceLT, Int.reduceLE, Int.reduceBEq, Int.reduceBNe, St0, argFr, ↓callZ, ↓midZ, ↓unZ, ↓thenW, ↓blockW, ↓opX, ↓opV, ↓pX, ↓pW, ↓putK, ↓putP, ↓atK, ↓normK, ↓postZ, ↓reduceIte, reduceIte, Nat.reduceEqDiff, Nat.reduceAdd, Nat.reduceBEq, Nat.reduceLT, Nat.reduceLeDiff, binW, bodyQ, ressW, resW, ne_eq, forall_const, reduceCtorEq, implies_true, sets, oneAll, setD, rels, fillE, fillD, List.replicate, rowsOf, forall_eq, Nat.reduceMul, ↓zD, zT, hd, hwk, rows_len, hgw, rb_len, hsl, hgs]
    (repeat refine And.intro (by first | omega | exact ui_nonneg _ | exact Int.natCast_nonneg _ | rfl | exact rows_one' _ _ | exact us_one _ | (intro _ h; cases h; done)) ?_)
    refine ⟨0, k, rfl, rfl, by omega, by omega, by omega, ?_⟩
    simp only [Int.reduceToNat, Int.reduceLT, Int.reduceLE, Int.reduceBEq, Int.reduceBNe, St0, argFr, ↓callZ, ↓midZ, ↓unZ, ↓thenW, ↓blockW, ↓opX, ↓opV, ↓pX, ↓pW, ↓putK, ↓putP, ↓atK, ↓normK, ↓postZ, ↓reduceIte, reduceIte, Nat.reduceEqDiff, Nat.reduceAdd, Nat.reduceBEq, Nat.reduceLT, Nat.reduceLeDiff, binW, bodyQ, ressW, resW, ne_eq, forall_const, reduceCtorEq, implies_true, sets, oneAll, setD, rels, fillE, fillD, List.replicate, rowsOf, forall_eq, Nat.reduceMul, ↓zD, zT, rb_len, hsl, hgs]
    (repeat refine And.intro (by first | omega | exact ui_nonneg _ | exact Int.natCast_nonneg _ | rfl | exact rows_one' _ _ | exact us_one _ | (intro _ h; cases h; done)) ?_)
    refine ⟨(seen, ord, w, k), ⟨by simp only; omega, hsl, hst', hol, by simp only; omega, hfin⟩, ?_, by simp only; omega⟩
    (refine Weak.same ?_; simp only [sameF, Fr.get, ↓reduceIte, reduceIte, Nat.reduceEqDiff, reduceCtorEq, D.int.injEq, D.bool.injEq, D.sl.injEq, and_true, true_and, and_self])
    all_goals skip
  rw [hb] at hgs
  rw [ordS_step (s := (seen, ord)) hv hi2 hb] at hfin
  simp only at hfin
  have hct := count_set (l := seen) (i := i) (by omega) hb
  have hg := ndR_get c hi2
  have hnd := hv i hi2
  have hm := mid_ops hv hi2
  have hsl' : (seen.set i true).length = c.length := by simpa using hsl
  have hol' : (ord ++ [(i : Int)]).length + (seen.set i true).count false ≤ c.length := by rw [List.length_append, List.length_singleton]; omega
  have hro : rows .i64 ord ++ [[.int .i64 i]] = rows .i64 (ord ++ [(i : Int)]) := by simp [rows]
  have hto : (rows .i64 ord).take ord.length = rows .i64 ord := List.take_of_length_le (by simp [rows_len])
  have htw : ∀ y : Int, (rows .i64 w).take k ++ [[.int .i64 y]] = rows .i64 (w.take k ++ [y]) := fun y => by simp [rows, List.map_take]
  have hlw : (w.take k).length = k := by rw [List.length_take]; omega
  unfold atomN at hm
  generalize c.getD i nd0 = p at hfin hg hnd hm
  have hop : 1 ≤ p.op := by
    have hok := (nodeE_iff.1 hnd).1
    rcases Int.lt_or_le p.op 1 with h | h
    · rw [uses_out (.inl h)] at hok; cases hok
    · exact h
  have hp8 : ∀ q : Bool, (decide (1 ≤ p.op) && q) = q := fun q => by rw [decide_eq_true hop, Bool.true_and]
  by_cases h3 : p.op = 3
  · have e3 : (p.op == 3) = true := by simpa using h3
    rw [if_pos (.inl h3)] at hfin
    simp only [Int.reduceToNat, Int.reduceLT, Int.reduceLE, Int.reduceBEq, Int.reduceBNe, St0, argFr, ↓callZ, ↓midZ, ↓unZ, ↓thenW, ↓blockW, ↓opX, ↓opV, ↓pX, ↓pW, ↓putK, ↓putP, ↓atK, ↓normK, ↓postZ, ↓reduceIte, reduceIte, Nat.reduceEqDiff, Nat.reduceAdd, Nat.reduceBEq, Nat.reduceLT, Nat.reduceLeDiff, binW, bodyQ, ressW, resW, ne_eq, forall_const, reduceCtorEq, implies_true, sets, oneAll, setD, rels, fillE, fillD, List.replicate, rowsOf, forall_eq, Nat.reduceMul, ↓zD, zT, hd, hwk, rows_len, hgw]
    (repeat refine And.intro (by first | omega | exact ui_nonneg _ | exact Int.natCast_nonneg _ | rfl | exact rows_one' _ _ | exact us_one _ | (intro _ h; cases h; done)) ?_)
    refine ⟨0, k, rfl, rfl, by omega, by omega, by omega, ?_⟩
    simp only [Int.reduceToNat, Int.reduceLT, Int.reduceLE, Int.reduceBEq, Int.reduceBNe, St0, argFr, ↓callZ, ↓midZ, ↓unZ, ↓thenW, ↓blockW, ↓opX, ↓opV, ↓pX, ↓pW, ↓putK, ↓putP, ↓atK, ↓normK, ↓postZ, ↓reduceIte, reduceIte, Nat.reduceEqDiff, Nat.reduceAdd, Nat.reduceBEq, Nat.reduceLT, Nat.reduceLeDiff, binW, bodyQ, ressW, resW, ne_eq, forall_const, reduceCtorEq, implies_true, sets, oneAll, setD, rels, fillE, fillD, List.replicate, rowsOf, forall_eq, Nat.reduceMul, ↓zD, zT, rb_len, hsl, hgs, set1, rb_set, rows_len, hro, hto, ndR_len, hg, Nd.row, e3]
    (repeat refine And.intro (by first | omega | exact ui_nonneg _ | exact Int.natCast_nonneg _ | rfl | exact rows_one' _ _ | exact us_one _ | (intro _ h; cases h; done)) ?_)
    refine ⟨(seen.set i true, ord ++ [(i : Int)], w, k), ⟨by simp only; omega, hsl', hst', hol', by simp only; omega, hfin⟩, ?_, by simp only; omega⟩
    (refine Weak.ren [(0, 3)] [2, 1, 0] (by simp) (by simp) (by decide) ?_; simp only [stay1, vwL, vw, vwF, sw, St.get, St.look, Fr.get, ↓reduceIte, reduceIte, Nat.reduceEqDiff, Nat.reduceAdd, Nat.reduceBEq, Nat.reduceLT, Nat.reduceLeDiff, exists_eq_left', ne_eq, reduceCtorEq, zR, pureE_rb, pureE_rows, List.length_append])
  have e3 : (p.op == 3) = false := by simpa using h3
  by_cases h8 : p.op ≤ 8
  case neg =>
    have e8 : decide (p.op ≤ 8) = false := by simpa using h8
    rw [if_pos (.inr (by omega))] at hfin
    simp only [Int.reduceToNat, Int.reduceLT, Int.reduceLE, Int.reduceBEq, Int.reduceBNe, St0, argFr, ↓callZ, ↓midZ, ↓unZ, ↓thenW, ↓blockW, ↓opX, ↓opV, ↓pX, ↓pW, ↓putK, ↓putP, ↓atK, ↓normK, ↓postZ, ↓reduceIte, reduceIte, Nat.reduceEqDiff, Nat.reduceAdd, Nat.reduceBEq, Nat.reduceLT, Nat.reduceLeDiff, binW, bodyQ, ressW, resW, ne_eq, forall_const, reduceCtorEq, implies_true, sets, oneAll, setD, rels, fillE, fillD, List.replicate, rowsOf, forall_eq, Nat.reduceMul, ↓zD, zT, hd, hwk, rows_len, hgw]
    (repeat refine And.intro (by first | omega | exact ui_nonneg _ | exact Int.natCast_nonneg _ | rfl | exact rows_one' _ _ | exact us_one _ | (intro _ h; cases h; done)) ?_)
    refine ⟨0, k, rfl, rfl, by omega, by omega, by omega, ?_⟩
    simp only [Int.reduceToNat, Int.reduceLT, Int.reduceLE, Int.reduceBEq, Int.reduceBNe, St0, argFr, ↓callZ, ↓midZ, ↓unZ, ↓thenW, ↓blockW, ↓opX, ↓opV, ↓pX, ↓pW, ↓putK, ↓putP, ↓atK, ↓normK, ↓postZ, ↓reduceIte, reduceIte, Nat.reduceEqDiff, Nat.reduceAdd, Nat.reduceBEq, Nat.reduceLT, Nat.reduceLeDiff, binW, bodyQ, ressW, resW, ne_eq, forall_const, reduceCtorEq, implies_true, sets, oneAll, setD, rels, fillE, fillD, List.replicate, rowsOf, forall_eq, Nat.reduceMul, ↓zD, zT, rb_len, hsl, hgs, set1, rb_set, rows_len, hro, hto, ndR_len, hg, Nd.row, e3]
    (repeat refine And.intro (by first | omega | exact ui_nonneg _ | exact Int.natCast_nonneg _ | rfl | exact rows_one' _ _ | exact us_one _ | (intro _ h; cases h; done)) ?_)
    refine .go (CallT.of_runs (Propositional41 p.op) rfl) ?_
    simp only [Int.reduceToNat, Int.reduceLT, Int.reduceLE, Int.reduceBEq, Int.reduceBNe, St0, argFr, ↓callZ, ↓midZ, ↓unZ, ↓thenW, ↓blockW, ↓opX, ↓opV, ↓pX, ↓pW, ↓putK, ↓putP, ↓atK, ↓normK, ↓postZ, ↓reduceIte, reduceIte, Nat.reduceEqDiff, Nat.reduceAdd, Nat.reduceBEq, Nat.reduceLT, Nat.reduceLeDiff, binW, bodyQ, ressW, resW, ne_eq, forall_const, reduceCtorEq, implies_true, sets, oneAll, setD, rels, fillE, fillD, List.replicate, rowsOf, forall_eq, Nat.reduceMul, ↓zD, zT, hp8, e8]
    refine ⟨(seen.set i true, ord ++ [(i : Int)], w, k), ⟨by simp only; omega, hsl', hst', hol', by simp only; omega, hfin⟩, ?_, by simp only; omega⟩
    (refine Weak.ren [(0, 3)] [2, 1, 0] (by simp) (by simp) (by decide) ?_; simp only [stay1, vwL, vw, vwF, sw, St.get, St.look, Fr.get, ↓reduceIte, reduceIte, Nat.reduceEqDiff, Nat.reduceAdd, Nat.reduceBEq, Nat.reduceLT, Nat.reduceLeDiff, exists_eq_left', ne_eq, reduceCtorEq, zR, pureE_rb, pureE_rows, List.length_append])
  have e8 : decide (p.op ≤ 8) = true := by simpa using h8
  rw [if_neg (by omega)] at hfin
  obtain ⟨ox, oy⟩ := hm (by omega)
  simp only [Int.reduceToNat, Int.reduceLT, Int.reduceLE, Int.reduceBEq, Int.reduceBNe, St0, argFr, ↓callZ, ↓midZ, ↓unZ, ↓thenW, ↓blockW, ↓opX, ↓opV, ↓pX, ↓pW, ↓putK, ↓putP, ↓atK, ↓normK, ↓postZ, ↓reduceIte, reduceIte, Nat.reduceEqDiff, Nat.reduceAdd, Nat.reduceBEq, Nat.reduceLT, Nat.reduceLeDiff, binW, bodyQ, ressW, resW, ne_eq, forall_const, reduceCtorEq, implies_true, sets, oneAll, setD, rels, fillE, fillD, List.replicate, rowsOf, forall_eq, Nat.reduceMul, ↓zD, zT, hd, hwk, rows_len, hgw]
  (repeat refine And.intro (by first | omega | exact ui_nonneg _ | exact Int.natCast_nonneg _ | rfl | exact rows_one' _ _ | exact us_one _ | (intro _ h; cases h; done)) ?_)
  refine ⟨0, k, rfl, rfl, by omega, by omega, by omega, ?_⟩
  simp only [Int.reduceToNat, Int.reduceLT, Int.reduceLE, Int.reduceBEq, Int.reduceBNe, St0, argFr, ↓callZ, ↓midZ, ↓unZ, ↓thenW, ↓blockW, ↓opX, ↓opV, ↓pX, ↓pW, ↓putK, ↓putP, ↓atK, ↓normK, ↓postZ, ↓reduceIte, reduceIte, Nat.reduceEqDiff, Nat.reduceAdd, Nat.reduceBEq, Nat.reduceLT, Nat.reduceLeDiff, binW, bodyQ, ressW, resW, ne_eq, forall_const, reduceCtorEq, implies_true, sets, oneAll, setD, rels, fillE, fillD, List.replicate, rowsOf, forall_eq, Nat.reduceMul, ↓zD, zT, rb_len, hsl, hgs, set1, rb_set, rows_len, hro, hto, ndR_len, hg, Nd.row, e3]
  (repeat refine And.intro (by first | omega | exact ui_nonneg _ | exact Int.natCast_nonneg _ | rfl | exact rows_one' _ _ | exact us_one _ | (intro _ h; cases h; done)) ?_)
  refine .go (CallT.of_runs (Propositional41 p.op) rfl) ?_
  simp only [Int.reduceToNat, Int.reduceLT, Int.reduceLE, Int.reduceBEq, Int.reduceBNe, St0, argFr, ↓callZ, ↓midZ, ↓unZ, ↓thenW, ↓blockW, ↓opX, ↓opV, ↓pX, ↓pW, ↓putK, ↓putP, ↓atK, ↓normK, ↓postZ, ↓reduceIte, reduceIte, Nat.reduceEqDiff, Nat.reduceAdd, Nat.reduceBEq, Nat.reduceLT, Nat.reduceLeDiff, binW, bodyQ, ressW, resW, ne_eq, forall_const, reduceCtorEq, implies_true, sets, oneAll, setD, rels, fillE, fillD, List.replicate, rowsOf, forall_eq, Nat.reduceMul, ↓zD, zT, hp8, e8]
  refine .go (CallT.of_runs (UsesY27 p.op) rfl) ?_
  by_cases h5 : 5 ≤ p.op
  · obtain ⟨ux, uy⟩ := uses_mid (show 4 ≤ p.op by omega) h8
    rw [if_pos h5] at hfin
    rw [uy h5]
    obtain ⟨x, hx⟩ := Int.eq_ofNat_of_zero_le (ox (by omega)).1
    obtain ⟨y, hy⟩ := Int.eq_ofNat_of_zero_le (oy h5).1
    have hox := (ox (by omega)).2
    have hoy := (oy h5).2
    rw [hx] at hfin hox
    rw [hy] at hfin hoy
    rw [Int.toNat_natCast] at hox hoy
    have hty : ∀ z : Int, rows .i64 (w.take k ++ [(y : Int)]) ++ [[.int .i64 z]] = rows .i64 (w.take k ++ [(y : Int), z]) := fun z => by simp [rows]
    have htk : (rows .i64 (w.take k ++ [(y : Int)])).take (k + 1) = rows .i64 (w.take k ++ [(y : Int)]) := List.take_of_length_le (by rw [rows_len, List.length_append, List.length_singleton]; omega)
    simp only [Int.reduceToNat, Int.reduceLT, Int.reduceLE, Int.reduceBEq, Int.reduceBNe, St0, argFr, ↓callZ, ↓midZ, ↓unZ, ↓thenW, ↓blockW, ↓opX, ↓opV, ↓pX, ↓pW, ↓putK, ↓putP, ↓atK, ↓normK, ↓postZ, ↓reduceIte, reduceIte, Nat.reduceEqDiff, Nat.reduceAdd, Nat.reduceBEq, Nat.reduceLT, Nat.reduceLeDiff, binW, bodyQ, ressW, resW, ne_eq, forall_const, reduceCtorEq, implies_true, sets, oneAll, setD, rels, fillE, fillD, List.replicate, rowsOf, forall_eq, Nat.reduceMul, ↓zD, zT, hx, hy, htw, hlw]
    (repeat refine And.intro (by first | omega | exact ui_nonneg _ | exact Int.natCast_nonneg _ | rfl | exact rows_one' _ _ | exact us_one _ | (intro _ h; cases h; done)) ?_)
    refine .go (CallT.of_runs (UsesX26 p.op) rfl) ?_
    rw [ux]
    simp only [Int.reduceToNat, Int.reduceLT, Int.reduceLE, Int.reduceBEq, Int.reduceBNe, St0, argFr, ↓callZ, ↓midZ, ↓unZ, ↓thenW, ↓blockW, ↓opX, ↓opV, ↓pX, ↓pW, ↓putK, ↓putP, ↓atK, ↓normK, ↓postZ, ↓reduceIte, reduceIte, Nat.reduceEqDiff, Nat.reduceAdd, Nat.reduceBEq, Nat.reduceLT, Nat.reduceLeDiff, binW, bodyQ, ressW, resW, ne_eq, forall_const, reduceCtorEq, implies_true, sets, oneAll, setD, rels, fillE, fillD, List.replicate, rowsOf, forall_eq, Nat.reduceMul, ↓zD, zT, hx, hy, hty, htk, rows_len, List.length_append, hlw]
    (repeat refine And.intro (by first | omega | exact ui_nonneg _ | exact Int.natCast_nonneg _ | rfl | exact rows_one' _ _ | exact us_one _ | (intro _ h; cases h; done)) ?_)
    refine ⟨(seen.set i true, ord ++ [(i : Int)], w.take k ++ [(y : Int), (x : Int)], k + 2), ⟨by simp [hlw], hsl', fun z hz => ?_, hol', by simp only; omega, ?_⟩, ?_, by simp only; omega⟩
    · simp only [List.take_of_length_le (show (w.take k ++ [(y : Int), (x : Int)]).length ≤ k + 2 by simp [hlw])] at hz
      rcases List.mem_append.1 hz with hz | hz
      · exact hst' z hz
      · rcases List.mem_cons.1 hz with rfl | hz
        · omega
        · rw [List.mem_singleton] at hz; omega
    · simp only [List.take_of_length_le (show (w.take k ++ [(y : Int), (x : Int)]).length ≤ k + 2 by simp [hlw])]
      rw [show w.take k ++ [(y : Int), (x : Int)] = w.take k ++ [(y : Int)] ++ [(x : Int)] by simp, stackS_snoc, stackS_snoc]
      exact hfin
    · (refine Weak.ren [(0, 3), (2, 6)] [2, 1, 0] (by simp) (by simp) (by decide) ?_; simp only [stay1, vwL, vw, vwF, sw, St.get, St.look, Fr.get, ↓reduceIte, reduceIte, Nat.reduceEqDiff, Nat.reduceAdd, Nat.reduceBEq, Nat.reduceLT, Nat.reduceLeDiff, exists_eq_left', ne_eq, reduceCtorEq, zR, pureE_rb, pureE_rows, List.length_append])
  by_cases h4 : 4 ≤ p.op
  · obtain ⟨ux, _⟩ := uses_mid h4 h8
    have uy : (usesA p.op).1.y = false := by rw [show p.op = 4 by omega]; rfl
    rw [if_neg h5, if_pos h4] at hfin
    rw [uy]
    simp only [Int.reduceToNat, Int.reduceLT, Int.reduceLE, Int.reduceBEq, Int.reduceBNe, St0, argFr, ↓callZ, ↓midZ, ↓unZ, ↓thenW, ↓blockW, ↓opX, ↓opV, ↓pX, ↓pW, ↓putK, ↓putP, ↓atK, ↓normK, ↓postZ, ↓reduceIte, reduceIte, Nat.reduceEqDiff, Nat.reduceAdd, Nat.reduceBEq, Nat.reduceLT, Nat.reduceLeDiff, binW, bodyQ, ressW, resW, ne_eq, forall_const, reduceCtorEq, implies_true, sets, oneAll, setD, rels, fillE, fillD, List.replicate, rowsOf, forall_eq, Nat.reduceMul, ↓zD, zT]
    (repeat refine And.intro (by first | omega | exact ui_nonneg _ | exact Int.natCast_nonneg _ | rfl | exact rows_one' _ _ | exact us_one _ | (intro _ h; cases h; done)) ?_)
    refine .go (CallT.of_runs (UsesX26 p.op) rfl) ?_
    rw [ux]
    obtain ⟨x, hx⟩ := Int.eq_ofNat_of_zero_le (ox h4).1
    have hox := (ox h4).2
    rw [hx] at hfin hox
    rw [Int.toNat_natCast] at hox
    simp only [Int.reduceToNat, Int.reduceLT, Int.reduceLE, Int.reduceBEq, Int.reduceBNe, St0, argFr, ↓callZ, ↓midZ, ↓unZ, ↓thenW, ↓blockW, ↓opX, ↓opV, ↓pX, ↓pW, ↓putK, ↓putP, ↓atK, ↓normK, ↓postZ, ↓reduceIte, reduceIte, Nat.reduceEqDiff, Nat.reduceAdd, Nat.reduceBEq, Nat.reduceLT, Nat.reduceLeDiff, binW, bodyQ, ressW, resW, ne_eq, forall_const, reduceCtorEq, implies_true, sets, oneAll, setD, rels, fillE, fillD, List.replicate, rowsOf, forall_eq, Nat.reduceMul, ↓zD, zT, hx, htw, rows_len, List.length_append, hlw]
    (repeat refine And.intro (by first | omega | exact ui_nonneg _ | exact Int.natCast_nonneg _ | rfl | exact rows_one' _ _ | exact us_one _ | (intro _ h; cases h; done)) ?_)
    refine ⟨(seen.set i true, ord ++ [(i : Int)], w.take k ++ [(x : Int)], k + 1), ⟨by simp [hlw], hsl', fun z hz => ?_, hol', by simp only; omega, ?_⟩, ?_, by simp only; omega⟩
    · simp only [List.take_of_length_le (show (w.take k ++ [(x : Int)]).length ≤ k + 1 by simp [hlw])] at hz
      rcases List.mem_append.1 hz with hz | hz
      · exact hst' z hz
      · rw [List.mem_singleton] at hz; omega
    · simp only [List.take_of_length_le (show (w.take k ++ [(x : Int)]).length ≤ k + 1 by simp [hlw])]
      rw [stackS_snoc]
      exact hfin
    · (refine Weak.ren [(0, 3), (2, 5)] [2, 1, 0] (by simp) (by simp) (by decide) ?_; simp only [stay1, vwL, vw, vwF, sw, St.get, St.look, Fr.get, ↓reduceIte, reduceIte, Nat.reduceEqDiff, Nat.reduceAdd, Nat.reduceBEq, Nat.reduceLT, Nat.reduceLeDiff, exists_eq_left', ne_eq, reduceCtorEq, zR, pureE_rb, pureE_rows, List.length_append])
  have uy : (usesA p.op).1.y = false := by
    have : p.op = 1 ∨ p.op = 2 := by omega
    rcases this with h | h <;> rw [h] <;> rfl
  have ux : (usesA p.op).1.x = false := by
    have : p.op = 1 ∨ p.op = 2 := by omega
    rcases this with h | h <;> rw [h] <;> rfl
  rw [if_neg h5, if_neg h4] at hfin
  rw [uy]
  simp only [Int.reduceToNat, Int.reduceLT, Int.reduceLE, Int.reduceBEq, Int.reduceBNe, St0, argFr, ↓callZ, ↓midZ, ↓unZ, ↓thenW, ↓blockW, ↓opX, ↓opV, ↓pX, ↓pW, ↓putK, ↓putP, ↓atK, ↓normK, ↓postZ, ↓reduceIte, reduceIte, Nat.reduceEqDiff, Nat.reduceAdd, Nat.reduceBEq, Nat.reduceLT, Nat.reduceLeDiff, binW, bodyQ, ressW, resW, ne_eq, forall_const, reduceCtorEq, implies_true, sets, oneAll, setD, rels, fillE, fillD, List.replicate, rowsOf, forall_eq, Nat.reduceMul, ↓zD, zT]
  (repeat refine And.intro (by first | omega | exact ui_nonneg _ | exact Int.natCast_nonneg _ | rfl | exact rows_one' _ _ | exact us_one _ | (intro _ h; cases h; done)) ?_)
  refine .go (CallT.of_runs (UsesX26 p.op) rfl) ?_
  rw [ux]
  simp only [Int.reduceToNat, Int.reduceLT, Int.reduceLE, Int.reduceBEq, Int.reduceBNe, St0, argFr, ↓callZ, ↓midZ, ↓unZ, ↓thenW, ↓blockW, ↓opX, ↓opV, ↓pX, ↓pW, ↓putK, ↓putP, ↓atK, ↓normK, ↓postZ, ↓reduceIte, reduceIte, Nat.reduceEqDiff, Nat.reduceAdd, Nat.reduceBEq, Nat.reduceLT, Nat.reduceLeDiff, binW, bodyQ, ressW, resW, ne_eq, forall_const, reduceCtorEq, implies_true, sets, oneAll, setD, rels, fillE, fillD, List.replicate, rowsOf, forall_eq, Nat.reduceMul, ↓zD, zT]
  refine ⟨(seen.set i true, ord ++ [(i : Int)], w, k), ⟨by simp only; omega, hsl', hst', hol', by simp only; omega, hfin⟩, ?_, by simp only; omega⟩
  (refine Weak.ren [(0, 3)] [2, 1, 0] (by simp) (by simp) (by decide) ?_; simp only [stay1, vwL, vw, vwF, sw, St.get, St.look, Fr.get, ↓reduceIte, reduceIte, Nat.reduceEqDiff, Nat.reduceAdd, Nat.reduceBEq, Nat.reduceLT, Nat.reduceLeDiff, exists_eq_left', ne_eq, reduceCtorEq, zR, pureE_rb, pureE_rows, List.length_append])
end Go.Pd
