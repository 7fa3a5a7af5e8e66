/- Resolution: contract: literals taken out of a clause. -/
import Derived.Test.YtigkaakdjibakaaC3
set_option linter.unusedSectionVars false
set_option linter.unusedVariables false
set_option linter.unusedSimpArgs false
set_option linter.defProp false
set_option maxRecDepth 20000
namespace Go.Pd
open Go Go.Proofs
open Rs
theorem index65o {σ : St} {key : Nat} {g : FuncId} {caps : List D} {f : Int → Bool} {c : List Int} (hget : σ.get key = some ⟨1, rows .i64 c⟩) (hl : c.length ≤ 1000) (h : ∀ x ∈ c, CallT Try.prog g ([.int .i64 x] ++ caps) σ (.bool (f x)) σ) : CallT Try.prog 65 [.osl key 1 c.length, .fn g caps] σ (.int .i64 (ixF f c 0)) σ := by
  obtain ⟨nx, objs⟩ := σ
  have hg : St.look objs key = some ⟨1, rows .i64 c⟩ := hget
  refine CallT.go_fn mixed Try.func65 k65 (by simp) fun hf => ?_
  simp only [Int.reduceToNat, Int.reduceLT, Int.reduceLE, Int.reduceBEq, Int.reduceBNe, St0, argFr, ↓thenW, ↓blockW, ↓opX, ↓opV, ↓pX, ↓pW, ↓putK, ↓putP, ↓atK, ↓normK, ↓postZ, ↓reduceIte, reduceIte, Nat.reduceEqDiff, Nat.reduceAdd, Nat.reduceBEq, Nat.reduceLT, Nat.reduceLeDiff, binW, bodyQ, ressW, resW, ne_eq, forall_const, reduceCtorEq, implies_true, sets, oneAll, setD, rels, fillE, fillD, List.replicate, rowsOf, forall_eq, Nat.reduceMul, ↓zD, zT]
  refine wpS_loop (fun k : Nat => [(8, .int .i64 k), (7, .int .i64 c.length), (1, .fn g caps), (0, .osl key 1 c.length)]) (fun _ => ⟨nx, objs⟩) (fun k => k ≤ c.length ∧ ixF f c 0 = ixF f (c.drop k) k) (fun k => c.length - k) 0 ⟨Nat.zero_le _, rfl⟩ ?_ ?_
  · (refine Weak.same ?_; simp [sameF, Fr.get])
  intro k ⟨hk, hi⟩
  refine wpS_go mixed ?_
  by_cases hh : k < c.length
  · have hd : ((k : Int) < (c.length : Int)) := by omega
    rw [drop_cons (d := 0) hh, ixF] at hi
    simp only [Int.reduceToNat, Int.reduceLT, Int.reduceLE, Int.reduceBEq, Int.reduceBNe, St0, argFr, ↓thenW, ↓blockW, ↓opX, ↓opV, ↓pX, ↓pW, ↓putK, ↓putP, ↓atK, ↓normK, ↓postZ, ↓reduceIte, reduceIte, Nat.reduceEqDiff, Nat.reduceAdd, Nat.reduceBEq, Nat.reduceLT, Nat.reduceLeDiff, binW, bodyQ, ressW, resW, ne_eq, forall_const, reduceCtorEq, implies_true, sets, oneAll, setD, rels, fillE, fillD, List.replicate, rowsOf, forall_eq, Nat.reduceMul, ↓zD, zT, hd, hg, rows_get _ _ hh]
    (repeat (first | refine And.intro (by omega) ?_ | refine And.intro (ui_nonneg _) ?_ | refine And.intro (Int.natCast_nonneg _) ?_ | refine And.intro rfl ?_ | refine And.intro (rows_one' _ _) ?_ | refine And.intro (us_one _) ?_ | refine And.intro (by intro _ h; cases h; done) ?_))
    refine .go (h _ (getD_mem hh)) ?_
    cases hx : f (c.getD k 0)
    · rw [hx, if_neg (by simp)] at hi
      simp only [Int.reduceToNat, Int.reduceLT, Int.reduceLE, Int.reduceBEq, Int.reduceBNe, St0, argFr, ↓thenW, ↓blockW, ↓opX, ↓opV, ↓pX, ↓pW, ↓putK, ↓putP, ↓atK, ↓normK, ↓postZ, ↓reduceIte, reduceIte, Nat.reduceEqDiff, Nat.reduceAdd, Nat.reduceBEq, Nat.reduceLT, Nat.reduceLeDiff, binW, bodyQ, ressW, resW, ne_eq, forall_const, reduceCtorEq, implies_true, sets, oneAll, setD, rels, fillE, fillD, List.replicate, rowsOf, forall_eq, Nat.reduceMul, ↓zD, zT]
      refine ⟨k + 1, ⟨by omega, hi⟩, ?_, by omega⟩
      (refine Weak.same ?_; simp only [sameF, Fr.get, ↓reduceIte, reduceIte, Nat.reduceEqDiff, reduceCtorEq, D.int.injEq, D.bool.injEq, D.sl.injEq, and_true, true_and, and_self])
      exact wrap_i64 (by omega)
    · rw [hx, if_pos rfl] at hi
      simp only [Int.reduceToNat, Int.reduceLT, Int.reduceLE, Int.reduceBEq, Int.reduceBNe, St0, argFr, ↓thenW, ↓blockW, ↓opX, ↓opV, ↓pX, ↓pW, ↓putK, ↓putP, ↓atK, ↓normK, ↓postZ, ↓reduceIte, reduceIte, Nat.reduceEqDiff, Nat.reduceAdd, Nat.reduceBEq, Nat.reduceLT, Nat.reduceLeDiff, binW, bodyQ, ressW, resW, ne_eq, forall_const, reduceCtorEq, implies_true, sets, oneAll, setD, rels, fillE, fillD, List.replicate, rowsOf, forall_eq, Nat.reduceMul, ↓zD, zT]
      rw [hi]
      exact .same
  · have hd : ¬ ((k : Int) < (c.length : Int)) := by omega
    rw [List.drop_eq_nil_of_le (by omega), ixF] at hi
    simp only [Int.reduceToNat, Int.reduceLT, Int.reduceLE, Int.reduceBEq, Int.reduceBNe, St0, argFr, ↓thenW, ↓blockW, ↓opX, ↓opV, ↓pX, ↓pW, ↓putK, ↓putP, ↓atK, ↓normK, ↓postZ, ↓reduceIte, reduceIte, Nat.reduceEqDiff, Nat.reduceAdd, Nat.reduceBEq, Nat.reduceLT, Nat.reduceLeDiff, binW, bodyQ, ressW, resW, ne_eq, forall_const, reduceCtorEq, implies_true, sets, oneAll, setD, rels, fillE, fillD, List.replicate, rowsOf, forall_eq, Nat.reduceMul, ↓zD, zT, hd]
    rw [hi]
    exact .same
namespace Rs
def keepF (f : Int → Bool) (c : List Int) : List Int := c.filter fun x => !f x
def keepZ (f : Int → Bool) (c : List Int) : List Int := keepF f c ++ List.replicate (c.length - (keepF f c).length) 0
theorem keepF_snoc {f : Int → Bool} {c : List Int} {x : Int} : keepF f (c ++ [x]) = keepF f c ++ if f x = true then [] else [x] := by
  unfold keepF
  rw [List.filter_append, List.filter_cons, List.filter_nil]
  cases h : f x <;> simp
theorem keepF_le (f : Int → Bool) (c : List Int) : (keepF f c).length ≤ c.length := List.length_filter_le _ _
/-- The first that goes. -/
theorem ixF_spec {f : Int → Bool} : ∀ (c : List Int) (i : Int), 0 ≤ i → (ixF f c i = -1 ∧ keepF f c = c) ∨ ∃ k : Nat, ixF f c i = i + k ∧ k < c.length ∧ f (c.getD k 0) = true ∧ keepF f (c.take k) = c.take k
  | [], i, h => .inl ⟨rfl, rfl⟩
  | y :: r, i, h => by
    unfold ixF
    by_cases e : f y = true
    · rw [if_pos e]
      exact .inr ⟨0, by simp, by simp, e, rfl⟩
    · rw [if_neg e]
      rcases ixF_spec (f := f) r (i + 1) (by omega) with ⟨h1, h2⟩ | ⟨k, h1, h2, h3, h4⟩
      · refine .inl ⟨h1, ?_⟩
        unfold keepF at h2 ⊢
        rw [List.filter_cons, if_pos (by simpa using e), h2]
      · refine .inr ⟨k + 1, by rw [h1]; omega, by simp; omega, by simpa using h3, ?_⟩
        unfold keepF at h4 ⊢
        rw [List.take_succ_cons, List.filter_cons, if_pos (by simpa using e), h4]
end Rs
theorem delete43 {σ : St} {key : Nat} {g : FuncId} {caps : List D} {f : Int → Bool} {c : List Int} (hget : σ.get key = some ⟨1, rows .i64 c⟩) (hl : c.length ≤ 1000) (hne : c ≠ [])
    (h : ∀ x ∈ c, ∀ ob, CallT Try.prog g ([.int .i64 x] ++ caps) (σ.set key ob) (.bool (f x)) (σ.set key ob)) :
    CallT Try.prog 43 [.osl key 1 c.length, .fn g caps] σ (.osl key 1 (keepF f c).length) (σ.set key ⟨1, rows .i64 (keepZ f c)⟩) := by
  obtain ⟨nx, objs⟩ := σ
  have hg : St.look objs key = some ⟨1, rows .i64 c⟩ := hget
  have hpos : 0 < c.length := List.length_pos_iff.2 hne
  have h0 : ∀ x ∈ c, CallT Try.prog g ([.int .i64 x] ++ caps) ⟨nx, objs⟩ (.bool (f x)) ⟨nx, objs⟩ := fun x hx => by
    have := h x hx ⟨1, rows .i64 c⟩
    rwa [set_mk, setL_same hg] at this
  refine CallT.go_fn mixed Try.func43 k43 (by simp) fun hf => ?_
  simp only [Int.reduceToNat, Int.reduceLT, Int.reduceLE, Int.reduceBEq, Int.reduceBNe, St0, argFr, ↓thenW, ↓blockW, ↓opX, ↓opV, ↓pX, ↓pW, ↓putK, ↓putP, ↓atK, ↓normK, ↓postZ, ↓reduceIte, reduceIte, Nat.reduceEqDiff, Nat.reduceAdd, Nat.reduceBEq, Nat.reduceLT, Nat.reduceLeDiff, binW, bodyQ, ressW, resW, ne_eq, forall_const, reduceCtorEq, implies_true, sets, oneAll, setD, rels, fillE, fillD, List.replicate, rowsOf, forall_eq, Nat.reduceMul, ↓zD, zT]
  refine .go (index65o hget hl h0) ?_
  rcases ixF_spec (f := f) c 0 (Int.le_refl 0) with ⟨e1, e2⟩ | ⟨i0, e1, e2, e3, e4⟩
  · simp only [Int.reduceToNat, Int.reduceLT, Int.reduceLE, Int.reduceBEq, Int.reduceBNe, St0, argFr, ↓thenW, ↓blockW, ↓opX, ↓opV, ↓pX, ↓pW, ↓putK, ↓putP, ↓atK, ↓normK, ↓postZ, ↓reduceIte, reduceIte, Nat.reduceEqDiff, Nat.reduceAdd, Nat.reduceBEq, Nat.reduceLT, Nat.reduceLeDiff, binW, bodyQ, ressW, resW, ne_eq, forall_const, reduceCtorEq, implies_true, sets, oneAll, setD, rels, fillE, fillD, List.replicate, rowsOf, forall_eq, Nat.reduceMul, ↓zD, zT, e1]
    have e : keepZ f c = c := by unfold keepZ; rw [e2]; simp
    rw [e, setL_same hg, e2]
    exact .same
  rw [e1]
  have en : ((0 + (i0 : Int)) == -1) = false := by simp
  simp only [Int.reduceToNat, Int.reduceLT, Int.reduceLE, Int.reduceBEq, Int.reduceBNe, St0, argFr, ↓thenW, ↓blockW, ↓opX, ↓opV, ↓pX, ↓pW, ↓putK, ↓putP, ↓atK, ↓normK, ↓postZ, ↓reduceIte, reduceIte, Nat.reduceEqDiff, Nat.reduceAdd, Nat.reduceBEq, Nat.reduceLT, Nat.reduceLeDiff, binW, bodyQ, ressW, resW, ne_eq, forall_const, reduceCtorEq, implies_true, sets, oneAll, setD, rels, fillE, fillD, List.replicate, rowsOf, forall_eq, Nat.reduceMul, ↓zD, zT, en]
  have k1 : keepF f (c.take (i0 + 1)) = c.take i0 := by rw [take_snoc (d := 0) e2, keepF_snoc, if_pos e3, List.append_nil, e4]
  refine wpS_loop (fun a : Nat × List Int => [(6, .int .i64 a.1), (5, .int .i64 (keepF f (c.take a.1)).length), (1, .fn g caps), (0, .osl key 1 c.length)]) (fun a => ⟨nx, setL objs key ⟨1, rows .i64 a.2⟩⟩)
    (fun a => a.1 ≤ c.length ∧ a.2.length = c.length ∧ (keepF f (c.take a.1)).length < a.1 ∧ a.2.take (keepF f (c.take a.1)).length = keepF f (c.take a.1) ∧ ∀ j, a.1 ≤ j → a.2.getD j 0 = c.getD j 0) (fun a => c.length - a.1) (i0 + 1, c)
    ⟨by show i0 + 1 ≤ _; omega, rfl, by show (keepF f (c.take (i0 + 1))).length < i0 + 1; rw [k1, List.length_take]; omega, by show c.take (keepF f (c.take (i0 + 1))).length = _; rw [k1, List.length_take, Nat.min_eq_left (by omega)], fun j _ => rfl⟩ ?_ ?_
  · rw [setL_same hg]
    (refine Weak.same ?_; simp only [sameF, Fr.get, ↓reduceIte, reduceIte, Nat.reduceEqDiff, reduceCtorEq, D.int.injEq, D.bool.injEq, D.sl.injEq, and_true, true_and, and_self, k1, List.length_take])
    refine ⟨?_, ?_⟩
    · rw [wrap_i64 (by omega)]; omega
    · omega
  intro ⟨q, o⟩ ⟨q1, q2, q3, q4, q5⟩
  simp only at q1 q2 q3 q4 q5
  have hlk : ∀ ob : Ob, St.look (setL objs key ob) key = some ob := fun ob => look_set1 hg
  refine wpS_go mixed ?_
  by_cases hp : q < c.length
  · have hd : ((q : Int) < (c.length : Int)) := by omega
    have a1 : o.getD q 0 = c.getD q 0 := q5 _ (Nat.le_refl _)
    have hk := keepF_snoc (f := f) (c := c.take q) (x := c.getD q 0)
    rw [← take_snoc (d := 0) hp] at hk
    have hcall := h (c.getD q 0) (getD_mem hp) ⟨1, rows .i64 o⟩
    rw [set_mk] at hcall
    simp only [Int.reduceToNat, Int.reduceLT, Int.reduceLE, Int.reduceBEq, Int.reduceBNe, St0, argFr, ↓thenW, ↓blockW, ↓opX, ↓opV, ↓pX, ↓pW, ↓putK, ↓putP, ↓atK, ↓normK, ↓postZ, ↓reduceIte, reduceIte, Nat.reduceEqDiff, Nat.reduceAdd, Nat.reduceBEq, Nat.reduceLT, Nat.reduceLeDiff, binW, bodyQ, ressW, resW, ne_eq, forall_const, reduceCtorEq, implies_true, sets, oneAll, setD, rels, fillE, fillD, List.replicate, rowsOf, forall_eq, Nat.reduceMul, ↓zD, zT, hd, hlk, rows_len, rows_get .i64 o (show q < o.length by omega), a1]
    (repeat (first | refine And.intro (by omega) ?_ | refine And.intro (ui_nonneg _) ?_ | refine And.intro (Int.natCast_nonneg _) ?_ | refine And.intro rfl ?_ | refine And.intro (rows_one' _ _) ?_ | refine And.intro (us_one _) ?_ | refine And.intro (by intro _ h; cases h; done) ?_))
    refine .go hcall ?_
    cases hx : f (c.getD q 0)
    · rw [hx, if_neg (by simp)] at hk
      have c1 : (keepF f (c.take q)).length < o.length := by omega
      have dl : (keepF f (c.take (q + 1))).length = (keepF f (c.take q)).length + 1 := by rw [hk, List.length_append]; rfl
      have eset : (rows .i64 o).set (keepF f (c.take q)).length (((rows .i64 o).getD (keepF f (c.take q)).length []).set 0 (D.int .i64 (c.getD q 0))) = rows .i64 (o.set (keepF f (c.take q)).length (c.getD q 0)) := by
        rw [rows_get .i64 o c1]
        exact rows_set _ _ _ _
      simp only [Int.reduceToNat, Int.reduceLT, Int.reduceLE, Int.reduceBEq, Int.reduceBNe, St0, argFr, ↓thenW, ↓blockW, ↓opX, ↓opV, ↓pX, ↓pW, ↓putK, ↓putP, ↓atK, ↓normK, ↓postZ, ↓reduceIte, reduceIte, Nat.reduceEqDiff, Nat.reduceAdd, Nat.reduceBEq, Nat.reduceLT, Nat.reduceLeDiff, binW, bodyQ, ressW, resW, ne_eq, forall_const, reduceCtorEq, implies_true, sets, oneAll, setD, rels, fillE, fillD, List.replicate, rowsOf, forall_eq, Nat.reduceMul, ↓zD, zT, hlk, rows_len]
      (repeat (first | refine And.intro (by omega) ?_ | refine And.intro (ui_nonneg _) ?_ | refine And.intro (Int.natCast_nonneg _) ?_ | refine And.intro rfl ?_ | refine And.intro (rows_one' _ _) ?_ | refine And.intro (us_one _) ?_ | refine And.intro (by intro _ h; cases h; done) ?_))
      refine ⟨(q + 1, o.set (keepF f (c.take q)).length (c.getD q 0)), ⟨by show q + 1 ≤ c.length; omega, by show (o.set _ _).length = _; rw [List.length_set]; exact q2, by show (keepF f (c.take (q + 1))).length < q + 1; omega, ?_, fun j hj => ?_⟩, ?_, by show c.length - (q + 1) < c.length - q; omega⟩
      · show (o.set (keepF f (c.take q)).length (c.getD q 0)).take (keepF f (c.take (q + 1))).length = _
        rw [dl, take_snoc (d := 0) (by rw [List.length_set]; exact c1), getD_set, if_pos ⟨rfl, c1⟩, hk, List.take_set_of_le (Nat.le_refl _), q4]
      · change q + 1 ≤ j at hj
        show (o.set (keepF f (c.take q)).length (c.getD q 0)).getD j 0 = _
        rw [getD_set, if_neg (by omega)]
        exact q5 j (by omega)
      · simp only [setL_setL, eset]
        (refine Weak.same ?_; simp only [sameF, Fr.get, ↓reduceIte, reduceIte, Nat.reduceEqDiff, reduceCtorEq, D.int.injEq, D.bool.injEq, D.sl.injEq, and_true, true_and, and_self, dl])
        exact ⟨wrap_i64 (by omega), wrap_i64 (by omega)⟩
    · rw [hx, if_pos rfl, List.append_nil] at hk
      simp only [Int.reduceToNat, Int.reduceLT, Int.reduceLE, Int.reduceBEq, Int.reduceBNe, St0, argFr, ↓thenW, ↓blockW, ↓opX, ↓opV, ↓pX, ↓pW, ↓putK, ↓putP, ↓atK, ↓normK, ↓postZ, ↓reduceIte, reduceIte, Nat.reduceEqDiff, Nat.reduceAdd, Nat.reduceBEq, Nat.reduceLT, Nat.reduceLeDiff, binW, bodyQ, ressW, resW, ne_eq, forall_const, reduceCtorEq, implies_true, sets, oneAll, setD, rels, fillE, fillD, List.replicate, rowsOf, forall_eq, Nat.reduceMul, ↓zD, zT]
      refine ⟨(q + 1, o), ⟨by show q + 1 ≤ c.length; omega, q2, by show (keepF f (c.take (q + 1))).length < q + 1; rw [hk]; omega, by show o.take (keepF f (c.take (q + 1))).length = _; rw [hk]; exact q4, fun j hj => q5 j (by change q + 1 ≤ j at hj; omega)⟩, ?_, by show c.length - (q + 1) < c.length - q; omega⟩
      (refine Weak.same ?_; simp only [sameF, Fr.get, ↓reduceIte, reduceIte, Nat.reduceEqDiff, reduceCtorEq, D.int.injEq, D.bool.injEq, D.sl.injEq, and_true, true_and, and_self, hk])
      exact wrap_i64 (by omega)
  · have hd : ¬ ((q : Int) < (c.length : Int)) := by omega
    have hq : q = c.length := by omega
    subst hq
    rw [List.take_length] at q3 q4 ⊢
    have e2 : (rows .i64 o).take (keepF f c).length = rows .i64 (keepF f c) := by rw [rows_take, q4]
    have e3 : (rows .i64 o).drop ((keepF f c).length + (c.length - (keepF f c).length)) = [] := List.drop_eq_nil_of_le (by rw [rows_len]; omega)
    have e4 : rows .i64 (keepZ f c) = (rows .i64 o).take (keepF f c).length ++ (List.replicate (c.length - (keepF f c).length) [D.int .i64 0] ++ (rows .i64 o).drop ((keepF f c).length + (c.length - (keepF f c).length))) := by
      rw [e2, e3, List.append_nil, rows_replicate, ← rows_app]; rfl
    simp only [Int.reduceToNat, Int.reduceLT, Int.reduceLE, Int.reduceBEq, Int.reduceBNe, St0, argFr, ↓thenW, ↓blockW, ↓opX, ↓opV, ↓pX, ↓pW, ↓putK, ↓putP, ↓atK, ↓normK, ↓postZ, ↓reduceIte, reduceIte, Nat.reduceEqDiff, Nat.reduceAdd, Nat.reduceBEq, Nat.reduceLT, Nat.reduceLeDiff, binW, bodyQ, ressW, resW, ne_eq, forall_const, reduceCtorEq, implies_true, sets, oneAll, setD, rels, fillE, fillD, List.replicate, rowsOf, forall_eq, Nat.reduceMul, ↓zD, zT, hd]
    refine ⟨(keepF f c).length, c.length, rfl, rfl, by omega, by omega, by omega, ?_⟩
    by_cases hz : (keepF f c).length = 0
    · rw [if_pos (show ((keepF f c).length : Int) = 0 by omega)]
      simp only [Int.toNat_natCast, hlk, rows_len, true_and]
      refine ⟨by omega, by omega, ?_⟩
      refine ⟨0, (keepF f c).length, rfl, rfl, by omega, by omega, by omega, ?_⟩
      rw [if_pos rfl]
      refine .inl ⟨by rw [Int.toNat_natCast], ?_⟩
      rw [hz, List.take_zero, List.nil_append, Nat.zero_add, Nat.sub_zero] at e4
      rw [e4]
      simp only [setL_setL]
    · rw [if_neg (show ¬ ((keepF f c).length : Int) = 0 by omega), if_neg (show ¬ ((keepF f c).length : Int) = (c.length : Int) by omega)]
      simp only [Int.toNat_natCast, hlk, rows_len, true_and]
      refine ⟨by omega, by omega, ?_⟩
      refine ⟨0, (keepF f c).length, rfl, rfl, by omega, by omega, by omega, ?_⟩
      rw [if_pos rfl]
      refine .inl ⟨by rw [Int.toNat_natCast], ?_⟩
      rw [e4]
      simp only [setL_setL]
end Go.Pd
