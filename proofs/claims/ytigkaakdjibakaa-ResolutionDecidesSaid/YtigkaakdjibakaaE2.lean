/- Resolution: a clause tested at a valuation; the law Units. -/
import Derived.Test.YtigkaakdjibakaaE1
set_option linter.unusedSectionVars false
set_option linter.unusedVariables false
set_option linter.unusedSimpArgs false
set_option linter.defProp false
set_option maxRecDepth 20000
namespace Go.Pd
open Go Go.Proofs
open Rs
theorem satisfied25 {v : Nat} {c : List Int} (hv : v < 4096) (hl : c.length ≤ 1000) (h : ∀ x ∈ c, litOk 12 x = true) : Runs Try.prog 25 [.sl 1 (rows .i64 c), .int .i64 v] (.bool (satC v c)) := by
  refine CallT.go_fn mixed Try.func25 k25 (by simp) fun hf => ?_
  simp only [Int.reduceToNat, Int.reduceLT, Int.reduceLE, Int.reduceBEq, Int.reduceBNe, St0, argFr, ↓thenW, ↓blockW, ↓opX, ↓opV, ↓pX, ↓pW, ↓putK, ↓putP, ↓atK, ↓normK, ↓postZ, ↓reduceIte, reduceIte, Nat.reduceEqDiff, Nat.reduceAdd, Nat.reduceBEq, Nat.reduceLT, Nat.reduceLeDiff, binW, bodyQ, ressW, resW, ne_eq, forall_const, reduceCtorEq, implies_true, sets, oneAll, setD, rels, fillE, fillD, List.replicate, rowsOf, forall_eq, Nat.reduceMul, ↓zD, zT]
  refine wpS_loop (fun k : Nat => [(9, .int .i64 k), (8, .int .i64 c.length), (7, .sl 1 (rows .i64 c)), (1, .int .i64 v)]) (fun _ => ⟨0, []⟩) (fun k => k ≤ c.length ∧ satC v c = satC v (c.drop k)) (fun k => c.length - k) 0 ⟨Nat.zero_le _, rfl⟩ ?_ ?_
  · (refine Weak.same ?_; simp [sameF, Fr.get])
  intro k ⟨hk, hi⟩
  refine wpS_go mixed ?_
  by_cases hh : k < c.length
  case neg =>
    have hd : ¬ ((k : Int) < (c.length : Int)) := by omega
    rw [List.drop_eq_nil_of_le (by omega)] at hi
    simp only [Int.reduceToNat, Int.reduceLT, Int.reduceLE, Int.reduceBEq, Int.reduceBNe, St0, argFr, ↓thenW, ↓blockW, ↓opX, ↓opV, ↓pX, ↓pW, ↓putK, ↓putP, ↓atK, ↓normK, ↓postZ, ↓reduceIte, reduceIte, Nat.reduceEqDiff, Nat.reduceAdd, Nat.reduceBEq, Nat.reduceLT, Nat.reduceLeDiff, binW, bodyQ, ressW, resW, ne_eq, forall_const, reduceCtorEq, implies_true, sets, oneAll, setD, rels, fillE, fillD, List.replicate, rowsOf, forall_eq, Nat.reduceMul, ↓zD, zT, hd]
    rw [hi]
    exact .same
  have hd : ((k : Int) < (c.length : Int)) := by omega
  have hx := h _ (getD_mem (d := 0) hh)
  have hget := rows_get .i64 c hh
  have hs : satC v (c.drop k) = (mkB v (c.getD k 0) || satC v (c.drop (k + 1))) := by rw [drop_cons (d := 0) hh]; rfl
  rw [hs] at hi
  generalize c.getD k 0 = x at hx hget hi
  have hxl := litOk_iff.1 hx
  have hr := varI_range hx
  obtain ⟨w, hw⟩ := Int.eq_ofNat_of_zero_le hr.1
  have hmk : mkB v x = (v.testBit w == decide (0 < x)) := by rw [mkB, hw, Int.toNat_natCast]
  by_cases hpos : 0 < x
  · have e1 : IntKind.i64.wrap (x - 1) = (w : Int) := by
      unfold varI at hw
      rw [if_neg (by omega)] at hw
      rw [wrap_i64 (by omega)]; exact hw
    have h20 : x ≤ 20 := by omega
    have hneg : ¬ x < 0 := by omega
    rw [decide_eq_true hpos] at hmk
    cases hb : v.testBit w
    · rw [hmk, hb, show (false == true) = false from rfl, Bool.false_or] at hi
      simp only [Int.reduceToNat, Int.reduceLT, Int.reduceLE, Int.reduceBEq, Int.reduceBNe, St0, argFr, ↓thenW, ↓blockW, ↓opX, ↓opV, ↓pX, ↓pW, ↓putK, ↓putP, ↓atK, ↓normK, ↓postZ, ↓reduceIte, reduceIte, Nat.reduceEqDiff, Nat.reduceAdd, Nat.reduceBEq, Nat.reduceLT, Nat.reduceLeDiff, binW, bodyQ, ressW, resW, ne_eq, forall_const, reduceCtorEq, implies_true, sets, oneAll, setD, rels, fillE, fillD, List.replicate, rowsOf, forall_eq, Nat.reduceMul, ↓zD, zT, hd, hget, hpos, h20, e1, convN (show w ≤ 1000000 by omega), shrNat v w (by omega), and1Nat (div_lt62 (show v < 2 ^ 62 by omega) w), bitNat, hb, hneg]
      (repeat (first | refine And.intro (by omega) ?_ | refine And.intro (ui_nonneg _) ?_ | refine And.intro (Int.natCast_nonneg _) ?_ | refine And.intro rfl ?_ | refine And.intro (rows_one' _ _) ?_ | refine And.intro (us_one _) ?_ | refine And.intro (by intro _ h; cases h; done) ?_))
      refine ⟨k + 1, ⟨by omega, hi⟩, ?_, by omega⟩
      (refine Weak.same ?_; simp only [sameF, Fr.get, ↓reduceIte, reduceIte, Nat.reduceEqDiff, reduceCtorEq, D.int.injEq, D.bool.injEq, D.sl.injEq, and_true, true_and, and_self])
      exact wrap_i64 (by omega)
    · rw [hmk, hb, show (true == true) = true from rfl, Bool.true_or] at hi
      simp only [Int.reduceToNat, Int.reduceLT, Int.reduceLE, Int.reduceBEq, Int.reduceBNe, St0, argFr, ↓thenW, ↓blockW, ↓opX, ↓opV, ↓pX, ↓pW, ↓putK, ↓putP, ↓atK, ↓normK, ↓postZ, ↓reduceIte, reduceIte, Nat.reduceEqDiff, Nat.reduceAdd, Nat.reduceBEq, Nat.reduceLT, Nat.reduceLeDiff, binW, bodyQ, ressW, resW, ne_eq, forall_const, reduceCtorEq, implies_true, sets, oneAll, setD, rels, fillE, fillD, List.replicate, rowsOf, forall_eq, Nat.reduceMul, ↓zD, zT, hd, hget, hpos, h20, e1, convN (show w ≤ 1000000 by omega), shrNat v w (by omega), and1Nat (div_lt62 (show v < 2 ^ 62 by omega) w), bitNat, hb]
      (repeat (first | refine And.intro (by omega) ?_ | refine And.intro (ui_nonneg _) ?_ | refine And.intro (Int.natCast_nonneg _) ?_ | refine And.intro rfl ?_ | refine And.intro (rows_one' _ _) ?_ | refine And.intro (us_one _) ?_ | refine And.intro (by intro _ h; cases h; done) ?_))
      rw [hi]
      exact .same
  · have hneg : x < 0 := by omega
    have e0 : IntKind.i64.wrap (0 - x) = -x := negw (by omega)
    have e1 : IntKind.i64.wrap (-x - 1) = (w : Int) := by
      unfold varI at hw
      rw [if_pos (by omega)] at hw
      rw [wrap_i64 (by omega)]; exact hw
    have h20 : -20 ≤ x := by omega
    rw [decide_eq_false hpos] at hmk
    cases hb : v.testBit w
    · rw [hmk, hb, show (false == false) = true from rfl, Bool.true_or] at hi
      simp only [Int.reduceToNat, Int.reduceLT, Int.reduceLE, Int.reduceBEq, Int.reduceBNe, St0, argFr, ↓thenW, ↓blockW, ↓opX, ↓opV, ↓pX, ↓pW, ↓putK, ↓putP, ↓atK, ↓normK, ↓postZ, ↓reduceIte, reduceIte, Nat.reduceEqDiff, Nat.reduceAdd, Nat.reduceBEq, Nat.reduceLT, Nat.reduceLeDiff, binW, bodyQ, ressW, resW, ne_eq, forall_const, reduceCtorEq, implies_true, sets, oneAll, setD, rels, fillE, fillD, List.replicate, rowsOf, forall_eq, Nat.reduceMul, ↓zD, zT, hd, hget, hpos, h20, e0, e1, convN (show w ≤ 1000000 by omega), shrNat v w (by omega), and1Nat (div_lt62 (show v < 2 ^ 62 by omega) w), bitNat0, hb, hneg]
      (repeat (first | refine And.intro (by omega) ?_ | refine And.intro (ui_nonneg _) ?_ | refine And.intro (Int.natCast_nonneg _) ?_ | refine And.intro rfl ?_ | refine And.intro (rows_one' _ _) ?_ | refine And.intro (us_one _) ?_ | refine And.intro (by intro _ h; cases h; done) ?_))
      rw [hi]
      exact .same
    · rw [hmk, hb, show (true == false) = false from rfl, Bool.false_or] at hi
      simp only [Int.reduceToNat, Int.reduceLT, Int.reduceLE, Int.reduceBEq, Int.reduceBNe, St0, argFr, ↓thenW, ↓blockW, ↓opX, ↓opV, ↓pX, ↓pW, ↓putK, ↓putP, ↓atK, ↓normK, ↓postZ, ↓reduceIte, reduceIte, Nat.reduceEqDiff, Nat.reduceAdd, Nat.reduceBEq, Nat.reduceLT, Nat.reduceLeDiff, binW, bodyQ, ressW, resW, ne_eq, forall_const, reduceCtorEq, implies_true, sets, oneAll, setD, rels, fillE, fillD, List.replicate, rowsOf, forall_eq, Nat.reduceMul, ↓zD, zT, hd, hget, hpos, h20, e0, e1, convN (show w ≤ 1000000 by omega), shrNat v w (by omega), and1Nat (div_lt62 (show v < 2 ^ 62 by omega) w), bitNat0, hb, hneg]
      (repeat (first | refine And.intro (by omega) ?_ | refine And.intro (ui_nonneg _) ?_ | refine And.intro (Int.natCast_nonneg _) ?_ | refine And.intro rfl ?_ | refine And.intro (rows_one' _ _) ?_ | refine And.intro (us_one _) ?_ | refine And.intro (by intro _ h; cases h; done) ?_))
      refine ⟨k + 1, ⟨by omega, hi⟩, ?_, by omega⟩
      (refine Weak.same ?_; simp only [sameF, Fr.get, ↓reduceIte, reduceIte, Nat.reduceEqDiff, reduceCtorEq, D.int.injEq, D.bool.injEq, D.sl.injEq, and_true, true_and, and_self])
      exact wrap_i64 (by omega)
namespace Rs
theorem mkB_neg {v : Nat} {x : Int} (hx : x ≠ 0) : mkB v (-x) = !mkB v x := by
  unfold mkB
  rw [varI_neg hx]
  by_cases h : 0 < x
  · rw [decide_eq_true h, decide_eq_false (by omega)]; cases v.testBit (varI x).toNat <;> rfl
  · rw [decide_eq_false h, decide_eq_true (by omega)]; cases v.testBit (varI x).toNat <;> rfl
/-- All literals of a list are true. -/
def trueAll (v : Nat) (K : List Int) : Bool := K.all (mkB v)
/-- A clause that holds where the known literals hold, holds by a literal that is free. -/
theorem sat_free {v : Nat} {K c : List Int} (hc : satC v c = true) (hK : trueAll v K = true) (hz : ∀ x ∈ c, x ≠ 0) : ∃ x ∈ freeL K c, mkB v x = true := by
  simp only [satC, List.any_eq_true] at hc
  obtain ⟨x, hx, hm⟩ := hc
  refine ⟨x, freeL_mem.2 ⟨hx, fun hn => ?_⟩, hm⟩
  have := List.all_eq_true.1 hK _ hn
  rw [mkB_neg (hz x hx), hm] at this
  cases this
theorem step_true {v : Nat} {l : List (List Int)} {K : List Int} {u : Int} (ho : litsOk l) (hs : satL v l = true) (hK : trueAll v K = true) (h : stepK l K = some u) : trueAll v (K ++ [u]) = true := by
  unfold stepK at h
  split at h
  · rename_i hc
    simp at h; subst h
    obtain ⟨c, hcl, hf, _, _, _⟩ := unitR_lit ho hc.2
    obtain ⟨x, hx, hm⟩ := sat_free (List.all_eq_true.1 hs c hcl) hK fun x hx => (litOk_iff.1 ((ho c hcl).2 x hx)).1
    rw [hf, List.mem_singleton] at hx
    subst hx
    unfold trueAll at hK ⊢
    rw [List.all_append, hK]
    simp [hm]
  · cases h
theorem limK_true {v : Nat} {l : List (List Int)} (ho : litsOk l) (hs : satL v l = true) : ∀ (m : Nat) {K : List Int}, trueAll v K = true → trueAll v (limK l m K) = true
  | 0, K, h => h
  | m + 1, K, h => by
    unfold limK
    cases hst : stepK l K with
    | none => exact h
    | some u => exact limK_true ho hs m (step_true ho hs h hst)
theorem conf_false {v : Nat} {K : List Int} (hg : good K) (hK : trueAll v K = true) : ∀ {l : List (List Int)} {i : Int}, litsOk l → satL v l = true → confR K l i = -1
  | [], _, _, _ => rfl
  | c :: l, i, ho, hs => by
    simp only [satL, List.all_cons, Bool.and_eq_true] at hs
    unfold confR
    obtain ⟨x, hx, _⟩ := sat_free hs.1 hK fun x hx => (litOk_iff.1 ((ho c (by simp)).2 x hx)).1
    rw [if_neg]
    · exact conf_false hg hK (fun c hc => ho c (by simp [hc])) hs.2
    · rw [conf_free hg]
      simp only [decide_eq_true_eq]
      intro e; rw [e] at hx; cases hx
/-- Known literals of n variables are few. -/
theorem good_count {n : Nat} {K : List Int} (h : ∀ x ∈ K, litOk n x = true) (hp : K.Pairwise fun a b => varI a ≠ varI b) : K.length ≤ n := by
  have := nodup_le n (K.map fun x => (varI x).toNat) ?_ ?_
  · simpa using this
  · refine List.pairwise_map.2 (hp.imp_of_mem fun {a b} ha hb hne e => ?_)
    have h1 := varI_range (h a ha)
    have h2 := varI_range (h b hb)
    omega
  · intro x hx
    simp only [List.mem_map] at hx
    obtain ⟨y, hy, rfl⟩ := hx
    have := varI_range (h y hy)
    omega
theorem step_lit {n : Int} {l : List (List Int)} {K : List Int} {u : Int} (ho : litsOk l) (hl : ∀ c ∈ l, ∀ x ∈ c, litOk n x = true) (h : stepK l K = some u) : litOk n u = true := by
  unfold stepK at h
  split at h
  · rename_i hc
    simp at h; subst h
    obtain ⟨c, hcl, hf, _, _, _⟩ := unitR_lit ho hc.2
    have := freeL_mem.1 (show unitR K l ∈ freeL K c by rw [hf]; simp)
    exact hl c hcl _ this.1
  · cases h
theorem limK_lit {n : Int} {l : List (List Int)} (ho : litsOk l) (hl : ∀ c ∈ l, ∀ x ∈ c, litOk n x = true) : ∀ (m : Nat) {K : List Int}, (∀ x ∈ K, litOk n x = true) → ∀ x ∈ limK l m K, litOk n x = true
  | 0, K, h => h
  | m + 1, K, h => by
    unfold limK
    cases hst : stepK l K with
    | none => exact h
    | some u =>
      refine limK_lit ho hl m fun x hx => ?_
      rcases List.mem_append.1 hx with e | e
      · exact h x e
      · rw [List.mem_singleton.1 e]; exact step_lit ho hl hst
theorem canonAt_var {c : List Int} {k : Nat} {x : Int} (h : x ∈ canonAt c k) : varI x = k := by
  unfold canonAt at h
  rcases List.mem_append.1 h with h | h
  · split at h
    · rw [List.mem_singleton] at h; subst h; unfold varI; rw [if_pos (by omega)]; omega
    · cases h
  · split at h
    · rw [List.mem_singleton] at h; subst h; unfold varI; rw [if_neg (by omega)]; omega
    · cases h
/-- In order, by variables, if nothing is there twice. -/
theorem canon_rise {c : List Int} : ∀ {k : Nat}, bothTo c k = false → (canonTo c k).Pairwise fun a b => varI a < varI b
  | 0, _ => .nil
  | k + 1, h => by
    rw [bothTo_succ, Bool.or_eq_false_iff] at h
    unfold canonTo
    rw [List.pairwise_append]
    refine ⟨canon_rise h.1, ?_, fun a ha b hb => ?_⟩
    · unfold canonAt
      have h2 := h.2
      simp only [bothB, Bool.and_eq_false_iff, decide_eq_false_iff_not] at h2
      rcases h2 with h2 | h2
      · rw [if_neg h2, List.append_nil]; split <;> simp
      · rw [if_neg h2, List.nil_append]; split <;> simp
    · have h1 := (canonTo_mem.1 ha).2.2
      rw [canonAt_var hb]; exact h1
theorem canon_in {c : List Int} {x : Int} (h : x ∈ canon c) : x ∈ c := (canonTo_mem.1 h).1
theorem mem_canon {c : List Int} {x : Int} (h : litOk 12 x = true) (hx : x ∈ c) : x ∈ canon c := canonTo_mem.2 ⟨hx, (litOk_iff.1 h).1, (varI_range h).2⟩
end Rs
end Go.Pd
