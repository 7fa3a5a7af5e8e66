/- Runs: the law Past. -/
import Derived.Test.YthohheekakbpbaaSP
import Derived.Test.YthohheekakbpbaaST
set_option linter.unusedSectionVars false
set_option linter.unusedVariables false
set_option linter.unusedSimpArgs false
set_option linter.defProp false
set_option maxRecDepth 20000
namespace Go.Pd
open Go Go.Proofs
open Ru
namespace Ru
theorem hT_all {f : Nat → Int} : ∀ {k : Nat}, (∀ u, 0 < u → u < k → f u ≠ f (u - 1)) → hT f k = (List.range k).map f
  | 0, _ => rfl
  | k + 1, h => by
    rw [hT, if_neg (fun e => h k e.1 (by omega) e.2), hT_all fun u h1 h2 => h u h1 (by omega), List.range_succ, List.map_append]
    rfl
theorem past_loc {rs : List RunA} {A F T : Nat} (ok : OkR rs A F T) (hs : syncB ⟨A, F, T, rs⟩ = true) (hr : recB rs A (ptN T (rs.length * T)) = true) {a t i w : Nat} (ha : a < A) (h1 : 1 ≤ t) (h2 : t < T) (hi : i < rs.length) (hw : w < rs.length)
    (e : locA rs a (i, t) = locA rs a (w, t)) : locA rs a (i, t - 1) = locA rs a (w, t - 1) := by
  have hh := recB_use hr ha (p := (i, t)) (q := (w, t)) ⟨hi, h2⟩ ⟨hw, h2⟩ e
  have hn : ∀ r, r < rs.length → ∀ u, 0 < u → u < t + 1 → locA rs a (r, u) ≠ locA rs a (r, u - 1) := fun r hr2 u hu0 hu => syncB_use ok hs ha (p := (r, u)) (q := (r, u - 1)) ⟨hr2, by simp only; omega⟩ ⟨hr2, by simp only; omega⟩ (by simp only; omega)
  rw [his_hT, his_hT, hT_all (hn i hi), hT_all (hn w hw)] at hh
  have := congrArg (fun l => l.getD (t - 1) 0) hh
  simpa [List.getD, show t - 1 < t + 1 by omega] using this
theorem past_word {rs rs0 : List RunA} {A F T : Nat} (ok : OkR rs A F T) (hl : rs.length = rs0.length) (hs : syncB ⟨A, F, T, rs⟩ = true) (hr : recB rs A (ptN T (rs.length * T)) = true) {a t w : Nat} (ha : a < A) (h1 : 1 ≤ t) (h2 : t < T) (hw : w < rs0.length) :
    ((relR rs (timeL rs0.length t) a).getD w 0 &&& ~~~(relR rs (timeL rs0.length (t - 1)) a).getD w 0 != 0#64) = false := by
  have hR := ok.hR
  have hg : ∀ t, (relR rs (timeL rs0.length t) a).getD w 0 = relK rs (timeL rs0.length t) a (locA rs a (w, t)) (timeL rs0.length t).length := fun t => by
    simp [relR, List.getD, timeL, hw]
  have htl : ∀ t i, i < rs0.length → (timeL rs0.length t).getD i (0, 0) = (i, t) := fun t i hi => by simp [timeL, List.getD, hi]
  rw [hg, hg, timeL_len, timeL_len, bne_eq_false_iff_eq]
  refine BitVec.eq_of_getLsbD_eq fun i hi => ?_
  rw [BitVec.getLsbD_and, BitVec.getLsbD_not, relK_bit _ _ (by omega), relK_bit _ _ (by omega), BitVec.getLsbD_zero]
  by_cases hil : i < rs0.length
  · rw [htl t i hil, htl (t - 1) i hil]
    by_cases e : locA rs a (i, t) = locA rs a (w, t)
    · have e2 := past_loc ok hs hr ha h1 h2 (show i < rs.length by omega) (show w < rs.length by omega) e
      rw [decide_eq_true hil, decide_eq_true e2, decide_eq_true hi]
      simp
    · rw [decide_eq_false e]; simp
  · rw [decide_eq_false hil]; simp
theorem slice_okR {rs : List RunA} {A F T t : Nat} (ok : OkR rs A F T) (ht : t < T) : sliceM ⟨A, F, T, rs⟩ t = (modM rs (timeL rs.length t) A F, 0) := by
  have hz := okR_chk ok
  unfold sliceM
  rw [if_neg (by simpa using hz), if_neg (by simp only; omega)]
  simp only [Int.toNat_natCast]
end Ru
theorem runsPast_runs (s : SysA) : Runs Try.prog 7 [s.d] (.bool true) := by
  have hD : s.d = .agg [.int .i64 s.ag, .int .i64 s.fa, .int .i64 s.ln, .sl 2 (runR s.rs)] := rfl
  have hF := Few9 s
  have hC := refCheck23 s
  by_cases hfew : fewA s = true
  case neg =>
    rw [Bool.not_eq_true] at hfew
    rw [hfew] at hF
    rw [hD] at hF ⊢
    refine CallT.go_fn mixed Try.func7 k7 (by simp) fun hf => ?_
    simp only [Int.reduceToNat, Int.reduceLT, Int.reduceLE, Int.reduceBEq, Int.reduceBNe, St0, argFr, ↓callZ, ↓midZ, ↓unZ, ↓thenW, ↓blockW, ↓opX, ↓opV, ↓pX, ↓pW, ↓putK, ↓putP, ↓atK, ↓normK, ↓postZ, ↓reduceIte, reduceIte, Nat.reduceEqDiff, Nat.reduceAdd, Nat.reduceBEq, Nat.reduceLT, Nat.reduceLeDiff, binW, bodyQ, ressW, resW, ne_eq, forall_const, reduceCtorEq, implies_true, sets, oneAll, setD, rels, fillE, fillD, List.replicate, rowsOf, forall_eq, Nat.reduceMul, ↓zD, zT]
    (repeat refine And.intro (by first | omega | exact ui_nonneg _ | exact Int.natCast_nonneg _ | rfl | exact rows_one' _ _ | exact us_one _ | (intro _ h; cases h; done)) ?_)
    refine .go awakeT ?_
    simp only [Int.reduceToNat, Int.reduceLT, Int.reduceLE, Int.reduceBEq, Int.reduceBNe, St0, argFr, ↓callZ, ↓midZ, ↓unZ, ↓thenW, ↓blockW, ↓opX, ↓opV, ↓pX, ↓pW, ↓putK, ↓putP, ↓atK, ↓normK, ↓postZ, ↓reduceIte, reduceIte, Nat.reduceEqDiff, Nat.reduceAdd, Nat.reduceBEq, Nat.reduceLT, Nat.reduceLeDiff, binW, bodyQ, ressW, resW, ne_eq, forall_const, reduceCtorEq, implies_true, sets, oneAll, setD, rels, fillE, fillD, List.replicate, rowsOf, forall_eq, Nat.reduceMul, ↓zD, zT]
    refine .go (CallT.of_runs hF rfl) ?_
    simp only [Int.reduceToNat, Int.reduceLT, Int.reduceLE, Int.reduceBEq, Int.reduceBNe, St0, argFr, ↓callZ, ↓midZ, ↓unZ, ↓thenW, ↓blockW, ↓opX, ↓opV, ↓pX, ↓pW, ↓putK, ↓putP, ↓atK, ↓normK, ↓postZ, ↓reduceIte, reduceIte, Nat.reduceEqDiff, Nat.reduceAdd, Nat.reduceBEq, Nat.reduceLT, Nat.reduceLeDiff, binW, bodyQ, ressW, resW, ne_eq, forall_const, reduceCtorEq, implies_true, sets, oneAll, setD, rels, fillE, fillD, List.replicate, rowsOf, forall_eq, Nat.reduceMul, ↓zD, zT]
    refine .go awakeT ?_
    simp only [Int.reduceToNat, Int.reduceLT, Int.reduceLE, Int.reduceBEq, Int.reduceBNe, St0, argFr, ↓callZ, ↓midZ, ↓unZ, ↓thenW, ↓blockW, ↓opX, ↓opV, ↓pX, ↓pW, ↓putK, ↓putP, ↓atK, ↓normK, ↓postZ, ↓reduceIte, reduceIte, Nat.reduceEqDiff, Nat.reduceAdd, Nat.reduceBEq, Nat.reduceLT, Nat.reduceLeDiff, binW, bodyQ, ressW, resW, ne_eq, forall_const, reduceCtorEq, implies_true, sets, oneAll, setD, rels, fillE, fillD, List.replicate, rowsOf, forall_eq, Nat.reduceMul, ↓zD, zT]
    exact .drop (by simp) (by simp [vw])
  rw [hfew] at hF
  by_cases hz : chk s = 0
  case neg =>
    have e : (chk s != 0) = true := by simpa using hz
    rw [hD] at hF hC ⊢
    refine CallT.go_fn mixed Try.func7 k7 (by simp) fun hf => ?_
    simp only [Int.reduceToNat, Int.reduceLT, Int.reduceLE, Int.reduceBEq, Int.reduceBNe, St0, argFr, ↓callZ, ↓midZ, ↓unZ, ↓thenW, ↓blockW, ↓opX, ↓opV, ↓pX, ↓pW, ↓putK, ↓putP, ↓atK, ↓normK, ↓postZ, ↓reduceIte, reduceIte, Nat.reduceEqDiff, Nat.reduceAdd, Nat.reduceBEq, Nat.reduceLT, Nat.reduceLeDiff, binW, bodyQ, ressW, resW, ne_eq, forall_const, reduceCtorEq, implies_true, sets, oneAll, setD, rels, fillE, fillD, List.replicate, rowsOf, forall_eq, Nat.reduceMul, ↓zD, zT]
    (repeat refine And.intro (by first | omega | exact ui_nonneg _ | exact Int.natCast_nonneg _ | rfl | exact rows_one' _ _ | exact us_one _ | (intro _ h; cases h; done)) ?_)
    refine .go awakeT ?_
    simp only [Int.reduceToNat, Int.reduceLT, Int.reduceLE, Int.reduceBEq, Int.reduceBNe, St0, argFr, ↓callZ, ↓midZ, ↓unZ, ↓thenW, ↓blockW, ↓opX, ↓opV, ↓pX, ↓pW, ↓putK, ↓putP, ↓atK, ↓normK, ↓postZ, ↓reduceIte, reduceIte, Nat.reduceEqDiff, Nat.reduceAdd, Nat.reduceBEq, Nat.reduceLT, Nat.reduceLeDiff, binW, bodyQ, ressW, resW, ne_eq, forall_const, reduceCtorEq, implies_true, sets, oneAll, setD, rels, fillE, fillD, List.replicate, rowsOf, forall_eq, Nat.reduceMul, ↓zD, zT]
    refine .go (CallT.of_runs hF rfl) ?_
    simp only [Int.reduceToNat, Int.reduceLT, Int.reduceLE, Int.reduceBEq, Int.reduceBNe, St0, argFr, ↓callZ, ↓midZ, ↓unZ, ↓thenW, ↓blockW, ↓opX, ↓opV, ↓pX, ↓pW, ↓putK, ↓putP, ↓atK, ↓normK, ↓postZ, ↓reduceIte, reduceIte, Nat.reduceEqDiff, Nat.reduceAdd, Nat.reduceBEq, Nat.reduceLT, Nat.reduceLeDiff, binW, bodyQ, ressW, resW, ne_eq, forall_const, reduceCtorEq, implies_true, sets, oneAll, setD, rels, fillE, fillD, List.replicate, rowsOf, forall_eq, Nat.reduceMul, ↓zD, zT]
    refine .go (CallT.of_runs hC rfl) ?_
    simp only [Int.reduceToNat, Int.reduceLT, Int.reduceLE, Int.reduceBEq, Int.reduceBNe, St0, argFr, ↓callZ, ↓midZ, ↓unZ, ↓thenW, ↓blockW, ↓opX, ↓opV, ↓pX, ↓pW, ↓putK, ↓putP, ↓atK, ↓normK, ↓postZ, ↓reduceIte, reduceIte, Nat.reduceEqDiff, Nat.reduceAdd, Nat.reduceBEq, Nat.reduceLT, Nat.reduceLeDiff, binW, bodyQ, ressW, resW, ne_eq, forall_const, reduceCtorEq, implies_true, sets, oneAll, setD, rels, fillE, fillD, List.replicate, rowsOf, forall_eq, Nat.reduceMul, ↓zD, zT, e]
    refine .go awakeT ?_
    simp only [Int.reduceToNat, Int.reduceLT, Int.reduceLE, Int.reduceBEq, Int.reduceBNe, St0, argFr, ↓callZ, ↓midZ, ↓unZ, ↓thenW, ↓blockW, ↓opX, ↓opV, ↓pX, ↓pW, ↓putK, ↓putP, ↓atK, ↓normK, ↓postZ, ↓reduceIte, reduceIte, Nat.reduceEqDiff, Nat.reduceAdd, Nat.reduceBEq, Nat.reduceLT, Nat.reduceLeDiff, binW, bodyQ, ressW, resW, ne_eq, forall_const, reduceCtorEq, implies_true, sets, oneAll, setD, rels, fillE, fillD, List.replicate, rowsOf, forall_eq, Nat.reduceMul, ↓zD, zT]
    exact .drop (by simp) (by simp [vw])
  rw [hz] at hC
  obtain ⟨A, F, T, rs, rfl, ok⟩ := chk_sys hz
  have hA := ok.hA
  have hR := ok.hR
  have hc := clock16 ok
  have okc := renN_ok (kf := clockK rs) ok
  have lc := renN_len rs A T (clockK rs)
  have hcs : syncB ⟨A, F, T, renN rs A T (clockK rs)⟩ = true := syncB_true okc fun a p q ha hp hq e => clock_sync ha (by rw [lc] at hp; exact hp) (by rw [lc] at hq; exact hq) e
  generalize renN rs A T (clockK rs) = c at hc okc lc hcs
  have hb := remember18 okc
  have okb := renN_ok (kf := hisA c) okc
  have lb := renN_len c A T (hisA c)
  have hbs : syncB ⟨A, F, T, renN c A T (hisA c)⟩ = true := syncB_true okb fun a p q ha hp hq e h => syncB_use okc hcs ha (by rw [lb] at hp; exact hp) (by rw [lb] at hq; exact hq) e (rem_finer ha (by rw [lb] at hp; exact hp) (by rw [lb] at hq; exact hq) h)
  have hbr : recB (renN c A T (hisA c)) A (ptN T ((renN c A T (hisA c)).length * T)) = true := recB_true ok.hT.1 fun a p q ha hp hq e => rem_recalls ha (by rw [lb] at hp; exact hp) (by rw [lb] at hq; exact hq) e
  generalize renN c A T (hisA c) = b at hb okb lb hbs hbr
  have q0 := refCheck23 ⟨A, F, T, b⟩
  rw [okR_chk okb] at q0
  have q1 := sync25 ⟨A, F, T, rs⟩
  have q2 := recalls26 ok
  have hDD : ∀ rs : List RunA, SysA.d ⟨A, F, T, rs⟩ = .agg [.int .i64 (A : Int), .int .i64 (F : Int), .int .i64 (T : Int), .sl 2 (runR rs)] := fun _ => rfl
  rw [hDD] at q0 q1 hF hC ⊢
  clear hD hDD
  unfold sD at hc hb q2
  have b1 : ∀ n : Nat, ((n : Int) != (n : Int)) = false := fun n => by simp
  have lbr : b.length = rs.length := by omega
  by_cases hs : syncB ⟨A, F, T, rs⟩ = true
  case pos =>
    by_cases hr : recB rs A (ptN T (rs.length * T)) = true
    case pos =>
      rw [hs] at q1
      rw [hr] at q2
      refine CallT.go_fn mixed Try.func7 k7 (by simp) fun hf => ?_
      simp only [Int.reduceToNat, Int.reduceLT, Int.reduceLE, Int.reduceBEq, Int.reduceBNe, St0, argFr, ↓callZ, ↓midZ, ↓unZ, ↓thenW, ↓blockW, ↓opX, ↓opV, ↓pX, ↓pW, ↓putK, ↓putP, ↓atK, ↓normK, ↓postZ, ↓reduceIte, reduceIte, Nat.reduceEqDiff, Nat.reduceAdd, Nat.reduceBEq, Nat.reduceLT, Nat.reduceLeDiff, binW, bodyQ, ressW, resW, ne_eq, forall_const, reduceCtorEq, implies_true, sets, oneAll, setD, rels, fillE, fillD, List.replicate, rowsOf, forall_eq, Nat.reduceMul, ↓zD, zT]
      (repeat refine And.intro (by first | omega | exact ui_nonneg _ | exact Int.natCast_nonneg _ | rfl | exact rows_one' _ _ | exact us_one _ | (intro _ h; cases h; done)) ?_)
      refine .go awakeT ?_
      simp only [Int.reduceToNat, Int.reduceLT, Int.reduceLE, Int.reduceBEq, Int.reduceBNe, St0, argFr, ↓callZ, ↓midZ, ↓unZ, ↓thenW, ↓blockW, ↓opX, ↓opV, ↓pX, ↓pW, ↓putK, ↓putP, ↓atK, ↓normK, ↓postZ, ↓reduceIte, reduceIte, Nat.reduceEqDiff, Nat.reduceAdd, Nat.reduceBEq, Nat.reduceLT, Nat.reduceLeDiff, binW, bodyQ, ressW, resW, ne_eq, forall_const, reduceCtorEq, implies_true, sets, oneAll, setD, rels, fillE, fillD, List.replicate, rowsOf, forall_eq, Nat.reduceMul, ↓zD, zT]
      refine .go (CallT.of_runs hF rfl) ?_
      simp only [Int.reduceToNat, Int.reduceLT, Int.reduceLE, Int.reduceBEq, Int.reduceBNe, St0, argFr, ↓callZ, ↓midZ, ↓unZ, ↓thenW, ↓blockW, ↓opX, ↓opV, ↓pX, ↓pW, ↓putK, ↓putP, ↓atK, ↓normK, ↓postZ, ↓reduceIte, reduceIte, Nat.reduceEqDiff, Nat.reduceAdd, Nat.reduceBEq, Nat.reduceLT, Nat.reduceLeDiff, binW, bodyQ, ressW, resW, ne_eq, forall_const, reduceCtorEq, implies_true, sets, oneAll, setD, rels, fillE, fillD, List.replicate, rowsOf, forall_eq, Nat.reduceMul, ↓zD, zT]
      refine .go (CallT.of_runs hC rfl) ?_
      simp only [Int.reduceToNat, Int.reduceLT, Int.reduceLE, Int.reduceBEq, Int.reduceBNe, St0, argFr, ↓callZ, ↓midZ, ↓unZ, ↓thenW, ↓blockW, ↓opX, ↓opV, ↓pX, ↓pW, ↓putK, ↓putP, ↓atK, ↓normK, ↓postZ, ↓reduceIte, reduceIte, Nat.reduceEqDiff, Nat.reduceAdd, Nat.reduceBEq, Nat.reduceLT, Nat.reduceLeDiff, binW, bodyQ, ressW, resW, ne_eq, forall_const, reduceCtorEq, implies_true, sets, oneAll, setD, rels, fillE, fillD, List.replicate, rowsOf, forall_eq, Nat.reduceMul, ↓zD, zT]
      refine .go (CallT.of_runs hc rfl) ?_
      simp only [Int.reduceToNat, Int.reduceLT, Int.reduceLE, Int.reduceBEq, Int.reduceBNe, St0, argFr, ↓callZ, ↓midZ, ↓unZ, ↓thenW, ↓blockW, ↓opX, ↓opV, ↓pX, ↓pW, ↓putK, ↓putP, ↓atK, ↓normK, ↓postZ, ↓reduceIte, reduceIte, Nat.reduceEqDiff, Nat.reduceAdd, Nat.reduceBEq, Nat.reduceLT, Nat.reduceLeDiff, binW, bodyQ, ressW, resW, ne_eq, forall_const, reduceCtorEq, implies_true, sets, oneAll, setD, rels, fillE, fillD, List.replicate, rowsOf, forall_eq, Nat.reduceMul, ↓zD, zT]
      refine .go (CallT.of_runs hb rfl) ?_
      simp only [Int.reduceToNat, Int.reduceLT, Int.reduceLE, Int.reduceBEq, Int.reduceBNe, St0, argFr, ↓callZ, ↓midZ, ↓unZ, ↓thenW, ↓blockW, ↓opX, ↓opV, ↓pX, ↓pW, ↓putK, ↓putP, ↓atK, ↓normK, ↓postZ, ↓reduceIte, reduceIte, Nat.reduceEqDiff, Nat.reduceAdd, Nat.reduceBEq, Nat.reduceLT, Nat.reduceLeDiff, binW, bodyQ, ressW, resW, ne_eq, forall_const, reduceCtorEq, implies_true, sets, oneAll, setD, rels, fillE, fillD, List.replicate, rowsOf, forall_eq, Nat.reduceMul, ↓zD, zT]
      refine .go (CallT.of_runs q0 rfl) ?_
      simp only [Int.reduceToNat, Int.reduceLT, Int.reduceLE, Int.reduceBEq, Int.reduceBNe, St0, argFr, ↓callZ, ↓midZ, ↓unZ, ↓thenW, ↓blockW, ↓opX, ↓opV, ↓pX, ↓pW, ↓putK, ↓putP, ↓atK, ↓normK, ↓postZ, ↓reduceIte, reduceIte, Nat.reduceEqDiff, Nat.reduceAdd, Nat.reduceBEq, Nat.reduceLT, Nat.reduceLeDiff, binW, bodyQ, ressW, resW, ne_eq, forall_const, reduceCtorEq, implies_true, sets, oneAll, setD, rels, fillE, fillD, List.replicate, rowsOf, forall_eq, Nat.reduceMul, ↓zD, zT, b1, runR_len, lbr]
      refine .go (CallT.of_runs q1 rfl) ?_
      simp only [Int.reduceToNat, Int.reduceLT, Int.reduceLE, Int.reduceBEq, Int.reduceBNe, St0, argFr, ↓callZ, ↓midZ, ↓unZ, ↓thenW, ↓blockW, ↓opX, ↓opV, ↓pX, ↓pW, ↓putK, ↓putP, ↓atK, ↓normK, ↓postZ, ↓reduceIte, reduceIte, Nat.reduceEqDiff, Nat.reduceAdd, Nat.reduceBEq, Nat.reduceLT, Nat.reduceLeDiff, binW, bodyQ, ressW, resW, ne_eq, forall_const, reduceCtorEq, implies_true, sets, oneAll, setD, rels, fillE, fillD, List.replicate, rowsOf, forall_eq, Nat.reduceMul, ↓zD, zT]
      refine .go (CallT.of_runs q2 rfl) ?_
      simp only [Int.reduceToNat, Int.reduceLT, Int.reduceLE, Int.reduceBEq, Int.reduceBNe, St0, argFr, ↓callZ, ↓midZ, ↓unZ, ↓thenW, ↓blockW, ↓opX, ↓opV, ↓pX, ↓pW, ↓putK, ↓putP, ↓atK, ↓normK, ↓postZ, ↓reduceIte, reduceIte, Nat.reduceEqDiff, Nat.reduceAdd, Nat.reduceBEq, Nat.reduceLT, Nat.reduceLeDiff, binW, bodyQ, ressW, resW, ne_eq, forall_const, reduceCtorEq, implies_true, sets, oneAll, setD, rels, fillE, fillD, List.replicate, rowsOf, forall_eq, Nat.reduceMul, ↓zD, zT]
      have okR := ok
      obtain ⟨T1, T16⟩ := okR.hT
      have hRl : rs.length = rs.length := rfl
      have hsl : ∀ t : Nat, t < T → Runs Try.prog 12 [.agg [.int .i64 (A : Int), .int .i64 (F : Int), .int .i64 (T : Int), .sl 2 (runR rs)], .int .i64 (t : Int)] (.tup [.agg [.int .i64 (rs.length : Int), .sl 1 (us (valL rs (timeL rs.length t) F)), .sl 1 (rr (relL rs (timeL rs.length t) A))], .int .i64 0]) := fun t ht => by
        have h := Slice12 ⟨A, F, T, rs⟩ t
        rw [slice_okR okR ht, hRl] at h
        unfold modM ModA.d at h
        simp only [timeL_len] at h
        exact h
      have hpast := fun (a : Nat) (ha : a < A) (t : Nat) (h1 : 1 ≤ t) (h2 : t < T) (w : Nat) (hw : w < rs.length) => past_word (a := a) okR hRl hs hr ha h1 h2 hw
      refine wpS_loop (fun t : Nat => [(7, .int .i64 t), (5, .ref 2 4 0 0)]) (fun _ => ⟨3, [(2, ⟨4, [[.int .i64 A, .int .i64 F, .int .i64 T, .sl 2 (runR rs)]]⟩)]⟩)
        (fun t => 1 ≤ t ∧ t ≤ T) (fun t => T - t) 1 ⟨Nat.le_refl _, T1⟩ ?_ ?_
      · (refine Weak.ren [] [2] (by simp) (by simp) (by decide) ?_; simp only [stay1, vwL, vw, vwF, sw, St.get, St.look, Fr.get, ↓reduceIte, reduceIte, Nat.reduceEqDiff, Nat.reduceAdd, Nat.reduceBEq, Nat.reduceLT, Nat.reduceLeDiff, exists_eq_left', ne_eq, reduceCtorEq, zR])
        rfl
      intro t ⟨ht0, ht⟩
      refine wpS_go mixed ?_
      by_cases htl : t < T
      case neg =>
        have hd : ¬ ((t : Int) < (T : Int)) := by omega
        simp only [Int.reduceToNat, Int.reduceLT, Int.reduceLE, Int.reduceBEq, Int.reduceBNe, St0, argFr, ↓callZ, ↓midZ, ↓unZ, ↓thenW, ↓blockW, ↓opX, ↓opV, ↓pX, ↓pW, ↓putK, ↓putP, ↓atK, ↓normK, ↓postZ, ↓reduceIte, reduceIte, Nat.reduceEqDiff, Nat.reduceAdd, Nat.reduceBEq, Nat.reduceLT, Nat.reduceLeDiff, binW, bodyQ, ressW, resW, ne_eq, forall_const, reduceCtorEq, implies_true, sets, oneAll, setD, rels, fillE, fillD, List.replicate, rowsOf, forall_eq, Nat.reduceMul, ↓zD, zT, hd]
        exact .drop (by simp) (by simp [vw])
      have hd : ((t : Int) < (T : Int)) := by omega
      have em : IntKind.i64.wrap ((t : Int) - 1) = ((t - 1 : Nat) : Int) := by rw [wrap_i64 (by omega)]; omega
      have s1 := hsl t htl
      have s2 := hsl (t - 1) (by omega)
      have hrlen : ∀ t, (relL rs (timeL rs.length t) A).length = A := fun t => by simp [relL]
      have hrget : ∀ t a, a < A → (relL rs (timeL rs.length t) A).getD a [] = relR rs (timeL rs.length t) a := fun t a ha => by simp [relL, List.getD, ha]
      have hrR : ∀ t a, (relR rs (timeL rs.length t) a).length = rs.length := fun t a => by simp [relR, timeL_len]
      have hword := fun a ha => hpast a ha t ht0 htl
      have n1 := hrlen t
      have n2 := hrlen (t - 1)
      have g1 := hrget t
      have g2 := hrget (t - 1)
      have r1 := hrR t
      have r2 := hrR (t - 1)
      clear hpast hrlen hrget hrR hsl
      generalize relL rs (timeL rs.length t) A = NOW at s1 n1 g1
      generalize relL rs (timeL rs.length (t - 1)) A = THEN at s2 n2 g2
      generalize valL rs (timeL rs.length t) F = V1 at s1
      generalize valL rs (timeL rs.length (t - 1)) F = V2 at s2
      simp only [Int.reduceToNat, Int.reduceLT, Int.reduceLE, Int.reduceBEq, Int.reduceBNe, St0, argFr, ↓callZ, ↓midZ, ↓unZ, ↓thenW, ↓blockW, ↓opX, ↓opV, ↓pX, ↓pW, ↓putK, ↓putP, ↓atK, ↓normK, ↓postZ, ↓reduceIte, reduceIte, Nat.reduceEqDiff, Nat.reduceAdd, Nat.reduceBEq, Nat.reduceLT, Nat.reduceLeDiff, binW, bodyQ, ressW, resW, ne_eq, forall_const, reduceCtorEq, implies_true, sets, oneAll, setD, rels, fillE, fillD, List.replicate, rowsOf, forall_eq, Nat.reduceMul, ↓zD, zT, hd]
      refine .go (CallT.of_runs s1 (by simp [D.isPureL, D.isPure])) ?_
      simp only [Int.reduceToNat, Int.reduceLT, Int.reduceLE, Int.reduceBEq, Int.reduceBNe, St0, argFr, ↓callZ, ↓midZ, ↓unZ, ↓thenW, ↓blockW, ↓opX, ↓opV, ↓pX, ↓pW, ↓putK, ↓putP, ↓atK, ↓normK, ↓postZ, ↓reduceIte, reduceIte, Nat.reduceEqDiff, Nat.reduceAdd, Nat.reduceBEq, Nat.reduceLT, Nat.reduceLeDiff, binW, bodyQ, ressW, resW, ne_eq, forall_const, reduceCtorEq, implies_true, sets, oneAll, setD, rels, fillE, fillD, List.replicate, rowsOf, forall_eq, Nat.reduceMul, ↓zD, zT, em]
      refine .go (CallT.of_runs s2 (by simp [D.isPureL, D.isPure])) ?_
      simp only [Int.reduceToNat, Int.reduceLT, Int.reduceLE, Int.reduceBEq, Int.reduceBNe, St0, argFr, ↓callZ, ↓midZ, ↓unZ, ↓thenW, ↓blockW, ↓opX, ↓opV, ↓pX, ↓pW, ↓putK, ↓putP, ↓atK, ↓normK, ↓postZ, ↓reduceIte, reduceIte, Nat.reduceEqDiff, Nat.reduceAdd, Nat.reduceBEq, Nat.reduceLT, Nat.reduceLeDiff, binW, bodyQ, ressW, resW, ne_eq, forall_const, reduceCtorEq, implies_true, sets, oneAll, setD, rels, fillE, fillD, List.replicate, rowsOf, forall_eq, Nat.reduceMul, ↓zD, zT, rr_len, n1, n2, b1]
      refine wpS_loop (fun a : Nat => [(122, .int .i64 a), (121, .int .i64 A), (10, .ref 4 3 0 0), (8, .ref 3 3 0 0), (7, .int .i64 t), (5, .ref 2 4 0 0)]) (fun _ => ⟨5, [(4, ⟨3, [[.int .i64 rs.length, .sl 1 (us V2), .sl 1 (rr THEN)]]⟩), (3, ⟨3, [[.int .i64 rs.length, .sl 1 (us V1), .sl 1 (rr NOW)]]⟩), (2, ⟨4, [[.int .i64 A, .int .i64 F, .int .i64 T, .sl 2 (runR rs)]]⟩)]⟩)
        (fun a => a ≤ A) (fun a => A - a) 0 (Nat.zero_le _) ?_ ?_
      · (refine Weak.same ?_; simp [sameF, Fr.get])
      intro a ha
      refine wpS_go mixed ?_
      by_cases hal : a < A
      case neg =>
        have hd2 : ¬ ((a : Int) < (A : Int)) := by omega
        simp only [Int.reduceToNat, Int.reduceLT, Int.reduceLE, Int.reduceBEq, Int.reduceBNe, St0, argFr, ↓callZ, ↓midZ, ↓unZ, ↓thenW, ↓blockW, ↓opX, ↓opV, ↓pX, ↓pW, ↓putK, ↓putP, ↓atK, ↓normK, ↓postZ, ↓reduceIte, reduceIte, Nat.reduceEqDiff, Nat.reduceAdd, Nat.reduceBEq, Nat.reduceLT, Nat.reduceLeDiff, binW, bodyQ, ressW, resW, ne_eq, forall_const, reduceCtorEq, implies_true, sets, oneAll, setD, rels, fillE, fillD, List.replicate, rowsOf, forall_eq, Nat.reduceMul, ↓zD, zT, hd2]
        (repeat refine And.intro (by first | omega | exact ui_nonneg _ | exact Int.natCast_nonneg _ | rfl | exact rows_one' _ _ | exact us_one _ | (intro _ h; cases h; done)) ?_)
        refine ⟨t + 1, ⟨by omega, by omega⟩, ?_, by omega⟩
        (refine Weak.ren [] [2] (by simp) (by simp) (by decide) ?_; simp only [stay1, vwL, vw, vwF, sw, St.get, St.look, Fr.get, ↓reduceIte, reduceIte, Nat.reduceEqDiff, Nat.reduceAdd, Nat.reduceBEq, Nat.reduceLT, Nat.reduceLeDiff, exists_eq_left', ne_eq, reduceCtorEq, zR])
        exact wrap_i64 (by omega)
      have hd2 : ((a : Int) < (A : Int)) := by omega
      have hw2 := hword a hal
      have u1 := rr_get NOW (show a < NOW.length by omega)
      have u2 := rr_get THEN (show a < THEN.length by omega)
      rw [g1 a hal] at u1
      rw [g2 a hal] at u2
      have v1 := r1 a
      have v2 := r2 a
      generalize relR rs (timeL rs.length t) a = X at u1 v1 hw2
      generalize relR rs (timeL rs.length (t - 1)) a = Y at u2 v2 hw2
      simp only [Int.reduceToNat, Int.reduceLT, Int.reduceLE, Int.reduceBEq, Int.reduceBNe, St0, argFr, ↓callZ, ↓midZ, ↓unZ, ↓thenW, ↓blockW, ↓opX, ↓opV, ↓pX, ↓pW, ↓putK, ↓putP, ↓atK, ↓normK, ↓postZ, ↓reduceIte, reduceIte, Nat.reduceEqDiff, Nat.reduceAdd, Nat.reduceBEq, Nat.reduceLT, Nat.reduceLeDiff, binW, bodyQ, ressW, resW, ne_eq, forall_const, reduceCtorEq, implies_true, sets, oneAll, setD, rels, fillE, fillD, List.replicate, rowsOf, forall_eq, Nat.reduceMul, ↓zD, zT, hd2, rr_len, n1, n2, u1, u2, us_len, v1, v2, runR_len, hRl, b1]
      (repeat refine And.intro (by first | omega | exact ui_nonneg _ | exact Int.natCast_nonneg _ | rfl | exact rows_one' _ _ | exact us_one _ | (intro _ h; cases h; done)) ?_)
      refine wpS_loop (fun w : Nat => [(153, .int .i64 w), (152, .int .i64 rs.length), (122, .int .i64 a), (121, .int .i64 A), (12, .int .i64 a), (10, .ref 4 3 0 0), (8, .ref 3 3 0 0), (7, .int .i64 t), (5, .ref 2 4 0 0)]) (fun _ => ⟨5, [(4, ⟨3, [[.int .i64 rs.length, .sl 1 (us V2), .sl 1 (rr THEN)]]⟩), (3, ⟨3, [[.int .i64 rs.length, .sl 1 (us V1), .sl 1 (rr NOW)]]⟩), (2, ⟨4, [[.int .i64 A, .int .i64 F, .int .i64 T, .sl 2 (runR rs)]]⟩)]⟩)
        (fun w => w ≤ rs.length) (fun w => rs.length - w) 0 (Nat.zero_le _) ?_ ?_
      · (refine Weak.same ?_; simp [sameF, Fr.get])
      intro w hw
      refine wpS_go mixed ?_
      by_cases hwl : w < rs.length
      case neg =>
        have hd3 : ¬ ((w : Int) < (rs.length : Int)) := by omega
        simp only [Int.reduceToNat, Int.reduceLT, Int.reduceLE, Int.reduceBEq, Int.reduceBNe, St0, argFr, ↓callZ, ↓midZ, ↓unZ, ↓thenW, ↓blockW, ↓opX, ↓opV, ↓pX, ↓pW, ↓putK, ↓putP, ↓atK, ↓normK, ↓postZ, ↓reduceIte, reduceIte, Nat.reduceEqDiff, Nat.reduceAdd, Nat.reduceBEq, Nat.reduceLT, Nat.reduceLeDiff, binW, bodyQ, ressW, resW, ne_eq, forall_const, reduceCtorEq, implies_true, sets, oneAll, setD, rels, fillE, fillD, List.replicate, rowsOf, forall_eq, Nat.reduceMul, ↓zD, zT, hd3]
        (repeat refine And.intro (by first | omega | exact ui_nonneg _ | exact Int.natCast_nonneg _ | rfl | exact rows_one' _ _ | exact us_one _ | (intro _ h; cases h; done)) ?_)
        refine ⟨a + 1, by omega, ?_, by omega⟩
        (refine Weak.same ?_; simp only [sameF, Fr.get, ↓reduceIte, reduceIte, Nat.reduceEqDiff, reduceCtorEq, D.int.injEq, D.bool.injEq, D.sl.injEq, and_true, true_and, and_self])
        exact wrap_i64 (by omega)
      have hd3 : ((w : Int) < (rs.length : Int)) := by omega
      have w1 := us_get X (show w < X.length by omega)
      have w2 := us_get Y (show w < Y.length by omega)
      have hw3 := hw2 w hwl
      simp only [Int.reduceToNat, Int.reduceLT, Int.reduceLE, Int.reduceBEq, Int.reduceBNe, St0, argFr, ↓callZ, ↓midZ, ↓unZ, ↓thenW, ↓blockW, ↓opX, ↓opV, ↓pX, ↓pW, ↓putK, ↓putP, ↓atK, ↓normK, ↓postZ, ↓reduceIte, reduceIte, Nat.reduceEqDiff, Nat.reduceAdd, Nat.reduceBEq, Nat.reduceLT, Nat.reduceLeDiff, binW, bodyQ, ressW, resW, ne_eq, forall_const, reduceCtorEq, implies_true, sets, oneAll, setD, rels, fillE, fillD, List.replicate, rowsOf, forall_eq, Nat.reduceMul, ↓zD, zT, hd3, rr_len, n1, n2, u1, u2, us_len, v1, v2, w1, w2, hw3]
      (repeat refine And.intro (by first | omega | exact ui_nonneg _ | exact Int.natCast_nonneg _ | rfl | exact rows_one' _ _ | exact us_one _ | (intro _ h; cases h; done)) ?_)
      refine ⟨w + 1, by omega, ?_, by omega⟩
      (refine Weak.same ?_; simp only [sameF, Fr.get, ↓reduceIte, reduceIte, Nat.reduceEqDiff, reduceCtorEq, D.int.injEq, D.bool.injEq, D.sl.injEq, and_true, true_and, and_self])
      exact wrap_i64 (by omega)
    case neg =>
      rw [hs] at q1
      rw [Bool.not_eq_true] at hr
      rw [hr] at q2
      refine CallT.go_fn mixed Try.func7 k7 (by simp) fun hf => ?_
      simp only [Int.reduceToNat, Int.reduceLT, Int.reduceLE, Int.reduceBEq, Int.reduceBNe, St0, argFr, ↓callZ, ↓midZ, ↓unZ, ↓thenW, ↓blockW, ↓opX, ↓opV, ↓pX, ↓pW, ↓putK, ↓putP, ↓atK, ↓normK, ↓postZ, ↓reduceIte, reduceIte, Nat.reduceEqDiff, Nat.reduceAdd, Nat.reduceBEq, Nat.reduceLT, Nat.reduceLeDiff, binW, bodyQ, ressW, resW, ne_eq, forall_const, reduceCtorEq, implies_true, sets, oneAll, setD, rels, fillE, fillD, List.replicate, rowsOf, forall_eq, Nat.reduceMul, ↓zD, zT]
      (repeat refine And.intro (by first | omega | exact ui_nonneg _ | exact Int.natCast_nonneg _ | rfl | exact rows_one' _ _ | exact us_one _ | (intro _ h; cases h; done)) ?_)
      refine .go awakeT ?_
      simp only [Int.reduceToNat, Int.reduceLT, Int.reduceLE, Int.reduceBEq, Int.reduceBNe, St0, argFr, ↓callZ, ↓midZ, ↓unZ, ↓thenW, ↓blockW, ↓opX, ↓opV, ↓pX, ↓pW, ↓putK, ↓putP, ↓atK, ↓normK, ↓postZ, ↓reduceIte, reduceIte, Nat.reduceEqDiff, Nat.reduceAdd, Nat.reduceBEq, Nat.reduceLT, Nat.reduceLeDiff, binW, bodyQ, ressW, resW, ne_eq, forall_const, reduceCtorEq, implies_true, sets, oneAll, setD, rels, fillE, fillD, List.replicate, rowsOf, forall_eq, Nat.reduceMul, ↓zD, zT]
      refine .go (CallT.of_runs hF rfl) ?_
      simp only [Int.reduceToNat, Int.reduceLT, Int.reduceLE, Int.reduceBEq, Int.reduceBNe, St0, argFr, ↓callZ, ↓midZ, ↓unZ, ↓thenW, ↓blockW, ↓opX, ↓opV, ↓pX, ↓pW, ↓putK, ↓putP, ↓atK, ↓normK, ↓postZ, ↓reduceIte, reduceIte, Nat.reduceEqDiff, Nat.reduceAdd, Nat.reduceBEq, Nat.reduceLT, Nat.reduceLeDiff, binW, bodyQ, ressW, resW, ne_eq, forall_const, reduceCtorEq, implies_true, sets, oneAll, setD, rels, fillE, fillD, List.replicate, rowsOf, forall_eq, Nat.reduceMul, ↓zD, zT]
      refine .go (CallT.of_runs hC rfl) ?_
      simp only [Int.reduceToNat, Int.reduceLT, Int.reduceLE, Int.reduceBEq, Int.reduceBNe, St0, argFr, ↓callZ, ↓midZ, ↓unZ, ↓thenW, ↓blockW, ↓opX, ↓opV, ↓pX, ↓pW, ↓putK, ↓putP, ↓atK, ↓normK, ↓postZ, ↓reduceIte, reduceIte, Nat.reduceEqDiff, Nat.reduceAdd, Nat.reduceBEq, Nat.reduceLT, Nat.reduceLeDiff, binW, bodyQ, ressW, resW, ne_eq, forall_const, reduceCtorEq, implies_true, sets, oneAll, setD, rels, fillE, fillD, List.replicate, rowsOf, forall_eq, Nat.reduceMul, ↓zD, zT]
      refine .go (CallT.of_runs hc rfl) ?_
      simp only [Int.reduceToNat, Int.reduceLT, Int.reduceLE, Int.reduceBEq, Int.reduceBNe, St0, argFr, ↓callZ, ↓midZ, ↓unZ, ↓thenW, ↓blockW, ↓opX, ↓opV, ↓pX, ↓pW, ↓putK, ↓putP, ↓atK, ↓normK, ↓postZ, ↓reduceIte, reduceIte, Nat.reduceEqDiff, Nat.reduceAdd, Nat.reduceBEq, Nat.reduceLT, Nat.reduceLeDiff, binW, bodyQ, ressW, resW, ne_eq, forall_const, reduceCtorEq, implies_true, sets, oneAll, setD, rels, fillE, fillD, List.replicate, rowsOf, forall_eq, Nat.reduceMul, ↓zD, zT]
      refine .go (CallT.of_runs hb rfl) ?_
      simp only [Int.reduceToNat, Int.reduceLT, Int.reduceLE, Int.reduceBEq, Int.reduceBNe, St0, argFr, ↓callZ, ↓midZ, ↓unZ, ↓thenW, ↓blockW, ↓opX, ↓opV, ↓pX, ↓pW, ↓putK, ↓putP, ↓atK, ↓normK, ↓postZ, ↓reduceIte, reduceIte, Nat.reduceEqDiff, Nat.reduceAdd, Nat.reduceBEq, Nat.reduceLT, Nat.reduceLeDiff, binW, bodyQ, ressW, resW, ne_eq, forall_const, reduceCtorEq, implies_true, sets, oneAll, setD, rels, fillE, fillD, List.replicate, rowsOf, forall_eq, Nat.reduceMul, ↓zD, zT]
      refine .go (CallT.of_runs q0 rfl) ?_
      simp only [Int.reduceToNat, Int.reduceLT, Int.reduceLE, Int.reduceBEq, Int.reduceBNe, St0, argFr, ↓callZ, ↓midZ, ↓unZ, ↓thenW, ↓blockW, ↓opX, ↓opV, ↓pX, ↓pW, ↓putK, ↓putP, ↓atK, ↓normK, ↓postZ, ↓reduceIte, reduceIte, Nat.reduceEqDiff, Nat.reduceAdd, Nat.reduceBEq, Nat.reduceLT, Nat.reduceLeDiff, binW, bodyQ, ressW, resW, ne_eq, forall_const, reduceCtorEq, implies_true, sets, oneAll, setD, rels, fillE, fillD, List.replicate, rowsOf, forall_eq, Nat.reduceMul, ↓zD, zT, b1, runR_len, lbr]
      refine .go (CallT.of_runs q1 rfl) ?_
      simp only [Int.reduceToNat, Int.reduceLT, Int.reduceLE, Int.reduceBEq, Int.reduceBNe, St0, argFr, ↓callZ, ↓midZ, ↓unZ, ↓thenW, ↓blockW, ↓opX, ↓opV, ↓pX, ↓pW, ↓putK, ↓putP, ↓atK, ↓normK, ↓postZ, ↓reduceIte, reduceIte, Nat.reduceEqDiff, Nat.reduceAdd, Nat.reduceBEq, Nat.reduceLT, Nat.reduceLeDiff, binW, bodyQ, ressW, resW, ne_eq, forall_const, reduceCtorEq, implies_true, sets, oneAll, setD, rels, fillE, fillD, List.replicate, rowsOf, forall_eq, Nat.reduceMul, ↓zD, zT]
      refine .go (CallT.of_runs q2 rfl) ?_
      simp only [Int.reduceToNat, Int.reduceLT, Int.reduceLE, Int.reduceBEq, Int.reduceBNe, St0, argFr, ↓callZ, ↓midZ, ↓unZ, ↓thenW, ↓blockW, ↓opX, ↓opV, ↓pX, ↓pW, ↓putK, ↓putP, ↓atK, ↓normK, ↓postZ, ↓reduceIte, reduceIte, Nat.reduceEqDiff, Nat.reduceAdd, Nat.reduceBEq, Nat.reduceLT, Nat.reduceLeDiff, binW, bodyQ, ressW, resW, ne_eq, forall_const, reduceCtorEq, implies_true, sets, oneAll, setD, rels, fillE, fillD, List.replicate, rowsOf, forall_eq, Nat.reduceMul, ↓zD, zT]
      have okR := okb
      obtain ⟨T1, T16⟩ := okR.hT
      have hRl : b.length = rs.length := lbr
      have hsl : ∀ t : Nat, t < T → Runs Try.prog 12 [.agg [.int .i64 (A : Int), .int .i64 (F : Int), .int .i64 (T : Int), .sl 2 (runR b)], .int .i64 (t : Int)] (.tup [.agg [.int .i64 (rs.length : Int), .sl 1 (us (valL b (timeL rs.length t) F)), .sl 1 (rr (relL b (timeL rs.length t) A))], .int .i64 0]) := fun t ht => by
        have h := Slice12 ⟨A, F, T, b⟩ t
        rw [slice_okR okR ht, hRl] at h
        unfold modM ModA.d at h
        simp only [timeL_len] at h
        exact h
      have hpast := fun (a : Nat) (ha : a < A) (t : Nat) (h1 : 1 ≤ t) (h2 : t < T) (w : Nat) (hw : w < rs.length) => past_word (a := a) okR hRl hbs hbr ha h1 h2 hw
      refine wpS_loop (fun t : Nat => [(7, .int .i64 t), (5, .ref 2 4 0 0)]) (fun _ => ⟨3, [(2, ⟨4, [[.int .i64 A, .int .i64 F, .int .i64 T, .sl 2 (runR b)]]⟩)]⟩)
        (fun t => 1 ≤ t ∧ t ≤ T) (fun t => T - t) 1 ⟨Nat.le_refl _, T1⟩ ?_ ?_
      · (refine Weak.ren [] [2] (by simp) (by simp) (by decide) ?_; simp only [stay1, vwL, vw, vwF, sw, St.get, St.look, Fr.get, ↓reduceIte, reduceIte, Nat.reduceEqDiff, Nat.reduceAdd, Nat.reduceBEq, Nat.reduceLT, Nat.reduceLeDiff, exists_eq_left', ne_eq, reduceCtorEq, zR])
        rfl
      intro t ⟨ht0, ht⟩
      refine wpS_go mixed ?_
      by_cases htl : t < T
      case neg =>
        have hd : ¬ ((t : Int) < (T : Int)) := by omega
        simp only [Int.reduceToNat, Int.reduceLT, Int.reduceLE, Int.reduceBEq, Int.reduceBNe, St0, argFr, ↓callZ, ↓midZ, ↓unZ, ↓thenW, ↓blockW, ↓opX, ↓opV, ↓pX, ↓pW, ↓putK, ↓putP, ↓atK, ↓normK, ↓postZ, ↓reduceIte, reduceIte, Nat.reduceEqDiff, Nat.reduceAdd, Nat.reduceBEq, Nat.reduceLT, Nat.reduceLeDiff, binW, bodyQ, ressW, resW, ne_eq, forall_const, reduceCtorEq, implies_true, sets, oneAll, setD, rels, fillE, fillD, List.replicate, rowsOf, forall_eq, Nat.reduceMul, ↓zD, zT, hd]
        exact .drop (by simp) (by simp [vw])
      have hd : ((t : Int) < (T : Int)) := by omega
      have em : IntKind.i64.wrap ((t : Int) - 1) = ((t - 1 : Nat) : Int) := by rw [wrap_i64 (by omega)]; omega
      have s1 := hsl t htl
      have s2 := hsl (t - 1) (by omega)
      have hrlen : ∀ t, (relL b (timeL rs.length t) A).length = A := fun t => by simp [relL]
      have hrget : ∀ t a, a < A → (relL b (timeL rs.length t) A).getD a [] = relR b (timeL rs.length t) a := fun t a ha => by simp [relL, List.getD, ha]
      have hrR : ∀ t a, (relR b (timeL rs.length t) a).length = rs.length := fun t a => by simp [relR, timeL_len]
      have hword := fun a ha => hpast a ha t ht0 htl
      have n1 := hrlen t
      have n2 := hrlen (t - 1)
      have g1 := hrget t
      have g2 := hrget (t - 1)
      have r1 := hrR t
      have r2 := hrR (t - 1)
      clear hpast hrlen hrget hrR hsl
      generalize relL b (timeL rs.length t) A = NOW at s1 n1 g1
      generalize relL b (timeL rs.length (t - 1)) A = THEN at s2 n2 g2
      generalize valL b (timeL rs.length t) F = V1 at s1
      generalize valL b (timeL rs.length (t - 1)) F = V2 at s2
      simp only [Int.reduceToNat, Int.reduceLT, Int.reduceLE, Int.reduceBEq, Int.reduceBNe, St0, argFr, ↓callZ, ↓midZ, ↓unZ, ↓thenW, ↓blockW, ↓opX, ↓opV, ↓pX, ↓pW, ↓putK, ↓putP, ↓atK, ↓normK, ↓postZ, ↓reduceIte, reduceIte, Nat.reduceEqDiff, Nat.reduceAdd, Nat.reduceBEq, Nat.reduceLT, Nat.reduceLeDiff, binW, bodyQ, ressW, resW, ne_eq, forall_const, reduceCtorEq, implies_true, sets, oneAll, setD, rels, fillE, fillD, List.replicate, rowsOf, forall_eq, Nat.reduceMul, ↓zD, zT, hd]
      refine .go (CallT.of_runs s1 (by simp [D.isPureL, D.isPure])) ?_
      simp only [Int.reduceToNat, Int.reduceLT, Int.reduceLE, Int.reduceBEq, Int.reduceBNe, St0, argFr, ↓callZ, ↓midZ, ↓unZ, ↓thenW, ↓blockW, ↓opX, ↓opV, ↓pX, ↓pW, ↓putK, ↓putP, ↓atK, ↓normK, ↓postZ, ↓reduceIte, reduceIte, Nat.reduceEqDiff, Nat.reduceAdd, Nat.reduceBEq, Nat.reduceLT, Nat.reduceLeDiff, binW, bodyQ, ressW, resW, ne_eq, forall_const, reduceCtorEq, implies_true, sets, oneAll, setD, rels, fillE, fillD, List.replicate, rowsOf, forall_eq, Nat.reduceMul, ↓zD, zT, em]
      refine .go (CallT.of_runs s2 (by simp [D.isPureL, D.isPure])) ?_
      simp only [Int.reduceToNat, Int.reduceLT, Int.reduceLE, Int.reduceBEq, Int.reduceBNe, St0, argFr, ↓callZ, ↓midZ, ↓unZ, ↓thenW, ↓blockW, ↓opX, ↓opV, ↓pX, ↓pW, ↓putK, ↓putP, ↓atK, ↓normK, ↓postZ, ↓reduceIte, reduceIte, Nat.reduceEqDiff, Nat.reduceAdd, Nat.reduceBEq, Nat.reduceLT, Nat.reduceLeDiff, binW, bodyQ, ressW, resW, ne_eq, forall_const, reduceCtorEq, implies_true, sets, oneAll, setD, rels, fillE, fillD, List.replicate, rowsOf, forall_eq, Nat.reduceMul, ↓zD, zT, rr_len, n1, n2, b1]
      refine wpS_loop (fun a : Nat => [(122, .int .i64 a), (121, .int .i64 A), (10, .ref 4 3 0 0), (8, .ref 3 3 0 0), (7, .int .i64 t), (5, .ref 2 4 0 0)]) (fun _ => ⟨5, [(4, ⟨3, [[.int .i64 rs.length, .sl 1 (us V2), .sl 1 (rr THEN)]]⟩), (3, ⟨3, [[.int .i64 rs.length, .sl 1 (us V1), .sl 1 (rr NOW)]]⟩), (2, ⟨4, [[.int .i64 A, .int .i64 F, .int .i64 T, .sl 2 (runR b)]]⟩)]⟩)
        (fun a => a ≤ A) (fun a => A - a) 0 (Nat.zero_le _) ?_ ?_
      · (refine Weak.same ?_; simp [sameF, Fr.get])
      intro a ha
      refine wpS_go mixed ?_
      by_cases hal : a < A
      case neg =>
        have hd2 : ¬ ((a : Int) < (A : Int)) := by omega
        simp only [Int.reduceToNat, Int.reduceLT, Int.reduceLE, Int.reduceBEq, Int.reduceBNe, St0, argFr, ↓callZ, ↓midZ, ↓unZ, ↓thenW, ↓blockW, ↓opX, ↓opV, ↓pX, ↓pW, ↓putK, ↓putP, ↓atK, ↓normK, ↓postZ, ↓reduceIte, reduceIte, Nat.reduceEqDiff, Nat.reduceAdd, Nat.reduceBEq, Nat.reduceLT, Nat.reduceLeDiff, binW, bodyQ, ressW, resW, ne_eq, forall_const, reduceCtorEq, implies_true, sets, oneAll, setD, rels, fillE, fillD, List.replicate, rowsOf, forall_eq, Nat.reduceMul, ↓zD, zT, hd2]
        (repeat refine And.intro (by first | omega | exact ui_nonneg _ | exact Int.natCast_nonneg _ | rfl | exact rows_one' _ _ | exact us_one _ | (intro _ h; cases h; done)) ?_)
        refine ⟨t + 1, ⟨by omega, by omega⟩, ?_, by omega⟩
        (refine Weak.ren [] [2] (by simp) (by simp) (by decide) ?_; simp only [stay1, vwL, vw, vwF, sw, St.get, St.look, Fr.get, ↓reduceIte, reduceIte, Nat.reduceEqDiff, Nat.reduceAdd, Nat.reduceBEq, Nat.reduceLT, Nat.reduceLeDiff, exists_eq_left', ne_eq, reduceCtorEq, zR])
        exact wrap_i64 (by omega)
      have hd2 : ((a : Int) < (A : Int)) := by omega
      have hw2 := hword a hal
      have u1 := rr_get NOW (show a < NOW.length by omega)
      have u2 := rr_get THEN (show a < THEN.length by omega)
      rw [g1 a hal] at u1
      rw [g2 a hal] at u2
      have v1 := r1 a
      have v2 := r2 a
      generalize relR b (timeL rs.length t) a = X at u1 v1 hw2
      generalize relR b (timeL rs.length (t - 1)) a = Y at u2 v2 hw2
      simp only [Int.reduceToNat, Int.reduceLT, Int.reduceLE, Int.reduceBEq, Int.reduceBNe, St0, argFr, ↓callZ, ↓midZ, ↓unZ, ↓thenW, ↓blockW, ↓opX, ↓opV, ↓pX, ↓pW, ↓putK, ↓putP, ↓atK, ↓normK, ↓postZ, ↓reduceIte, reduceIte, Nat.reduceEqDiff, Nat.reduceAdd, Nat.reduceBEq, Nat.reduceLT, Nat.reduceLeDiff, binW, bodyQ, ressW, resW, ne_eq, forall_const, reduceCtorEq, implies_true, sets, oneAll, setD, rels, fillE, fillD, List.replicate, rowsOf, forall_eq, Nat.reduceMul, ↓zD, zT, hd2, rr_len, n1, n2, u1, u2, us_len, v1, v2, runR_len, hRl, b1]
      (repeat refine And.intro (by first | omega | exact ui_nonneg _ | exact Int.natCast_nonneg _ | rfl | exact rows_one' _ _ | exact us_one _ | (intro _ h; cases h; done)) ?_)
      refine wpS_loop (fun w : Nat => [(153, .int .i64 w), (152, .int .i64 rs.length), (122, .int .i64 a), (121, .int .i64 A), (12, .int .i64 a), (10, .ref 4 3 0 0), (8, .ref 3 3 0 0), (7, .int .i64 t), (5, .ref 2 4 0 0)]) (fun _ => ⟨5, [(4, ⟨3, [[.int .i64 rs.length, .sl 1 (us V2), .sl 1 (rr THEN)]]⟩), (3, ⟨3, [[.int .i64 rs.length, .sl 1 (us V1), .sl 1 (rr NOW)]]⟩), (2, ⟨4, [[.int .i64 A, .int .i64 F, .int .i64 T, .sl 2 (runR b)]]⟩)]⟩)
        (fun w => w ≤ rs.length) (fun w => rs.length - w) 0 (Nat.zero_le _) ?_ ?_
      · (refine Weak.same ?_; simp [sameF, Fr.get])
      intro w hw
      refine wpS_go mixed ?_
      by_cases hwl : w < rs.length
      case neg =>
        have hd3 : ¬ ((w : Int) < (rs.length : Int)) := by omega
        simp only [Int.reduceToNat, Int.reduceLT, Int.reduceLE, Int.reduceBEq, Int.reduceBNe, St0, argFr, ↓callZ, ↓midZ, ↓unZ, ↓thenW, ↓blockW, ↓opX, ↓opV, ↓pX, ↓pW, ↓putK, ↓putP, ↓atK, ↓normK, ↓postZ, ↓reduceIte, reduceIte, Nat.reduceEqDiff, Nat.reduceAdd, Nat.reduceBEq, Nat.reduceLT, Nat.reduceLeDiff, binW, bodyQ, ressW, resW, ne_eq, forall_const, reduceCtorEq, implies_true, sets, oneAll, setD, rels, fillE, fillD, List.replicate, rowsOf, forall_eq, Nat.reduceMul, ↓zD, zT, hd3]
        (repeat refine And.intro (by first | omega | exact ui_nonneg _ | exact Int.natCast_nonneg _ | rfl | exact rows_one' _ _ | exact us_one _ | (intro _ h; cases h; done)) ?_)
        refine ⟨a + 1, by omega, ?_, by omega⟩
        (refine Weak.same ?_; simp only [sameF, Fr.get, ↓reduceIte, reduceIte, Nat.reduceEqDiff, reduceCtorEq, D.int.injEq, D.bool.injEq, D.sl.injEq, and_true, true_and, and_self])
        exact wrap_i64 (by omega)
      have hd3 : ((w : Int) < (rs.length : Int)) := by omega
      have w1 := us_get X (show w < X.length by omega)
      have w2 := us_get Y (show w < Y.length by omega)
      have hw3 := hw2 w hwl
      simp only [Int.reduceToNat, Int.reduceLT, Int.reduceLE, Int.reduceBEq, Int.reduceBNe, St0, argFr, ↓callZ, ↓midZ, ↓unZ, ↓thenW, ↓blockW, ↓opX, ↓opV, ↓pX, ↓pW, ↓putK, ↓putP, ↓atK, ↓normK, ↓postZ, ↓reduceIte, reduceIte, Nat.reduceEqDiff, Nat.reduceAdd, Nat.reduceBEq, Nat.reduceLT, Nat.reduceLeDiff, binW, bodyQ, ressW, resW, ne_eq, forall_const, reduceCtorEq, implies_true, sets, oneAll, setD, rels, fillE, fillD, List.replicate, rowsOf, forall_eq, Nat.reduceMul, ↓zD, zT, hd3, rr_len, n1, n2, u1, u2, us_len, v1, v2, w1, w2, hw3]
      (repeat refine And.intro (by first | omega | exact ui_nonneg _ | exact Int.natCast_nonneg _ | rfl | exact rows_one' _ _ | exact us_one _ | (intro _ h; cases h; done)) ?_)
      refine ⟨w + 1, by omega, ?_, by omega⟩
      (refine Weak.same ?_; simp only [sameF, Fr.get, ↓reduceIte, reduceIte, Nat.reduceEqDiff, reduceCtorEq, D.int.injEq, D.bool.injEq, D.sl.injEq, and_true, true_and, and_self])
      exact wrap_i64 (by omega)
  case neg =>
    rw [Bool.not_eq_true] at hs
    rw [hs] at q1
    refine CallT.go_fn mixed Try.func7 k7 (by simp) fun hf => ?_
    simp only [Int.reduceToNat, Int.reduceLT, Int.reduceLE, Int.reduceBEq, Int.reduceBNe, St0, argFr, ↓callZ, ↓midZ, ↓unZ, ↓thenW, ↓blockW, ↓opX, ↓opV, ↓pX, ↓pW, ↓putK, ↓putP, ↓atK, ↓normK, ↓postZ, ↓reduceIte, reduceIte, Nat.reduceEqDiff, Nat.reduceAdd, Nat.reduceBEq, Nat.reduceLT, Nat.reduceLeDiff, binW, bodyQ, ressW, resW, ne_eq, forall_const, reduceCtorEq, implies_true, sets, oneAll, setD, rels, fillE, fillD, List.replicate, rowsOf, forall_eq, Nat.reduceMul, ↓zD, zT]
    (repeat refine And.intro (by first | omega | exact ui_nonneg _ | exact Int.natCast_nonneg _ | rfl | exact rows_one' _ _ | exact us_one _ | (intro _ h; cases h; done)) ?_)
    refine .go awakeT ?_
    simp only [Int.reduceToNat, Int.reduceLT, Int.reduceLE, Int.reduceBEq, Int.reduceBNe, St0, argFr, ↓callZ, ↓midZ, ↓unZ, ↓thenW, ↓blockW, ↓opX, ↓opV, ↓pX, ↓pW, ↓putK, ↓putP, ↓atK, ↓normK, ↓postZ, ↓reduceIte, reduceIte, Nat.reduceEqDiff, Nat.reduceAdd, Nat.reduceBEq, Nat.reduceLT, Nat.reduceLeDiff, binW, bodyQ, ressW, resW, ne_eq, forall_const, reduceCtorEq, implies_true, sets, oneAll, setD, rels, fillE, fillD, List.replicate, rowsOf, forall_eq, Nat.reduceMul, ↓zD, zT]
    refine .go (CallT.of_runs hF rfl) ?_
    simp only [Int.reduceToNat, Int.reduceLT, Int.reduceLE, Int.reduceBEq, Int.reduceBNe, St0, argFr, ↓callZ, ↓midZ, ↓unZ, ↓thenW, ↓blockW, ↓opX, ↓opV, ↓pX, ↓pW, ↓putK, ↓putP, ↓atK, ↓normK, ↓postZ, ↓reduceIte, reduceIte, Nat.reduceEqDiff, Nat.reduceAdd, Nat.reduceBEq, Nat.reduceLT, Nat.reduceLeDiff, binW, bodyQ, ressW, resW, ne_eq, forall_const, reduceCtorEq, implies_true, sets, oneAll, setD, rels, fillE, fillD, List.replicate, rowsOf, forall_eq, Nat.reduceMul, ↓zD, zT]
    refine .go (CallT.of_runs hC rfl) ?_
    simp only [Int.reduceToNat, Int.reduceLT, Int.reduceLE, Int.reduceBEq, Int.reduceBNe, St0, argFr, ↓callZ, ↓midZ, ↓unZ, ↓thenW, ↓blockW, ↓opX, ↓opV, ↓pX, ↓pW, ↓putK, ↓putP, ↓atK, ↓normK, ↓postZ, ↓reduceIte, reduceIte, Nat.reduceEqDiff, Nat.reduceAdd, Nat.reduceBEq, Nat.reduceLT, Nat.reduceLeDiff, binW, bodyQ, ressW, resW, ne_eq, forall_const, reduceCtorEq, implies_true, sets, oneAll, setD, rels, fillE, fillD, List.replicate, rowsOf, forall_eq, Nat.reduceMul, ↓zD, zT]
    refine .go (CallT.of_runs hc rfl) ?_
    simp only [Int.reduceToNat, Int.reduceLT, Int.reduceLE, Int.reduceBEq, Int.reduceBNe, St0, argFr, ↓callZ, ↓midZ, ↓unZ, ↓thenW, ↓blockW, ↓opX, ↓opV, ↓pX, ↓pW, ↓putK, ↓putP, ↓atK, ↓normK, ↓postZ, ↓reduceIte, reduceIte, Nat.reduceEqDiff, Nat.reduceAdd, Nat.reduceBEq, Nat.reduceLT, Nat.reduceLeDiff, binW, bodyQ, ressW, resW, ne_eq, forall_const, reduceCtorEq, implies_true, sets, oneAll, setD, rels, fillE, fillD, List.replicate, rowsOf, forall_eq, Nat.reduceMul, ↓zD, zT]
    refine .go (CallT.of_runs hb rfl) ?_
    simp only [Int.reduceToNat, Int.reduceLT, Int.reduceLE, Int.reduceBEq, Int.reduceBNe, St0, argFr, ↓callZ, ↓midZ, ↓unZ, ↓thenW, ↓blockW, ↓opX, ↓opV, ↓pX, ↓pW, ↓putK, ↓putP, ↓atK, ↓normK, ↓postZ, ↓reduceIte, reduceIte, Nat.reduceEqDiff, Nat.reduceAdd, Nat.reduceBEq, Nat.reduceLT, Nat.reduceLeDiff, binW, bodyQ, ressW, resW, ne_eq, forall_const, reduceCtorEq, implies_true, sets, oneAll, setD, rels, fillE, fillD, List.replicate, rowsOf, forall_eq, Nat.reduceMul, ↓zD, zT]
    refine .go (CallT.of_runs q0 rfl) ?_
    simp only [Int.reduceToNat, Int.reduceLT, Int.reduceLE, Int.reduceBEq, Int.reduceBNe, St0, argFr, ↓callZ, ↓midZ, ↓unZ, ↓thenW, ↓blockW, ↓opX, ↓opV, ↓pX, ↓pW, ↓putK, ↓putP, ↓atK, ↓normK, ↓postZ, ↓reduceIte, reduceIte, Nat.reduceEqDiff, Nat.reduceAdd, Nat.reduceBEq, Nat.reduceLT, Nat.reduceLeDiff, binW, bodyQ, ressW, resW, ne_eq, forall_const, reduceCtorEq, implies_true, sets, oneAll, setD, rels, fillE, fillD, List.replicate, rowsOf, forall_eq, Nat.reduceMul, ↓zD, zT, b1, runR_len, lbr]
    refine .go (CallT.of_runs q1 rfl) ?_
    simp only [Int.reduceToNat, Int.reduceLT, Int.reduceLE, Int.reduceBEq, Int.reduceBNe, St0, argFr, ↓callZ, ↓midZ, ↓unZ, ↓thenW, ↓blockW, ↓opX, ↓opV, ↓pX, ↓pW, ↓putK, ↓putP, ↓atK, ↓normK, ↓postZ, ↓reduceIte, reduceIte, Nat.reduceEqDiff, Nat.reduceAdd, Nat.reduceBEq, Nat.reduceLT, Nat.reduceLeDiff, binW, bodyQ, ressW, resW, ne_eq, forall_const, reduceCtorEq, implies_true, sets, oneAll, setD, rels, fillE, fillD, List.replicate, rowsOf, forall_eq, Nat.reduceMul, ↓zD, zT]
    have okR := okb
    obtain ⟨T1, T16⟩ := okR.hT
    have hRl : b.length = rs.length := lbr
    have hsl : ∀ t : Nat, t < T → Runs Try.prog 12 [.agg [.int .i64 (A : Int), .int .i64 (F : Int), .int .i64 (T : Int), .sl 2 (runR b)], .int .i64 (t : Int)] (.tup [.agg [.int .i64 (rs.length : Int), .sl 1 (us (valL b (timeL rs.length t) F)), .sl 1 (rr (relL b (timeL rs.length t) A))], .int .i64 0]) := fun t ht => by
      have h := Slice12 ⟨A, F, T, b⟩ t
      rw [slice_okR okR ht, hRl] at h
      unfold modM ModA.d at h
      simp only [timeL_len] at h
      exact h
    have hpast := fun (a : Nat) (ha : a < A) (t : Nat) (h1 : 1 ≤ t) (h2 : t < T) (w : Nat) (hw : w < rs.length) => past_word (a := a) okR hRl hbs hbr ha h1 h2 hw
    refine wpS_loop (fun t : Nat => [(7, .int .i64 t), (5, .ref 2 4 0 0)]) (fun _ => ⟨3, [(2, ⟨4, [[.int .i64 A, .int .i64 F, .int .i64 T, .sl 2 (runR b)]]⟩)]⟩)
      (fun t => 1 ≤ t ∧ t ≤ T) (fun t => T - t) 1 ⟨Nat.le_refl _, T1⟩ ?_ ?_
    · (refine Weak.ren [] [2] (by simp) (by simp) (by decide) ?_; simp only [stay1, vwL, vw, vwF, sw, St.get, St.look, Fr.get, ↓reduceIte, reduceIte, Nat.reduceEqDiff, Nat.reduceAdd, Nat.reduceBEq, Nat.reduceLT, Nat.reduceLeDiff, exists_eq_left', ne_eq, reduceCtorEq, zR])
      rfl
    intro t ⟨ht0, ht⟩
    refine wpS_go mixed ?_
    by_cases htl : t < T
    case neg =>
      have hd : ¬ ((t : Int) < (T : Int)) := by omega
      simp only [Int.reduceToNat, Int.reduceLT, Int.reduceLE, Int.reduceBEq, Int.reduceBNe, St0, argFr, ↓callZ, ↓midZ, ↓unZ, ↓thenW, ↓blockW, ↓opX, ↓opV, ↓pX, ↓pW, ↓putK, ↓putP, ↓atK, ↓normK, ↓postZ, ↓reduceIte, reduceIte, Nat.reduceEqDiff, Nat.reduceAdd, Nat.reduceBEq, Nat.reduceLT, Nat.reduceLeDiff, binW, bodyQ, ressW, resW, ne_eq, forall_const, reduceCtorEq, implies_true, sets, oneAll, setD, rels, fillE, fillD, List.replicate, rowsOf, forall_eq, Nat.reduceMul, ↓zD, zT, hd]
      exact .drop (by simp) (by simp [vw])
    have hd : ((t : Int) < (T : Int)) := by omega
    have em : IntKind.i64.wrap ((t : Int) - 1) = ((t - 1 : Nat) : Int) := by rw [wrap_i64 (by omega)]; omega
    have s1 := hsl t htl
    have s2 := hsl (t - 1) (by omega)
    have hrlen : ∀ t, (relL b (timeL rs.length t) A).length = A := fun t => by simp [relL]
    have hrget : ∀ t a, a < A → (relL b (timeL rs.length t) A).getD a [] = relR b (timeL rs.length t) a := fun t a ha => by simp [relL, List.getD, ha]
    have hrR : ∀ t a, (relR b (timeL rs.length t) a).length = rs.length := fun t a => by simp [relR, timeL_len]
    have hword := fun a ha => hpast a ha t ht0 htl
    have n1 := hrlen t
    have n2 := hrlen (t - 1)
    have g1 := hrget t
    have g2 := hrget (t - 1)
    have r1 := hrR t
    have r2 := hrR (t - 1)
    clear hpast hrlen hrget hrR hsl
    generalize relL b (timeL rs.length t) A = NOW at s1 n1 g1
    generalize relL b (timeL rs.length (t - 1)) A = THEN at s2 n2 g2
    generalize valL b (timeL rs.length t) F = V1 at s1
    generalize valL b (timeL rs.length (t - 1)) F = V2 at s2
    simp only [Int.reduceToNat, Int.reduceLT, Int.reduceLE, Int.reduceBEq, Int.reduceBNe, St0, argFr, ↓callZ, ↓midZ, ↓unZ, ↓thenW, ↓blockW, ↓opX, ↓opV, ↓pX, ↓pW, ↓putK, ↓putP, ↓atK, ↓normK, ↓postZ, ↓reduceIte, reduceIte, Nat.reduceEqDiff, Nat.reduceAdd, Nat.reduceBEq, Nat.reduceLT, Nat.reduceLeDiff, binW, bodyQ, ressW, resW, ne_eq, forall_const, reduceCtorEq, implies_true, sets, oneAll, setD, rels, fillE, fillD, List.replicate, rowsOf, forall_eq, Nat.reduceMul, ↓zD, zT, hd]
    refine .go (CallT.of_runs s1 (by simp [D.isPureL, D.isPure])) ?_
    simp only [Int.reduceToNat, Int.reduceLT, Int.reduceLE, Int.reduceBEq, Int.reduceBNe, St0, argFr, ↓callZ, ↓midZ, ↓unZ, ↓thenW, ↓blockW, ↓opX, ↓opV, ↓pX, ↓pW, ↓putK, ↓putP, ↓atK, ↓normK, ↓postZ, ↓reduceIte, reduceIte, Nat.reduceEqDiff, Nat.reduceAdd, Nat.reduceBEq, Nat.reduceLT, Nat.reduceLeDiff, binW, bodyQ, ressW, resW, ne_eq, forall_const, reduceCtorEq, implies_true, sets, oneAll, setD, rels, fillE, fillD, List.replicate, rowsOf, forall_eq, Nat.reduceMul, ↓zD, zT, em]
    refine .go (CallT.of_runs s2 (by simp [D.isPureL, D.isPure])) ?_
    simp only [Int.reduceToNat, Int.reduceLT, Int.reduceLE, Int.reduceBEq, Int.reduceBNe, St0, argFr, ↓callZ, ↓midZ, ↓unZ, ↓thenW, ↓blockW, ↓opX, ↓opV, ↓pX, ↓pW, ↓putK, ↓putP, ↓atK, ↓normK, ↓postZ, ↓reduceIte, reduceIte, Nat.reduceEqDiff, Nat.reduceAdd, Nat.reduceBEq, Nat.reduceLT, Nat.reduceLeDiff, binW, bodyQ, ressW, resW, ne_eq, forall_const, reduceCtorEq, implies_true, sets, oneAll, setD, rels, fillE, fillD, List.replicate, rowsOf, forall_eq, Nat.reduceMul, ↓zD, zT, rr_len, n1, n2, b1]
    refine wpS_loop (fun a : Nat => [(122, .int .i64 a), (121, .int .i64 A), (10, .ref 4 3 0 0), (8, .ref 3 3 0 0), (7, .int .i64 t), (5, .ref 2 4 0 0)]) (fun _ => ⟨5, [(4, ⟨3, [[.int .i64 rs.length, .sl 1 (us V2), .sl 1 (rr THEN)]]⟩), (3, ⟨3, [[.int .i64 rs.length, .sl 1 (us V1), .sl 1 (rr NOW)]]⟩), (2, ⟨4, [[.int .i64 A, .int .i64 F, .int .i64 T, .sl 2 (runR b)]]⟩)]⟩)
      (fun a => a ≤ A) (fun a => A - a) 0 (Nat.zero_le _) ?_ ?_
    · (refine Weak.same ?_; simp [sameF, Fr.get])
    intro a ha
    refine wpS_go mixed ?_
    by_cases hal : a < A
    case neg =>
      have hd2 : ¬ ((a : Int) < (A : Int)) := by omega
      simp only [Int.reduceToNat, Int.reduceLT, Int.reduceLE, Int.reduceBEq, Int.reduceBNe, St0, argFr, ↓callZ, ↓midZ, ↓unZ, ↓thenW, ↓blockW, ↓opX, ↓opV, ↓pX, ↓pW, ↓putK, ↓putP, ↓atK, ↓normK, ↓postZ, ↓reduceIte, reduceIte, Nat.reduceEqDiff, Nat.reduceAdd, Nat.reduceBEq, Nat.reduceLT, Nat.reduceLeDiff, binW, bodyQ, ressW, resW, ne_eq, forall_const, reduceCtorEq, implies_true, sets, oneAll, setD, rels, fillE, fillD, List.replicate, rowsOf, forall_eq, Nat.reduceMul, ↓zD, zT, hd2]
      (repeat refine And.intro (by first | omega | exact ui_nonneg _ | exact Int.natCast_nonneg _ | rfl | exact rows_one' _ _ | exact us_one _ | (intro _ h; cases h; done)) ?_)
      refine ⟨t + 1, ⟨by omega, by omega⟩, ?_, by omega⟩
      (refine Weak.ren [] [2] (by simp) (by simp) (by decide) ?_; simp only [stay1, vwL, vw, vwF, sw, St.get, St.look, Fr.get, ↓reduceIte, reduceIte, Nat.reduceEqDiff, Nat.reduceAdd, Nat.reduceBEq, Nat.reduceLT, Nat.reduceLeDiff, exists_eq_left', ne_eq, reduceCtorEq, zR])
      exact wrap_i64 (by omega)
    have hd2 : ((a : Int) < (A : Int)) := by omega
    have hw2 := hword a hal
    have u1 := rr_get NOW (show a < NOW.length by omega)
    have u2 := rr_get THEN (show a < THEN.length by omega)
    rw [g1 a hal] at u1
    rw [g2 a hal] at u2
    have v1 := r1 a
    have v2 := r2 a
    generalize relR b (timeL rs.length t) a = X at u1 v1 hw2
    generalize relR b (timeL rs.length (t - 1)) a = Y at u2 v2 hw2
    simp only [Int.reduceToNat, Int.reduceLT, Int.reduceLE, Int.reduceBEq, Int.reduceBNe, St0, argFr, ↓callZ, ↓midZ, ↓unZ, ↓thenW, ↓blockW, ↓opX, ↓opV, ↓pX, ↓pW, ↓putK, ↓putP, ↓atK, ↓normK, ↓postZ, ↓reduceIte, reduceIte, Nat.reduceEqDiff, Nat.reduceAdd, Nat.reduceBEq, Nat.reduceLT, Nat.reduceLeDiff, binW, bodyQ, ressW, resW, ne_eq, forall_const, reduceCtorEq, implies_true, sets, oneAll, setD, rels, fillE, fillD, List.replicate, rowsOf, forall_eq, Nat.reduceMul, ↓zD, zT, hd2, rr_len, n1, n2, u1, u2, us_len, v1, v2, runR_len, hRl, b1]
    (repeat refine And.intro (by first | omega | exact ui_nonneg _ | exact Int.natCast_nonneg _ | rfl | exact rows_one' _ _ | exact us_one _ | (intro _ h; cases h; done)) ?_)
    refine wpS_loop (fun w : Nat => [(153, .int .i64 w), (152, .int .i64 rs.length), (122, .int .i64 a), (121, .int .i64 A), (12, .int .i64 a), (10, .ref 4 3 0 0), (8, .ref 3 3 0 0), (7, .int .i64 t), (5, .ref 2 4 0 0)]) (fun _ => ⟨5, [(4, ⟨3, [[.int .i64 rs.length, .sl 1 (us V2), .sl 1 (rr THEN)]]⟩), (3, ⟨3, [[.int .i64 rs.length, .sl 1 (us V1), .sl 1 (rr NOW)]]⟩), (2, ⟨4, [[.int .i64 A, .int .i64 F, .int .i64 T, .sl 2 (runR b)]]⟩)]⟩)
      (fun w => w ≤ rs.length) (fun w => rs.length - w) 0 (Nat.zero_le _) ?_ ?_
    · (refine Weak.same ?_; simp [sameF, Fr.get])
    intro w hw
    refine wpS_go mixed ?_
    by_cases hwl : w < rs.length
    case neg =>
      have hd3 : ¬ ((w : Int) < (rs.length : Int)) := by omega
      simp only [Int.reduceToNat, Int.reduceLT, Int.reduceLE, Int.reduceBEq, Int.reduceBNe, St0, argFr, ↓callZ, ↓midZ, ↓unZ, ↓thenW, ↓blockW, ↓opX, ↓opV, ↓pX, ↓pW, ↓putK, ↓putP, ↓atK, ↓normK, ↓postZ, ↓reduceIte, reduceIte, Nat.reduceEqDiff, Nat.reduceAdd, Nat.reduceBEq, Nat.reduceLT, Nat.reduceLeDiff, binW, bodyQ, ressW, resW, ne_eq, forall_const, reduceCtorEq, implies_true, sets, oneAll, setD, rels, fillE, fillD, List.replicate, rowsOf, forall_eq, Nat.reduceMul, ↓zD, zT, hd3]
      (repeat refine And.intro (by first | omega | exact ui_nonneg _ | exact Int.natCast_nonneg _ | rfl | exact rows_one' _ _ | exact us_one _ | (intro _ h; cases h; done)) ?_)
      refine ⟨a + 1, by omega, ?_, by omega⟩
      (refine Weak.same ?_; simp only [sameF, Fr.get, ↓reduceIte, reduceIte, Nat.reduceEqDiff, reduceCtorEq, D.int.injEq, D.bool.injEq, D.sl.injEq, and_true, true_and, and_self])
      exact wrap_i64 (by omega)
    have hd3 : ((w : Int) < (rs.length : Int)) := by omega
    have w1 := us_get X (show w < X.length by omega)
    have w2 := us_get Y (show w < Y.length by omega)
    have hw3 := hw2 w hwl
    simp only [Int.reduceToNat, Int.reduceLT, Int.reduceLE, Int.reduceBEq, Int.reduceBNe, St0, argFr, ↓callZ, ↓midZ, ↓unZ, ↓thenW, ↓blockW, ↓opX, ↓opV, ↓pX, ↓pW, ↓putK, ↓putP, ↓atK, ↓normK, ↓postZ, ↓reduceIte, reduceIte, Nat.reduceEqDiff, Nat.reduceAdd, Nat.reduceBEq, Nat.reduceLT, Nat.reduceLeDiff, binW, bodyQ, ressW, resW, ne_eq, forall_const, reduceCtorEq, implies_true, sets, oneAll, setD, rels, fillE, fillD, List.replicate, rowsOf, forall_eq, Nat.reduceMul, ↓zD, zT, hd3, rr_len, n1, n2, u1, u2, us_len, v1, v2, w1, w2, hw3]
    (repeat refine And.intro (by first | omega | exact ui_nonneg _ | exact Int.natCast_nonneg _ | rfl | exact rows_one' _ _ | exact us_one _ | (intro _ h; cases h; done)) ?_)
    refine ⟨w + 1, by omega, ?_, by omega⟩
    (refine Weak.same ?_; simp only [sameF, Fr.get, ↓reduceIte, reduceIte, Nat.reduceEqDiff, reduceCtorEq, D.int.injEq, D.bool.injEq, D.sl.injEq, and_true, true_and, and_self])
    exact wrap_i64 (by omega)
end Go.Pd
