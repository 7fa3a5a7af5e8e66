/- Package model: the law ModelNames. -/
import Derived.Test.YtkinhajadppfaaaDoorLp
set_option linter.unusedSectionVars false
set_option linter.unusedVariables false
set_option linter.unusedSimpArgs false
set_option linter.defProp false
set_option maxRecDepth 20000
namespace Go.Pd
open Go Go.Proofs
structure BakI (to : List Int) (w : Nat) (ws : List Int) : Prop where
  le : w ≤ to.length
  len : ws.length = to.length
  at_ : ∀ v, v < w → ws.getD (to.getD v 0).toNat 0 = v
theorem BakI.next {to : List Int} {w : Nat} {ws : List Int} (hp : isPerm to = true) (h : BakI to w ws) (hw : w < to.length) : BakI to (w + 1) (ws.set (to.getD w 0).toNat w) := by
  refine ⟨by omega, by simp [h.len], fun v hv => ?_⟩
  have hrw := perm_range hp w hw
  by_cases e : v = w
  · subst e
    have : (to.getD v 0).toNat < ws.length := by rw [h.len]; omega
    generalize (to.getD v 0).toNat = t at *
    simp [List.getD, this]
  · have hne := perm_dup hp (show v < w by omega) hw
    have hr := perm_range hp v (by omega)
    have := h.at_ v (by omega)
    rw [← this]
    generalize to.getD v 0 = x at *
    generalize to.getD w 0 = y at *
    simp only [List.getD]
    rw [List.getElem?_set_ne (by omega)]
theorem BakI.last {to : List Int} {ws : List Int} (hp : isPerm to = true) (h : BakI to to.length ws) : ws = invK to to.length := by
  refine List.ext_getElem (by rw [h.len, invK_len]) fun i h1 h2 => ?_
  obtain ⟨v, hv, e⟩ := perm_hit hp (i := i) (by rw [← h.len]; exact h1)
  have e1 := h.at_ v hv
  have e2 := invK_at hp hv e
  rw [e, Int.toNat_natCast] at e1
  simp only [List.getD, List.getElem?_eq_getElem h1, List.getElem?_eq_getElem h2, Option.getD_some] at e1 e2
  rw [e1, e2]

theorem modelNames_runs (m : Mod) (to : List Int) : Runs Tryd.prog 9 [m.d, .sl 1 (rows .i64 to)] (.bool true) := by
  refine CallT.go_fn mixed Tryd.func9 k9 (by simp) fun hf => ?_
  simp only [Int.reduceToNat, Int.reduceLT, Int.reduceLE, Int.reduceBEq, Int.reduceBNe, St0, argFr, ↓thenW, ↓blockW, ↓opX, ↓opV, ↓pX, ↓pW, ↓putK, ↓putP, ↓atK, ↓normK, ↓postZ, evO, Fr.get, Fr.put, ↓reduceIte, reduceIte, Nat.reduceEqDiff, Nat.reduceAdd, Nat.reduceBEq, Nat.reduceLT, Nat.reduceLeDiff, binW, bodyQ, ressW, resW, ne_eq, forall_const, reduceCtorEq, implies_true, sets, oneAll, St.new, St.get, St.look, St.set, setL, setD, rels, fillE, fillD, List.replicate, rowsOf, forall_eq, eraseL, St.erase, Nat.reduceMul, ↓zD, zT, Mod.d]
  refine .go (CallT.of_runs awake_runs rfl) ?_
  simp only [Int.reduceToNat, Int.reduceLT, Int.reduceLE, Int.reduceBEq, Int.reduceBNe, St0, argFr, ↓thenW, ↓blockW, ↓opX, ↓opV, ↓pX, ↓pW, ↓putK, ↓putP, ↓atK, ↓normK, ↓postZ, evO, Fr.get, Fr.put, ↓reduceIte, reduceIte, Nat.reduceEqDiff, Nat.reduceAdd, Nat.reduceBEq, Nat.reduceLT, Nat.reduceLeDiff, binW, bodyQ, ressW, resW, ne_eq, forall_const, reduceCtorEq, implies_true, sets, oneAll, St.new, St.get, St.look, St.set, setL, setD, rels, fillE, fillD, List.replicate, rowsOf, forall_eq, eraseL, St.erase, Nat.reduceMul, ↓zD, zT, Mod.d]
  refine .go (CallT.of_runs (few_runs m) rfl) ?_
  cases hfew : m.few
  · simp only [Int.reduceToNat, Int.reduceLT, Int.reduceLE, Int.reduceBEq, Int.reduceBNe, St0, argFr, ↓thenW, ↓blockW, ↓opX, ↓opV, ↓pX, ↓pW, ↓putK, ↓putP, ↓atK, ↓normK, ↓postZ, evO, Fr.get, Fr.put, ↓reduceIte, reduceIte, Nat.reduceEqDiff, Nat.reduceAdd, Nat.reduceBEq, Nat.reduceLT, Nat.reduceLeDiff, binW, bodyQ, ressW, resW, ne_eq, forall_const, reduceCtorEq, implies_true, sets, oneAll, St.new, St.get, St.look, St.set, setL, setD, rels, fillE, fillD, List.replicate, rowsOf, forall_eq, eraseL, St.erase, Nat.reduceMul, ↓zD, zT]
    refine .go (CallT.of_runs awake_runs rfl) ?_
    simp only [Int.reduceToNat, Int.reduceLT, Int.reduceLE, Int.reduceBEq, Int.reduceBNe, St0, argFr, ↓thenW, ↓blockW, ↓opX, ↓opV, ↓pX, ↓pW, ↓putK, ↓putP, ↓atK, ↓normK, ↓postZ, evO, Fr.get, Fr.put, ↓reduceIte, reduceIte, Nat.reduceEqDiff, Nat.reduceAdd, Nat.reduceBEq, Nat.reduceLT, Nat.reduceLeDiff, binW, bodyQ, ressW, resW, ne_eq, forall_const, reduceCtorEq, implies_true, sets, oneAll, St.new, St.get, St.look, St.set, setL, setD, rels, fillE, fillD, List.replicate, rowsOf, forall_eq, eraseL, St.erase, Nat.reduceMul, ↓zD, zT]
    exact .drop (by simp) (by simp [vw])
  simp only [Int.reduceToNat, Int.reduceLT, Int.reduceLE, Int.reduceBEq, Int.reduceBNe, St0, argFr, ↓thenW, ↓blockW, ↓opX, ↓opV, ↓pX, ↓pW, ↓putK, ↓putP, ↓atK, ↓normK, ↓postZ, evO, Fr.get, Fr.put, ↓reduceIte, reduceIte, Nat.reduceEqDiff, Nat.reduceAdd, Nat.reduceBEq, Nat.reduceLT, Nat.reduceLeDiff, binW, bodyQ, ressW, resW, ne_eq, forall_const, reduceCtorEq, implies_true, sets, oneAll, St.new, St.get, St.look, St.set, setL, setD, rels, fillE, fillD, List.replicate, rowsOf, forall_eq, eraseL, St.erase, Nat.reduceMul, ↓zD, zT, Mod.d]
  refine .go (CallT.of_runs (refCheck_runs m) rfl) ?_
  by_cases hc : m.check = 0
  · obtain ⟨c1, c2, c3, c4, c5, c6, c7⟩ := Mod.check_zero hc
    simp only [Int.reduceToNat, Int.reduceLT, Int.reduceLE, Int.reduceBEq, Int.reduceBNe, St0, argFr, ↓thenW, ↓blockW, ↓opX, ↓opV, ↓pX, ↓pW, ↓putK, ↓putP, ↓atK, ↓normK, ↓postZ, evO, Fr.get, Fr.put, ↓reduceIte, reduceIte, Nat.reduceEqDiff, Nat.reduceAdd, Nat.reduceBEq, Nat.reduceLT, Nat.reduceLeDiff, binW, bodyQ, ressW, resW, ne_eq, forall_const, reduceCtorEq, implies_true, sets, oneAll, St.new, St.get, St.look, St.set, setL, setD, rels, fillE, fillD, List.replicate, rowsOf, forall_eq, eraseL, St.erase, Nat.reduceMul, ↓zD, zT, hc]
    refine .go (CallT.of_runs (rename_runs m to) rfl) ?_
    by_cases hok : (to.length : Int) = m.W ∧ isPerm to = true
    · obtain ⟨hl, hp⟩ := hok
      have e : m.rename to = (m.take (invK to to.length), 0) := by simp [Mod.rename, hc, hl, hp]
      rw [e]
      have hil := invK_len to to.length
      have hn1 : 1 ≤ to.length := by omega
      have hn64 : to.length ≤ 64 := by omega
      have hNc := take_check (l := invK to to.length) hc (by omega) (by omega)
      have hNW : (m.take (invK to to.length)).W = m.W := by show ((invK to to.length).length : Int) = m.W; rw [hil]; exact hl
      have hNR : (m.take (invK to to.length)).R.length = m.R.length := by simp [Mod.take]
      have hNRa : ∀ a, a < m.R.length → (m.take (invK to to.length)).R.getD a [] = rowOf (m.R.getD a []) (invK to to.length) := by
        intro a ha
        simp [Mod.take, List.getD, ha]
      have hNf : ∀ w, w < to.length → (m.take (invK to to.length)).facts (to.getD w 0) = m.facts (w : Int) := by
        intro w hw
        have hr := perm_range hp w hw
        have hi := to_inv hp hw
        have hf := facts_take (l := invK to to.length) hc (by omega) (i := (to.getD w 0).toNat) (by omega) (by omega) (by omega)
        rw [hi] at hf
        rw [← hf]
        congr 1
        omega
      have hback : (m.take (invK to to.length)).rename (invK to to.length) = (m, 0) := by
        unfold Mod.rename
        rw [if_neg (by omega), if_neg (by rw [hil, hNW]; omega), if_pos (inv_perm hp), hil, inv_inv hp]
        rw [take_take (by omega) (fun x hx => by
          rw [hil]
          obtain ⟨v, hv, rfl⟩ := List.getElem_of_mem hx
          have := perm_range hp v hv
          simp only [List.getD, List.getElem?_eq_getElem hv, Option.getD_some] at this
          exact this), at_inv hp, take_id hc hl.symm]
      generalize hNe : m.take (invK to to.length) = N at *
      simp only [Int.reduceToNat, Int.reduceLT, Int.reduceLE, Int.reduceBEq, Int.reduceBNe, St0, argFr, ↓thenW, ↓blockW, ↓opX, ↓opV, ↓pX, ↓pW, ↓putK, ↓putP, ↓atK, ↓normK, ↓postZ, evO, Fr.get, Fr.put, ↓reduceIte, reduceIte, Nat.reduceEqDiff, Nat.reduceAdd, Nat.reduceBEq, Nat.reduceLT, Nat.reduceLeDiff, binW, bodyQ, ressW, resW, ne_eq, forall_const, reduceCtorEq, implies_true, sets, oneAll, St.new, St.get, St.look, St.set, setL, setD, rels, fillE, fillD, List.replicate, rowsOf, forall_eq, eraseL, St.erase, Nat.reduceMul, ↓zD, zT, unD, Mod.d, hNW, hl, hNR]
      (repeat (first | refine And.intro (by omega) ?_ | refine And.intro rfl ?_))
      have hne : rows .i64 (List.replicate to.length 0) ≠ [] := by
        intro e
        have := congrArg List.length e
        simp [rows] at this
        subst this; simp at hn1
      have e1 : D.osl 2 1 to.length = growD 2 1 (rows .i64 (List.replicate to.length 0)) := by rw [← osl_grow hne]; simp [rows]
      simp only [rows_replicate, obj_grow hne, e1, ← hl, Int.toNat_natCast]
      refine wpS_loopW (fun p : Nat × List Int => [(69, .int .i64 p.1), (68, .int .i64 to.length), (67, .sl 1 (rows .i64 to)), (7, growD 2 1 (rows .i64 p.2)), (5, .ref 1 3 0 0), (2, .ref 0 3 0 0), (1, .sl 1 (rows .i64 to))])
        (fun p => ⟨3, growO 2 1 (rows .i64 p.2) ++ [(1, ⟨3, [[.int .i64 to.length, .sl 1 (us N.V), .sl 1 (rr N.R)]]⟩), (0, ⟨3, [[.int .i64 to.length, .sl 1 (us m.V), .sl 1 (rr m.R)]]⟩)]⟩) (fun p => BakI to p.1 p.2) (fun p => to.length - p.1) (0, List.replicate to.length 0) ⟨Nat.zero_le _, by simp, fun v h => by omega⟩ ?_ ?_
      · (refine Weak.same ?_; simp [sameF, Fr.get])
      rintro ⟨w, ws⟩ hI
      refine wpS_go mixed ?_
      simp only at hI
      have hIle := hI.le
      have hIlen := hI.len
      by_cases h : w < to.length
      · have hd : ((w : Int) < (to.length : Int)) := by omega
        have hu := wrap_up (k := w) (by omega)
        have hn := hI.next hp h
        have hr := perm_range hp w h
        have hf := hNf w h
        generalize hx : to.getD w 0 = x at *
        have hx0 : ¬ x < 0 := by omega
        have hx1 : ¬ ((ws.length : Int) ≤ x) := by omega
        have hxl : x.toNat < ws.length := by omega
        simp only [Int.reduceToNat, Int.reduceLT, Int.reduceLE, Int.reduceBEq, Int.reduceBNe, St0, argFr, ↓thenW, ↓blockW, ↓opX, ↓opV, ↓pX, ↓pW, ↓putK, ↓putP, ↓atK, ↓normK, ↓postZ, evO, Fr.get, Fr.put, ↓reduceIte, reduceIte, Nat.reduceEqDiff, Nat.reduceAdd, Nat.reduceBEq, Nat.reduceLT, Nat.reduceLeDiff, binW, bodyQ, ressW, resW, ne_eq, forall_const, reduceCtorEq, implies_true, sets, oneAll, St.new, St.get, St.look, St.set, setL, setD, rels, fillE, fillD, List.replicate, rowsOf, forall_eq, eraseL, St.erase, Nat.reduceMul, ↓zD, zT, hd, rows_get _ _ h, hx, hx0, hx1]
        (repeat (first | refine And.intro (by omega) ?_ | refine And.intro rfl ?_))
        rw [hl, ← hNW]
        refine .go (CallT.of_runs (facts_runs N x) rfl) ?_
        rw [hNW]
        simp only [Int.reduceToNat, Int.reduceLT, Int.reduceLE, Int.reduceBEq, Int.reduceBNe, St0, argFr, ↓thenW, ↓blockW, ↓opX, ↓opV, ↓pX, ↓pW, ↓putK, ↓putP, ↓atK, ↓normK, ↓postZ, evO, Fr.get, Fr.put, ↓reduceIte, reduceIte, Nat.reduceEqDiff, Nat.reduceAdd, Nat.reduceBEq, Nat.reduceLT, Nat.reduceLeDiff, binW, bodyQ, ressW, resW, ne_eq, forall_const, reduceCtorEq, implies_true, sets, oneAll, St.new, St.get, St.look, St.set, setL, setD, rels, fillE, fillD, List.replicate, rowsOf, forall_eq, eraseL, St.erase, Nat.reduceMul, ↓zD, zT]
        (repeat (first | refine And.intro (by omega) ?_ | refine And.intro rfl ?_))
        refine .go (CallT.of_runs (facts_runs m w) rfl) ?_
        rw [← hl]
        simp only [Int.reduceToNat, Int.reduceLT, Int.reduceLE, Int.reduceBEq, Int.reduceBNe, St0, argFr, ↓thenW, ↓blockW, ↓opX, ↓opV, ↓pX, ↓pW, ↓putK, ↓putP, ↓atK, ↓normK, ↓postZ, evO, Fr.get, Fr.put, ↓reduceIte, reduceIte, Nat.reduceEqDiff, Nat.reduceAdd, Nat.reduceBEq, Nat.reduceLT, Nat.reduceLeDiff, binW, bodyQ, ressW, resW, ne_eq, forall_const, reduceCtorEq, implies_true, sets, oneAll, St.new, St.get, St.look, St.set, setL, setD, rels, fillE, fillD, List.replicate, rowsOf, forall_eq, eraseL, St.erase, Nat.reduceMul, ↓zD, zT, hf, hu, rows_set, rows_get _ _ hxl]
        (repeat (first | refine And.intro (by omega) ?_ | refine And.intro rfl ?_))
        refine ⟨(w + 1, ws.set x.toNat w), hn, ?_, by simp only; omega⟩
        rw [growD_len (show (rows .i64 ws).length = (rows .i64 (ws.set x.toNat (w : Int))).length by simp [rows])]
        (refine Weak.same ?_; simp only [sameF, Fr.get, ↓reduceIte, reduceIte, Nat.reduceEqDiff, reduceCtorEq, D.int.injEq, D.bool.injEq, D.sl.injEq, and_true, true_and, and_self])
      · have hd : ¬ ((w : Int) < (to.length : Int)) := by omega
        have hw' : w = to.length := by omega
        subst hw'
        have hlast := hI.last hp
        subst hlast
        simp only [Int.reduceToNat, Int.reduceLT, Int.reduceLE, Int.reduceBEq, Int.reduceBNe, St0, argFr, ↓thenW, ↓blockW, ↓opX, ↓opV, ↓pX, ↓pW, ↓putK, ↓putP, ↓atK, ↓normK, ↓postZ, evO, Fr.get, Fr.put, ↓reduceIte, reduceIte, Nat.reduceEqDiff, Nat.reduceAdd, Nat.reduceBEq, Nat.reduceLT, Nat.reduceLeDiff, binW, bodyQ, ressW, resW, ne_eq, forall_const, reduceCtorEq, implies_true, sets, oneAll, St.new, St.get, St.look, St.set, setL, setD, rels, fillE, fillD, List.replicate, rowsOf, forall_eq, eraseL, St.erase, Nat.reduceMul, ↓zD, zT, hd]
        (repeat (first | refine And.intro (by omega) ?_ | refine And.intro rfl ?_))
        refine .go [(7, .sl 1 (rows .i64 (invK to to.length))), (5, .ref 1 3 0 0), (2, .ref 0 3 0 0), (1, .sl 1 (rows .i64 to))]
          ⟨3, [(1, ⟨3, [[.int .i64 to.length, .sl 1 (us N.V), .sl 1 (rr N.R)]]⟩), (0, ⟨3, [[.int .i64 to.length, .sl 1 (us m.V), .sl 1 (rr m.R)]]⟩)]⟩ ?_ ?_
        · (refine Weak.ren [] [1, 0] (by simp) (by simp) (by decide) ?_; simp only [stay1, vwL, vw, vwF, sw, St.get, St.look, Fr.get, ↓reduceIte, reduceIte, Nat.reduceEqDiff, Nat.reduceAdd, Nat.reduceBEq, Nat.reduceLT, Nat.reduceLeDiff, exists_eq_left', ne_eq, reduceCtorEq, zR])
        simp only [Int.reduceToNat, Int.reduceLT, Int.reduceLE, Int.reduceBEq, Int.reduceBNe, St0, argFr, ↓thenW, ↓blockW, ↓opX, ↓opV, ↓pX, ↓pW, ↓putK, ↓putP, ↓atK, ↓normK, ↓postZ, evO, Fr.get, Fr.put, ↓reduceIte, reduceIte, Nat.reduceEqDiff, Nat.reduceAdd, Nat.reduceBEq, Nat.reduceLT, Nat.reduceLeDiff, binW, bodyQ, ressW, resW, ne_eq, forall_const, reduceCtorEq, implies_true, sets, oneAll, St.new, St.get, St.look, St.set, setL, setD, rels, fillE, fillD, List.replicate, rowsOf, forall_eq, eraseL, St.erase, Nat.reduceMul, ↓zD, zT]
        (repeat (first | refine And.intro (by omega) ?_ | refine And.intro rfl ?_))
        refine wpS_loop (fun a : Nat => [(99, .int .i64 a), (98, .int .i64 m.R.length), (7, .sl 1 (rows .i64 (invK to to.length))), (5, .ref 1 3 0 0), (2, .ref 0 3 0 0), (1, .sl 1 (rows .i64 to))])
          (fun _ => ⟨3, [(1, ⟨3, [[.int .i64 to.length, .sl 1 (us N.V), .sl 1 (rr N.R)]]⟩), (0, ⟨3, [[.int .i64 to.length, .sl 1 (us m.V), .sl 1 (rr m.R)]]⟩)]⟩) (fun a => a ≤ m.R.length) (fun a => m.R.length - a) 0 (Nat.zero_le _) ?_ ?_
        · (refine Weak.same ?_; simp [sameF, Fr.get])
        intro a ha
        refine wpS_go mixed ?_
        by_cases h4 : a < m.R.length
        · have hd4 : ((a : Int) < (m.R.length : Int)) := by omega
          have hw4 := wrap_up (k := a) (by omega)
          have hra := hNRa a h4
          have hrm := c5 _ (getD_mem (l := m.R) [] h4)
          have h4N : a < N.R.length := by omega
          simp only [Int.reduceToNat, Int.reduceLT, Int.reduceLE, Int.reduceBEq, Int.reduceBNe, St0, argFr, ↓thenW, ↓blockW, ↓opX, ↓opV, ↓pX, ↓pW, ↓putK, ↓putP, ↓atK, ↓normK, ↓postZ, evO, Fr.get, Fr.put, ↓reduceIte, reduceIte, Nat.reduceEqDiff, Nat.reduceAdd, Nat.reduceBEq, Nat.reduceLT, Nat.reduceLeDiff, binW, bodyQ, ressW, resW, ne_eq, forall_const, reduceCtorEq, implies_true, sets, oneAll, St.new, St.get, St.look, St.set, setL, setD, rels, fillE, fillD, List.replicate, rowsOf, forall_eq, eraseL, St.erase, Nat.reduceMul, ↓zD, zT, hd4]
          (repeat (first | refine And.intro (by omega) ?_ | refine And.intro rfl ?_))
          refine wpS_loop (fun w : Nat => [(104, .int .i64 w), (103, .int .i64 to.length), (10, .int .i64 a), (99, .int .i64 a), (98, .int .i64 m.R.length), (7, .sl 1 (rows .i64 (invK to to.length))), (5, .ref 1 3 0 0), (2, .ref 0 3 0 0), (1, .sl 1 (rows .i64 to))])
            (fun _ => ⟨3, [(1, ⟨3, [[.int .i64 to.length, .sl 1 (us N.V), .sl 1 (rr N.R)]]⟩), (0, ⟨3, [[.int .i64 to.length, .sl 1 (us m.V), .sl 1 (rr m.R)]]⟩)]⟩) (fun w => w ≤ to.length) (fun w => to.length - w) 0 (Nat.zero_le _) ?_ ?_
          · (refine Weak.same ?_; simp [sameF, Fr.get])
          intro w hwl
          refine wpS_go mixed ?_
          by_cases h5 : w < to.length
          · have hd5 : ((w : Int) < (to.length : Int)) := by omega
            have hw5 := wrap_up (k := w) (by omega)
            simp only [Int.reduceToNat, Int.reduceLT, Int.reduceLE, Int.reduceBEq, Int.reduceBNe, St0, argFr, ↓thenW, ↓blockW, ↓opX, ↓opV, ↓pX, ↓pW, ↓putK, ↓putP, ↓atK, ↓normK, ↓postZ, evO, Fr.get, Fr.put, ↓reduceIte, reduceIte, Nat.reduceEqDiff, Nat.reduceAdd, Nat.reduceBEq, Nat.reduceLT, Nat.reduceLeDiff, binW, bodyQ, ressW, resW, ne_eq, forall_const, reduceCtorEq, implies_true, sets, oneAll, St.new, St.get, St.look, St.set, setL, setD, rels, fillE, fillD, List.replicate, rowsOf, forall_eq, eraseL, St.erase, Nat.reduceMul, ↓zD, zT, hd5]
            (repeat (first | refine And.intro (by omega) ?_ | refine And.intro rfl ?_))
            refine wpS_loop (fun v : Nat => [(109, .int .i64 v), (108, .int .i64 to.length), (11, .int .i64 w), (104, .int .i64 w), (103, .int .i64 to.length), (10, .int .i64 a), (99, .int .i64 a), (98, .int .i64 m.R.length), (7, .sl 1 (rows .i64 (invK to to.length))), (5, .ref 1 3 0 0), (2, .ref 0 3 0 0), (1, .sl 1 (rows .i64 to))])
              (fun _ => ⟨3, [(1, ⟨3, [[.int .i64 to.length, .sl 1 (us N.V), .sl 1 (rr N.R)]]⟩), (0, ⟨3, [[.int .i64 to.length, .sl 1 (us m.V), .sl 1 (rr m.R)]]⟩)]⟩) (fun v => v ≤ to.length) (fun v => to.length - v) 0 (Nat.zero_le _) ?_ ?_
            · (refine Weak.same ?_; simp [sameF, Fr.get])
            intro v hvl
            refine wpS_go mixed ?_
            by_cases h6 : v < to.length
            · have hd6 : ((v : Int) < (to.length : Int)) := by omega
              have hw6 := wrap_up (k := v) (by omega)
              have hrw := perm_range hp w h5
              have hrv := perm_range hp v h6
              have hiw := to_inv hp h5
              have hiv := to_inv hp h6
              have hrl : (rowOf (m.R.getD a []) (invK to to.length)).length = to.length := by simp [rowOf, hil]
              have hlb : (((rowOf (m.R.getD a []) (invK to to.length)).length : Int) != (to.length : Int)) = false := by rw [hrl]; simp
              have hrx := row_at (r := m.R.getD a []) (l := invK to to.length) (w := (to.getD w 0).toNat) (by omega)
              rw [hiw, Int.toNat_natCast] at hrx
              have hbit : (m.R.getD a []).getD w 0 >>> v &&& 1#64 = pullS ((m.R.getD a []).getD w 0) (invK to to.length) >>> (to.getD v 0).toNat &&& 1#64 := by
                rw [bit_and1, bit_and1, pullS_bit, hiv, hasS_nat]
                have h1 : (to.getD v 0).toNat < 64 := by omega
                have h2 : (to.getD v 0).toNat < (invK to to.length).length := by omega
                simp only [h1, h2, decide_true, Bool.true_and]
              generalize hxw : to.getD w 0 = x at *
              generalize hyv : to.getD v 0 = y at *
              have hxr : x.toNat < (rowOf (m.R.getD a []) (invK to to.length)).length := by omega
              have hwr : w < (m.R.getD a []).length := by omega
              generalize rowOf (m.R.getD a []) (invK to to.length) = q at *
              generalize hre : m.R.getD a [] = r at *
              have hxr' : x < (q.length : Int) := by omega
              have hwr' : (w : Int) < (r.length : Int) := by omega
              simp only [Int.reduceToNat, Int.reduceLT, Int.reduceLE, Int.reduceBEq, Int.reduceBNe, St0, argFr, ↓thenW, ↓blockW, ↓opX, ↓opV, ↓pX, ↓pW, ↓putK, ↓putP, ↓atK, ↓normK, ↓postZ, evO, Fr.get, Fr.put, ↓reduceIte, reduceIte, Nat.reduceEqDiff, Nat.reduceAdd, Nat.reduceBEq, Nat.reduceLT, Nat.reduceLeDiff, binW, bodyQ, ressW, resW, ne_eq, forall_const, reduceCtorEq, implies_true, sets, oneAll, St.new, St.get, St.look, St.set, setL, setD, rels, fillE, fillD, List.replicate, rowsOf, forall_eq, eraseL, St.erase, Nat.reduceMul, ↓zD, zT, hd6, hw6, rr_get _ h4N, hra, hrl, rr_get _ h4, hre, us_get _ hwr, rows_get _ _ h5, hxw, rows_get _ _ h6, hyv, us_get _ hxr, hrx, hbit]
              (repeat (first | refine And.intro (by omega) ?_ | refine And.intro rfl ?_))
              refine ⟨v + 1, by omega, ?_, by omega⟩
              (refine Weak.same ?_; simp only [sameF, Fr.get, ↓reduceIte, reduceIte, Nat.reduceEqDiff, reduceCtorEq, D.int.injEq, D.bool.injEq, D.sl.injEq, and_true, true_and, and_self])
            · have hd6 : ¬ ((v : Int) < (to.length : Int)) := by omega
              simp only [Int.reduceToNat, Int.reduceLT, Int.reduceLE, Int.reduceBEq, Int.reduceBNe, St0, argFr, ↓thenW, ↓blockW, ↓opX, ↓opV, ↓pX, ↓pW, ↓putK, ↓putP, ↓atK, ↓normK, ↓postZ, evO, Fr.get, Fr.put, ↓reduceIte, reduceIte, Nat.reduceEqDiff, Nat.reduceAdd, Nat.reduceBEq, Nat.reduceLT, Nat.reduceLeDiff, binW, bodyQ, ressW, resW, ne_eq, forall_const, reduceCtorEq, implies_true, sets, oneAll, St.new, St.get, St.look, St.set, setL, setD, rels, fillE, fillD, List.replicate, rowsOf, forall_eq, eraseL, St.erase, Nat.reduceMul, ↓zD, zT, hd6, hw5]
              (repeat (first | refine And.intro (by omega) ?_ | refine And.intro rfl ?_))
              refine ⟨w + 1, by omega, ?_, by omega⟩
              (refine Weak.same ?_; simp only [sameF, Fr.get, ↓reduceIte, reduceIte, Nat.reduceEqDiff, reduceCtorEq, D.int.injEq, D.bool.injEq, D.sl.injEq, and_true, true_and, and_self])
          · have hd5 : ¬ ((w : Int) < (to.length : Int)) := by omega
            simp only [Int.reduceToNat, Int.reduceLT, Int.reduceLE, Int.reduceBEq, Int.reduceBNe, St0, argFr, ↓thenW, ↓blockW, ↓opX, ↓opV, ↓pX, ↓pW, ↓putK, ↓putP, ↓atK, ↓normK, ↓postZ, evO, Fr.get, Fr.put, ↓reduceIte, reduceIte, Nat.reduceEqDiff, Nat.reduceAdd, Nat.reduceBEq, Nat.reduceLT, Nat.reduceLeDiff, binW, bodyQ, ressW, resW, ne_eq, forall_const, reduceCtorEq, implies_true, sets, oneAll, St.new, St.get, St.look, St.set, setL, setD, rels, fillE, fillD, List.replicate, rowsOf, forall_eq, eraseL, St.erase, Nat.reduceMul, ↓zD, zT, hd5, hw4]
            (repeat (first | refine And.intro (by omega) ?_ | refine And.intro rfl ?_))
            refine ⟨a + 1, by omega, ?_, by omega⟩
            (refine Weak.same ?_; simp only [sameF, Fr.get, ↓reduceIte, reduceIte, Nat.reduceEqDiff, reduceCtorEq, D.int.injEq, D.bool.injEq, D.sl.injEq, and_true, true_and, and_self])
        · have hd4 : ¬ ((a : Int) < (m.R.length : Int)) := by omega
          simp only [Int.reduceToNat, Int.reduceLT, Int.reduceLE, Int.reduceBEq, Int.reduceBNe, St0, argFr, ↓thenW, ↓blockW, ↓opX, ↓opV, ↓pX, ↓pW, ↓putK, ↓putP, ↓atK, ↓normK, ↓postZ, evO, Fr.get, Fr.put, ↓reduceIte, reduceIte, Nat.reduceEqDiff, Nat.reduceAdd, Nat.reduceBEq, Nat.reduceLT, Nat.reduceLeDiff, binW, bodyQ, ressW, resW, ne_eq, forall_const, reduceCtorEq, implies_true, sets, oneAll, St.new, St.get, St.look, St.set, setL, setD, rels, fillE, fillD, List.replicate, rowsOf, forall_eq, eraseL, St.erase, Nat.reduceMul, ↓zD, zT, hd4]
          (repeat (first | refine And.intro (by omega) ?_ | refine And.intro rfl ?_))
          rw [hl, ← hNW]
          refine .go (CallT.of_runs (rename_runs N (invK to to.length)) rfl) ?_
          rw [hback, hNW]
          simp only [Int.reduceToNat, Int.reduceLT, Int.reduceLE, Int.reduceBEq, Int.reduceBNe, St0, argFr, ↓thenW, ↓blockW, ↓opX, ↓opV, ↓pX, ↓pW, ↓putK, ↓putP, ↓atK, ↓normK, ↓postZ, evO, Fr.get, Fr.put, ↓reduceIte, reduceIte, Nat.reduceEqDiff, Nat.reduceAdd, Nat.reduceBEq, Nat.reduceLT, Nat.reduceLeDiff, binW, bodyQ, ressW, resW, ne_eq, forall_const, reduceCtorEq, implies_true, sets, oneAll, St.new, St.get, St.look, St.set, setL, setD, rels, fillE, fillD, List.replicate, rowsOf, forall_eq, eraseL, St.erase, Nat.reduceMul, ↓zD, zT, unD, Mod.d]
          (repeat (first | refine And.intro (by omega) ?_ | refine And.intro rfl ?_))
          refine .go (CallT.of_runs (refSame_runs m m) rfl) ?_
          rw [same_self]
          simp only [Int.reduceToNat, Int.reduceLT, Int.reduceLE, Int.reduceBEq, Int.reduceBNe, St0, argFr, ↓thenW, ↓blockW, ↓opX, ↓opV, ↓pX, ↓pW, ↓putK, ↓putP, ↓atK, ↓normK, ↓postZ, evO, Fr.get, Fr.put, ↓reduceIte, reduceIte, Nat.reduceEqDiff, Nat.reduceAdd, Nat.reduceBEq, Nat.reduceLT, Nat.reduceLeDiff, binW, bodyQ, ressW, resW, ne_eq, forall_const, reduceCtorEq, implies_true, sets, oneAll, St.new, St.get, St.look, St.set, setL, setD, rels, fillE, fillD, List.replicate, rowsOf, forall_eq, eraseL, St.erase, Nat.reduceMul, ↓zD, zT]
          exact .drop (by simp) (by simp [vw])
    · have e : m.rename to = (.nil, 1) := by
        unfold Mod.rename
        rw [if_neg (by omega)]
        by_cases h : (to.length : Int) = m.W
        · rw [if_neg (by omega), if_neg (fun hp => hok ⟨h, hp⟩)]
        · rw [if_pos h]
      rw [e]
      simp only [Int.reduceToNat, Int.reduceLT, Int.reduceLE, Int.reduceBEq, Int.reduceBNe, St0, argFr, ↓thenW, ↓blockW, ↓opX, ↓opV, ↓pX, ↓pW, ↓putK, ↓putP, ↓atK, ↓normK, ↓postZ, evO, Fr.get, Fr.put, ↓reduceIte, reduceIte, Nat.reduceEqDiff, Nat.reduceAdd, Nat.reduceBEq, Nat.reduceLT, Nat.reduceLeDiff, binW, bodyQ, ressW, resW, ne_eq, forall_const, reduceCtorEq, implies_true, sets, oneAll, St.new, St.get, St.look, St.set, setL, setD, rels, fillE, fillD, List.replicate, rowsOf, forall_eq, eraseL, St.erase, Nat.reduceMul, ↓zD, zT, unD, Mod.d, Mod.nil]
      (repeat (first | refine And.intro (by omega) ?_ | refine And.intro rfl ?_))
      exact .drop (by simp) (by simp [vw])
  · have hb : (m.check != 0) = true := by simp [hc]
    simp only [Int.reduceToNat, Int.reduceLT, Int.reduceLE, Int.reduceBEq, Int.reduceBNe, St0, argFr, ↓thenW, ↓blockW, ↓opX, ↓opV, ↓pX, ↓pW, ↓putK, ↓putP, ↓atK, ↓normK, ↓postZ, evO, Fr.get, Fr.put, ↓reduceIte, reduceIte, Nat.reduceEqDiff, Nat.reduceAdd, Nat.reduceBEq, Nat.reduceLT, Nat.reduceLeDiff, binW, bodyQ, ressW, resW, ne_eq, forall_const, reduceCtorEq, implies_true, sets, oneAll, St.new, St.get, St.look, St.set, setL, setD, rels, fillE, fillD, List.replicate, rowsOf, forall_eq, eraseL, St.erase, Nat.reduceMul, ↓zD, zT, hb]
    refine .go (CallT.of_runs awake_runs rfl) ?_
    simp only [Int.reduceToNat, Int.reduceLT, Int.reduceLE, Int.reduceBEq, Int.reduceBNe, St0, argFr, ↓thenW, ↓blockW, ↓opX, ↓opV, ↓pX, ↓pW, ↓putK, ↓putP, ↓atK, ↓normK, ↓postZ, evO, Fr.get, Fr.put, ↓reduceIte, reduceIte, Nat.reduceEqDiff, Nat.reduceAdd, Nat.reduceBEq, Nat.reduceLT, Nat.reduceLeDiff, binW, bodyQ, ressW, resW, ne_eq, forall_const, reduceCtorEq, implies_true, sets, oneAll, St.new, St.get, St.look, St.set, setL, setD, rels, fillE, fillD, List.replicate, rowsOf, forall_eq, eraseL, St.erase, Nat.reduceMul, ↓zD, zT]
    exact .drop (by simp) (by simp [vw])
end Go.Pd
