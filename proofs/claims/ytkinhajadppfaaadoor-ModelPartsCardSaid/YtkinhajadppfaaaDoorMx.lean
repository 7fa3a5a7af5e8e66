/- Package model and its specification: contracts, part x: Rename. -/
import Derived.Test.YtkinhajadppfaaaDoorMw
set_option linter.unusedSectionVars false
set_option linter.unusedVariables false
set_option linter.unusedSimpArgs false
set_option linter.defProp false
set_option maxRecDepth 20000
namespace Go.Pd
open Go Go.Proofs
theorem osl_grow {k sz : Nat} {els : List (List D)} (h : els ≠ []) : D.osl k sz els.length = growD k sz els := by
  cases els with
  | nil => exact absurd rfl h
  | cons e r => rfl
theorem obj_grow {k sz : Nat} {els : List (List D)} {rest : List (Nat × Ob)} (h : els ≠ []) : (k, (⟨sz, els⟩ : Ob)) :: rest = growO k sz els ++ rest := by
  cases els with
  | nil => exact absurd rfl h
  | cons e r => rfl
theorem rows_set (k : IntKind) (l : List Int) (i : Nat) (s : Int) : (rows k l).set i [.int k s] = rows k (l.set i s) := by simp [rows, List.map_set]
theorem rows_replicate (k : IntKind) (n : Nat) (s : Int) : List.replicate n [D.int k s] = rows k (List.replicate n s) := by simp [rows]
structure RenI (to : List Int) (w : Nat) (seen : BitVec 64) (ws : List Int) : Prop where
  le : w ≤ to.length
  len : ws.length = to.length
  rng : ∀ v, v < w → 0 ≤ to.getD v 0 ∧ to.getD v 0 < to.length
  dup : ∀ u v, u < v → v < w → to.getD u 0 ≠ to.getD v 0
  bits : ∀ k : Nat, seen.getLsbD k = true ↔ ∃ v, v < w ∧ to.getD v 0 = (k : Int)
  at_ : ∀ v, v < w → ws.getD (to.getD v 0).toNat 0 = v
theorem RenI.first {to : List Int} : RenI to 0 0#64 (List.replicate to.length 0) :=
  ⟨Nat.zero_le _, by simp, fun v h => by omega, fun u v _ h => by omega, fun k => ⟨fun h => by simp at h, fun ⟨v, h, _⟩ => by omega⟩, fun v h => by omega⟩
theorem RenI.next {to : List Int} {w : Nat} {seen : BitVec 64} {ws : List Int} (h : RenI to w seen ws) (h64 : to.length ≤ 64) (hw : w < to.length) (h0 : 0 ≤ to.getD w 0) (h1 : to.getD w 0 < to.length) (hs : seen.getLsbD (to.getD w 0).toNat = false) :
    RenI to (w + 1) (seen ||| 1#64 <<< (to.getD w 0).toNat) (ws.set (to.getD w 0).toNat w) := by
  have hnew : ∀ v, v < w → to.getD v 0 ≠ to.getD w 0 := by
    intro v hv e
    have : seen.getLsbD (to.getD w 0).toNat = true := (h.bits _).2 ⟨v, hv, by omega⟩
    rw [hs] at this; cases this
  refine ⟨by omega, by simp [h.len], fun v hv => ?_, fun u v huv hv => ?_, fun k => ?_, fun v hv => ?_⟩
  · by_cases e : v = w
    · subst e; exact ⟨h0, h1⟩
    · exact h.rng v (by omega)
  · by_cases e : v = w
    · subst e; exact hnew u huv
    · exact h.dup u v huv (by omega)
  · rw [BitVec.getLsbD_or, Bool.or_eq_true, h.bits k]
    have hone : (1#64 <<< (to.getD w 0).toNat).getLsbD k = true ↔ k = (to.getD w 0).toNat := by
      generalize ht : (to.getD w 0).toNat = t
      have ht64 : t < 64 := by omega
      rw [BitVec.getLsbD_shiftLeft]
      by_cases hk : k < 64
      · by_cases hkt : k < t
        · simp [hk, hkt]; omega
        · simp only [hk, hkt, decide_true, Bool.true_and, decide_false, Bool.not_false]
          by_cases e : k = t
          · subst e; simp
          · have : k - t ≠ 0 := by omega
            simp [e]; omega
      · simp [hk]; omega
    rw [hone]
    constructor
    · rintro (⟨v, hv, e⟩ | rfl)
      · exact ⟨v, by omega, e⟩
      · exact ⟨w, by omega, by omega⟩
    · rintro ⟨v, hv, e⟩
      by_cases e' : v = w
      · subst e'; right; omega
      · left; exact ⟨v, by omega, e⟩
  · by_cases e : v = w
    · subst e
      have : (to.getD v 0).toNat < ws.length := by rw [h.len]; omega
      generalize (to.getD v 0).toNat = t at *
      simp [List.getD, this]
    · have hne := hnew v (by omega)
      have hr := h.rng v (by omega)
      have := h.at_ v (by omega)
      rw [← this]
      simp only [List.getD]
      rw [List.getElem?_set_ne (by have : (to.getD w 0) ≠ to.getD v 0 := fun e => hne e.symm; simp only [List.getD] at *; omega)]
theorem RenI.last {to : List Int} {seen : BitVec 64} {ws : List Int} (h : RenI to to.length seen ws) : isPerm to = true ∧ ws = invK to to.length := by
  have hp : isPerm to = true := perm_of h.rng fun v w hv hw => h.dup v w hv hw
  refine ⟨hp, List.ext_getElem (by rw [h.len, invK_len]) fun i h1 h2 => ?_⟩
  obtain ⟨v, hv, e⟩ := perm_hit hp (i := i) (by rw [← h.len]; exact h1)
  have e1 := h.at_ v hv
  have e2 := invK_at hp hv e
  rw [e, Int.toNat_natCast] at e1
  simp only [List.getD, List.getElem?_eq_getElem h1, List.getElem?_eq_getElem h2, Option.getD_some] at e1 e2
  rw [e1, e2]
theorem RenI.bad {to : List Int} {w : Nat} {seen : BitVec 64} {ws : List Int} (h : RenI to w seen ws) (hw : w < to.length) (hb : to.getD w 0 < 0 ∨ (to.length : Int) ≤ to.getD w 0 ∨ seen.getLsbD (to.getD w 0).toNat = true) : isPerm to = false := by
  cases hp : isPerm to with
  | false => rfl
  | true =>
    have hr := perm_range hp w hw
    rcases hb with hb | hb | hb
    · omega
    · omega
    · obtain ⟨v, hv, e⟩ := (h.bits _).1 hb
      exact absurd (show to.getD v 0 = to.getD w 0 by omega) (perm_dup hp hv hw)

theorem rename_runs (m : Mod) (to : List Int) : Runs Tryd.prog 25 [m.d, .sl 1 (rows .i64 to)] (unD (m.rename to)) := by
  refine CallT.go_fn mixed Tryd.func25 k25 (by simp) fun hf => ?_
  simp only [Int.reduceToNat, Int.reduceLT, Int.reduceLE, Int.reduceBEq, Int.reduceBNe, St0, argFr, ↓thenW, ↓blockW, ↓opX, ↓opV, ↓pX, ↓pW, ↓putK, ↓putP, ↓atK, ↓normK, ↓postZ, evO, Fr.get, Fr.put, ↓reduceIte, reduceIte, Nat.reduceEqDiff, Nat.reduceAdd, Nat.reduceBEq, Nat.reduceLT, Nat.reduceLeDiff, binW, bodyQ, ressW, resW, ne_eq, forall_const, reduceCtorEq, implies_true, sets, oneAll, St.new, St.get, St.look, St.set, setL, setD, rels, fillE, fillD, List.replicate, rowsOf, forall_eq, eraseL, St.erase, Nat.reduceMul, ↓zD, zT, Mod.d]
  refine .go (CallT.of_runs (check_runs m) rfl) ?_
  by_cases h1 : m.check = 0
  · obtain ⟨c1, c2, c3, c4, c5, c6, c7⟩ := Mod.check_zero h1
    by_cases h2 : (to.length : Int) = m.W
    · have h2b : ((to.length : Int) != m.W) = false := by simp [h2]
      have e : m.rename to = if isPerm to then (m.take (invK to to.length), 0) else (.nil, 1) := by simp [Mod.rename, h1, h2]
      rw [e]
      simp only [Int.reduceToNat, Int.reduceLT, Int.reduceLE, Int.reduceBEq, Int.reduceBNe, St0, argFr, ↓thenW, ↓blockW, ↓opX, ↓opV, ↓pX, ↓pW, ↓putK, ↓putP, ↓atK, ↓normK, ↓postZ, evO, Fr.get, Fr.put, ↓reduceIte, reduceIte, Nat.reduceEqDiff, Nat.reduceAdd, Nat.reduceBEq, Nat.reduceLT, Nat.reduceLeDiff, binW, bodyQ, ressW, resW, ne_eq, forall_const, reduceCtorEq, implies_true, sets, oneAll, St.new, St.get, St.look, St.set, setL, setD, rels, fillE, fillD, List.replicate, rowsOf, forall_eq, eraseL, St.erase, Nat.reduceMul, ↓zD, zT, h1, h2b]
      (repeat (first | refine And.intro (by omega) ?_ | refine And.intro rfl ?_))
      have hne : rows .i64 (List.replicate to.length 0) ≠ [] := by
        intro e
        have := congrArg List.length e
        simp [rows] at this
        subst this; simp at h2; omega
      have e1 : D.osl 2 1 to.length = growD 2 1 (rows .i64 (List.replicate to.length 0)) := by rw [← osl_grow hne]; simp [rows]
      simp only [rows_replicate, obj_grow hne, e1]
      refine wpS_loopW (fun p : Nat × BitVec 64 × List Int => [(28, .int .i64 p.1), (27, .int .i64 to.length), (26, .sl 1 (rows .i64 to)), (8, .int .u64 (ui p.2.1)), (7, growD 2 1 (rows .i64 p.2.2)), (4, .ref 1 3 0 0), (2, .ref 0 3 0 0), (1, .sl 1 (rows .i64 to))])
        (fun p => ⟨3, growO 2 1 (rows .i64 p.2.2) ++ [(1, ⟨3, [[.int .i64 0, .nils, .nils]]⟩), (0, ⟨3, [[.int .i64 m.W, .sl 1 (us m.V), .sl 1 (rr m.R)]]⟩)]⟩) (fun p => RenI to p.1 p.2.1 p.2.2) (fun p => to.length - p.1) (0, 0#64, List.replicate to.length 0) RenI.first ?_ ?_
      · (refine Weak.same ?_; simp [sameF, Fr.get])
      rintro ⟨w, seen, ws⟩ hI
      refine wpS_go mixed ?_
      simp only at hI
      have hIle := hI.le
      have hIlen := hI.len
      by_cases h : w < to.length
      · have hd : ((w : Int) < (to.length : Int)) := by omega
        have hu := wrap_up (k := w) (by omega)
        have hn := hI.next (by omega) h
        have hbad := hI.bad h
        generalize hx : to.getD w 0 = x at *
        by_cases hb1 : x < 0
        · rw [hbad (.inl hb1)]
          simp only [Int.reduceToNat, Int.reduceLT, Int.reduceLE, Int.reduceBEq, Int.reduceBNe, St0, argFr, ↓thenW, ↓blockW, ↓opX, ↓opV, ↓pX, ↓pW, ↓putK, ↓putP, ↓atK, ↓normK, ↓postZ, evO, Fr.get, Fr.put, ↓reduceIte, reduceIte, Nat.reduceEqDiff, Nat.reduceAdd, Nat.reduceBEq, Nat.reduceLT, Nat.reduceLeDiff, binW, bodyQ, ressW, resW, ne_eq, forall_const, reduceCtorEq, implies_true, sets, oneAll, St.new, St.get, St.look, St.set, setL, setD, rels, fillE, fillD, List.replicate, rowsOf, forall_eq, eraseL, St.erase, Nat.reduceMul, ↓zD, zT, hd, rows_get _ _ h, hx, hb1]
          (repeat (first | refine And.intro (by omega) ?_ | refine And.intro rfl ?_))
          refine weakQ.keep ?_
          simp only [Int.reduceToNat, Int.reduceLT, Int.reduceLE, Int.reduceBEq, Int.reduceBNe, St0, argFr, ↓thenW, ↓blockW, ↓opX, ↓opV, ↓pX, ↓pW, ↓putK, ↓putP, ↓atK, ↓normK, ↓postZ, evO, Fr.get, Fr.put, ↓reduceIte, reduceIte, Nat.reduceEqDiff, Nat.reduceAdd, Nat.reduceBEq, Nat.reduceLT, Nat.reduceLeDiff, binW, bodyQ, ressW, resW, ne_eq, forall_const, reduceCtorEq, implies_true, sets, oneAll, St.new, St.get, St.look, St.set, setL, setD, rels, fillE, fillD, List.replicate, rowsOf, forall_eq, eraseL, St.erase, Nat.reduceMul, ↓zD, zT]
          (repeat (first | refine And.intro (by omega) ?_ | refine And.intro rfl ?_))
          refine .drop (by simp) ?_
          simp [vw, vwL, unD, Mod.nil, Mod.d, sets, rels, us, rr]
        by_cases hb2 : (to.length : Int) ≤ x
        · rw [hbad (.inr (.inl hb2))]
          simp only [Int.reduceToNat, Int.reduceLT, Int.reduceLE, Int.reduceBEq, Int.reduceBNe, St0, argFr, ↓thenW, ↓blockW, ↓opX, ↓opV, ↓pX, ↓pW, ↓putK, ↓putP, ↓atK, ↓normK, ↓postZ, evO, Fr.get, Fr.put, ↓reduceIte, reduceIte, Nat.reduceEqDiff, Nat.reduceAdd, Nat.reduceBEq, Nat.reduceLT, Nat.reduceLeDiff, binW, bodyQ, ressW, resW, ne_eq, forall_const, reduceCtorEq, implies_true, sets, oneAll, St.new, St.get, St.look, St.set, setL, setD, rels, fillE, fillD, List.replicate, rowsOf, forall_eq, eraseL, St.erase, Nat.reduceMul, ↓zD, zT, hd, rows_get _ _ h, hx, hb1, hb2]
          (repeat (first | refine And.intro (by omega) ?_ | refine And.intro rfl ?_))
          refine weakQ.keep ?_
          simp only [Int.reduceToNat, Int.reduceLT, Int.reduceLE, Int.reduceBEq, Int.reduceBNe, St0, argFr, ↓thenW, ↓blockW, ↓opX, ↓opV, ↓pX, ↓pW, ↓putK, ↓putP, ↓atK, ↓normK, ↓postZ, evO, Fr.get, Fr.put, ↓reduceIte, reduceIte, Nat.reduceEqDiff, Nat.reduceAdd, Nat.reduceBEq, Nat.reduceLT, Nat.reduceLeDiff, binW, bodyQ, ressW, resW, ne_eq, forall_const, reduceCtorEq, implies_true, sets, oneAll, St.new, St.get, St.look, St.set, setL, setD, rels, fillE, fillD, List.replicate, rowsOf, forall_eq, eraseL, St.erase, Nat.reduceMul, ↓zD, zT]
          (repeat (first | refine And.intro (by omega) ?_ | refine And.intro rfl ?_))
          refine .drop (by simp) ?_
          simp [vw, vwL, unD, Mod.nil, Mod.d, sets, rels, us, rr]
        cases hb3 : seen.getLsbD x.toNat with
        | true =>
          rw [hbad (.inr (.inr hb3))]
          simp only [Int.reduceToNat, Int.reduceLT, Int.reduceLE, Int.reduceBEq, Int.reduceBNe, St0, argFr, ↓thenW, ↓blockW, ↓opX, ↓opV, ↓pX, ↓pW, ↓putK, ↓putP, ↓atK, ↓normK, ↓postZ, evO, Fr.get, Fr.put, ↓reduceIte, reduceIte, Nat.reduceEqDiff, Nat.reduceAdd, Nat.reduceBEq, Nat.reduceLT, Nat.reduceLeDiff, binW, bodyQ, ressW, resW, ne_eq, forall_const, reduceCtorEq, implies_true, sets, oneAll, St.new, St.get, St.look, St.set, setL, setD, rels, fillE, fillD, List.replicate, rowsOf, forall_eq, eraseL, St.erase, Nat.reduceMul, ↓zD, zT, hd, rows_get _ _ h, hx, hb1, hb2, bit_and1_eq, hb3]
          (repeat (first | refine And.intro (by omega) ?_ | refine And.intro rfl ?_))
          refine weakQ.keep ?_
          simp only [Int.reduceToNat, Int.reduceLT, Int.reduceLE, Int.reduceBEq, Int.reduceBNe, St0, argFr, ↓thenW, ↓blockW, ↓opX, ↓opV, ↓pX, ↓pW, ↓putK, ↓putP, ↓atK, ↓normK, ↓postZ, evO, Fr.get, Fr.put, ↓reduceIte, reduceIte, Nat.reduceEqDiff, Nat.reduceAdd, Nat.reduceBEq, Nat.reduceLT, Nat.reduceLeDiff, binW, bodyQ, ressW, resW, ne_eq, forall_const, reduceCtorEq, implies_true, sets, oneAll, St.new, St.get, St.look, St.set, setL, setD, rels, fillE, fillD, List.replicate, rowsOf, forall_eq, eraseL, St.erase, Nat.reduceMul, ↓zD, zT]
          (repeat (first | refine And.intro (by omega) ?_ | refine And.intro rfl ?_))
          refine .drop (by simp) ?_
          simp [vw, vwL, unD, Mod.nil, Mod.d, sets, rels, us, rr]
        | false =>
          have hn' := hn (by omega) (by omega) hb3
          have hxl : x.toNat < ws.length := by omega
          simp only [Int.reduceToNat, Int.reduceLT, Int.reduceLE, Int.reduceBEq, Int.reduceBNe, St0, argFr, ↓thenW, ↓blockW, ↓opX, ↓opV, ↓pX, ↓pW, ↓putK, ↓putP, ↓atK, ↓normK, ↓postZ, evO, Fr.get, Fr.put, ↓reduceIte, reduceIte, Nat.reduceEqDiff, Nat.reduceAdd, Nat.reduceBEq, Nat.reduceLT, Nat.reduceLeDiff, binW, bodyQ, ressW, resW, ne_eq, forall_const, reduceCtorEq, implies_true, sets, oneAll, St.new, St.get, St.look, St.set, setL, setD, rels, fillE, fillD, List.replicate, rowsOf, forall_eq, eraseL, St.erase, Nat.reduceMul, ↓zD, zT, hd, hu, rows_get _ _ h, hx, hb1, hb2, bit_and1_eq, hb3, rows_get _ _ hxl, rows_set]
          (repeat (first | refine And.intro (by omega) ?_ | refine And.intro rfl ?_))
          refine ⟨(w + 1, seen ||| 1#64 <<< x.toNat, ws.set x.toNat w), hn', ?_, by simp only; omega⟩
          rw [growD_len (show (rows .i64 ws).length = (rows .i64 (ws.set x.toNat (w : Int))).length by simp [rows])]
          (refine Weak.same ?_; simp only [sameF, Fr.get, ↓reduceIte, reduceIte, Nat.reduceEqDiff, reduceCtorEq, D.int.injEq, D.bool.injEq, D.sl.injEq, and_true, true_and, and_self])
      · have hd : ¬ ((w : Int) < (to.length : Int)) := by omega
        have hw' : w = to.length := by omega
        subst hw'
        obtain ⟨hp, rfl⟩ := hI.last
        rw [if_pos hp]
        simp only [Int.reduceToNat, Int.reduceLT, Int.reduceLE, Int.reduceBEq, Int.reduceBNe, St0, argFr, ↓thenW, ↓blockW, ↓opX, ↓opV, ↓pX, ↓pW, ↓putK, ↓putP, ↓atK, ↓normK, ↓postZ, evO, Fr.get, Fr.put, ↓reduceIte, reduceIte, Nat.reduceEqDiff, Nat.reduceAdd, Nat.reduceBEq, Nat.reduceLT, Nat.reduceLeDiff, binW, bodyQ, ressW, resW, ne_eq, forall_const, reduceCtorEq, implies_true, sets, oneAll, St.new, St.get, St.look, St.set, setL, setD, rels, fillE, fillD, List.replicate, rowsOf, forall_eq, eraseL, St.erase, Nat.reduceMul, ↓zD, zT, hd]
        refine .go [(7, .sl 1 (rows .i64 (invK to to.length))), (4, .ref 1 3 0 0), (2, .ref 0 3 0 0)]
          ⟨3, [(1, ⟨3, [[.int .i64 0, .nils, .nils]]⟩), (0, ⟨3, [[.int .i64 m.W, .sl 1 (us m.V), .sl 1 (rr m.R)]]⟩)]⟩ ?_ ?_
        · (refine Weak.ren [] [1, 0] (by simp) (by simp) (by decide) ?_; simp only [stay1, vwL, vw, vwF, sw, St.get, St.look, Fr.get, ↓reduceIte, reduceIte, Nat.reduceEqDiff, Nat.reduceAdd, Nat.reduceBEq, Nat.reduceLT, Nat.reduceLeDiff, exists_eq_left', ne_eq, reduceCtorEq, zR])
        simp only [Int.reduceToNat, Int.reduceLT, Int.reduceLE, Int.reduceBEq, Int.reduceBNe, St0, argFr, ↓thenW, ↓blockW, ↓opX, ↓opV, ↓pX, ↓pW, ↓putK, ↓putP, ↓atK, ↓normK, ↓postZ, evO, Fr.get, Fr.put, ↓reduceIte, reduceIte, Nat.reduceEqDiff, Nat.reduceAdd, Nat.reduceBEq, Nat.reduceLT, Nat.reduceLeDiff, binW, bodyQ, ressW, resW, ne_eq, forall_const, reduceCtorEq, implies_true, sets, oneAll, St.new, St.get, St.look, St.set, setL, setD, rels, fillE, fillD, List.replicate, rowsOf, forall_eq, eraseL, St.erase, Nat.reduceMul, ↓zD, zT]
        refine .go (CallT.of_runs (arrange_runs m (invK to to.length) (fun x hx => (invK_mem hp x hx).1) (fun r hr x hx => by have := invK_mem hp x hx; have := c5 r hr; omega) (by omega) (by omega) (by rw [invK_len]; omega)) (by simp [D.isPureL, D.isPure, Mod.d, sets, rels])) ?_
        simp only [Int.reduceToNat, Int.reduceLT, Int.reduceLE, Int.reduceBEq, Int.reduceBNe, St0, argFr, ↓thenW, ↓blockW, ↓opX, ↓opV, ↓pX, ↓pW, ↓putK, ↓putP, ↓atK, ↓normK, ↓postZ, evO, Fr.get, Fr.put, ↓reduceIte, reduceIte, Nat.reduceEqDiff, Nat.reduceAdd, Nat.reduceBEq, Nat.reduceLT, Nat.reduceLeDiff, binW, bodyQ, ressW, resW, ne_eq, forall_const, reduceCtorEq, implies_true, sets, oneAll, St.new, St.get, St.look, St.set, setL, setD, rels, fillE, fillD, List.replicate, rowsOf, forall_eq, eraseL, St.erase, Nat.reduceMul, ↓zD, zT, Mod.d]
        exact .drop (by simp) (by simp [vw, vwL, unD, Mod.d, sets, rels])
    · have h2b : ((to.length : Int) != m.W) = true := by simp [h2]
      simp only [Int.reduceToNat, Int.reduceLT, Int.reduceLE, Int.reduceBEq, Int.reduceBNe, St0, argFr, ↓thenW, ↓blockW, ↓opX, ↓opV, ↓pX, ↓pW, ↓putK, ↓putP, ↓atK, ↓normK, ↓postZ, evO, Fr.get, Fr.put, ↓reduceIte, reduceIte, Nat.reduceEqDiff, Nat.reduceAdd, Nat.reduceBEq, Nat.reduceLT, Nat.reduceLeDiff, binW, bodyQ, ressW, resW, ne_eq, forall_const, reduceCtorEq, implies_true, sets, oneAll, St.new, St.get, St.look, St.set, setL, setD, rels, fillE, fillD, List.replicate, rowsOf, forall_eq, eraseL, St.erase, Nat.reduceMul, ↓zD, zT, h1, h2b]
      exact .drop (by simp) (by simp [vw, vwL, unD, Mod.rename, Mod.nil, h1, h2, Mod.d, sets, rels, us, rr])
  · have h1b : (m.check != 0) = true := by simp [h1]
    simp only [Int.reduceToNat, Int.reduceLT, Int.reduceLE, Int.reduceBEq, Int.reduceBNe, St0, argFr, ↓thenW, ↓blockW, ↓opX, ↓opV, ↓pX, ↓pW, ↓putK, ↓putP, ↓atK, ↓normK, ↓postZ, evO, Fr.get, Fr.put, ↓reduceIte, reduceIte, Nat.reduceEqDiff, Nat.reduceAdd, Nat.reduceBEq, Nat.reduceLT, Nat.reduceLeDiff, binW, bodyQ, ressW, resW, ne_eq, forall_const, reduceCtorEq, implies_true, sets, oneAll, St.new, St.get, St.look, St.set, setL, setD, rels, fillE, fillD, List.replicate, rowsOf, forall_eq, eraseL, St.erase, Nat.reduceMul, ↓zD, zT, h1b]
    exact .drop (by simp) (by simp [vw, vwL, unD, Mod.rename, Mod.nil, h1, Mod.d, sets, rels, us, rr])
end Go.Pd
