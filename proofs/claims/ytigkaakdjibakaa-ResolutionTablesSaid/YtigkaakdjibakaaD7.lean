/- Resolution: contract: Refute; the example. -/
import Derived.Test.YtigkaakdjibakaaD6
set_option linter.unusedSectionVars false
set_option linter.unusedVariables false
set_option linter.unusedSimpArgs false
set_option linter.defProp false
set_option maxRecDepth 20000
namespace Go.Pd
open Go Go.Proofs
open Rs
namespace Rs
def rs0 : RS := ⟨[], []⟩
/-- The answer of Refute. -/
def refuteA (n : Int) (l : List (List Int)) : List Ln × Int := if checkC n l ≠ 0 then ([], checkC n l) else if (refuteS l n.toNat 0 0 rs0).1 < 0 then ([], 15) else ((refuteS l n.toNat 0 0 rs0).2.ls, 0)
theorem grow_viewL {nx n key sz : Nat} {objs : List (Nat × Ob)} {els : List (List D)} (hs : 0 < sz) (hp : ∀ e ∈ els, D.isPureL e = true) (h : St.look objs key = growG sz els) {ρ : Nat → Nat} : vw ⟨nx, objs⟩ ⟨n, []⟩ ρ (growD key sz els) (.sl sz els) := by
  cases els with
  | nil => simp [growD, vw]
  | cons e t =>
    simp only [growD, vw]
    exact ⟨trivial, hs, by simp, ⟨sz, e :: t⟩, h, rfl, Nat.le_refl _, by simp, hp⟩
end Rs
theorem Refute32 (n : Int) (l : List (List Int)) : Runs Try.prog 32 [.int .i64 n, .sl 1 (rl l)] (.tup [.sl 4 (lnR (refuteA n l).1), .int .i64 (refuteA n l).2]) := by
  by_cases hc : checkC n l = 0
  case neg =>
    have e : (checkC n l != 0) = true := by simpa using hc
    refine CallT.go_fn mixed Try.func32 k32 (by simp) fun hf => ?_
    simp only [Int.reduceToNat, Int.reduceLT, Int.reduceLE, Int.reduceBEq, Int.reduceBNe, St0, argFr, ↓thenW, ↓blockW, ↓opX, ↓opV, ↓pX, ↓pW, ↓putK, ↓putP, ↓atK, ↓normK, ↓postZ, ↓reduceIte, reduceIte, Nat.reduceEqDiff, Nat.reduceAdd, Nat.reduceBEq, Nat.reduceLT, Nat.reduceLeDiff, binW, bodyQ, ressW, resW, ne_eq, forall_const, reduceCtorEq, implies_true, sets, oneAll, setD, rels, fillE, fillD, List.replicate, rowsOf, forall_eq, Nat.reduceMul, ↓zD, zT]
    refine .go (CallT.of_runs (check15 n l) (by simp [D.isPureL, D.isPure])) ?_
    simp only [Int.reduceToNat, Int.reduceLT, Int.reduceLE, Int.reduceBEq, Int.reduceBNe, St0, argFr, ↓thenW, ↓blockW, ↓opX, ↓opV, ↓pX, ↓pW, ↓putK, ↓putP, ↓atK, ↓normK, ↓postZ, ↓reduceIte, reduceIte, Nat.reduceEqDiff, Nat.reduceAdd, Nat.reduceBEq, Nat.reduceLT, Nat.reduceLeDiff, binW, bodyQ, ressW, resW, ne_eq, forall_const, reduceCtorEq, implies_true, sets, oneAll, setD, rels, fillE, fillD, List.replicate, rowsOf, forall_eq, Nat.reduceMul, ↓zD, zT, e]
    rw [show refuteA n l = ([], checkC n l) from if_pos hc]
    exact .drop (by simp) (by simp [vw, vwL, lnR])
  have e : (checkC n l != 0) = false := by simpa using hc
  obtain ⟨c1, c2, c3, c4⟩ := checkC_zero hc
  obtain ⟨m, rfl⟩ := Int.eq_ofNat_of_zero_le c1
  have hm12 : m ≤ 12 := by omega
  have hI0 : InvR m l ⟨2, [(1, ⟨4, [[.int .i64 m, .sl 1 (rl l), .nils, .mref 0]]⟩), (0, ⟨0, []⟩)]⟩ rs0 := ⟨Nat.le_refl _, 2, Nat.le_refl _, by simp [St.look, rs0, lnR, growD], by simp [St.look, rs0, lnR, growG], by simp [St.look, rs0, mo, mrow]⟩
  have hp := pow12 (n := m) hm12
  obtain ⟨σ', hI, hcall⟩ := refute55 hc m (idx := 0) (v := 0) (s := rs0) (by omega) (by simp) (fun x y h => by cases h) (by rw [Nat.pow_succ]; simp [rs0]; omega) hI0
  have er : refuteA m l = if (refuteS l m 0 0 rs0).1 < 0 then ([], 15) else ((refuteS l m 0 0 rs0).2.ls, 0) := by rw [refuteA, if_neg (by omega), Int.toNat_natCast]
  rw [er]
  generalize refuteS l m 0 0 rs0 = p at hI hcall
  obtain ⟨a, s⟩ := p
  obtain ⟨nx, objs⟩ := σ'
  obtain ⟨hn, key, hk, hb, hl, hm⟩ := hI
  simp only at hn hb hl hm hcall
  refine CallT.go_fn mixed Try.func32 k32 (by simp) fun hf => ?_
  simp only [Int.reduceToNat, Int.reduceLT, Int.reduceLE, Int.reduceBEq, Int.reduceBNe, St0, argFr, ↓thenW, ↓blockW, ↓opX, ↓opV, ↓pX, ↓pW, ↓putK, ↓putP, ↓atK, ↓normK, ↓postZ, ↓reduceIte, reduceIte, Nat.reduceEqDiff, Nat.reduceAdd, Nat.reduceBEq, Nat.reduceLT, Nat.reduceLeDiff, binW, bodyQ, ressW, resW, ne_eq, forall_const, reduceCtorEq, implies_true, sets, oneAll, setD, rels, fillE, fillD, List.replicate, rowsOf, forall_eq, Nat.reduceMul, ↓zD, zT]
  refine .go (CallT.of_runs (check15 m l) (by simp [D.isPureL, D.isPure])) ?_
  simp only [Int.reduceToNat, Int.reduceLT, Int.reduceLE, Int.reduceBEq, Int.reduceBNe, St0, argFr, ↓thenW, ↓blockW, ↓opX, ↓opV, ↓pX, ↓pW, ↓putK, ↓putP, ↓atK, ↓normK, ↓postZ, ↓reduceIte, reduceIte, Nat.reduceEqDiff, Nat.reduceAdd, Nat.reduceBEq, Nat.reduceLT, Nat.reduceLeDiff, binW, bodyQ, ressW, resW, ne_eq, forall_const, reduceCtorEq, implies_true, sets, oneAll, setD, rels, fillE, fillD, List.replicate, rowsOf, forall_eq, Nat.reduceMul, ↓zD, zT, e]
  refine .go hcall ?_
  by_cases ha : a < 0
  · simp only [Int.reduceToNat, Int.reduceLT, Int.reduceLE, Int.reduceBEq, Int.reduceBNe, St0, argFr, ↓thenW, ↓blockW, ↓opX, ↓opV, ↓pX, ↓pW, ↓putK, ↓putP, ↓atK, ↓normK, ↓postZ, ↓reduceIte, reduceIte, Nat.reduceEqDiff, Nat.reduceAdd, Nat.reduceBEq, Nat.reduceLT, Nat.reduceLeDiff, binW, bodyQ, ressW, resW, ne_eq, forall_const, reduceCtorEq, implies_true, sets, oneAll, setD, rels, fillE, fillD, List.replicate, rowsOf, forall_eq, Nat.reduceMul, ↓zD, zT, ha]
    exact .drop (by simp) (by simp [vw, vwL, lnR])
  · simp only [Int.reduceToNat, Int.reduceLT, Int.reduceLE, Int.reduceBEq, Int.reduceBNe, St0, argFr, ↓thenW, ↓blockW, ↓opX, ↓opV, ↓pX, ↓pW, ↓putK, ↓putP, ↓atK, ↓normK, ↓postZ, ↓reduceIte, reduceIte, Nat.reduceEqDiff, Nat.reduceAdd, Nat.reduceBEq, Nat.reduceLT, Nat.reduceLeDiff, binW, bodyQ, ressW, resW, ne_eq, forall_const, reduceCtorEq, implies_true, sets, oneAll, setD, rels, fillE, fillD, List.replicate, rowsOf, forall_eq, Nat.reduceMul, ↓zD, zT, ha, hb]
    exact .drop (by simp) ⟨rfl, grow_viewL (by simp) (lnR_pure _) hl, by simp [vw], trivial⟩
namespace Rs
def ex0 : List (List Int) := [[1, 2], [-1, 2], [1, -2]]
def all0 : List (List Int) := [[1, 2], [-1, 2], [1, -2], [-1, -2]]
def lines0 : List Ln := [⟨[1, 2], -1, 0, 0⟩, ⟨[-1, 2], -1, 1, 0⟩, ⟨[2], 0, 1, 0⟩, ⟨[1, -2], -1, 2, 0⟩, ⟨[-1, -2], -1, 3, 0⟩, ⟨[-2], 3, 4, 0⟩, ⟨[], 2, 5, 1⟩]
def lines1 : List Ln := [⟨[1, 2], -1, 0, 0⟩, ⟨[1, -2], -1, 2, 0⟩, ⟨[1], 0, 1, 1⟩, ⟨[-1, 2], -1, 1, 0⟩, ⟨[-1, -2], -1, 3, 0⟩, ⟨[-1], 3, 4, 1⟩, ⟨[], 2, 5, 0⟩]
theorem solve_ex0 : solveA 2 ex0 = (3, 0) := by decide
theorem models_ex0 : modelsA 2 ex0 = (1, 0) := by decide
theorem check_ex0 : checkC 2 ex0 = 0 := by decide
theorem norm_ex0 : normE 2 (-1) [-1] = 0 := by decide
theorem prop_ex0 : propK ex0 [-1] = [-1, 2] := by decide
theorem canon_ex0 : canon [-1, 2] = [-1, 2] := by decide
theorem ordZ_ex0 : ordZ [-1, 2] = [-1, 2] := by decide
theorem conf_ex0 : confR [-1, 2] ex0 0 = 2 := by decide
theorem verify_all0 : verifyA 2 all0 lines0 = 0 := by decide
theorem verify_all6 : verifyA 2 all0 (lines0.take 6) = 13 := by decide
theorem normA_ex : normA [2, -1, 2] = ([-1, 2], false, 0) := by decide
theorem refute_all0 : refuteA 2 all0 = (lines1, 0) := by kernel_rfl
theorem verify_all1 : verifyA 2 all0 lines1 = 0 := by decide
end Rs
theorem example35 : CallT Try.prog 35 [] St0 (.osl 0 1 3) ⟨1, [(0, ⟨1, rl ex0⟩)]⟩ := by
  refine CallT.go_fn mixed Try.func35 k35 (by simp) fun hf => ?_
  simp only [Int.reduceToNat, Int.reduceLT, Int.reduceLE, Int.reduceBEq, Int.reduceBNe, St0, argFr, ↓thenW, ↓blockW, ↓opX, ↓opV, ↓pX, ↓pW, ↓putK, ↓putP, ↓atK, ↓normK, ↓postZ, ↓reduceIte, reduceIte, Nat.reduceEqDiff, Nat.reduceAdd, Nat.reduceBEq, Nat.reduceLT, Nat.reduceLeDiff, binW, bodyQ, ressW, resW, ne_eq, forall_const, reduceCtorEq, implies_true, sets, oneAll, setD, rels, fillE, fillD, List.replicate, rowsOf, forall_eq, Nat.reduceMul, ↓zD, zT]
  refine ⟨by simp [D.isPureL, D.isPure], by simp [D.isPureL, D.isPure], by simp [D.isPureL, D.isPure], by simp [D.one], ?_⟩
  exact .same
section
variable [Tabs]
theorem RP.sl_mono {M : Nat → Prop} {w : World} {v : Value} {sz : Nat} {els els' : List (List D)} (h : RP M w v (.sl sz els)) (hlen : els'.length = els.length) (hne : els ≠ []) (hrow : ∀ e ∈ els', e.length = sz)
    (hc : ∀ i, i < els.length → ∀ j, j < sz → ∀ u, RP M w u ((els.getD i []).getD j .top) → RP M w u ((els'.getD i []).getD j .top)) : RP M w v (.sl sz els') := by
  cases h with
  | sl0 => exact absurd rfl hne
  | sl vs hs hM hcp hm hl hcell hr =>
    rw [← hlen]
    exact .sl vs hs hM (by rw [hlen]; exact hcp) hm hrow (fun i hi j hj => hcell i (by omega) j hj) fun i hi j hj => hc i (by omega) j hj _ (hr i (by omega) j hj)
/-- An argument may be said weaker. -/
theorem CallT.weaken {P : Program} {g : FuncId} {args args' : List D} {d : D} {σ σ' : St} (hcall : CallT P g args' σ d σ') (hl : args'.length = args.length)
    (h : ∀ j, j < args.length → args.getD j .top = args'.getD j .top ∨ ((args.getD j .top).isPure = true ∧ ∀ M w v, RP M w v (args.getD j .top) → RP M w v (args'.getD j .top))) : CallT P g args σ d σ' := by
  refine ⟨hcall.ord, fun M0 w ι vals hS hv hr => ?_⟩
  refine hcall.run M0 w ι vals hS (by omega) fun j hj => ?_
  have hj' : j < args.length := by omega
  rcases h j hj' with e | ⟨hp, hw⟩
  · rw [← e]; exact hr j hj'
  · exact .pure (hw _ _ _ ((hr j hj').toRP hp))
end
def linesN : List (List D) := lnR (lines0.take 6) ++ [[D.nils, D.int .i64 2, D.int .i64 5, D.int .i64 1]]
/-- A line whose clause is nil. -/
theorem lines_nil (M : Nat → Prop) (w : World) (v : Value) (h : RP M w v (.sl 4 linesN)) : RP M w v (.sl 4 (lnR lines0)) := by
  refine RP.sl_mono h rfl (by simp [linesN]) (fun e he => ?_) fun i hi j hj u hu => ?_
  · simp only [lnR, List.mem_map] at he
    obtain ⟨p, _, rfl⟩ := he
    rfl
  · by_cases hi6 : i = 6
    · subst hi6
      match j, hj with
      | 0, _ =>
        have hu' : RP M w u .nils := hu
        cases hu'
        exact .sl0 _ _ _ fun _ => rfl
      | 1, _ => exact hu
      | 2, _ => exact hu
      | 3, _ => exact hu
    · have e : (lnR lines0).getD i [] = linesN.getD i [] := by
        match i, hi, hi6 with
        | 0, _, _ => rfl
        | 1, _, _ => rfl
        | 2, _, _ => rfl
        | 3, _, _ => rfl
        | 4, _, _ => rfl
        | 5, _, _ => rfl
        | k + 7, h, _ => exact absurd h (by simp [linesN, lnR, lines0])
      rw [e]; exact hu
theorem verify_lines0 : Runs Try.prog 23 [.int .i64 2, .sl 1 (rl all0), .sl 4 linesN] (.int .i64 0) := by
  have h := Verify23 2 all0 lines0
  rw [verify_all0] at h
  refine CallT.weaken h rfl fun j hj => ?_
  match j, hj with
  | 0, _ => exact .inl rfl
  | 1, _ => exact .inl rfl
  | 2, _ => exact .inr ⟨rfl, lines_nil⟩
theorem awake12 : Runs Try.prog 12 [] (.bool true) := by
  have hprop := CallT.lent1 (σ := ⟨1, [(0, ⟨1, rl ex0⟩)]⟩) (args := [.int .i64 2, .osl 0 1 3, .sl 1 (rows .i64 [-1])]) (Propagate_own (n := 2) (l := ex0) (g := [-1]) (by simp) check_ex0 norm_ex0 (by rw [prop_ex0]; simp))
    ⟨lend_int _ _, lend_els (by simp) (by simp [St.get, St.look]) rfl (rl_pure _), lend_sl 1 _, trivial⟩ (by simp [D.fl, D.flL]) (fun p hp e he => by
      rw [List.mem_singleton] at hp; subst hp; exact rows_fl .i64 _ e he)
    (d' := .tup [.osl 1 1 2, .int .i64 2, .int .i64 0]) (objs' := [(1, ⟨1, rows .i64 [-1, 2]⟩), (0, ⟨1, rl ex0⟩)]) (by rw [prop_ex0, canon_ex0, conf_ex0]; rfl) (by rw [prop_ex0, ordZ_ex0]; rfl)
  have hl : lendL ⟨1, [(0, ⟨1, rl ex0⟩)]⟩ [.int .i64 2, .osl 0 1 3] [.int .i64 2, .sl 1 (rl ex0)] := ⟨lend_int _ _, lend_els (by simp) (by simp [St.get, St.look]) rfl (rl_pure _), trivial⟩
  have hsolve := CallT.lent (Solve30 2 ex0) hl rfl
  have hmodels := CallT.lent (Models28 2 ex0) hl rfl
  rw [solve_ex0] at hsolve
  rw [models_ex0] at hmodels
  refine CallT.go_fnS mixed Try.func12 k12 (by simp) fun hf => ?_
  refine wpS_seq (wpS_go mixed ?_)
  simp only [Int.reduceToNat, Int.reduceLT, Int.reduceLE, Int.reduceBEq, Int.reduceBNe, St0, argFr, ↓thenW, ↓blockW, ↓opX, ↓opV, ↓pX, ↓pW, ↓putK, ↓putP, ↓atK, ↓normK, ↓postZ, ↓reduceIte, reduceIte, Nat.reduceEqDiff, Nat.reduceAdd, Nat.reduceBEq, Nat.reduceLT, Nat.reduceLeDiff, binW, bodyQ, ressW, resW, ne_eq, forall_const, reduceCtorEq, implies_true, sets, oneAll, setD, rels, fillE, fillD, List.replicate, rowsOf, forall_eq, Nat.reduceMul, ↓zD, zT]
  refine wpS_seq (wpS_go mixed ?_)
  simp only [Int.reduceToNat, Int.reduceLT, Int.reduceLE, Int.reduceBEq, Int.reduceBNe, St0, argFr, ↓thenW, ↓blockW, ↓opX, ↓opV, ↓pX, ↓pW, ↓putK, ↓putP, ↓atK, ↓normK, ↓postZ, ↓reduceIte, reduceIte, Nat.reduceEqDiff, Nat.reduceAdd, Nat.reduceBEq, Nat.reduceLT, Nat.reduceLeDiff, binW, bodyQ, ressW, resW, ne_eq, forall_const, reduceCtorEq, implies_true, sets, oneAll, setD, rels, fillE, fillD, List.replicate, rowsOf, forall_eq, Nat.reduceMul, ↓zD, zT]
  refine .go example35 ?_
  simp only [Int.reduceToNat, Int.reduceLT, Int.reduceLE, Int.reduceBEq, Int.reduceBNe, St0, argFr, ↓thenW, ↓blockW, ↓opX, ↓opV, ↓pX, ↓pW, ↓putK, ↓putP, ↓atK, ↓normK, ↓postZ, ↓reduceIte, reduceIte, Nat.reduceEqDiff, Nat.reduceAdd, Nat.reduceBEq, Nat.reduceLT, Nat.reduceLeDiff, binW, bodyQ, ressW, resW, ne_eq, forall_const, reduceCtorEq, implies_true, sets, oneAll, setD, rels, fillE, fillD, List.replicate, rowsOf, forall_eq, Nat.reduceMul, ↓zD, zT]
  refine wpS_seq (wpS_go mixed ?_)
  simp only [Int.reduceToNat, Int.reduceLT, Int.reduceLE, Int.reduceBEq, Int.reduceBNe, St0, argFr, ↓thenW, ↓blockW, ↓opX, ↓opV, ↓pX, ↓pW, ↓putK, ↓putP, ↓atK, ↓normK, ↓postZ, ↓reduceIte, reduceIte, Nat.reduceEqDiff, Nat.reduceAdd, Nat.reduceBEq, Nat.reduceLT, Nat.reduceLeDiff, binW, bodyQ, ressW, resW, ne_eq, forall_const, reduceCtorEq, implies_true, sets, oneAll, setD, rels, fillE, fillD, List.replicate, rowsOf, forall_eq, Nat.reduceMul, ↓zD, zT]
  refine .go hsolve ?_
  simp only [Int.reduceToNat, Int.reduceLT, Int.reduceLE, Int.reduceBEq, Int.reduceBNe, St0, argFr, ↓thenW, ↓blockW, ↓opX, ↓opV, ↓pX, ↓pW, ↓putK, ↓putP, ↓atK, ↓normK, ↓postZ, ↓reduceIte, reduceIte, Nat.reduceEqDiff, Nat.reduceAdd, Nat.reduceBEq, Nat.reduceLT, Nat.reduceLeDiff, binW, bodyQ, ressW, resW, ne_eq, forall_const, reduceCtorEq, implies_true, sets, oneAll, setD, rels, fillE, fillD, List.replicate, rowsOf, forall_eq, Nat.reduceMul, ↓zD, zT]
  refine wpS_seq (wpS_go mixed ?_)
  simp only [Int.reduceToNat, Int.reduceLT, Int.reduceLE, Int.reduceBEq, Int.reduceBNe, St0, argFr, ↓thenW, ↓blockW, ↓opX, ↓opV, ↓pX, ↓pW, ↓putK, ↓putP, ↓atK, ↓normK, ↓postZ, ↓reduceIte, reduceIte, Nat.reduceEqDiff, Nat.reduceAdd, Nat.reduceBEq, Nat.reduceLT, Nat.reduceLeDiff, binW, bodyQ, ressW, resW, ne_eq, forall_const, reduceCtorEq, implies_true, sets, oneAll, setD, rels, fillE, fillD, List.replicate, rowsOf, forall_eq, Nat.reduceMul, ↓zD, zT]
  refine .go hmodels ?_
  simp only [Int.reduceToNat, Int.reduceLT, Int.reduceLE, Int.reduceBEq, Int.reduceBNe, St0, argFr, ↓thenW, ↓blockW, ↓opX, ↓opV, ↓pX, ↓pW, ↓putK, ↓putP, ↓atK, ↓normK, ↓postZ, ↓reduceIte, reduceIte, Nat.reduceEqDiff, Nat.reduceAdd, Nat.reduceBEq, Nat.reduceLT, Nat.reduceLeDiff, binW, bodyQ, ressW, resW, ne_eq, forall_const, reduceCtorEq, implies_true, sets, oneAll, setD, rels, fillE, fillD, List.replicate, rowsOf, forall_eq, Nat.reduceMul, ↓zD, zT]
  refine wpS_seq (wpS_go mixed ?_)
  simp only [Int.reduceToNat, Int.reduceLT, Int.reduceLE, Int.reduceBEq, Int.reduceBNe, St0, argFr, ↓thenW, ↓blockW, ↓opX, ↓opV, ↓pX, ↓pW, ↓putK, ↓putP, ↓atK, ↓normK, ↓postZ, ↓reduceIte, reduceIte, Nat.reduceEqDiff, Nat.reduceAdd, Nat.reduceBEq, Nat.reduceLT, Nat.reduceLeDiff, binW, bodyQ, ressW, resW, ne_eq, forall_const, reduceCtorEq, implies_true, sets, oneAll, setD, rels, fillE, fillD, List.replicate, rowsOf, forall_eq, Nat.reduceMul, ↓zD, zT]
  (repeat (first | refine And.intro (by omega) ?_ | refine And.intro (ui_nonneg _) ?_ | refine And.intro (Int.natCast_nonneg _) ?_ | refine And.intro rfl ?_ | refine And.intro (rows_one' _ _) ?_ | refine And.intro (us_one _) ?_ | refine And.intro (by intro _ h; cases h; done) ?_))
  refine .go hprop ?_
  simp only [Int.reduceToNat, Int.reduceLT, Int.reduceLE, Int.reduceBEq, Int.reduceBNe, St0, argFr, ↓thenW, ↓blockW, ↓opX, ↓opV, ↓pX, ↓pW, ↓putK, ↓putP, ↓atK, ↓normK, ↓postZ, ↓reduceIte, reduceIte, Nat.reduceEqDiff, Nat.reduceAdd, Nat.reduceBEq, Nat.reduceLT, Nat.reduceLeDiff, binW, bodyQ, ressW, resW, ne_eq, forall_const, reduceCtorEq, implies_true, sets, oneAll, setD, rels, fillE, fillD, List.replicate, rowsOf, forall_eq, Nat.reduceMul, ↓zD, zT]
  refine wpS_seq (wpS_go mixed ?_)
  simp only [Int.reduceToNat, Int.reduceLT, Int.reduceLE, Int.reduceBEq, Int.reduceBNe, St0, argFr, ↓thenW, ↓blockW, ↓opX, ↓opV, ↓pX, ↓pW, ↓putK, ↓putP, ↓atK, ↓normK, ↓postZ, ↓reduceIte, reduceIte, Nat.reduceEqDiff, Nat.reduceAdd, Nat.reduceBEq, Nat.reduceLT, Nat.reduceLeDiff, binW, bodyQ, ressW, resW, ne_eq, forall_const, reduceCtorEq, implies_true, sets, oneAll, setD, rels, fillE, fillD, List.replicate, rowsOf, forall_eq, Nat.reduceMul, ↓zD, zT]
  refine ⟨by simp [D.isPureL, D.isPure], ?_⟩
  refine .go (CallT.lent (same_self [-1, 2]) (show lendL ⟨2, [(1, ⟨1, rows .i64 [-1, 2]⟩), (0, ⟨1, rl ex0⟩)]⟩ [.osl 1 1 2, .sl 1 (rows .i64 [-1, 2])] [.sl 1 (rows .i64 [-1, 2]), .sl 1 (rows .i64 [-1, 2])] from ⟨lend_rows (by simp [St.get, St.look]) rfl, lend_sl 1 _, trivial⟩) rfl) ?_
  simp only [Int.reduceToNat, Int.reduceLT, Int.reduceLE, Int.reduceBEq, Int.reduceBNe, St0, argFr, ↓thenW, ↓blockW, ↓opX, ↓opV, ↓pX, ↓pW, ↓putK, ↓putP, ↓atK, ↓normK, ↓postZ, ↓reduceIte, reduceIte, Nat.reduceEqDiff, Nat.reduceAdd, Nat.reduceBEq, Nat.reduceLT, Nat.reduceLeDiff, binW, bodyQ, ressW, resW, ne_eq, forall_const, reduceCtorEq, implies_true, sets, oneAll, setD, rels, fillE, fillD, List.replicate, rowsOf, forall_eq, Nat.reduceMul, ↓zD, zT]
  refine wpS_seq (wpS_go mixed ?_)
  simp only [Int.reduceToNat, Int.reduceLT, Int.reduceLE, Int.reduceBEq, Int.reduceBNe, St0, argFr, ↓thenW, ↓blockW, ↓opX, ↓opV, ↓pX, ↓pW, ↓putK, ↓putP, ↓atK, ↓normK, ↓postZ, ↓reduceIte, reduceIte, Nat.reduceEqDiff, Nat.reduceAdd, Nat.reduceBEq, Nat.reduceLT, Nat.reduceLeDiff, binW, bodyQ, ressW, resW, ne_eq, forall_const, reduceCtorEq, implies_true, sets, oneAll, setD, rels, fillE, fillD, List.replicate, rowsOf, forall_eq, Nat.reduceMul, ↓zD, zT]
  refine ⟨by simp [D.isPureL, D.isPure], by first | simp [rl_len, ex0] | decide | simp [D.one], by first | simp [rl_len, ex0] | decide | simp [D.one], ?_⟩
  refine wpS_weak (f' := [(9, .sl 1 (rl all0))]) (σ' := ⟨0, []⟩) (Weak.view (fun k => k) (by simp) (by simp) ⟨osl_view (by simp) (rl_pure all0) rfl, trivial⟩ (by simp [stays]) (by simp [apartNames])) ?_
  refine wpS_go mixed ?_
  simp only [Int.reduceToNat, Int.reduceLT, Int.reduceLE, Int.reduceBEq, Int.reduceBNe, St0, argFr, ↓thenW, ↓blockW, ↓opX, ↓opV, ↓pX, ↓pW, ↓putK, ↓putP, ↓atK, ↓normK, ↓postZ, ↓reduceIte, reduceIte, Nat.reduceEqDiff, Nat.reduceAdd, Nat.reduceBEq, Nat.reduceLT, Nat.reduceLeDiff, binW, bodyQ, ressW, resW, ne_eq, forall_const, reduceCtorEq, implies_true, sets, oneAll, setD, rels, fillE, fillD, List.replicate, rowsOf, forall_eq, Nat.reduceMul, ↓zD, zT]
  refine ⟨by simp [D.isPureL, D.isPure], by simp [D.isPureL, D.isPure], by simp [D.isPureL, D.isPure], by simp [D.isPureL, D.isPure], by simp [D.isPureL, D.isPure], by simp [D.isPureL, D.isPure], by simp [D.isPureL, D.isPure], ?_⟩
  have hR := Refute32 2 all0
  rw [refute_all0] at hR
  refine .go (CallT.of_runs hR (by simp [D.isPureL, D.isPure])) ?_
  simp only [Int.reduceToNat, Int.reduceLT, Int.reduceLE, Int.reduceBEq, Int.reduceBNe, St0, argFr, ↓thenW, ↓blockW, ↓opX, ↓opV, ↓pX, ↓pW, ↓putK, ↓putP, ↓atK, ↓normK, ↓postZ, ↓reduceIte, reduceIte, Nat.reduceEqDiff, Nat.reduceAdd, Nat.reduceBEq, Nat.reduceLT, Nat.reduceLeDiff, binW, bodyQ, ressW, resW, ne_eq, forall_const, reduceCtorEq, implies_true, sets, oneAll, setD, rels, fillE, fillD, List.replicate, rowsOf, forall_eq, Nat.reduceMul, ↓zD, zT]
  refine ⟨by simp [D.isPureL, D.isPure], ?_⟩
  have hN := normal13 [2, -1, 2]
  rw [normA_ex] at hN
  refine .go (CallT.of_runs hN (by simp [D.isPureL, D.isPure])) ?_
  simp only [Int.reduceToNat, Int.reduceLT, Int.reduceLE, Int.reduceBEq, Int.reduceBNe, St0, argFr, ↓thenW, ↓blockW, ↓opX, ↓opV, ↓pX, ↓pW, ↓putK, ↓putP, ↓atK, ↓normK, ↓postZ, ↓reduceIte, reduceIte, Nat.reduceEqDiff, Nat.reduceAdd, Nat.reduceBEq, Nat.reduceLT, Nat.reduceLeDiff, binW, bodyQ, ressW, resW, ne_eq, forall_const, reduceCtorEq, implies_true, sets, oneAll, setD, rels, fillE, fillD, List.replicate, rowsOf, forall_eq, Nat.reduceMul, ↓zD, zT]
  refine .go (CallT.of_runs verify_lines0 (by simp [D.isPureL, D.isPure])) ?_
  simp only [Int.reduceToNat, Int.reduceLT, Int.reduceLE, Int.reduceBEq, Int.reduceBNe, St0, argFr, ↓thenW, ↓blockW, ↓opX, ↓opV, ↓pX, ↓pW, ↓putK, ↓putP, ↓atK, ↓normK, ↓postZ, ↓reduceIte, reduceIte, Nat.reduceEqDiff, Nat.reduceAdd, Nat.reduceBEq, Nat.reduceLT, Nat.reduceLeDiff, binW, bodyQ, ressW, resW, ne_eq, forall_const, reduceCtorEq, implies_true, sets, oneAll, setD, rels, fillE, fillD, List.replicate, rowsOf, forall_eq, Nat.reduceMul, ↓zD, zT]
  refine ⟨0, 6, rfl, rfl, by omega, by omega, by omega, ?_⟩
  have hV6 := Verify23 2 all0 (lines0.take 6)
  rw [verify_all6] at hV6
  refine .go (CallT.of_runs hV6 (by simp [D.isPureL, D.isPure])) ?_
  simp only [Int.reduceToNat, Int.reduceLT, Int.reduceLE, Int.reduceBEq, Int.reduceBNe, St0, argFr, ↓thenW, ↓blockW, ↓opX, ↓opV, ↓pX, ↓pW, ↓putK, ↓putP, ↓atK, ↓normK, ↓postZ, ↓reduceIte, reduceIte, Nat.reduceEqDiff, Nat.reduceAdd, Nat.reduceBEq, Nat.reduceLT, Nat.reduceLeDiff, binW, bodyQ, ressW, resW, ne_eq, forall_const, reduceCtorEq, implies_true, sets, oneAll, setD, rels, fillE, fillD, List.replicate, rowsOf, forall_eq, Nat.reduceMul, ↓zD, zT, show (lnR lines1).length = 7 from rfl]
  have hV1 := Verify23 2 all0 lines1
  rw [verify_all1] at hV1
  refine .go (CallT.of_runs hV1 (by simp [D.isPureL, D.isPure])) ?_
  simp only [Int.reduceToNat, Int.reduceLT, Int.reduceLE, Int.reduceBEq, Int.reduceBNe, St0, argFr, ↓thenW, ↓blockW, ↓opX, ↓opV, ↓pX, ↓pW, ↓putK, ↓putP, ↓atK, ↓normK, ↓postZ, ↓reduceIte, reduceIte, Nat.reduceEqDiff, Nat.reduceAdd, Nat.reduceBEq, Nat.reduceLT, Nat.reduceLeDiff, binW, bodyQ, ressW, resW, ne_eq, forall_const, reduceCtorEq, implies_true, sets, oneAll, setD, rels, fillE, fillD, List.replicate, rowsOf, forall_eq, Nat.reduceMul, ↓zD, zT]
  refine ⟨by simp [D.isPureL, D.isPure], ?_⟩
  refine .go (CallT.of_runs (same_self [-1, 2]) (by simp [D.isPureL, D.isPure])) ?_
  simp only [Int.reduceToNat, Int.reduceLT, Int.reduceLE, Int.reduceBEq, Int.reduceBNe, St0, argFr, ↓thenW, ↓blockW, ↓opX, ↓opV, ↓pX, ↓pW, ↓putK, ↓putP, ↓atK, ↓normK, ↓postZ, ↓reduceIte, reduceIte, Nat.reduceEqDiff, Nat.reduceAdd, Nat.reduceBEq, Nat.reduceLT, Nat.reduceLeDiff, binW, bodyQ, ressW, resW, ne_eq, forall_const, reduceCtorEq, implies_true, sets, oneAll, setD, rels, fillE, fillD, List.replicate, rowsOf, forall_eq, Nat.reduceMul, ↓zD, zT]
  exact .same
end Go.Pd
