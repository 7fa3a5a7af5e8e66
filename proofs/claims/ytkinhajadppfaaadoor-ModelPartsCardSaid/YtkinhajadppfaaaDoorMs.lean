/- Package model and its specification: contracts, part s: gather, Group, Meet. -/
import Derived.Test.YtkinhajadppfaaaDoorMr
set_option linter.unusedSectionVars false
set_option linter.unusedVariables false
set_option linter.unusedSimpArgs false
set_option linter.defProp false
set_option maxRecDepth 20000
namespace Go.Pd
open Go Go.Proofs
theorem join_or (a b : BitVec 64) : Runs Tryd.prog 50 [.int .u64 (ui a), .int .u64 (ui b)] (.int .u64 (ui (op2 false a b))) := by
  refine CallT.go_fn mixed Tryd.func50 k50 (by simp) fun hf => ?_
  simp only [Int.reduceToNat, Int.reduceLT, Int.reduceLE, Int.reduceBEq, Int.reduceBNe, St0, argFr, ↓thenW, ↓blockW, ↓opX, ↓opV, ↓pX, ↓pW, ↓putK, ↓putP, ↓atK, ↓normK, ↓postZ, evO, Fr.get, Fr.put, ↓reduceIte, reduceIte, Nat.reduceEqDiff, Nat.reduceAdd, Nat.reduceBEq, Nat.reduceLT, Nat.reduceLeDiff, binW, bodyQ, ressW, resW, ne_eq, forall_const, reduceCtorEq, implies_true, sets, oneAll, St.new, St.get, St.look, St.set, setL, setD, rels, fillE, fillD, List.replicate, rowsOf, forall_eq, eraseL, St.erase, Nat.reduceMul, ↓zD, zT]
  exact .same
theorem join_and (a b : BitVec 64) : Runs Tryd.prog 52 [.int .u64 (ui a), .int .u64 (ui b)] (.int .u64 (ui (op2 true a b))) := by
  refine CallT.go_fn mixed Tryd.func52 k52 (by simp) fun hf => ?_
  simp only [Int.reduceToNat, Int.reduceLT, Int.reduceLE, Int.reduceBEq, Int.reduceBNe, St0, argFr, ↓thenW, ↓blockW, ↓opX, ↓opV, ↓pX, ↓pW, ↓putK, ↓putP, ↓atK, ↓normK, ↓postZ, evO, Fr.get, Fr.put, ↓reduceIte, reduceIte, Nat.reduceEqDiff, Nat.reduceAdd, Nat.reduceBEq, Nat.reduceLT, Nat.reduceLeDiff, binW, bodyQ, ressW, resW, ne_eq, forall_const, reduceCtorEq, implies_true, sets, oneAll, St.new, St.get, St.look, St.set, setL, setD, rels, fillE, fillD, List.replicate, rowsOf, forall_eq, eraseL, St.erase, Nat.reduceMul, ↓zD, zT]
  exact .same
theorem growD_len {k sz : Nat} {a b : List (List D)} (h : a.length = b.length) : growD k sz a = growD k sz b := by
  cases a with
  | nil => cases b with
    | nil => rfl
    | cons e r => simp at h
  | cons e r => cases b with
    | nil => simp at h
    | cons e' r' => simp only [List.length_cons] at h; simp [growD, h]
theorem shift_us (c : Nat) (l : List (BitVec 64)) : (us l).map (D.shiftL c) = us l := shiftE_pure c (us_pure l)
theorem clone_grow {n : Nat} {objs : List (Nat × Ob)} (l : List (BitVec 64)) (h : l ≠ []) (hl : l.length ≤ 1000) : CallT Tryd.prog 47 [.sl 1 (us l)] ⟨n, objs⟩ (growD n 1 (us l)) ⟨n + 1, growO n 1 (us l) ++ objs⟩ := by
  cases l with
  | nil => exact absurd rfl h
  | cons s l =>
    have := CallT.own (σ := ⟨n, objs⟩) (clone_runs s l (by simp at hl; omega)) (by simp [D.isPureL, D.isPure, sets])
    simp only [D.shift, shiftObjs, Ob.shift, shift_us, List.cons_append, List.nil_append, Nat.add_zero] at this
    simp only [us_cons, growD_cons, growO_cons, us_len, List.cons_append, List.nil_append]
    exact this

def mixG (meet : Bool) (acc r : List (BitVec 64)) (w : Nat) : List (BitVec 64) := (List.range acc.length).map fun i => if i < w then op2 meet (acc.getD i 0) (r.getD i 0) else acc.getD i 0
theorem mixG_zero (meet : Bool) (acc r : List (BitVec 64)) : mixG meet acc r 0 = acc := by
  refine List.ext_getElem (by simp [mixG]) fun i h1 h2 => ?_
  simp [mixG, List.getD, h2]
theorem mixG_all (meet : Bool) (acc r : List (BitVec 64)) : mixG meet acc r acc.length = zipG meet acc r := by
  unfold mixG zipG
  refine List.map_congr_left fun i hi => ?_
  rw [List.mem_range] at hi
  rw [if_pos hi]
theorem mixG_len (meet : Bool) (acc r : List (BitVec 64)) (w : Nat) : (mixG meet acc r w).length = acc.length := by simp [mixG]
theorem mixG_at {meet : Bool} {acc r : List (BitVec 64)} {w : Nat} (h : w < acc.length) : (mixG meet acc r w).getD w 0 = acc.getD w 0 := by
  unfold mixG
  rw [getD_range_map _ _ _ _ h, if_neg (by omega)]
theorem mixG_set {meet : Bool} {acc r : List (BitVec 64)} {w : Nat} (h : w < acc.length) : (mixG meet acc r w).set w (op2 meet (acc.getD w 0) (r.getD w 0)) = mixG meet acc r (w + 1) := by
  refine List.ext_getElem (by simp [mixG]) fun i h1 h2 => ?_
  simp only [List.getElem_set, mixG, List.getElem_map, List.getElem_range]
  by_cases e : w = i
  · subst e; simp
  · rw [if_neg e]
    by_cases e2 : i < w
    · rw [if_pos e2, if_pos (by omega)]
    · rw [if_neg e2, if_neg (by omega)]

theorem accG_succ (m : Mod) (G : Nat) (meet : Bool) (k : Nat) : accG m G meet (k + 1) = if G.testBit k then (if (accG m G meet k).isEmpty then m.R.getD k [] else zipG meet (accG m G meet k) (m.R.getD k [])) else accG m G meet k := rfl
theorem gather_runs (m : Mod) (g : Int) (meet : Bool) (f : Nat) (hop : ∀ a b, Runs Tryd.prog f [.int .u64 (ui a), .int .u64 (ui b)] (.int .u64 (ui (op2 meet a b)))) : Runs Tryd.prog 49 [m.d, .int .i64 g, .fn f []] (.sl 1 (us (m.group g meet))) := by
  refine CallT.go_fn mixed Tryd.func49 k49 (by simp) fun hf => ?_
  simp only [Mod.d, rels, sets, D.factL, D.fact, us_len, rr_len] at hf
  have hg := hf.2.1
  have e1 : IntKind.i64.min = -9223372036854775808 := rfl
  have e2 : IntKind.i64.max = 9223372036854775807 := rfl
  rw [e1, e2] at hg
  simp only [Int.reduceToNat, Int.reduceLT, Int.reduceLE, Int.reduceBEq, Int.reduceBNe, St0, argFr, ↓thenW, ↓blockW, ↓opX, ↓opV, ↓pX, ↓pW, ↓putK, ↓putP, ↓atK, ↓normK, ↓postZ, evO, Fr.get, Fr.put, ↓reduceIte, reduceIte, Nat.reduceEqDiff, Nat.reduceAdd, Nat.reduceBEq, Nat.reduceLT, Nat.reduceLeDiff, binW, bodyQ, ressW, resW, ne_eq, forall_const, reduceCtorEq, implies_true, sets, oneAll, St.new, St.get, St.look, St.set, setL, setD, rels, fillE, fillD, List.replicate, rowsOf, forall_eq, eraseL, St.erase, Nat.reduceMul, ↓zD, zT, Mod.d]
  refine .go (CallT.of_runs (check_runs m) rfl) ?_
  by_cases h1 : m.check = 0
  · obtain ⟨c1, c2, c3, c4, c5, c6, c7⟩ := Mod.check_zero h1
    have hsh := shl_one (k := m.R.length) (by omega)
    by_cases h2 : g < 1
    · simp only [Int.reduceToNat, Int.reduceLT, Int.reduceLE, Int.reduceBEq, Int.reduceBNe, St0, argFr, ↓thenW, ↓blockW, ↓opX, ↓opV, ↓pX, ↓pW, ↓putK, ↓putP, ↓atK, ↓normK, ↓postZ, evO, Fr.get, Fr.put, ↓reduceIte, reduceIte, Nat.reduceEqDiff, Nat.reduceAdd, Nat.reduceBEq, Nat.reduceLT, Nat.reduceLeDiff, binW, bodyQ, ressW, resW, ne_eq, forall_const, reduceCtorEq, implies_true, sets, oneAll, St.new, St.get, St.look, St.set, setL, setD, rels, fillE, fillD, List.replicate, rowsOf, forall_eq, eraseL, St.erase, Nat.reduceMul, ↓zD, zT, h1, h2, bne_self_eq_false]
      exact .drop (by simp) (by simp [vw, Mod.group, h2, us])
    by_cases h3 : ((2 ^ m.R.length : Nat) : Int) ≤ g
    · simp only [Int.reduceToNat, Int.reduceLT, Int.reduceLE, Int.reduceBEq, Int.reduceBNe, St0, argFr, ↓thenW, ↓blockW, ↓opX, ↓opV, ↓pX, ↓pW, ↓putK, ↓putP, ↓atK, ↓normK, ↓postZ, evO, Fr.get, Fr.put, ↓reduceIte, reduceIte, Nat.reduceEqDiff, Nat.reduceAdd, Nat.reduceBEq, Nat.reduceLT, Nat.reduceLeDiff, binW, bodyQ, ressW, resW, ne_eq, forall_const, reduceCtorEq, implies_true, sets, oneAll, St.new, St.get, St.look, St.set, setL, setD, rels, fillE, fillD, List.replicate, rowsOf, forall_eq, eraseL, St.erase, Nat.reduceMul, ↓zD, zT, h1, h2, h3, bne_self_eq_false, hsh]
      (repeat (first | refine And.intro (by omega) ?_ | refine And.intro rfl ?_))
      have hge : m.group g meet = [] := by unfold Mod.group; rw [if_pos (by omega)]
      exact .drop (by simp) (by simp [vw, hge, us])
    · rw [← accG_all h1 meet h2 h3]
      simp only [Int.reduceToNat, Int.reduceLT, Int.reduceLE, Int.reduceBEq, Int.reduceBNe, St0, argFr, ↓thenW, ↓blockW, ↓opX, ↓opV, ↓pX, ↓pW, ↓putK, ↓putP, ↓atK, ↓normK, ↓postZ, evO, Fr.get, Fr.put, ↓reduceIte, reduceIte, Nat.reduceEqDiff, Nat.reduceAdd, Nat.reduceBEq, Nat.reduceLT, Nat.reduceLeDiff, binW, bodyQ, ressW, resW, ne_eq, forall_const, reduceCtorEq, implies_true, sets, oneAll, St.new, St.get, St.look, St.set, setL, setD, rels, fillE, fillD, List.replicate, rowsOf, forall_eq, eraseL, St.erase, Nat.reduceMul, ↓zD, zT, h1, h2, h3, bne_self_eq_false, hsh]
      (repeat (first | refine And.intro (by omega) ?_ | refine And.intro rfl ?_))
      refine wpS_loop (fun k : Nat => [(29, .int .i64 k), (28, .int .i64 m.R.length), (27, .sl 1 (rr m.R)), (7, growD 1 1 (us (accG m g.toNat meet k))), (2, .fn f []), (1, .int .i64 g)])
        (fun k => ⟨2, growO 1 1 (us (accG m g.toNat meet k))⟩) (fun k => k ≤ m.R.length) (fun k => m.R.length - k) 0 (Nat.zero_le _) ?_ ?_
      · (refine Weak.ren [] [1, 0] (by simp) (by simp) (by decide) ?_; simp only [stay1, vwL, vw, vwF, sw, St.get, St.look, Fr.get, ↓reduceIte, reduceIte, Nat.reduceEqDiff, Nat.reduceAdd, Nat.reduceBEq, Nat.reduceLT, Nat.reduceLeDiff, exists_eq_left', ne_eq, reduceCtorEq, zR, accG, growO_nil, growD_nil, List.nil_append, vwL])
      intro k hk
      refine wpS_go mixed ?_
      by_cases h : k < m.R.length
      · have hd : ((k : Int) < (m.R.length : Int)) := by omega
        have hu := wrap_up (k := k) (by omega)
        have hr : m.R.getD k [] ∈ m.R := by simp [List.getD, h]
        have hrl := c5 _ hr
        have hbr := bitand_i64 (g := g) (k := k) (by omega) (by omega) (by omega)
        have hs := accG_succ m g.toNat meet k
        have hL := (accG_law h1 g.toNat meet k (by omega)).2
        generalize accG m g.toNat meet k = acc at *
        generalize hre : m.R.getD k [] = r at *
        cases hb : g.toNat.testBit k with
        | false =>
          rw [hb] at hbr hs
          simp only [Int.reduceToNat, Int.reduceLT, Int.reduceLE, Int.reduceBEq, Int.reduceBNe, St0, argFr, ↓thenW, ↓blockW, ↓opX, ↓opV, ↓pX, ↓pW, ↓putK, ↓putP, ↓atK, ↓normK, ↓postZ, evO, Fr.get, Fr.put, ↓reduceIte, reduceIte, Nat.reduceEqDiff, Nat.reduceAdd, Nat.reduceBEq, Nat.reduceLT, Nat.reduceLeDiff, binW, bodyQ, ressW, resW, ne_eq, forall_const, reduceCtorEq, implies_true, sets, oneAll, St.new, St.get, St.look, St.set, setL, setD, rels, fillE, fillD, List.replicate, rowsOf, forall_eq, eraseL, St.erase, Nat.reduceMul, ↓zD, zT, hd, hbr, hu, rr_get _ h, hre]
          (repeat (first | refine And.intro (by omega) ?_ | refine And.intro rfl ?_))
          refine ⟨k + 1, by omega, ?_, by omega⟩
          rw [hs, if_neg (by simp)]
          (refine Weak.same ?_; simp only [sameF, Fr.get, ↓reduceIte, reduceIte, Nat.reduceEqDiff, reduceCtorEq, D.int.injEq, D.bool.injEq, D.sl.injEq, and_true, true_and, and_self])
        | true =>
          rw [hb] at hbr hs
          rw [if_pos rfl] at hs
          by_cases he : acc = []
          · subst he
            rw [List.isEmpty_nil, if_pos rfl] at hs
            simp only [Int.reduceToNat, Int.reduceLT, Int.reduceLE, Int.reduceBEq, Int.reduceBNe, St0, argFr, ↓thenW, ↓blockW, ↓opX, ↓opV, ↓pX, ↓pW, ↓putK, ↓putP, ↓atK, ↓normK, ↓postZ, evO, Fr.get, Fr.put, ↓reduceIte, reduceIte, Nat.reduceEqDiff, Nat.reduceAdd, Nat.reduceBEq, Nat.reduceLT, Nat.reduceLeDiff, binW, bodyQ, ressW, resW, ne_eq, forall_const, reduceCtorEq, implies_true, sets, oneAll, St.new, St.get, St.look, St.set, setL, setD, rels, fillE, fillD, List.replicate, rowsOf, forall_eq, eraseL, St.erase, Nat.reduceMul, ↓zD, zT, hd, hbr, hu, rr_get _ h, hre, List.isEmpty_nil]
            (repeat (first | refine And.intro (by omega) ?_ | refine And.intro rfl ?_))
            have hrne : r ≠ [] := by rintro rfl; simp at hrl; omega
            refine .go (clone_grow r hrne (by omega)) ?_
            simp only [Int.reduceToNat, Int.reduceLT, Int.reduceLE, Int.reduceBEq, Int.reduceBNe, St0, argFr, ↓thenW, ↓blockW, ↓opX, ↓opV, ↓pX, ↓pW, ↓putK, ↓putP, ↓atK, ↓normK, ↓postZ, evO, Fr.get, Fr.put, ↓reduceIte, reduceIte, Nat.reduceEqDiff, Nat.reduceAdd, Nat.reduceBEq, Nat.reduceLT, Nat.reduceLeDiff, binW, bodyQ, ressW, resW, ne_eq, forall_const, reduceCtorEq, implies_true, sets, oneAll, St.new, St.get, St.look, St.set, setL, setD, rels, fillE, fillD, List.replicate, rowsOf, forall_eq, eraseL, St.erase, Nat.reduceMul, ↓zD, zT, hu]
            refine ⟨k + 1, by omega, ?_, by omega⟩
            rw [hs]
            (refine Weak.ren [(1, 2)] [1] (by simp) (by simp) (by decide) ?_; simp only [stay1, vwL, vw, vwF, sw, St.get, St.look, Fr.get, ↓reduceIte, reduceIte, Nat.reduceEqDiff, Nat.reduceAdd, Nat.reduceBEq, Nat.reduceLT, Nat.reduceLeDiff, exists_eq_left', ne_eq, reduceCtorEq, zR])
          · have hie : acc.isEmpty = false := by simpa using he
            have hiu : (us acc).isEmpty = false := by cases acc with | nil => exact absurd rfl he | cons a l => rfl
            rw [hie, if_neg (by simp)] at hs
            obtain ⟨hL1, hL2⟩ := hL he
            simp only [Int.reduceToNat, Int.reduceLT, Int.reduceLE, Int.reduceBEq, Int.reduceBNe, St0, argFr, ↓thenW, ↓blockW, ↓opX, ↓opV, ↓pX, ↓pW, ↓putK, ↓putP, ↓atK, ↓normK, ↓postZ, evO, Fr.get, Fr.put, ↓reduceIte, reduceIte, Nat.reduceEqDiff, Nat.reduceAdd, Nat.reduceBEq, Nat.reduceLT, Nat.reduceLeDiff, binW, bodyQ, ressW, resW, ne_eq, forall_const, reduceCtorEq, implies_true, sets, oneAll, St.new, St.get, St.look, St.set, setL, setD, rels, fillE, fillD, List.replicate, rowsOf, forall_eq, eraseL, St.erase, Nat.reduceMul, ↓zD, zT, hd, hbr, hu, rr_get _ h, hre, hiu]
            (repeat (first | refine And.intro (by omega) ?_ | refine And.intro rfl ?_))
            refine wpS_loop (fun w : Nat => [(45, .int .i64 w), (44, .int .i64 acc.length), (29, .int .i64 k), (28, .int .i64 m.R.length), (27, .sl 1 (rr m.R)), (9, .sl 1 (us r)), (7, growD 1 1 (us acc)), (2, .fn f []), (1, .int .i64 g)])
              (fun w => ⟨2, growO 1 1 (us (mixG meet acc r w))⟩) (fun w => w ≤ acc.length) (fun w => acc.length - w) 0 (Nat.zero_le _) ?_ ?_
            · rw [mixG_zero]
              (refine Weak.same ?_; simp [sameF, Fr.get])
            intro w hw
            refine wpS_go mixed ?_
            by_cases h4 : w < acc.length
            · have hd4 : ((w : Int) < (acc.length : Int)) := by omega
              have hw4 := wrap_up (k := w) (by omega)
              have hx : w < r.length := by omega
              have hx' : (w : Int) < (r.length : Int) := by omega
              have hma := mixG_at (meet := meet) (r := r) h4
              have hms := mixG_set (meet := meet) (r := r) h4
              have hml := mixG_len meet acc r w
              have hmw : w < (mixG meet acc r w).length := by omega
              generalize mixG meet acc r w = z at *
              simp only [Int.reduceToNat, Int.reduceLT, Int.reduceLE, Int.reduceBEq, Int.reduceBNe, St0, argFr, ↓thenW, ↓blockW, ↓opX, ↓opV, ↓pX, ↓pW, ↓putK, ↓putP, ↓atK, ↓normK, ↓postZ, evO, Fr.get, Fr.put, ↓reduceIte, reduceIte, Nat.reduceEqDiff, Nat.reduceAdd, Nat.reduceBEq, Nat.reduceLT, Nat.reduceLeDiff, binW, bodyQ, ressW, resW, ne_eq, forall_const, reduceCtorEq, implies_true, sets, oneAll, St.new, St.get, St.look, St.set, setL, setD, rels, fillE, fillD, List.replicate, rowsOf, forall_eq, eraseL, St.erase, Nat.reduceMul, ↓zD, zT, hd4, hw4, us_get _ hmw, us_get _ hx, hma, hml]
              (repeat (first | refine And.intro (by omega) ?_ | refine And.intro rfl ?_))
              refine .go (CallT.of_runs (hop (acc.getD w 0) (r.getD w 0)) rfl) ?_
              simp only [Int.reduceToNat, Int.reduceLT, Int.reduceLE, Int.reduceBEq, Int.reduceBNe, St0, argFr, ↓thenW, ↓blockW, ↓opX, ↓opV, ↓pX, ↓pW, ↓putK, ↓putP, ↓atK, ↓normK, ↓postZ, evO, Fr.get, Fr.put, ↓reduceIte, reduceIte, Nat.reduceEqDiff, Nat.reduceAdd, Nat.reduceBEq, Nat.reduceLT, Nat.reduceLeDiff, binW, bodyQ, ressW, resW, ne_eq, forall_const, reduceCtorEq, implies_true, sets, oneAll, St.new, St.get, St.look, St.set, setL, setD, rels, fillE, fillD, List.replicate, rowsOf, forall_eq, eraseL, St.erase, Nat.reduceMul, ↓zD, zT, hd4, hw4, us_get _ hmw, us_set, hma, hml, hms]
              (repeat (first | refine And.intro (by omega) ?_ | refine And.intro rfl ?_))
              refine ⟨w + 1, by omega, ?_, by omega⟩
              rw [set_growO1 (by rw [us_len, us_len, mixG_len, hml])]
              (refine Weak.same ?_; simp only [sameF, Fr.get, ↓reduceIte, reduceIte, Nat.reduceEqDiff, reduceCtorEq, D.int.injEq, D.bool.injEq, D.sl.injEq, and_true, true_and, and_self])
            · have hd4 : ¬ ((w : Int) < (acc.length : Int)) := by omega
              have hw' : w = acc.length := by omega
              subst hw'
              rw [mixG_all]
              simp only [Int.reduceToNat, Int.reduceLT, Int.reduceLE, Int.reduceBEq, Int.reduceBNe, St0, argFr, ↓thenW, ↓blockW, ↓opX, ↓opV, ↓pX, ↓pW, ↓putK, ↓putP, ↓atK, ↓normK, ↓postZ, evO, Fr.get, Fr.put, ↓reduceIte, reduceIte, Nat.reduceEqDiff, Nat.reduceAdd, Nat.reduceBEq, Nat.reduceLT, Nat.reduceLeDiff, binW, bodyQ, ressW, resW, ne_eq, forall_const, reduceCtorEq, implies_true, sets, oneAll, St.new, St.get, St.look, St.set, setL, setD, rels, fillE, fillD, List.replicate, rowsOf, forall_eq, eraseL, St.erase, Nat.reduceMul, ↓zD, zT, hd4, hu]
              refine ⟨k + 1, by omega, ?_, by omega⟩
              rw [hs, growD_len (show (us acc).length = (us (zipG meet acc r)).length by simp [us, zipG])]
              (refine Weak.same ?_; simp only [sameF, Fr.get, ↓reduceIte, reduceIte, Nat.reduceEqDiff, reduceCtorEq, D.int.injEq, D.bool.injEq, D.sl.injEq, and_true, true_and, and_self])
      · have hd : ¬ ((k : Int) < (m.R.length : Int)) := by omega
        have hk' : k = m.R.length := by omega
        subst hk'
        simp only [Int.reduceToNat, Int.reduceLT, Int.reduceLE, Int.reduceBEq, Int.reduceBNe, St0, argFr, ↓thenW, ↓blockW, ↓opX, ↓opV, ↓pX, ↓pW, ↓putK, ↓putP, ↓atK, ↓normK, ↓postZ, evO, Fr.get, Fr.put, ↓reduceIte, reduceIte, Nat.reduceEqDiff, Nat.reduceAdd, Nat.reduceBEq, Nat.reduceLT, Nat.reduceLeDiff, binW, bodyQ, ressW, resW, ne_eq, forall_const, reduceCtorEq, implies_true, sets, oneAll, St.new, St.get, St.look, St.set, setL, setD, rels, fillE, fillD, List.replicate, rowsOf, forall_eq, eraseL, St.erase, Nat.reduceMul, ↓zD, zT, hd]
        (repeat (first | refine And.intro (by omega) ?_ | refine And.intro rfl ?_))
        refine .drop (by simp) ?_
        simp only [stay1, vwL, vw, vwF, sw, St.get, St.look, Fr.get, ↓reduceIte, reduceIte, Nat.reduceEqDiff, Nat.reduceAdd, Nat.reduceBEq, Nat.reduceLT, Nat.reduceLeDiff, exists_eq_left', ne_eq, reduceCtorEq, zR]
  · have h1b : (m.check != 0) = true := by simp [h1]
    simp only [Int.reduceToNat, Int.reduceLT, Int.reduceLE, Int.reduceBEq, Int.reduceBNe, St0, argFr, ↓thenW, ↓blockW, ↓opX, ↓opV, ↓pX, ↓pW, ↓putK, ↓putP, ↓atK, ↓normK, ↓postZ, evO, Fr.get, Fr.put, ↓reduceIte, reduceIte, Nat.reduceEqDiff, Nat.reduceAdd, Nat.reduceBEq, Nat.reduceLT, Nat.reduceLeDiff, binW, bodyQ, ressW, resW, ne_eq, forall_const, reduceCtorEq, implies_true, sets, oneAll, St.new, St.get, St.look, St.set, setL, setD, rels, fillE, fillD, List.replicate, rowsOf, forall_eq, eraseL, St.erase, Nat.reduceMul, ↓zD, zT, h1b]
    exact .drop (by simp) (by simp [vw, Mod.group, h1, us])
theorem group_runs (m : Mod) (g : Int) : Runs Tryd.prog 28 [m.d, .int .i64 g] (.sl 1 (us (m.group g false))) := by
  refine CallT.go_fn mixed Tryd.func28 k28 (by simp) fun hf => ?_
  simp only [Int.reduceToNat, Int.reduceLT, Int.reduceLE, Int.reduceBEq, Int.reduceBNe, St0, argFr, ↓thenW, ↓blockW, ↓opX, ↓opV, ↓pX, ↓pW, ↓putK, ↓putP, ↓atK, ↓normK, ↓postZ, evO, Fr.get, Fr.put, ↓reduceIte, reduceIte, Nat.reduceEqDiff, Nat.reduceAdd, Nat.reduceBEq, Nat.reduceLT, Nat.reduceLeDiff, binW, bodyQ, ressW, resW, ne_eq, forall_const, reduceCtorEq, implies_true, sets, oneAll, St.new, St.get, St.look, St.set, setL, setD, rels, fillE, fillD, List.replicate, rowsOf, forall_eq, eraseL, St.erase, Nat.reduceMul, ↓zD, zT, Mod.d]
  refine .go (CallT.of_runs (gather_runs m g false 50 join_or) rfl) ?_
  simp only [Int.reduceToNat, Int.reduceLT, Int.reduceLE, Int.reduceBEq, Int.reduceBNe, St0, argFr, ↓thenW, ↓blockW, ↓opX, ↓opV, ↓pX, ↓pW, ↓putK, ↓putP, ↓atK, ↓normK, ↓postZ, evO, Fr.get, Fr.put, ↓reduceIte, reduceIte, Nat.reduceEqDiff, Nat.reduceAdd, Nat.reduceBEq, Nat.reduceLT, Nat.reduceLeDiff, binW, bodyQ, ressW, resW, ne_eq, forall_const, reduceCtorEq, implies_true, sets, oneAll, St.new, St.get, St.look, St.set, setL, setD, rels, fillE, fillD, List.replicate, rowsOf, forall_eq, eraseL, St.erase, Nat.reduceMul, ↓zD, zT]
  exact .drop (by simp) (by simp [vw])
theorem meet_runs (m : Mod) (g : Int) : Runs Tryd.prog 30 [m.d, .int .i64 g] (.sl 1 (us (m.group g true))) := by
  refine CallT.go_fn mixed Tryd.func30 k30 (by simp) fun hf => ?_
  simp only [Int.reduceToNat, Int.reduceLT, Int.reduceLE, Int.reduceBEq, Int.reduceBNe, St0, argFr, ↓thenW, ↓blockW, ↓opX, ↓opV, ↓pX, ↓pW, ↓putK, ↓putP, ↓atK, ↓normK, ↓postZ, evO, Fr.get, Fr.put, ↓reduceIte, reduceIte, Nat.reduceEqDiff, Nat.reduceAdd, Nat.reduceBEq, Nat.reduceLT, Nat.reduceLeDiff, binW, bodyQ, ressW, resW, ne_eq, forall_const, reduceCtorEq, implies_true, sets, oneAll, St.new, St.get, St.look, St.set, setL, setD, rels, fillE, fillD, List.replicate, rowsOf, forall_eq, eraseL, St.erase, Nat.reduceMul, ↓zD, zT, Mod.d]
  refine .go (CallT.of_runs (gather_runs m g true 52 join_and) rfl) ?_
  simp only [Int.reduceToNat, Int.reduceLT, Int.reduceLE, Int.reduceBEq, Int.reduceBNe, St0, argFr, ↓thenW, ↓blockW, ↓opX, ↓opV, ↓pX, ↓pW, ↓putK, ↓putP, ↓atK, ↓normK, ↓postZ, evO, Fr.get, Fr.put, ↓reduceIte, reduceIte, Nat.reduceEqDiff, Nat.reduceAdd, Nat.reduceBEq, Nat.reduceLT, Nat.reduceLeDiff, binW, bodyQ, ressW, resW, ne_eq, forall_const, reduceCtorEq, implies_true, sets, oneAll, St.new, St.get, St.look, St.set, setL, setD, rels, fillE, fillD, List.replicate, rowsOf, forall_eq, eraseL, St.erase, Nat.reduceMul, ↓zD, zT]
  exact .drop (by simp) (by simp [vw])
theorem refGroup_runs (m : Mod) (g : Int) : Runs Tryd.prog 29 [m.d, .int .i64 g] (.sl 1 (us (m.group g false))) := by
  refine CallT.go_fn mixed Tryd.func29 k29 (by simp) fun hf => ?_
  simp only [Int.reduceToNat, Int.reduceLT, Int.reduceLE, Int.reduceBEq, Int.reduceBNe, St0, argFr, ↓thenW, ↓blockW, ↓opX, ↓opV, ↓pX, ↓pW, ↓putK, ↓putP, ↓atK, ↓normK, ↓postZ, evO, Fr.get, Fr.put, ↓reduceIte, reduceIte, Nat.reduceEqDiff, Nat.reduceAdd, Nat.reduceBEq, Nat.reduceLT, Nat.reduceLeDiff, binW, bodyQ, ressW, resW, ne_eq, forall_const, reduceCtorEq, implies_true, sets, oneAll, St.new, St.get, St.look, St.set, setL, setD, rels, fillE, fillD, List.replicate, rowsOf, forall_eq, eraseL, St.erase, Nat.reduceMul, ↓zD, zT, Mod.d]
  refine .go (CallT.of_runs (refgroup_runs m g false) rfl) ?_
  simp only [Int.reduceToNat, Int.reduceLT, Int.reduceLE, Int.reduceBEq, Int.reduceBNe, St0, argFr, ↓thenW, ↓blockW, ↓opX, ↓opV, ↓pX, ↓pW, ↓putK, ↓putP, ↓atK, ↓normK, ↓postZ, evO, Fr.get, Fr.put, ↓reduceIte, reduceIte, Nat.reduceEqDiff, Nat.reduceAdd, Nat.reduceBEq, Nat.reduceLT, Nat.reduceLeDiff, binW, bodyQ, ressW, resW, ne_eq, forall_const, reduceCtorEq, implies_true, sets, oneAll, St.new, St.get, St.look, St.set, setL, setD, rels, fillE, fillD, List.replicate, rowsOf, forall_eq, eraseL, St.erase, Nat.reduceMul, ↓zD, zT]
  exact .drop (by simp) (by simp [vw])
theorem refMeet_runs (m : Mod) (g : Int) : Runs Tryd.prog 31 [m.d, .int .i64 g] (.sl 1 (us (m.group g true))) := by
  refine CallT.go_fn mixed Tryd.func31 k31 (by simp) fun hf => ?_
  simp only [Int.reduceToNat, Int.reduceLT, Int.reduceLE, Int.reduceBEq, Int.reduceBNe, St0, argFr, ↓thenW, ↓blockW, ↓opX, ↓opV, ↓pX, ↓pW, ↓putK, ↓putP, ↓atK, ↓normK, ↓postZ, evO, Fr.get, Fr.put, ↓reduceIte, reduceIte, Nat.reduceEqDiff, Nat.reduceAdd, Nat.reduceBEq, Nat.reduceLT, Nat.reduceLeDiff, binW, bodyQ, ressW, resW, ne_eq, forall_const, reduceCtorEq, implies_true, sets, oneAll, St.new, St.get, St.look, St.set, setL, setD, rels, fillE, fillD, List.replicate, rowsOf, forall_eq, eraseL, St.erase, Nat.reduceMul, ↓zD, zT, Mod.d]
  refine .go (CallT.of_runs (refgroup_runs m g true) rfl) ?_
  simp only [Int.reduceToNat, Int.reduceLT, Int.reduceLE, Int.reduceBEq, Int.reduceBNe, St0, argFr, ↓thenW, ↓blockW, ↓opX, ↓opV, ↓pX, ↓pW, ↓putK, ↓putP, ↓atK, ↓normK, ↓postZ, evO, Fr.get, Fr.put, ↓reduceIte, reduceIte, Nat.reduceEqDiff, Nat.reduceAdd, Nat.reduceBEq, Nat.reduceLT, Nat.reduceLeDiff, binW, bodyQ, ressW, resW, ne_eq, forall_const, reduceCtorEq, implies_true, sets, oneAll, St.new, St.get, St.look, St.set, setL, setD, rels, fillE, fillD, List.replicate, rowsOf, forall_eq, eraseL, St.erase, Nat.reduceMul, ↓zD, zT]
  exact .drop (by simp) (by simp [vw])
end Go.Pd
