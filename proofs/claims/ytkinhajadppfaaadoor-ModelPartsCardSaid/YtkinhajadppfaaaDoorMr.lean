/- Package model and its specification: contracts, part r: the relations of groups. -/
import Derived.Test.YtkinhajadppfaaaDoorMq
set_option linter.unusedSectionVars false
set_option linter.unusedVariables false
set_option linter.unusedSimpArgs false
set_option linter.defProp false
set_option maxRecDepth 20000
namespace Go.Pd
open Go Go.Proofs
/-! ### The plain law -/
def op2 (meet : Bool) (a b : BitVec 64) : BitVec 64 := if meet then a &&& b else a ||| b
def base2 (meet : Bool) (W : Int) : BitVec 64 := if meet then allS W else 0#64
def foldG (m : Mod) (G : Nat) (meet : Bool) (w : Nat) : Nat → BitVec 64
  | 0 => base2 meet m.W
  | k + 1 => if G.testBit k then op2 meet (foldG m G meet w k) ((m.R.getD k []).getD w 0) else foldG m G meet w k
def Mod.group (m : Mod) (g : Int) (meet : Bool) : List (BitVec 64) :=
  if m.check ≠ 0 ∨ g < 1 ∨ ((2 ^ m.R.length : Nat) : Int) ≤ g then [] else (List.range m.W.toNat).map fun w => foldG m g.toNat meet w m.R.length
def zipG (meet : Bool) (acc r : List (BitVec 64)) : List (BitVec 64) := (List.range acc.length).map fun i => op2 meet (acc.getD i 0) (r.getD i 0)
def accG (m : Mod) (G : Nat) (meet : Bool) : Nat → List (BitVec 64)
  | 0 => []
  | k + 1 => if G.testBit k then (if (accG m G meet k).isEmpty then m.R.getD k [] else zipG meet (accG m G meet k) (m.R.getD k [])) else accG m G meet k
theorem getD_range_map {α : Type} (f : Nat → α) (n i : Nat) (d : α) (h : i < n) : ((List.range n).map f).getD i d = f i := by simp [List.getD, h]
theorem accG_law {m : Mod} (hc : m.check = 0) (G : Nat) (meet : Bool) : ∀ k, k ≤ m.R.length →
    ((accG m G meet k = [] → (∀ a, a < k → G.testBit a = false) ∧ ∀ w, foldG m G meet w k = base2 meet m.W) ∧ (accG m G meet k ≠ [] → (accG m G meet k).length = m.W.toNat ∧ ∀ w, w < m.W.toNat → (accG m G meet k).getD w 0 = foldG m G meet w k))
  | 0, _ => ⟨fun _ => ⟨fun a ha => by omega, fun w => rfl⟩, fun h => absurd rfl h⟩
  | k + 1, hk => by
    obtain ⟨i1, i2⟩ := accG_law hc G meet k (by omega)
    obtain ⟨c1, c2, c3, c4, c5, c6, c7⟩ := Mod.check_zero hc
    have hr : m.R.getD k [] ∈ m.R := by simp [List.getD, show k < m.R.length by omega]
    have hrl := c5 _ hr
    have hsub : ∀ w, w < m.W.toNat → op2 meet (base2 meet m.W) ((m.R.getD k []).getD w 0) = (m.R.getD k []).getD w 0 := by
      intro w hw
      unfold op2 base2
      cases meet with
      | false => simp
      | true =>
        have h := c7 _ hr
        unfold outS at h
        have hm : (m.R.getD k []).getD w 0 ∈ m.R.getD k [] := by
          have : w < (m.R.getD k []).length := by omega
          generalize m.R.getD k [] = r at *
          simp [List.getD, this]
        have := List.any_eq_false.1 h _ hm
        simp only [bne_iff_ne, ne_eq, Decidable.not_not] at this
        have hb := sub_bits.1 this
        simp only [if_true]
        apply BitVec.eq_of_getLsbD_eq
        intro i _
        rw [BitVec.getLsbD_and]
        cases e : ((m.R.getD k []).getD w 0).getLsbD i with
        | false => simp
        | true => rw [hb i e]; rfl
    by_cases hb : G.testBit k = true
    · simp only [accG, foldG, hb, if_true]
      by_cases he : accG m G meet k = []
      · obtain ⟨_, i4⟩ := i1 he
        rw [he]
        simp only [List.isEmpty_nil, if_true]
        refine ⟨fun h => ?_, fun _ => ⟨by omega, fun w hw => ?_⟩⟩
        · rw [h] at hrl; simp at hrl; omega
        · rw [i4 w, hsub w hw]
      · obtain ⟨i3, i4⟩ := i2 he
        have hie : (accG m G meet k).isEmpty = false := by simpa using he
        rw [hie]
        simp only [Bool.false_eq_true, if_false]
        refine ⟨fun h => ?_, fun _ => ⟨?_, fun w hw => ?_⟩⟩
        · have := congrArg List.length h
          simp [zipG] at this
          exact absurd this he
        · simp [zipG, i3]
        · unfold zipG
          rw [getD_range_map _ _ _ _ (by omega), i4 w hw]
    · have hb' : G.testBit k = false := by simpa using hb
      simp only [accG, foldG, hb', Bool.false_eq_true, if_false]
      refine ⟨fun h => ⟨fun a ha => ?_, (i1 h).2⟩, i2⟩
      by_cases e : a = k
      · rw [e]; exact hb'
      · exact (i1 h).1 a (by omega)
theorem accG_all {m : Mod} (hc : m.check = 0) {g : Int} (meet : Bool) (h1 : ¬ g < 1) (h2 : ¬ ((2 ^ m.R.length : Nat) : Int) ≤ g) : accG m g.toNat meet m.R.length = m.group g meet := by
  obtain ⟨i1, i2⟩ := accG_law hc g.toNat meet m.R.length (Nat.le_refl _)
  have hne : accG m g.toNat meet m.R.length ≠ [] := by
    intro e
    have h3 := (i1 e).1
    have : g.toNat = 0 := by
      apply Nat.eq_of_testBit_eq
      intro i
      rw [Nat.zero_testBit]
      by_cases hi : i < m.R.length
      · exact h3 i hi
      · apply Nat.testBit_lt_two_pow
        have : 2 ^ m.R.length ≤ 2 ^ i := Nat.pow_le_pow_right (by omega) (by omega)
        omega
    omega
  obtain ⟨i3, i4⟩ := i2 hne
  unfold Mod.group
  rw [if_neg (by omega)]
  refine List.ext_getElem (by simp [i3]) fun w hw hw' => ?_
  have hw2 : w < m.W.toNat := by omega
  have := i4 w hw2
  simp only [List.getD, List.getElem?_eq_getElem hw, Option.getD_some] at this
  simp [this]
theorem bit_i64 {g : Int} {k : Nat} (h0 : 0 ≤ g) (h1 : g < 9223372036854775808) (hk : k < 64) : shrI .i64 g k = ((g.toNat / 2 ^ k : Nat) : Int) := by
  unfold shrI
  have e : min (k : Int).toNat IntKind.i64.bits = k := by
    have : IntKind.i64.bits = 64 := rfl
    rw [this, Int.toNat_natCast]; omega
  have e2 : ((2 : Int) ^ k) = ((2 ^ k : Nat) : Int) := by norm_cast
  rw [e, e2, Int.fdiv_eq_ediv_of_nonneg _ (Int.natCast_nonneg _)]
  have : g = ((g.toNat : Nat) : Int) := by omega
  rw [this, ← Int.natCast_ediv]
  simp
theorem and1_i64 {n : Nat} (h : n < 9223372036854775808) : bitI .and .i64 (n : Int) 1 = ((n % 2 : Nat) : Int) := by
  show IntKind.i64.wrap ((BitVec.ofInt 64 (n : Int) &&& BitVec.ofInt 64 1).toNat : Int) = _
  rw [BitVec.ofInt_natCast, BitVec.toNat_and, BitVec.toNat_ofNat, Nat.mod_eq_of_lt (by omega)]
  have : (BitVec.ofInt 64 1).toNat = 1 := rfl
  rw [this, Nat.and_one_is_mod]
  exact wrap_i64 (by omega)
theorem bitand_i64 {g : Int} {k : Nat} (h0 : 0 ≤ g) (h1 : g < 9223372036854775808) (hk : k < 64) : bitI .and .i64 (shrI .i64 g k) 1 = if g.toNat.testBit k then 1 else 0 := by
  rw [bit_i64 h0 h1 hk, and1_i64 (Nat.lt_of_le_of_lt (Nat.div_le_self _ _) (by omega)), Nat.testBit_eq_decide_div_mod_eq]
  by_cases h : g.toNat / 2 ^ k % 2 = 1
  · simp [h]
  · have : g.toNat / 2 ^ k % 2 = 0 := by omega
    simp [this]
theorem bitrem_i64 {g : Int} {k : Nat} (h0 : 0 ≤ g) (h1 : g < 9223372036854775808) (hk : k < 64) : (shrI .i64 g k).tmod 2 = if g.toNat.testBit k then 1 else 0 := by
  rw [bit_i64 h0 h1 hk, Int.tmod_eq_emod_of_nonneg (Int.natCast_nonneg _), Nat.testBit_eq_decide_div_mod_eq]
  have e : ((g.toNat / 2 ^ k : Nat) : Int) % 2 = ((g.toNat / 2 ^ k % 2 : Nat) : Int) := by omega
  rw [e]
  by_cases h : g.toNat / 2 ^ k % 2 = 1
  · simp [h]
  · have : g.toNat / 2 ^ k % 2 = 0 := by omega
    simp [this]

theorem foldG_succ (m : Mod) (G : Nat) (meet : Bool) (w k : Nat) : foldG m G meet w (k + 1) = if G.testBit k then op2 meet (foldG m G meet w k) ((m.R.getD k []).getD w 0) else foldG m G meet w k := rfl
theorem refgroup_runs (m : Mod) (g : Int) (meet : Bool) : Runs Tryd.prog 51 [m.d, .int .i64 g, .bool meet] (.sl 1 (us (m.group g meet))) := by
  refine CallT.go_fn mixed Tryd.func51 k51 (by simp) fun hf => ?_
  simp only [Mod.d, rels, sets, D.factL, D.fact, us_len, rr_len] at hf
  have hg := hf.2.1
  have e1 : IntKind.i64.min = -9223372036854775808 := rfl
  have e2 : IntKind.i64.max = 9223372036854775807 := rfl
  rw [e1, e2] at hg
  simp only [Int.reduceToNat, Int.reduceLT, Int.reduceLE, Int.reduceBEq, Int.reduceBNe, St0, argFr, ↓thenW, ↓blockW, ↓opX, ↓opV, ↓pX, ↓pW, ↓putK, ↓putP, ↓atK, ↓normK, ↓postZ, evO, Fr.get, Fr.put, ↓reduceIte, reduceIte, Nat.reduceEqDiff, Nat.reduceAdd, Nat.reduceBEq, Nat.reduceLT, Nat.reduceLeDiff, binW, bodyQ, ressW, resW, ne_eq, forall_const, reduceCtorEq, implies_true, sets, oneAll, St.new, St.get, St.look, St.set, setL, setD, rels, fillE, fillD, List.replicate, rowsOf, forall_eq, eraseL, St.erase, Nat.reduceMul, ↓zD, zT, Mod.d]
  refine .go (CallT.of_runs (refCheck_runs m) rfl) ?_
  by_cases h1 : m.check = 0
  · obtain ⟨c1, c2, c3, c4, c5, c6, c7⟩ := Mod.check_zero h1
    have hsh := shl_one (k := m.R.length) (by omega)
    by_cases h2 : g < 1
    · simp only [Int.reduceToNat, Int.reduceLT, Int.reduceLE, Int.reduceBEq, Int.reduceBNe, St0, argFr, ↓thenW, ↓blockW, ↓opX, ↓opV, ↓pX, ↓pW, ↓putK, ↓putP, ↓atK, ↓normK, ↓postZ, evO, Fr.get, Fr.put, ↓reduceIte, reduceIte, Nat.reduceEqDiff, Nat.reduceAdd, Nat.reduceBEq, Nat.reduceLT, Nat.reduceLeDiff, binW, bodyQ, ressW, resW, ne_eq, forall_const, reduceCtorEq, implies_true, sets, oneAll, St.new, St.get, St.look, St.set, setL, setD, rels, fillE, fillD, List.replicate, rowsOf, forall_eq, eraseL, St.erase, Nat.reduceMul, ↓zD, zT, h1, h2, bne_self_eq_false]
      exact .drop (by simp) (by simp [vw, Mod.group, h2, us])
    by_cases h3 : ((2 ^ m.R.length : Nat) : Int) ≤ g
    · simp only [Int.reduceToNat, Int.reduceLT, Int.reduceLE, Int.reduceBEq, Int.reduceBNe, St0, argFr, ↓thenW, ↓blockW, ↓opX, ↓opV, ↓pX, ↓pW, ↓putK, ↓putP, ↓atK, ↓normK, ↓postZ, evO, Fr.get, Fr.put, ↓reduceIte, reduceIte, Nat.reduceEqDiff, Nat.reduceAdd, Nat.reduceBEq, Nat.reduceLT, Nat.reduceLeDiff, binW, bodyQ, ressW, resW, ne_eq, forall_const, reduceCtorEq, implies_true, sets, oneAll, St.new, St.get, St.look, St.set, setL, setD, rels, fillE, fillD, List.replicate, rowsOf, forall_eq, eraseL, St.erase, Nat.reduceMul, ↓zD, zT, h1, h2, h3, bne_self_eq_false, hsh]
      (repeat (first | refine And.intro (by omega) ?_ | refine And.intro rfl ?_))
      have hge : m.group g meet = [] := by unfold Mod.group; rw [if_pos (by omega)]
      exact .drop (by simp) (by simp [vw, hge, us])
    · obtain ⟨W, hW⟩ : ∃ W : Nat, m.W = (W : Int) := ⟨m.W.toNat, by omega⟩
      have hWt : m.W.toNat = W := by omega
      have hres : m.group g meet = (List.range W).map fun w => foldG m g.toNat meet w m.R.length := by
        unfold Mod.group; rw [if_neg (by omega), hWt]
      rw [hres]
      simp only [Int.reduceToNat, Int.reduceLT, Int.reduceLE, Int.reduceBEq, Int.reduceBNe, St0, argFr, ↓thenW, ↓blockW, ↓opX, ↓opV, ↓pX, ↓pW, ↓putK, ↓putP, ↓atK, ↓normK, ↓postZ, evO, Fr.get, Fr.put, ↓reduceIte, reduceIte, Nat.reduceEqDiff, Nat.reduceAdd, Nat.reduceBEq, Nat.reduceLT, Nat.reduceLeDiff, binW, bodyQ, ressW, resW, ne_eq, forall_const, reduceCtorEq, implies_true, sets, oneAll, St.new, St.get, St.look, St.set, setL, setD, rels, fillE, fillD, List.replicate, rowsOf, forall_eq, eraseL, St.erase, Nat.reduceMul, ↓zD, zT, h1, h2, h3, bne_self_eq_false, hsh]
      (repeat (first | refine And.intro (by omega) ?_ | refine And.intro rfl ?_))
      rw [hW]
      refine wpS_loop (fun w : Nat => [(8, .int .i64 w), (7, growD 1 1 (us ((List.range w).map fun w => foldG m g.toNat meet w m.R.length))), (3, .ref 0 3 0 0), (2, .bool meet), (1, .int .i64 g)])
        (fun w => ⟨2, growO 1 1 (us ((List.range w).map fun w => foldG m g.toNat meet w m.R.length)) ++ [(0, ⟨3, [[.int .i64 W, .sl 1 (us m.V), .sl 1 (rr m.R)]]⟩)]⟩) (fun w => w ≤ W) (fun w => W - w) 0 (Nat.zero_le _) ?_ ?_
      · (refine Weak.ren [] [1, 0] (by simp) (by simp) (by decide) ?_; simp only [stay1, vwL, vw, vwF, sw, St.get, St.look, Fr.get, ↓reduceIte, reduceIte, Nat.reduceEqDiff, Nat.reduceAdd, Nat.reduceBEq, Nat.reduceLT, Nat.reduceLeDiff, exists_eq_left', ne_eq, reduceCtorEq, zR, List.range_zero, List.map_nil, growO_nil, growD_nil, List.nil_append])
      intro w hw
      refine wpS_go mixed ?_
      by_cases h : w < W
      · have hd : ((w : Int) < (W : Int)) := by omega
        have hu := wrap_up (k := w) (by omega)
        have ht : (List.range (w + 1)).map (fun w => foldG m g.toNat meet w m.R.length) = (List.range w).map (fun w => foldG m g.toNat meet w m.R.length) ++ [foldG m g.toNat meet w m.R.length] := by
          rw [List.range_succ, List.map_append]; rfl
        have hlen : ((List.range w).map fun w => foldG m g.toNat meet w m.R.length).length = w := by simp
        generalize (List.range w).map (fun w => foldG m g.toNat meet w m.R.length) = v at *
        cases meet with
        | true =>
          simp only [Int.reduceToNat, Int.reduceLT, Int.reduceLE, Int.reduceBEq, Int.reduceBNe, St0, argFr, ↓thenW, ↓blockW, ↓opX, ↓opV, ↓pX, ↓pW, ↓putK, ↓putP, ↓atK, ↓normK, ↓postZ, evO, Fr.get, Fr.put, ↓reduceIte, reduceIte, Nat.reduceEqDiff, Nat.reduceAdd, Nat.reduceBEq, Nat.reduceLT, Nat.reduceLeDiff, binW, bodyQ, ressW, resW, ne_eq, forall_const, reduceCtorEq, implies_true, sets, oneAll, St.new, St.get, St.look, St.set, setL, setD, rels, fillE, fillD, List.replicate, rowsOf, forall_eq, eraseL, St.erase, Nat.reduceMul, ↓zD, zT, hd]
          (repeat (first | refine And.intro (by omega) ?_ | refine And.intro rfl ?_))
          refine .go (CallT.of_runs (refAll_runs W (by omega)) rfl) ?_
          simp only [Int.reduceToNat, Int.reduceLT, Int.reduceLE, Int.reduceBEq, Int.reduceBNe, St0, argFr, ↓thenW, ↓blockW, ↓opX, ↓opV, ↓pX, ↓pW, ↓putK, ↓putP, ↓atK, ↓normK, ↓postZ, evO, Fr.get, Fr.put, ↓reduceIte, reduceIte, Nat.reduceEqDiff, Nat.reduceAdd, Nat.reduceBEq, Nat.reduceLT, Nat.reduceLeDiff, binW, bodyQ, ressW, resW, ne_eq, forall_const, reduceCtorEq, implies_true, sets, oneAll, St.new, St.get, St.look, St.set, setL, setD, rels, fillE, fillD, List.replicate, rowsOf, forall_eq, eraseL, St.erase, Nat.reduceMul, ↓zD, zT]
          refine wpS_loop (fun a : Nat => [(10, .int .i64 a), (9, .int .u64 (ui (foldG m g.toNat true w a))), (8, .int .i64 w), (7, growD 1 1 (us v)), (3, .ref 0 3 0 0), (2, .bool true), (1, .int .i64 g)])
            (fun _ => ⟨2, growO 1 1 (us v) ++ [(0, ⟨3, [[.int .i64 W, .sl 1 (us m.V), .sl 1 (rr m.R)]]⟩)]⟩) (fun a => a ≤ m.R.length) (fun a => m.R.length - a) 0 (Nat.zero_le _) ?_ ?_
          · (refine Weak.same ?_; simp [sameF, Fr.get, foldG, base2, hW])
          intro a ha
          refine wpS_go mixed ?_
          by_cases h4 : a < m.R.length
          · have hd4 : ((a : Int) < (m.R.length : Int)) := by omega
            have hw4 := wrap_up (k := a) (by omega)
            have hr : m.R.getD a [] ∈ m.R := by simp [List.getD, h4]
            have hrl := c5 _ hr
            have hx : w < (m.R.getD a []).length := by omega
            have hx' : (w : Int) < ((m.R.getD a []).length : Int) := by omega
            have hbr := bitrem_i64 (g := g) (k := a) (by omega) (by omega) (by omega)
            cases hb : g.toNat.testBit a with
            | true =>
              rw [hb] at hbr
              simp only [Int.reduceToNat, Int.reduceLT, Int.reduceLE, Int.reduceBEq, Int.reduceBNe, St0, argFr, ↓thenW, ↓blockW, ↓opX, ↓opV, ↓pX, ↓pW, ↓putK, ↓putP, ↓atK, ↓normK, ↓postZ, evO, Fr.get, Fr.put, ↓reduceIte, reduceIte, Nat.reduceEqDiff, Nat.reduceAdd, Nat.reduceBEq, Nat.reduceLT, Nat.reduceLeDiff, binW, bodyQ, ressW, resW, ne_eq, forall_const, reduceCtorEq, implies_true, sets, oneAll, St.new, St.get, St.look, St.set, setL, setD, rels, fillE, fillD, List.replicate, rowsOf, forall_eq, eraseL, St.erase, Nat.reduceMul, ↓zD, zT, hd4, hbr, hw4, rr_get _ h4, us_get _ hx]
              (repeat (first | refine And.intro (by omega) ?_ | refine And.intro rfl ?_))
              refine ⟨a + 1, by omega, ?_, by omega⟩
              rw [foldG_succ, hb, if_pos rfl]
              (refine Weak.same ?_; simp only [sameF, Fr.get, ↓reduceIte, reduceIte, Nat.reduceEqDiff, reduceCtorEq, D.int.injEq, D.bool.injEq, D.sl.injEq, and_true, true_and, and_self, op2])
            | false =>
              rw [hb] at hbr
              simp only [Int.reduceToNat, Int.reduceLT, Int.reduceLE, Int.reduceBEq, Int.reduceBNe, St0, argFr, ↓thenW, ↓blockW, ↓opX, ↓opV, ↓pX, ↓pW, ↓putK, ↓putP, ↓atK, ↓normK, ↓postZ, evO, Fr.get, Fr.put, ↓reduceIte, reduceIte, Nat.reduceEqDiff, Nat.reduceAdd, Nat.reduceBEq, Nat.reduceLT, Nat.reduceLeDiff, binW, bodyQ, ressW, resW, ne_eq, forall_const, reduceCtorEq, implies_true, sets, oneAll, St.new, St.get, St.look, St.set, setL, setD, rels, fillE, fillD, List.replicate, rowsOf, forall_eq, eraseL, St.erase, Nat.reduceMul, ↓zD, zT, hd4, hbr, hw4]
              (repeat (first | refine And.intro (by omega) ?_ | refine And.intro rfl ?_))
              refine ⟨a + 1, by omega, ?_, by omega⟩
              rw [foldG_succ, hb, if_neg (by simp)]
              (refine Weak.same ?_; simp only [sameF, Fr.get, ↓reduceIte, reduceIte, Nat.reduceEqDiff, reduceCtorEq, D.int.injEq, D.bool.injEq, D.sl.injEq, and_true, true_and, and_self])
          · have hd4 : ¬ ((a : Int) < (m.R.length : Int)) := by omega
            have ha' : a = m.R.length := by omega
            subst ha'
            simp only [Int.reduceToNat, Int.reduceLT, Int.reduceLE, Int.reduceBEq, Int.reduceBNe, St0, argFr, ↓thenW, ↓blockW, ↓opX, ↓opV, ↓pX, ↓pW, ↓putK, ↓putP, ↓atK, ↓normK, ↓postZ, evO, Fr.get, Fr.put, ↓reduceIte, reduceIte, Nat.reduceEqDiff, Nat.reduceAdd, Nat.reduceBEq, Nat.reduceLT, Nat.reduceLeDiff, binW, bodyQ, ressW, resW, ne_eq, forall_const, reduceCtorEq, implies_true, sets, oneAll, St.new, St.get, St.look, St.set, setL, setD, rels, fillE, fillD, List.replicate, rowsOf, forall_eq, eraseL, St.erase, Nat.reduceMul, ↓zD, zT, hd4, hu, hlen]
            (repeat (first | refine And.intro (by omega) ?_ | refine And.intro rfl ?_))
            refine ⟨w + 1, by omega, ?_, by omega⟩
            rw [ht]
            (refine Weak.ren [(1, 2)] [1, 0] (by simp) (by simp) (by decide) ?_; simp only [stay1, vwL, vw, vwF, sw, St.get, St.look, Fr.get, ↓reduceIte, reduceIte, Nat.reduceEqDiff, Nat.reduceAdd, Nat.reduceBEq, Nat.reduceLT, Nat.reduceLeDiff, exists_eq_left', ne_eq, reduceCtorEq, zR])
        | false =>
          simp only [Int.reduceToNat, Int.reduceLT, Int.reduceLE, Int.reduceBEq, Int.reduceBNe, St0, argFr, ↓thenW, ↓blockW, ↓opX, ↓opV, ↓pX, ↓pW, ↓putK, ↓putP, ↓atK, ↓normK, ↓postZ, evO, Fr.get, Fr.put, ↓reduceIte, reduceIte, Nat.reduceEqDiff, Nat.reduceAdd, Nat.reduceBEq, Nat.reduceLT, Nat.reduceLeDiff, binW, bodyQ, ressW, resW, ne_eq, forall_const, reduceCtorEq, implies_true, sets, oneAll, St.new, St.get, St.look, St.set, setL, setD, rels, fillE, fillD, List.replicate, rowsOf, forall_eq, eraseL, St.erase, Nat.reduceMul, ↓zD, zT, hd]
          (repeat (first | refine And.intro (by omega) ?_ | refine And.intro rfl ?_))
          refine wpS_loop (fun a : Nat => [(10, .int .i64 a), (9, .int .u64 (ui (foldG m g.toNat false w a))), (8, .int .i64 w), (7, growD 1 1 (us v)), (3, .ref 0 3 0 0), (2, .bool false), (1, .int .i64 g)])
            (fun _ => ⟨2, growO 1 1 (us v) ++ [(0, ⟨3, [[.int .i64 W, .sl 1 (us m.V), .sl 1 (rr m.R)]]⟩)]⟩) (fun a => a ≤ m.R.length) (fun a => m.R.length - a) 0 (Nat.zero_le _) ?_ ?_
          · (refine Weak.same ?_; simp [sameF, Fr.get, foldG, base2, hW])
          intro a ha
          refine wpS_go mixed ?_
          by_cases h4 : a < m.R.length
          · have hd4 : ((a : Int) < (m.R.length : Int)) := by omega
            have hw4 := wrap_up (k := a) (by omega)
            have hr : m.R.getD a [] ∈ m.R := by simp [List.getD, h4]
            have hrl := c5 _ hr
            have hx : w < (m.R.getD a []).length := by omega
            have hx' : (w : Int) < ((m.R.getD a []).length : Int) := by omega
            have hbr := bitrem_i64 (g := g) (k := a) (by omega) (by omega) (by omega)
            cases hb : g.toNat.testBit a with
            | true =>
              rw [hb] at hbr
              simp only [Int.reduceToNat, Int.reduceLT, Int.reduceLE, Int.reduceBEq, Int.reduceBNe, St0, argFr, ↓thenW, ↓blockW, ↓opX, ↓opV, ↓pX, ↓pW, ↓putK, ↓putP, ↓atK, ↓normK, ↓postZ, evO, Fr.get, Fr.put, ↓reduceIte, reduceIte, Nat.reduceEqDiff, Nat.reduceAdd, Nat.reduceBEq, Nat.reduceLT, Nat.reduceLeDiff, binW, bodyQ, ressW, resW, ne_eq, forall_const, reduceCtorEq, implies_true, sets, oneAll, St.new, St.get, St.look, St.set, setL, setD, rels, fillE, fillD, List.replicate, rowsOf, forall_eq, eraseL, St.erase, Nat.reduceMul, ↓zD, zT, hd4, hbr, hw4, rr_get _ h4, us_get _ hx]
              (repeat (first | refine And.intro (by omega) ?_ | refine And.intro rfl ?_))
              refine ⟨a + 1, by omega, ?_, by omega⟩
              rw [foldG_succ, hb, if_pos rfl]
              (refine Weak.same ?_; simp only [sameF, Fr.get, ↓reduceIte, reduceIte, Nat.reduceEqDiff, reduceCtorEq, D.int.injEq, D.bool.injEq, D.sl.injEq, and_true, true_and, and_self, op2])
            | false =>
              rw [hb] at hbr
              simp only [Int.reduceToNat, Int.reduceLT, Int.reduceLE, Int.reduceBEq, Int.reduceBNe, St0, argFr, ↓thenW, ↓blockW, ↓opX, ↓opV, ↓pX, ↓pW, ↓putK, ↓putP, ↓atK, ↓normK, ↓postZ, evO, Fr.get, Fr.put, ↓reduceIte, reduceIte, Nat.reduceEqDiff, Nat.reduceAdd, Nat.reduceBEq, Nat.reduceLT, Nat.reduceLeDiff, binW, bodyQ, ressW, resW, ne_eq, forall_const, reduceCtorEq, implies_true, sets, oneAll, St.new, St.get, St.look, St.set, setL, setD, rels, fillE, fillD, List.replicate, rowsOf, forall_eq, eraseL, St.erase, Nat.reduceMul, ↓zD, zT, hd4, hbr, hw4]
              (repeat (first | refine And.intro (by omega) ?_ | refine And.intro rfl ?_))
              refine ⟨a + 1, by omega, ?_, by omega⟩
              rw [foldG_succ, hb, if_neg (by simp)]
              (refine Weak.same ?_; simp only [sameF, Fr.get, ↓reduceIte, reduceIte, Nat.reduceEqDiff, reduceCtorEq, D.int.injEq, D.bool.injEq, D.sl.injEq, and_true, true_and, and_self])
          · have hd4 : ¬ ((a : Int) < (m.R.length : Int)) := by omega
            have ha' : a = m.R.length := by omega
            subst ha'
            simp only [Int.reduceToNat, Int.reduceLT, Int.reduceLE, Int.reduceBEq, Int.reduceBNe, St0, argFr, ↓thenW, ↓blockW, ↓opX, ↓opV, ↓pX, ↓pW, ↓putK, ↓putP, ↓atK, ↓normK, ↓postZ, evO, Fr.get, Fr.put, ↓reduceIte, reduceIte, Nat.reduceEqDiff, Nat.reduceAdd, Nat.reduceBEq, Nat.reduceLT, Nat.reduceLeDiff, binW, bodyQ, ressW, resW, ne_eq, forall_const, reduceCtorEq, implies_true, sets, oneAll, St.new, St.get, St.look, St.set, setL, setD, rels, fillE, fillD, List.replicate, rowsOf, forall_eq, eraseL, St.erase, Nat.reduceMul, ↓zD, zT, hd4, hu, hlen]
            (repeat (first | refine And.intro (by omega) ?_ | refine And.intro rfl ?_))
            refine ⟨w + 1, by omega, ?_, by omega⟩
            rw [ht]
            (refine Weak.ren [(1, 2)] [1, 0] (by simp) (by simp) (by decide) ?_; simp only [stay1, vwL, vw, vwF, sw, St.get, St.look, Fr.get, ↓reduceIte, reduceIte, Nat.reduceEqDiff, Nat.reduceAdd, Nat.reduceBEq, Nat.reduceLT, Nat.reduceLeDiff, exists_eq_left', ne_eq, reduceCtorEq, zR])
      · have hd : ¬ ((w : Int) < (W : Int)) := by omega
        have hw' : w = W := by omega
        subst hw'
        simp only [Int.reduceToNat, Int.reduceLT, Int.reduceLE, Int.reduceBEq, Int.reduceBNe, St0, argFr, ↓thenW, ↓blockW, ↓opX, ↓opV, ↓pX, ↓pW, ↓putK, ↓putP, ↓atK, ↓normK, ↓postZ, evO, Fr.get, Fr.put, ↓reduceIte, reduceIte, Nat.reduceEqDiff, Nat.reduceAdd, Nat.reduceBEq, Nat.reduceLT, Nat.reduceLeDiff, binW, bodyQ, ressW, resW, ne_eq, forall_const, reduceCtorEq, implies_true, sets, oneAll, St.new, St.get, St.look, St.set, setL, setD, rels, fillE, fillD, List.replicate, rowsOf, forall_eq, eraseL, St.erase, Nat.reduceMul, ↓zD, zT, hd]
        (repeat (first | refine And.intro (by omega) ?_ | refine And.intro rfl ?_))
        refine .drop (by simp) ?_
        simp only [stay1, vwL, vw, vwF, sw, St.get, St.look, Fr.get, ↓reduceIte, reduceIte, Nat.reduceEqDiff, Nat.reduceAdd, Nat.reduceBEq, Nat.reduceLT, Nat.reduceLeDiff, exists_eq_left', ne_eq, reduceCtorEq, zR]
  · have h1b : (m.check != 0) = true := by simp [h1]
    simp only [Int.reduceToNat, Int.reduceLT, Int.reduceLE, Int.reduceBEq, Int.reduceBNe, St0, argFr, ↓thenW, ↓blockW, ↓opX, ↓opV, ↓pX, ↓pW, ↓putK, ↓putP, ↓atK, ↓normK, ↓postZ, evO, Fr.get, Fr.put, ↓reduceIte, reduceIte, Nat.reduceEqDiff, Nat.reduceAdd, Nat.reduceBEq, Nat.reduceLT, Nat.reduceLeDiff, binW, bodyQ, ressW, resW, ne_eq, forall_const, reduceCtorEq, implies_true, sets, oneAll, St.new, St.get, St.look, St.set, setL, setD, rels, fillE, fillD, List.replicate, rowsOf, forall_eq, eraseL, St.erase, Nat.reduceMul, ↓zD, zT, h1b]
    exact .drop (by simp) (by simp [vw, Mod.group, h1, us])
end Go.Pd
