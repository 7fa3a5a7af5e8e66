/- Part C3. -/
import Derived.Test.YtjklmijiccabfaaKC2
set_option linter.unusedSectionVars false
set_option linter.unusedVariables false
set_option linter.unusedSimpArgs false
set_option linter.defProp false
set_option maxRecDepth 20000
set_option maxHeartbeats 1000000
namespace Go.Pd
open Go Go.Proofs
open Int renaming reduceToNat → ZA, reduceLT → ZB, reduceLE → ZC, reduceBEq → ZD, reduceBNe → ZE
open Nat renaming reduceEqDiff → ZF, reduceAdd → ZG, reduceBEq → ZH, reduceLT → ZI, reduceLeDiff → ZJ, reduceMul → ZK
open Rs Fm Ru Te
namespace Ru
def comW (r : List (BitVec 64)) (a c s : BitVec 64) : Nat → BitVec 64
 | 0 => a
 | n + 1 => boxW r (a &&& ~~~c ||| s &&& comW r a c s n)
theorem comW_stay {r : List (BitVec 64)} {a c s : BitVec 64} {n : Nat} (h : comW r a c s (n + 1) = comW r a c s n) : ∀ m, comW r a c s (n + m) = comW r a c s n
 | 0 => rfl
 | m + 1 => by
  show boxW r (a &&& ~~~c ||| s &&& comW r a c s (n + m)) = _
  rw [comW_stay h m]
  exact h
theorem in_outW {n : Nat} (hn : n ≤ 64) {x : BitVec 64} (h : outW n x = false) {i : Nat} (hi : x.getLsbD i = true) : i < n := by
 unfold outW at h
 rw [Bool.not_eq_false', decide_eq_true_iff] at h
 have h64 : i < 64 := Decidable.byContradiction fun hh => by rw [BitVec.getLsbD_of_ge _ _ (by omega)] at hi; cases hi
 have := congrArg (·.getLsbD i) h
 simp only [BitVec.getLsbD_and, BitVec.getLsbD_not, allW_bit hn h64, hi, h64, BitVec.getLsbD_zero] at this
 simpa using this
def bitG (R : List (List (BitVec 64))) (G : Nat) (meet : Bool) (k w v : Nat) : Bool :=
 if meet = true then (List.range k).all fun a => !G.testBit a || ((R.getD a []).getD w 0).getLsbD v else (List.range k).any fun a => G.testBit a && ((R.getD a []).getD w 0).getLsbD v
theorem op2_bit (meet : Bool) (a b : BitVec 64) (v : Nat) : (op2 meet a b).getLsbD v = if meet = true then (a.getLsbD v && b.getLsbD v) else (a.getLsbD v || b.getLsbD v) := by
 unfold op2
 cases meet <;> simp
theorem bitG_succ (R : List (List (BitVec 64))) (G : Nat) (meet : Bool) (k w v : Nat) : bitG R G meet (k + 1) w v = if G.testBit k = true then (if meet = true then (bitG R G meet k w v && ((R.getD k []).getD w 0).getLsbD v) else (bitG R G meet k w v || ((R.getD k []).getD w 0).getLsbD v)) else bitG R G meet k w v := by
 unfold bitG
 simp only [List.range_succ, List.any_append, List.all_append, List.any_cons, List.any_nil, List.all_cons, List.all_nil, Bool.or_false, Bool.and_true]
 cases meet <;> cases hG : G.testBit k <;> simp
theorem accG_bits {m : ModA} {W : Nat} (ok : ModOk m W) (G : Nat) (meet : Bool) : ∀ k, k ≤ m.R.length → ((∀ a, a < k → G.testBit a = false) ∧ accG m.R G meet k = []) ∨ ((∃ a, a < k ∧ G.testBit a = true) ∧ (accG m.R G meet k).length = W ∧ ∀ w, w < W → ∀ v, ((accG m.R G meet k).getD w 0).getLsbD v = bitG m.R G meet k w v)
 | 0, _ => .inl ⟨fun a h => by omega, rfl⟩
 | k + 1, hk => by
  have hr := ok.row _ (getD_mem (d := []) (show k < m.R.length by omega))
  rw [accG_succ]
  have ih := accG_bits ok G meet k (by omega)
  cases hb : G.testBit k with
  | false =>
   rw [if_neg (by simp)]
   rcases ih with ⟨h1, h2⟩ | ⟨⟨a, h1, h2⟩, h3, h4⟩
   ·refine .inl ⟨fun a ha => ?_, h2⟩
    by_cases e : a = k
    ·rw [e]; exact hb
    ·exact h1 a (by omega)
   ·refine .inr ⟨⟨a, by omega, h2⟩, h3, fun w hw v => ?_⟩
    rw [bitG_succ, hb, h4 w hw v]; rfl
  | true =>
   rw [if_pos rfl]
   refine .inr ⟨⟨k, by omega, hb⟩, ?_⟩
   rcases ih with ⟨h1, h2⟩ | ⟨_, h3, h4⟩
   ·rw [h2, List.isEmpty_nil, if_pos rfl]
    refine ⟨hr, fun w hw v => ?_⟩
    rw [bitG_succ, hb, if_pos rfl]
    have hz : bitG m.R G meet k w v = meet := by
     unfold bitG
     cases meet
     ·simp only [Bool.false_eq_true, ↓reduceIte, List.any_eq_false, List.mem_range]
      intro a ha
      rw [h1 a ha]; simp
     ·simp only [↓reduceIte, List.all_eq_true, List.mem_range]
      intro a ha
      rw [h1 a ha]; simp
    rw [hz]
    cases meet <;> simp
   ·have hne : (accG m.R G meet k).isEmpty = false := by
     cases hc : accG m.R G meet k with
     | nil => rw [hc] at h3; have := ok.hW; simp at h3; omega
     | cons a b => rfl
    rw [hne, if_neg (by simp)]
    refine ⟨by simp [zipG, h3], fun w hw v => ?_⟩
    rw [bitG_succ, hb, if_pos rfl, ← h4 w hw v]
    have : (zipG meet (accG m.R G meet k) (m.R.getD k [])).getD w 0 = op2 meet ((accG m.R G meet k).getD w 0) ((m.R.getD k []).getD w 0) := by
     simp [zipG, List.getD, h3, hw]
    rw [this, op2_bit]
theorem groupW_bits {m : ModA} {W : Nat} (ok : ModOk m W) {g : Nat} (hg : 1 ≤ g ∧ g < 2 ^ m.R.length) (meet : Bool) : (∃ a, a < m.R.length ∧ g.testBit a = true) ∧ (groupW m g meet).length = W ∧ ∀ w, w < W → ∀ v, ((groupW m g meet).getD w 0).getLsbD v = bitG m.R g meet m.R.length w v := by
 rcases accG_bits ok g meet m.R.length (Nat.le_refl _) with ⟨h1, _⟩ | h
 ·exfalso
  have : g = 0 := by
   refine Nat.eq_of_testBit_eq fun i => ?_
   rw [Nat.zero_testBit]
   by_cases hi : i < m.R.length
   ·exact h1 i hi
   ·exact Nat.testBit_lt_two_pow (Nat.lt_of_lt_of_le hg.2 (Nat.pow_le_pow_right (by decide) (by omega)))
  omega
 ·exact h
theorem rel_ok {m : ModA} {W : Nat} (ok : ModOk m W) {a : Nat} (ha : a < m.R.length) : RelOk (m.R.getD a []) := by
 have hm := getD_mem (d := []) ha
 have := ok.hW
 refine ⟨by rw [ok.row _ hm]; omega, fun x hx => ?_⟩
 rw [ok.row _ hm]
 exact ok.rel _ hm x hx
theorem group_ok {m : ModA} {W : Nat} (ok : ModOk m W) {g : Nat} (hg : 1 ≤ g ∧ g < 2 ^ m.R.length) (meet : Bool) : RelOk (groupW m g meet) := by
 obtain ⟨⟨a, ha, hb⟩, hl, hv⟩ := groupW_bits ok hg meet
 have hW := ok.hW
 refine ⟨by rw [hl]; omega, fun x hx => ?_⟩
 rw [hl]
 obtain ⟨w, hw, rfl⟩ := List.mem_iff_getElem.1 hx
 refine outW_of hW.2 fun v h => ?_
 have hw' : w < W := by omega
 have e : (groupW m g meet)[w] = (groupW m g meet).getD w 0 := by simp [List.getD, hw]
 rw [e, hv w hw' v] at h
 have key : ∀ b, b < m.R.length → ((m.R.getD b []).getD w 0).getLsbD v = true → v < W := fun b hb' h' => by
  have hm := getD_mem (d := []) hb'
  exact in_outW hW.2 (ok.rel _ hm _ (getD_mem (d := 0) (by rw [ok.row _ hm]; exact hw'))) h'
 unfold bitG at h
 split at h
 ·rw [List.all_eq_true] at h
  have := h a (List.mem_range.2 ha)
  rw [hb] at this
  exact key a ha (by simpa using this)
 ·rw [List.any_eq_true] at h
  obtain ⟨b, hb1, hb2⟩ := h
  rw [Bool.and_eq_true] at hb2
  exact key b (List.mem_range.1 hb1) hb2.2
end Ru
theorem common121 {r : List (BitVec 64)} (ok : RelOk r) {a c s : BitVec 64} {N : Nat} (hN : comW r a c s (N + 1) = comW r a c s N) : Runs Try.prog 121 [.sl 1 (us r), .int .u64 (ui a), .int .u64 (ui c), .int .u64 (ui s)] (.int .u64 (ui (comW r a c s N))) := by
 have hb := fun x => Box117 ok x
 refine CallT.go_fn mixed Try.func121 k121 (by simp) fun hf => ?_
 simp only [ZA, ZB, ZC, ZD, ZE, ↓reduceIte, reduceIte, ZF, ZG, ZH, ZI, ZJ, ne_eq, forall_const, reduceCtorEq, implies_true, forall_eq, ZK, ↓zU, ↓zD, zV, zT]
 refine wpS_loop (fun n : Nat => [(9, .int .u64 (ui (comW r a c s n))), (3, .int .u64 (ui s)), (2, .int .u64 (ui c)), (1, .int .u64 (ui a)), (0, .sl 1 (us r))]) (fun _ => ⟨0, []⟩) (fun n => n ≤ N) (fun n => N - n) 0 (Nat.zero_le _) ?_ ?_
 ·(refine Weak.same ?_; simp [sameF, Fr.get])
  rfl
 intro n hn
 refine wpS_go mixed ?_
 have hs : comW r a c s (n + 1) = boxW r (a &&& ~~~c ||| s &&& comW r a c s n) := rfl
 simp only [ZA, ZB, ZC, ZD, ZE, ↓reduceIte, reduceIte, ZF, ZG, ZH, ZI, ZJ, ne_eq, forall_const, reduceCtorEq, implies_true, forall_eq, ZK, ↓zU, ↓zD, zV, zT]
 refine .go (CallT.of_runs (hb (a &&& ~~~c ||| s &&& comW r a c s n)) (by simp [D.isPureL, D.isPure])) ?_
 rw [← hs]
 by_cases e : comW r a c s (n + 1) = comW r a c s n
 ·obtain ⟨k, hk⟩ := Nat.exists_eq_add_of_le hn
  have hst := comW_stay e k
  rw [hk, hst]
  have e' : (comW r a c s (n + 1) == comW r a c s n) = true := by rw [e]; simp
  simp only [ZA, ZB, ZC, ZD, ZE, ↓reduceIte, reduceIte, ZF, ZG, ZH, ZI, ZJ, ne_eq, forall_const, reduceCtorEq, implies_true, forall_eq, ZK, ↓zU, ↓zD, zV, zT, e']
  exact .same
 ·have e' : (comW r a c s (n + 1) == comW r a c s n) = false := by rw [beq_eq_false_iff_ne]; exact e
  have hlt : n < N := Decidable.byContradiction fun h => e (by rw [show n = N by omega]; exact hN)
  simp only [ZA, ZB, ZC, ZD, ZE, ↓reduceIte, reduceIte, ZF, ZG, ZH, ZI, ZJ, ne_eq, forall_const, reduceCtorEq, implies_true, forall_eq, ZK, ↓zU, ↓zD, zV, zT, e']
  refine ⟨n + 1, by omega, ?_, by omega⟩
  (refine Weak.same ?_; simp only [sameF, Fr.get, ↓reduceIte, reduceIte, Nat.reduceEqDiff, reduceCtorEq, D.int.injEq, D.bool.injEq, D.sl.injEq, and_true, true_and, and_self])
end Go.Pd
