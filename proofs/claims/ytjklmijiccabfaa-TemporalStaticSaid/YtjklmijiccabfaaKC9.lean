/- Part C9. -/
import Derived.Test.YtjklmijiccabfaaKC8
import Derived.Test.YtjklmijiccabfaaKY1
set_option linter.unusedSectionVars false
set_option linter.unusedVariables false
set_option linter.unusedSimpArgs false
set_option linter.defProp false
set_option maxRecDepth 20000
set_option maxHeartbeats 1000000
namespace Go.Pd
open Go Go.Proofs
open Int renaming reduceToNat → ZA, reduceLT → ZB, reduceLE → ZC, reduceBEq → ZD, reduceBNe → ZE
open Nat renaming reduceEqDiff → ZF, reduceAdd → ZG, reduceBEq → ZH, reduceLT → ZI, reduceLeDiff → ZJ, reduceMul → ZK
open Rs Fm Ru Te
namespace Te
theorem fine_tree {A F : Nat} {c : List Nd} (hv : validL c) (h : ∀ p ∈ c, statN A F p = true) : ∀ i, i < c.length → fineT A F (tree c i) = true := by
 intro i
 induction i using Nat.strongRecOn with
 | _ i ih =>
  intro hi
  obtain ⟨ox, oy, _, _⟩ := node_ops' (hv i hi)
  have hs := h (c.getD i nd0) (by rw [List.getD, List.getElem?_eq_getElem hi]; exact List.getElem_mem hi)
  rw [tree_eq hv hi]
  show (statN A F _ && (fineT A F _ && fineT A F _)) = true
  rw [show statN A F ⟨(c.getD i nd0).op, (c.getD i nd0).i, (c.getD i nd0).e, (c.getD i nd0).g, 0, 0⟩ = statN A F (c.getD i nd0) from rfl, hs, Bool.true_and, Bool.and_eq_true]
  constructor
  ·split
   ·rename_i hx; have := ox hx; exact ih _ (by omega) (by omega)
   ·rfl
  ·split
   ·rename_i hy; have := oy hy; exact ih _ (by omega) (by omega)
   ·rfl
theorem stat_node {A F : Nat} {p : Nd} {k : Int} (hn : nodeE p k = 0) (ho : okN A F p = true) (ht : fragN p &&& 256 = 0) : statN A F p = true := by
 unfold okN at ho
 simp only [Bool.and_eq_true, decide_eq_true_eq] at ho
 obtain ⟨⟨h1, h2⟩, h3⟩ := ho
 have hi0 : p.op = 3 ∨ p.op = 9 ∨ p.op = 10 → 0 ≤ p.i := fun h => by
  rcases h with h | h | h
  ·exact (nd_fact hn (by rw [h]; rfl)).1
  ·exact (nd_agent hn (by rw [h]; rfl)).1
  ·exact (nd_agent hn (by rw [h]; rfl)).1
 have hg0 := nd_group hn
 have hu := (nodeE_iff.1 hn).1
 have lt_of : ∀ {a b : Nat}, 2 ^ a / 2 ^ b = 0 → a < b := fun {a b} h => Decidable.byContradiction fun hh => by
  have := Nat.pow_le_pow_right (n := 2) (by decide) (show b ≤ a by omega)
  have := Nat.div_pos this (Nat.two_pow_pos b)
  omega
 obtain ⟨op, i, e, g, a, b⟩ := p
 simp only at hi0 hg0 hu
 rcases op_cases op with rfl | rfl | rfl | rfl | rfl | rfl | rfl | rfl | rfl | rfl | rfl | rfl | rfl | rfl | rfl | rfl | rfl | rfl | rfl | rfl | rfl | h | h
 ·rfl
 ·rfl
 ·have h3 : 2 ^ i.toNat / 2 ^ F = 0 := h3
  have := lt_of h3
  have h0 := hi0 (.inl rfl)
  show decide (i < (F : Int)) = true
  exact decide_eq_true (by omega)
 ·rfl
 ·rfl
 ·rfl
 ·rfl
 ·rfl
 ·have h2 : 2 ^ i.toNat / 2 ^ A = 0 := h2
  have := lt_of h2
  have h0 := hi0 (.inr (.inl rfl))
  show decide (i < (A : Int)) = true
  exact decide_eq_true (by omega)
 ·have h2 : 2 ^ i.toNat / 2 ^ A = 0 := h2
  have := lt_of h2
  have h0 := hi0 (.inr (.inr rfl))
  show decide (i < (A : Int)) = true
  exact decide_eq_true (by omega)
 iterate 3
  ·have h2 : g.toNat / 2 ^ A = 0 := h2
   have := (Nat.div_eq_zero_iff.1 h2).resolve_left (by have := Nat.two_pow_pos A; omega)
   show decide (g < ((2 ^ A : Nat) : Int)) = true
   exact decide_eq_true (by omega)
 ·exact absurd h1 (show ¬ (16 : Nat) &&& 3824 = 0 by decide)
 ·exact absurd h1 (show ¬ (32 : Nat) &&& 3824 = 0 by decide)
 ·exact absurd h1 (show ¬ (64 : Nat) &&& 3824 = 0 by decide)
 ·exact absurd h1 (show ¬ (128 : Nat) &&& 3824 = 0 by decide)
 iterate 4
  ·exact absurd ht (show ¬ (256 : Nat) &&& 256 = 0 by decide)
 ·rw [uses_out (.inl h)] at hu; cases hu
 ·rw [uses_out (.inr h)] at hu; cases hu
theorem andNat {a b : Nat} (ha : a < 2 ^ 62) (hb : b < 2 ^ 62) : bitI .and .i64 (a : Int) (b : Int) = ((a &&& b : Nat) : Int) := by
 show IntKind.i64.wrap ((BitVec.ofInt 64 (a : Int) &&& BitVec.ofInt 64 (b : Int)).toNat : Int) = _
 rw [BitVec.ofInt_natCast, BitVec.ofInt_natCast, BitVec.toNat_and, BitVec.toNat_ofNat, BitVec.toNat_ofNat, Nat.mod_eq_of_lt (by omega), Nat.mod_eq_of_lt (by omega)]
 have : a &&& b ≤ a := Nat.and_le_left
 exact wrap_i64 (by omega)
theorem frag_time {n : Nat} (h : n < 4096) : (bitI .and .i64 (n : Int) 256 != 0) = !decide (n &&& 256 = 0) := by
 have e := andNat (a := n) (b := 256) (by omega) (by decide)
 rw [show ((256 : Nat) : Int) = 256 from rfl] at e
 rw [e]
 generalize n &&& 256 = z
 by_cases hz : z = 0
 ·subst hz; rfl
 ·rw [decide_eq_false hz]
  have : ((z : Int) != 0) = true := by rw [bne_iff_ne]; omega
  rw [this]; rfl
theorem frag_stat {n : Nat} (h : n < 4096) (h1 : n &&& 3824 = 0) (h2 : n &&& 256 = 0) : (bitI .andNot .i64 (n : Int) 15 != 0) = false := by
 have h16 : ∀ n : Fin 4096, n.val &&& 3824 = 0 → n.val &&& 256 = 0 → n.val < 16 := by decide +kernel
 have : ∀ n : Fin 16, (bitI .andNot .i64 ((n.val : Nat) : Int) 15 != 0) = false := by decide +kernel
 exact this ⟨n, h16 ⟨n, h⟩ h1 h2⟩
theorem frags_lt (f : List Nd) : fragsA f < 4096 := by
 refine unionN_lt fun p _ => ?_
 have := uses_fr p.op
 unfold fragN; omega
theorem static_fine {s : SysA} {A F T : Nat} {rs : List RunA} (hs : s = ⟨A, F, T, rs⟩) (hz : chk s = 0) (ok : OkR rs A F T) {f : List Nd} (hE : reqE s f = 0) (ht : fragsA f &&& 256 = 0) :
  fineT A F (treeF f) = true ∧ (bitI .andNot .i64 (fragsA f : Int) 15 != 0) = false ∧ fitsB f A F = true := by
 have hc := (req_zero hE).2
 have hN := (req_iff hs hz ok hc).1 hE
 have hT : ∀ p ∈ compactA f, fragN p &&& 256 = 0 := by
  have := ht
  unfold fragsA at this
  rwa [unionN_map (φ := fun n => n &&& 256) (by decide) (fun a b => Nat.and_or_distrib_right a b 256), unionN_zero] at this
 have h38 : fragsA f &&& 3824 = 0 := by
  unfold fragsA
  rw [unionN_map (φ := fun n => n &&& 3824) (by decide) (fun a b => Nat.and_or_distrib_right a b 3824), unionN_zero]
  intro p hp
  have := hN p hp
  unfold okN at this
  simp only [Bool.and_eq_true, decide_eq_true_eq] at this
  exact this.1.1
 refine ⟨?_, frag_stat (frags_lt f) h38 ht, ?_⟩
 ·have hl := compact_ne hc
  rw [← (compact_tree hc).1]
  refine fine_tree (validC f) (fun p hp => ?_) _ (by omega)
  obtain ⟨k, hk⟩ := mem_nd (sub_nd f _) hp
  exact stat_node hk (hN p hp) (hT p hp)
 ·unfold reqE at hE
  rw [if_neg (by simpa using hz), if_neg (by simpa using hc), frag_not (frags_lt f), if_neg (by simp [h38])] at hE
  subst hs
  cases hf : fitsB f A F with
  | true => rfl
  | false => simp only [hf, ↓reduceIte] at hE; cases hE
end Te
theorem static5 (s : SysA) (f : List Nd) : Runs Try.prog 5 [s.d, .sl 6 (ndR f)] (.bool true) := by
 have hD : s.d = .agg [.int .i64 s.ag, .int .i64 s.fa, .int .i64 s.ln, .sl 2 (runR s.rs)] := rfl
 have h0 := Few12 s
 have h1 := Holds13 s f
 have h2 := Model10 s
 have h3 := Frags57 f
 cases hf : fewA s with
 | false =>
  rw [hf] at h0
  rw [hD] at h0 ⊢
  refine CallT.go_fn mixed Try.func5 k5 (by simp) fun hf => ?_
  simp only [ZA, ZB, ZC, ZD, ZE, ↓reduceIte, reduceIte, ZF, ZG, ZH, ZI, ZJ, ne_eq, forall_const, reduceCtorEq, implies_true, forall_eq, ZK, ↓zU, ↓zD, zV, zT]
  (repeat refine sd ?_)
  refine .go (CallT.of_runs h0 rfl) ?_
  simp only [ZA, ZB, ZC, ZD, ZE, ↓reduceIte, reduceIte, ZF, ZG, ZH, ZI, ZJ, ne_eq, forall_const, reduceCtorEq, implies_true, forall_eq, ZK, ↓zU, ↓zD, zV, zT]
  refine .go (CallT.of_runs awake6 rfl) ?_
  simp only [ZA, ZB, ZC, ZD, ZE, ↓reduceIte, reduceIte, ZF, ZG, ZH, ZI, ZJ, ne_eq, forall_const, reduceCtorEq, implies_true, forall_eq, ZK, ↓zU, ↓zD, zV, zT]
  exact .drop (by simp) (by simp [vw])
 | true =>
  rw [hf] at h0
  by_cases h40 : (40 : Int) < (f.length : Int)
  ·rw [hD] at h0 ⊢
   refine CallT.go_fn mixed Try.func5 k5 (by simp) fun hf => ?_
   simp only [ZA, ZB, ZC, ZD, ZE, ↓reduceIte, reduceIte, ZF, ZG, ZH, ZI, ZJ, ne_eq, forall_const, reduceCtorEq, implies_true, forall_eq, ZK, ↓zU, ↓zD, zV, zT]
   (repeat refine sd ?_)
   refine .go (CallT.of_runs h0 rfl) ?_
   simp only [ZA, ZB, ZC, ZD, ZE, ↓reduceIte, reduceIte, ZF, ZG, ZH, ZI, ZJ, ne_eq, forall_const, reduceCtorEq, implies_true, forall_eq, ZK, ↓zU, ↓zD, zV, zT, ndR_len, h40]
   refine .go (CallT.of_runs awake6 rfl) ?_
   simp only [ZA, ZB, ZC, ZD, ZE, ↓reduceIte, reduceIte, ZF, ZG, ZH, ZI, ZJ, ne_eq, forall_const, reduceCtorEq, implies_true, forall_eq, ZK, ↓zU, ↓zD, zV, zT]
   exact .drop (by simp) (by simp [vw])
  by_cases hE : reqE s f = 0
  case neg =>
   have e1 : (reqE s f != 0) = true := by simpa using hE
   generalize reqE s f = e at h1 e1
   generalize holdsR s f = l at h1
   unfold ModA.d at h2
   generalize (modelM s).2.2 = g at h2
   rw [hD] at h0 h1 h2 ⊢
   refine CallT.go_fn mixed Try.func5 k5 (by simp) fun hf => ?_
   simp only [ZA, ZB, ZC, ZD, ZE, ↓reduceIte, reduceIte, ZF, ZG, ZH, ZI, ZJ, ne_eq, forall_const, reduceCtorEq, implies_true, forall_eq, ZK, ↓zU, ↓zD, zV, zT]
   (repeat refine sd ?_)
   refine .go (CallT.of_runs h0 rfl) ?_
   simp only [ZA, ZB, ZC, ZD, ZE, ↓reduceIte, reduceIte, ZF, ZG, ZH, ZI, ZJ, ne_eq, forall_const, reduceCtorEq, implies_true, forall_eq, ZK, ↓zU, ↓zD, zV, zT, ndR_len, h40]
   refine .go (CallT.of_runs h1 (by simp [D.isPureL, D.isPure])) ?_
   simp only [ZA, ZB, ZC, ZD, ZE, ↓reduceIte, reduceIte, ZF, ZG, ZH, ZI, ZJ, ne_eq, forall_const, reduceCtorEq, implies_true, forall_eq, ZK, ↓zU, ↓zD, zV, zT]
   refine .go (CallT.of_runs h2 (by simp [D.isPureL, D.isPure])) ?_
   simp only [ZA, ZB, ZC, ZD, ZE, ↓reduceIte, reduceIte, ZF, ZG, ZH, ZI, ZJ, ne_eq, forall_const, reduceCtorEq, implies_true, forall_eq, ZK, ↓zU, ↓zD, zV, zT, e1]
   (repeat refine sd ?_)
   refine .go (CallT.of_runs awake6 rfl) ?_
   simp only [ZA, ZB, ZC, ZD, ZE, ↓reduceIte, reduceIte, ZF, ZG, ZH, ZI, ZJ, ne_eq, forall_const, reduceCtorEq, implies_true, forall_eq, ZK, ↓zU, ↓zD, zV, zT]
   exact .drop (by simp) (by simp [vw])
  have hz := (req_zero hE).1
  have hc := (req_zero hE).2
  obtain ⟨A, F, T, rs, hs, ok⟩ := chk_sys hz
  have hRT : rs.length * T ≤ 40 := by
   have h := hf
   unfold fewA at h
   subst hs
   split at h
   ·cases h
   ·rw [Bool.and_eq_true, Bool.or_eq_true, decide_eq_true_eq, decide_eq_true_eq] at h
    have := h.2.resolve_left (fun q => q hz)
    simpa using this
  have hW : rs.length * T ≤ 64 := by omega
  have hpl : (ptl rs T).length = rs.length * T := ptN_len T _
  have hM : modelM s = (modM rs (ptl rs T) A F, ptl rs T, 0) := by
   subst hs
   have hp : ptsA ⟨(A : Int), F, T, rs⟩ = ptl rs T := by
    unfold ptsA
    rw [if_neg (by simpa using hz)]
    rfl
   unfold modelM
   rw [if_neg (by simpa using hz), hp, if_neg (by omega)]
   rfl
  have hH : holdsR s f = tabR rs.length T (evT rs A T (treeF f)) := by
   unfold holdsR
   rw [if_neg (by simpa using hE)]
   subst hs
   simp only [Int.toNat_natCast]
   rw [lastT_tree hc]
  have hag : s.ag = A ∧ s.rs = rs := by subst hs; exact ⟨rfl, rfl⟩
  rw [hM] at h2
  rw [hH, hE] at h1
  simp only at h2
  have htm := frag_time (frags_lt f)
  by_cases ht : fragsA f &&& 256 = 0
  case neg =>
   rw [decide_eq_false ht] at htm
   generalize tabR rs.length T (evT rs A T (treeF f)) = l at h1
   unfold ModA.d at h2
   rw [hD] at h0 h1 h2 ⊢
   refine CallT.go_fn mixed Try.func5 k5 (by simp) fun hf => ?_
   simp only [ZA, ZB, ZC, ZD, ZE, ↓reduceIte, reduceIte, ZF, ZG, ZH, ZI, ZJ, ne_eq, forall_const, reduceCtorEq, implies_true, forall_eq, ZK, ↓zU, ↓zD, zV, zT]
   (repeat refine sd ?_)
   refine .go (CallT.of_runs h0 rfl) ?_
   simp only [ZA, ZB, ZC, ZD, ZE, ↓reduceIte, reduceIte, ZF, ZG, ZH, ZI, ZJ, ne_eq, forall_const, reduceCtorEq, implies_true, forall_eq, ZK, ↓zU, ↓zD, zV, zT, ndR_len, h40]
   refine .go (CallT.of_runs h1 (by simp [D.isPureL, D.isPure])) ?_
   simp only [ZA, ZB, ZC, ZD, ZE, ↓reduceIte, reduceIte, ZF, ZG, ZH, ZI, ZJ, ne_eq, forall_const, reduceCtorEq, implies_true, forall_eq, ZK, ↓zU, ↓zD, zV, zT]
   refine .go (CallT.of_runs h2 (by simp [D.isPureL, D.isPure])) ?_
   simp only [ZA, ZB, ZC, ZD, ZE, ↓reduceIte, reduceIte, ZF, ZG, ZH, ZI, ZJ, ne_eq, forall_const, reduceCtorEq, implies_true, forall_eq, ZK, ↓zU, ↓zD, zV, zT]
   (repeat refine sd ?_)
   refine .go (CallT.of_runs h3 (by simp [D.isPureL, D.isPure])) ?_
   simp only [ZA, ZB, ZC, ZD, ZE, ↓reduceIte, reduceIte, ZF, ZG, ZH, ZI, ZJ, ne_eq, forall_const, reduceCtorEq, implies_true, forall_eq, ZK, ↓zU, ↓zD, zV, zT, htm]
   (repeat refine sd ?_)
   refine .go (CallT.of_runs awake6 rfl) ?_
   simp only [ZA, ZB, ZC, ZD, ZE, ↓reduceIte, reduceIte, ZF, ZG, ZH, ZI, ZJ, ne_eq, forall_const, reduceCtorEq, implies_true, forall_eq, ZK, ↓zU, ↓zD, zV, zT]
   exact .drop (by simp) (by simp [vw])
  rw [decide_eq_true ht] at htm
  obtain ⟨hfi, hfr, hft⟩ := static_fine hs hz ok hE ht
  have h4 := cHolds20 ok hW hc hfr hft
  have hset : ∀ w, w < rs.length * T → (setF rs A F T (treeF f)).getLsbD w = evT rs A T (treeF f) (pt T w) := fun w hw => by
   unfold setF
   rw [if_pos hfi, mskT_bit hW, decide_eq_true hw, Bool.true_and]
  generalize setF rs A F T (treeF f) = set at h4 hset
  generalize evT rs A T (treeF f) = φ at h1 hset
  have hT1 := ok.hT.1
  have hmW : (modM rs (ptl rs T) A F).W = ((rs.length * T : Nat) : Int) := by show ((ptl rs T).length : Int) = _; rw [hpl]
  unfold ModA.d at h2 h4
  rw [hmW] at h2 h4
  generalize (modM rs (ptl rs T) A F).V = mv at h2 h4
  generalize (modM rs (ptl rs T) A F).R = mr at h2 h4
  rw [hD, hag.2] at h0 h1 h2 ⊢
  have e1 : ((rs.length * T : Nat) : Int) = ((rs.length * T : Nat) : Int) := rfl
  refine CallT.go_fn mixed Try.func5 k5 (by simp) fun hf => ?_
  simp only [ZA, ZB, ZC, ZD, ZE, ↓reduceIte, reduceIte, ZF, ZG, ZH, ZI, ZJ, ne_eq, forall_const, reduceCtorEq, implies_true, forall_eq, ZK, ↓zU, ↓zD, zV, zT]
  (repeat refine sd ?_)
  refine .go (CallT.of_runs h0 rfl) ?_
  simp only [ZA, ZB, ZC, ZD, ZE, ↓reduceIte, reduceIte, ZF, ZG, ZH, ZI, ZJ, ne_eq, forall_const, reduceCtorEq, implies_true, forall_eq, ZK, ↓zU, ↓zD, zV, zT, ndR_len, h40]
  refine .go (CallT.of_runs h1 (by simp [D.isPureL, D.isPure])) ?_
  simp only [ZA, ZB, ZC, ZD, ZE, ↓reduceIte, reduceIte, ZF, ZG, ZH, ZI, ZJ, ne_eq, forall_const, reduceCtorEq, implies_true, forall_eq, ZK, ↓zU, ↓zD, zV, zT]
  refine .go (CallT.of_runs h2 (by simp [D.isPureL, D.isPure])) ?_
  simp only [ZA, ZB, ZC, ZD, ZE, ↓reduceIte, reduceIte, ZF, ZG, ZH, ZI, ZJ, ne_eq, forall_const, reduceCtorEq, implies_true, forall_eq, ZK, ↓zU, ↓zD, zV, zT]
  (repeat refine sd ?_)
  refine .go (CallT.of_runs h3 (by simp [D.isPureL, D.isPure])) ?_
  simp only [ZA, ZB, ZC, ZD, ZE, ↓reduceIte, reduceIte, ZF, ZG, ZH, ZI, ZJ, ne_eq, forall_const, reduceCtorEq, implies_true, forall_eq, ZK, ↓zU, ↓zD, zV, zT, htm]
  (repeat refine sd ?_)
  refine .go (CallT.of_runs h4 (by simp [D.isPureL, D.isPure])) ?_
  simp only [ZA, ZB, ZC, ZD, ZE, ↓reduceIte, reduceIte, ZF, ZG, ZH, ZI, ZJ, ne_eq, forall_const, reduceCtorEq, implies_true, forall_eq, ZK, ↓zU, ↓zD, zV, zT, ptR_len, hpl, tabR_len, runR_len, bne_self_eq_false]
  (repeat refine sd ?_)
  refine wpS_loop (fun k : Nat => [(12, .int .i64 k), (10, .int .u64 (ui set)), (8, .sl 2 (ptR (ptl rs T))), (5, .sl 1 (tabR rs.length T φ))]) (fun _ => ⟨0, []⟩) (fun k => k ≤ rs.length * T) (fun k => rs.length * T - k) 0 (Nat.zero_le _) ?_ ?_
  ·(refine Weak.view (fun k => k) (by simp) (by simp) ?_ (by simp [stays]) (by simp [apartNames]); simp [vwF, vw, vwL, Fr.get])
  intro k hk
  refine wpS_go mixed ?_
  by_cases hkl : k < rs.length * T
  case neg =>
   have hd : ¬ ((k : Int) < ((rs.length * T : Nat) : Int)) := by omega
   simp only [ZA, ZB, ZC, ZD, ZE, ↓reduceIte, reduceIte, ZF, ZG, ZH, ZI, ZJ, ne_eq, forall_const, reduceCtorEq, implies_true, forall_eq, ZK, ↓zU, ↓zD, zV, zT, ptR_len, hpl, hd]
   refine .go (CallT.of_runs awake6 rfl) ?_
   simp only [ZA, ZB, ZC, ZD, ZE, ↓reduceIte, reduceIte, ZF, ZG, ZH, ZI, ZJ, ne_eq, forall_const, reduceCtorEq, implies_true, forall_eq, ZK, ↓zU, ↓zD, zV, zT]
   exact .drop (by simp) (by simp [vw])
  have hd : ((k : Int) < ((rs.length * T : Nat) : Int)) := by omega
  have hpg := ptR_get (ptl rs T) (show k < (ptl rs T).length by omega)
  rw [ptl_at hkl] at hpg
  have hin := pt_in (rs := rs) hT1 hkl
  have hsk := hset k hkl
  generalize hpt : pt T k = p at hpg hin hsk
  obtain ⟨p1, p2⟩ := p
  simp only at hpg hin hsk
  have b1 : ¬ ((p1 : Int) < 0) := by omega
  have b2 : ¬ ((rs.length : Int) ≤ (p1 : Int)) := by omega
  have b3 : ¬ ((p2 : Int) < 0) := by omega
  have b4 : ¬ ((T : Int) ≤ (p2 : Int)) := by omega
  have b5 : ((p1 : Int) < (rs.length : Int)) := by omega
  have b6 : ((p2 : Int) < (T : Int)) := by omega
  have g1 := tabR_get (φ := φ) hin.1 (T := T)
  have g2 := rbR_get (v := fun t => φ (p1, t)) hin.2
  have g3 := rbR_len ((List.range T).map fun t => φ (p1, t))
  have g4 : ((List.range T).map fun t => φ (p1, t)).length = T := by simp
  have hcv := convN (n := k) (by omega)
  have hb := facBit set k
  rw [hsk] at hb
  have hwu := wrap_up (k := k) (by omega)
  simp only [ZA, ZB, ZC, ZD, ZE, ↓reduceIte, reduceIte, ZF, ZG, ZH, ZI, ZJ, ne_eq, forall_const, reduceCtorEq, implies_true, forall_eq, ZK, ↓zU, ↓zD, zV, zT, ptR_len, hpl, hd, hpg, b1, b2, b3, b4, b5, b6, tabR_len, g1, g2, g3, g4, hcv, hb, hwu, bne_self_eq_false]
  (repeat refine sd ?_)
  refine ⟨k + 1, by omega, ?_, by omega⟩
  (refine Weak.view (fun k => k) (by simp) (by simp) ?_ (by simp [stays]) (by simp [apartNames]); simp [vwF, vw, vwL, Fr.get])
end Go.Pd
