/- Package model and its specification: contracts, part q: Generated, by a list of what is to do. -/
import Derived.Test.YtkinhajadppfaaaDoorMp
set_option linter.unusedSectionVars false
set_option linter.unusedVariables false
set_option linter.unusedSimpArgs false
set_option linter.defProp false
set_option maxRecDepth 20000
namespace Go.Pd
open Go Go.Proofs
def pf (w : Nat) (R : List (List (BitVec 64))) (p : BitVec 64 × BitVec 64) : BitVec 64 × BitVec 64 := R.foldl (fun p r => (p.1 ||| (r.getD w 0 &&& ~~~p.2), p.2 ||| r.getD w 0)) p
theorem pf_snoc (w : Nat) (R : List (List (BitVec 64))) (r : List (BitVec 64)) (p : BitVec 64 × BitVec 64) : pf w (R ++ [r]) p = ((pf w R p).1 ||| (r.getD w 0 &&& ~~~(pf w R p).2), (pf w R p).2 ||| r.getD w 0) := by simp [pf]
theorem pf_bits (w i : Nat) (h64 : i < 64) : ∀ (R : List (List (BitVec 64))) (p : BitVec 64 × BitVec 64), (pf w R p).2.getLsbD i = (p.2.getLsbD i || R.any fun r => (r.getD w 0).getLsbD i) ∧
    (pf w R p).1.getLsbD i = (p.1.getLsbD i || ((pf w R p).2.getLsbD i && !p.2.getLsbD i))
  | [], p => by simp [pf]
  | r :: R, p => by
    have e : pf w (r :: R) p = pf w R (p.1 ||| (r.getD w 0 &&& ~~~p.2), p.2 ||| r.getD w 0) := rfl
    obtain ⟨h1, h2⟩ := pf_bits w i h64 R (p.1 ||| (r.getD w 0 &&& ~~~p.2), p.2 ||| r.getD w 0)
    rw [e, h2, h1]
    simp only [BitVec.getLsbD_or, BitVec.getLsbD_and, BitVec.getLsbD_not, h64, decide_true, Bool.true_and, List.any_cons]
    generalize (R.any fun r => (r.getD w 0).getLsbD i) = x
    generalize (r.getD w 0).getLsbD i = y
    generalize p.1.getLsbD i = z
    generalize p.2.getLsbD i = u
    cases x <;> cases y <;> cases z <;> cases u <;> simp
theorem bsub_toNat {s t : BitVec 64} (h : bsub s t) : s.toNat ≤ t.toNat := by
  have : s &&& t = s := bsub_anti (fun i hi => by rw [BitVec.getLsbD_and] at hi; simp at hi; exact hi.1) (fun i hi => by rw [BitVec.getLsbD_and, hi, h i hi]; rfl)
  rw [← this, BitVec.toNat_and]
  exact Nat.and_le_right
structure GenI (m : Mod) (s t o : BitVec 64) : Prop where
  sub : bsub s o
  all : bsub o (allS m.W)
  todo : bsub t o
  done : ∀ w, o.getLsbD w = true → t.getLsbD w = false → ∀ r ∈ m.R, bsub (r.getD w 0) o
  least : ∀ u, bsub s u → closedW m u → bsub o u
def genM (t o : BitVec 64) : Nat := (18446744073709551616 - o.toNat) * 18446744073709551616 + t.toNat
theorem lt64 {s : BitVec 64} {i : Nat} (h : s.getLsbD i = true) : i < 64 := by
  apply Classical.byContradiction
  intro hn
  rw [BitVec.getLsbD_of_ge _ _ (by omega)] at h; cases h
theorem GenI.next {m : Mod} {s t o : BitVec 64} (hc : m.check = 0) (h : GenI m s t o) (h0 : t ≠ 0#64) : let p := pf (tz t) m.R (t &&& (t - 1#64), o); GenI m s p.1 p.2 ∧ genM p.1 p.2 < genM t o := by
  obtain ⟨z1, z2, z3, z4⟩ := tz_first h0
  have hcl := closed_all hc
  intro p
  have b2 : ∀ i, p.2.getLsbD i = (o.getLsbD i || m.R.any fun r => (r.getD (tz t) 0).getLsbD i) := by
    intro i
    by_cases h64 : i < 64
    · exact (pf_bits (tz t) i h64 m.R (t &&& (t - 1#64), o)).1
    · rw [BitVec.getLsbD_of_ge _ _ (by omega), BitVec.getLsbD_of_ge _ _ (by omega)]
      symm
      rw [Bool.false_or, List.any_eq_false]
      intro r _
      rw [BitVec.getLsbD_of_ge _ _ (by omega)]; simp
  have b1 : ∀ i, p.1.getLsbD i = (((t.getLsbD i && i != tz t)) || (p.2.getLsbD i && !o.getLsbD i)) := by
    intro i
    by_cases h64 : i < 64
    · rw [← z4 i]; exact (pf_bits (tz t) i h64 m.R (t &&& (t - 1#64), o)).2
    · rw [BitVec.getLsbD_of_ge _ _ (by omega), BitVec.getLsbD_of_ge _ _ (by omega), BitVec.getLsbD_of_ge p.2 _ (by omega)]; rfl
  have g1 : bsub o p.2 := fun i hi => by rw [b2, hi]; rfl
  have gw : ∀ u, bsub o u → closedW m u → bsub p.2 u := by
    intro u hu hcu i hi
    rw [b2, Bool.or_eq_true, List.any_eq_true] at hi
    rcases hi with hi | ⟨r, hr, hi⟩
    · exact hu i hi
    · exact hcu (tz t) (hu _ (h.todo _ z2)) r hr i hi
  refine ⟨⟨bsub_trans h.sub g1, gw _ h.all hcl, ?_, ?_, fun u h1 h2 => gw u (h.least u h1 h2) h2⟩, ?_⟩
  · intro i hi
    rw [b1] at hi
    simp only [Bool.or_eq_true, Bool.and_eq_true] at hi
    rcases hi with ⟨hi, _⟩ | ⟨hi, _⟩
    · exact g1 i (h.todo i hi)
    · exact hi
  · intro w hw ht r hr i hi
    rw [b1] at ht
    simp only [Bool.or_eq_false_iff, Bool.and_eq_false_iff, hw, Bool.not_eq_false', bne_eq_false_iff_eq] at ht
    obtain ⟨t1, t2⟩ := ht
    have hwo : o.getLsbD w = true := by simpa using t2
    rcases t1 with t1 | rfl
    · exact g1 i (h.done w hwo t1 r hr i hi)
    · rw [b2, Bool.or_eq_true, List.any_eq_true]
      exact .inr ⟨r, hr, hi⟩
  · have hlt := p.1.isLt
    have hlo := p.2.isLt
    have hle := bsub_toNat g1
    unfold genM
    by_cases e : p.2 = o
    · have e1 : p.1 = t &&& (t - 1#64) := by
        apply BitVec.eq_of_getLsbD_eq
        intro i _
        rw [b1, z4, e]
        cases o.getLsbD i <;> simp
      have hpos : t.toNat ≠ 0 := fun e => h0 (BitVec.eq_of_toNat_eq (by rw [e]; rfl))
      have e2 : p.1.toNat < t.toNat := by
        rw [e1, BitVec.toNat_and]
        refine Nat.lt_of_le_of_lt Nat.and_le_right ?_
        rw [BitVec.toNat_sub_of_le (by rw [BitVec.le_def]; show 1 ≤ t.toNat; omega)]
        show t.toNat - 1 < t.toNat
        omega
      rw [e]; omega
    · have hne : p.2.toNat ≠ o.toNat := fun e' => e (BitVec.eq_of_toNat_eq e')
      omega
theorem GenI.first {m : Mod} {s : BitVec 64} (hs : s &&& ~~~(allS m.W) = 0#64) : GenI m s s s :=
  ⟨bsub_refl s, sub_bits.1 hs, bsub_refl s, (fun w h1 h2 => absurd h1 (by rw [h2]; simp)), fun u h _ => h⟩
theorem GenI.last {m : Mod} {s o : BitVec 64} (hc : m.check = 0) (hs : s &&& ~~~(allS m.W) = 0#64) (h : GenI m s 0#64 o) : o = m.gen s :=
  isGen_unique ⟨h.sub, fun w hw => h.done w hw (by simp), h.least⟩ (gen_isGen hc hs)

theorem generated_runs (m : Mod) (s : BitVec 64) : Runs Tryd.prog 19 [m.d, .int .u64 (ui s)] (genD (m.generated s)) := by
  refine CallT.go_fn mixed Tryd.func19 k19 (by simp) fun hf => ?_
  simp only [Int.reduceToNat, Int.reduceLT, Int.reduceLE, Int.reduceBEq, Int.reduceBNe, St0, argFr, ↓thenW, ↓blockW, ↓opX, ↓opV, ↓pX, ↓pW, ↓putK, ↓putP, ↓atK, ↓normK, ↓postZ, evO, Fr.get, Fr.put, ↓reduceIte, reduceIte, Nat.reduceEqDiff, Nat.reduceAdd, Nat.reduceBEq, Nat.reduceLT, Nat.reduceLeDiff, binW, bodyQ, ressW, resW, ne_eq, forall_const, reduceCtorEq, implies_true, sets, oneAll, St.new, St.get, St.look, St.set, setL, setD, rels, fillE, fillD, List.replicate, rowsOf, forall_eq, eraseL, St.erase, Nat.reduceMul, ↓zD, zT, Mod.d]
  refine .go (CallT.of_runs (check_runs m) rfl) ?_
  by_cases h1 : m.check = 0
  · obtain ⟨c1, c2, c3, c4, c5, c6, c7⟩ := Mod.check_zero h1
    simp only [Int.reduceToNat, Int.reduceLT, Int.reduceLE, Int.reduceBEq, Int.reduceBNe, St0, argFr, ↓thenW, ↓blockW, ↓opX, ↓opV, ↓pX, ↓pW, ↓putK, ↓putP, ↓atK, ↓normK, ↓postZ, evO, Fr.get, Fr.put, ↓reduceIte, reduceIte, Nat.reduceEqDiff, Nat.reduceAdd, Nat.reduceBEq, Nat.reduceLT, Nat.reduceLeDiff, binW, bodyQ, ressW, resW, ne_eq, forall_const, reduceCtorEq, implies_true, sets, oneAll, St.new, St.get, St.look, St.set, setL, setD, rels, fillE, fillD, List.replicate, rowsOf, forall_eq, eraseL, St.erase, Nat.reduceMul, ↓zD, zT, h1, bne_self_eq_false]
    refine .go (CallT.of_runs (all_runs m.W (by omega)) rfl) ?_
    by_cases h2 : s &&& ~~~(allS m.W) = 0#64
    · have h2b : (s &&& ~~~(allS m.W) != 0#64) = false := by simp [h2]
      have eres : m.generated s = (m.gen s, 0) := by simp [Mod.generated, h1, h2]
      rw [eres]
      simp only [Int.reduceToNat, Int.reduceLT, Int.reduceLE, Int.reduceBEq, Int.reduceBNe, St0, argFr, ↓thenW, ↓blockW, ↓opX, ↓opV, ↓pX, ↓pW, ↓putK, ↓putP, ↓atK, ↓normK, ↓postZ, evO, Fr.get, Fr.put, ↓reduceIte, reduceIte, Nat.reduceEqDiff, Nat.reduceAdd, Nat.reduceBEq, Nat.reduceLT, Nat.reduceLeDiff, binW, bodyQ, ressW, resW, ne_eq, forall_const, reduceCtorEq, implies_true, sets, oneAll, St.new, St.get, St.look, St.set, setL, setD, rels, fillE, fillD, List.replicate, rowsOf, forall_eq, eraseL, St.erase, Nat.reduceMul, ↓zD, zT, h2b]
      refine wpS_loop (fun p : BitVec 64 × BitVec 64 => [(8, .int .u64 (ui p.1)), (7, .int .u64 (ui p.2)), (2, .ref 0 3 0 0)]) (fun _ => ⟨1, [(0, ⟨3, [[.int .i64 m.W, .sl 1 (us m.V), .sl 1 (rr m.R)]]⟩)]⟩) (fun p => GenI m s p.1 p.2) (fun p => genM p.1 p.2) (s, s) (GenI.first h2) ?_ ?_
      · (refine Weak.same ?_; simp [sameF, Fr.get])
      rintro ⟨t, o⟩ hI
      refine wpS_go mixed ?_
      by_cases h : t = 0#64
      · have hb : (t != 0#64) = false := by simp [h]
        simp only [Int.reduceToNat, Int.reduceLT, Int.reduceLE, Int.reduceBEq, Int.reduceBNe, St0, argFr, ↓thenW, ↓blockW, ↓opX, ↓opV, ↓pX, ↓pW, ↓putK, ↓putP, ↓atK, ↓normK, ↓postZ, evO, Fr.get, Fr.put, ↓reduceIte, reduceIte, Nat.reduceEqDiff, Nat.reduceAdd, Nat.reduceBEq, Nat.reduceLT, Nat.reduceLeDiff, binW, bodyQ, ressW, resW, ne_eq, forall_const, reduceCtorEq, implies_true, sets, oneAll, St.new, St.get, St.look, St.set, setL, setD, rels, fillE, fillD, List.replicate, rowsOf, forall_eq, eraseL, St.erase, Nat.reduceMul, ↓zD, zT, hb]
        have := GenI.last h1 h2 (by rw [← h]; exact hI)
        exact .drop (by simp) (by simp only at this; simp [vw, vwL, genD, this])
      · have hb : (t != 0#64) = true := by simp [h]
        obtain ⟨hI', hM⟩ := hI.next h1 h
        have hwt : tz t < m.W.toNat := by
          have := hI.all _ (hI.todo _ (tz_first h).2.1)
          rw [allS_bit] at this
          simp at this
          omega
        have hz := (tz_first h).1
        simp only [Int.reduceToNat, Int.reduceLT, Int.reduceLE, Int.reduceBEq, Int.reduceBNe, St0, argFr, ↓thenW, ↓blockW, ↓opX, ↓opV, ↓pX, ↓pW, ↓putK, ↓putP, ↓atK, ↓normK, ↓postZ, evO, Fr.get, Fr.put, ↓reduceIte, reduceIte, Nat.reduceEqDiff, Nat.reduceAdd, Nat.reduceBEq, Nat.reduceLT, Nat.reduceLeDiff, binW, bodyQ, ressW, resW, ne_eq, forall_const, reduceCtorEq, implies_true, sets, oneAll, St.new, St.get, St.look, St.set, setL, setD, rels, fillE, fillD, List.replicate, rowsOf, forall_eq, eraseL, St.erase, Nat.reduceMul, ↓zD, zT, hb]
        refine .go (CallT.of_runs (tz_runs t) rfl) ?_
        simp only [Int.reduceToNat, Int.reduceLT, Int.reduceLE, Int.reduceBEq, Int.reduceBNe, St0, argFr, ↓thenW, ↓blockW, ↓opX, ↓opV, ↓pX, ↓pW, ↓putK, ↓putP, ↓atK, ↓normK, ↓postZ, evO, Fr.get, Fr.put, ↓reduceIte, reduceIte, Nat.reduceEqDiff, Nat.reduceAdd, Nat.reduceBEq, Nat.reduceLT, Nat.reduceLeDiff, binW, bodyQ, ressW, resW, ne_eq, forall_const, reduceCtorEq, implies_true, sets, oneAll, St.new, St.get, St.look, St.set, setL, setD, rels, fillE, fillD, List.replicate, rowsOf, forall_eq, eraseL, St.erase, Nat.reduceMul, ↓zD, zT]
        (repeat (first | refine And.intro (by omega) ?_ | refine And.intro rfl ?_))
        generalize hw0 : tz t = w at *
        refine wpS_loop (fun k : Nat => [(36, .int .i64 k), (35, .int .i64 m.R.length), (34, .sl 1 (rr m.R)), (9, .int .i64 w), (8, .int .u64 (ui (pf w (m.R.take k) (t &&& (t - 1#64), o)).1)), (7, .int .u64 (ui (pf w (m.R.take k) (t &&& (t - 1#64), o)).2)), (2, .ref 0 3 0 0)]) (fun _ => ⟨1, [(0, ⟨3, [[.int .i64 m.W, .sl 1 (us m.V), .sl 1 (rr m.R)]]⟩)]⟩) (fun k => k ≤ m.R.length) (fun k => m.R.length - k) 0 (Nat.zero_le _) ?_ ?_
        · (refine Weak.same ?_; simp [sameF, Fr.get, pf])
        intro k hk
        refine wpS_go mixed ?_
        by_cases h4 : k < m.R.length
        · have hd4 : ((k : Int) < (m.R.length : Int)) := by omega
          have hw4 := wrap_up (k := k) (by omega)
          have hr : m.R.getD k [] ∈ m.R := by simp [List.getD, h4]
          have hrl := c5 _ hr
          have hx : w < (m.R.getD k []).length := by omega
          have hx' : (w : Int) < ((m.R.getD k []).length : Int) := by omega
          simp only [Int.reduceToNat, Int.reduceLT, Int.reduceLE, Int.reduceBEq, Int.reduceBNe, St0, argFr, ↓thenW, ↓blockW, ↓opX, ↓opV, ↓pX, ↓pW, ↓putK, ↓putP, ↓atK, ↓normK, ↓postZ, evO, Fr.get, Fr.put, ↓reduceIte, reduceIte, Nat.reduceEqDiff, Nat.reduceAdd, Nat.reduceBEq, Nat.reduceLT, Nat.reduceLeDiff, binW, bodyQ, ressW, resW, ne_eq, forall_const, reduceCtorEq, implies_true, sets, oneAll, St.new, St.get, St.look, St.set, setL, setD, rels, fillE, fillD, List.replicate, rowsOf, forall_eq, eraseL, St.erase, Nat.reduceMul, ↓zD, zT, hd4, rr_get _ h4, us_get _ hx, hw4]
          (repeat (first | refine And.intro (by omega) ?_ | refine And.intro rfl ?_))
          refine ⟨k + 1, by omega, ?_, by omega⟩
          rw [take_snoc _ h4 [], pf_snoc]
          (refine Weak.same ?_; simp only [sameF, Fr.get, ↓reduceIte, reduceIte, Nat.reduceEqDiff, reduceCtorEq, D.int.injEq, D.bool.injEq, D.sl.injEq, and_true, true_and, and_self])
        · have hd4 : ¬ ((k : Int) < (m.R.length : Int)) := by omega
          have hk' : k = m.R.length := by omega
          subst hk'
          rw [List.take_length]
          simp only [Int.reduceToNat, Int.reduceLT, Int.reduceLE, Int.reduceBEq, Int.reduceBNe, St0, argFr, ↓thenW, ↓blockW, ↓opX, ↓opV, ↓pX, ↓pW, ↓putK, ↓putP, ↓atK, ↓normK, ↓postZ, evO, Fr.get, Fr.put, ↓reduceIte, reduceIte, Nat.reduceEqDiff, Nat.reduceAdd, Nat.reduceBEq, Nat.reduceLT, Nat.reduceLeDiff, binW, bodyQ, ressW, resW, ne_eq, forall_const, reduceCtorEq, implies_true, sets, oneAll, St.new, St.get, St.look, St.set, setL, setD, rels, fillE, fillD, List.replicate, rowsOf, forall_eq, eraseL, St.erase, Nat.reduceMul, ↓zD, zT, hd4]
          refine ⟨pf w m.R (t &&& (t - 1#64), o), hI', ?_, hM⟩
          (refine Weak.same ?_; simp only [sameF, Fr.get, ↓reduceIte, reduceIte, Nat.reduceEqDiff, reduceCtorEq, D.int.injEq, D.bool.injEq, D.sl.injEq, and_true, true_and, and_self])
    · have h2b : (s &&& ~~~(allS m.W) != 0#64) = true := by simp [h2]
      simp only [Int.reduceToNat, Int.reduceLT, Int.reduceLE, Int.reduceBEq, Int.reduceBNe, St0, argFr, ↓thenW, ↓blockW, ↓opX, ↓opV, ↓pX, ↓pW, ↓putK, ↓putP, ↓atK, ↓normK, ↓postZ, evO, Fr.get, Fr.put, ↓reduceIte, reduceIte, Nat.reduceEqDiff, Nat.reduceAdd, Nat.reduceBEq, Nat.reduceLT, Nat.reduceLeDiff, binW, bodyQ, ressW, resW, ne_eq, forall_const, reduceCtorEq, implies_true, sets, oneAll, St.new, St.get, St.look, St.set, setL, setD, rels, fillE, fillD, List.replicate, rowsOf, forall_eq, eraseL, St.erase, Nat.reduceMul, ↓zD, zT, h2b]
      exact .drop (by simp) (by simp [vw, vwL, genD, Mod.generated, h1, h2])
  · have h1b : (m.check != 0) = true := by simp [h1]
    simp only [Int.reduceToNat, Int.reduceLT, Int.reduceLE, Int.reduceBEq, Int.reduceBNe, St0, argFr, ↓thenW, ↓blockW, ↓opX, ↓opV, ↓pX, ↓pW, ↓putK, ↓putP, ↓atK, ↓normK, ↓postZ, evO, Fr.get, Fr.put, ↓reduceIte, reduceIte, Nat.reduceEqDiff, Nat.reduceAdd, Nat.reduceBEq, Nat.reduceLT, Nat.reduceLeDiff, binW, bodyQ, ressW, resW, ne_eq, forall_const, reduceCtorEq, implies_true, sets, oneAll, St.new, St.get, St.look, St.set, setL, setD, rels, fillE, fillD, List.replicate, rowsOf, forall_eq, eraseL, St.erase, Nat.reduceMul, ↓zD, zT, h1b]
    exact .drop (by simp) (by simp [vw, vwL, genD, Mod.generated, h1])
end Go.Pd
