/- Package model: the law ModelTwice. -/
import Derived.Test.YtkinhajadppfaaaDoorLp
set_option linter.unusedSectionVars false
set_option linter.unusedVariables false
set_option linter.unusedSimpArgs false
set_option linter.defProp false
set_option maxRecDepth 20000
namespace Go.Pd
open Go Go.Proofs
theorem restrict_yes {m : Mod} {s : BitVec 64} (hc : m.check = 0) (hs : s &&& ~~~(allS m.W) = 0#64) (h0 : s ≠ 0#64) : m.restrict s = (m.take (mems s), mems s, 0) := by
  unfold Mod.restrict
  rw [if_neg (by omega), if_neg (by simp [hs]), if_neg h0]
theorem restrict_cases {m : Mod} (hc : m.check = 0) (s : BitVec 64) : (s &&& ~~~(allS m.W) = 0#64 ∧ s ≠ 0#64 ∧ m.restrict s = (m.take (mems s), mems s, 0)) ∨ ∃ e : Int, e ≠ 0 ∧ m.restrict s = (.nil, [], e) := by
  by_cases h1 : s &&& ~~~(allS m.W) = 0#64
  · by_cases h2 : s = 0#64
    · refine .inr ⟨6, by omega, ?_⟩
      unfold Mod.restrict
      rw [if_neg (by omega), if_neg (by simp [h1]), if_pos h2]
    · exact .inl ⟨h1, h2, restrict_yes hc h1 h2⟩
  · refine .inr ⟨2, by omega, ?_⟩
    unfold Mod.restrict
    rw [if_neg (by omega), if_pos h1]
theorem mems_ne {s : BitVec 64} (h : s ≠ 0#64) : mems s ≠ [] := by
  intro e
  obtain ⟨h1, h2, _⟩ := tz_first h
  have : ((tz s : Nat) : Int) ∈ mems s := mems_mem.2 ⟨tz s, h1, h2, rfl⟩
  rw [e] at this
  simp at this
theorem orTo_succ (ns : List Int) (i : Nat) : orTo ns (i + 1) = orTo ns i ||| 1#64 <<< (ns.getD i 0).toNat := rfl

theorem modelTwice_runs (m : Mod) (s t : BitVec 64) : Runs Tryd.prog 7 [m.d, .int .u64 (ui s), .int .u64 (ui t)] (.bool true) := by
  refine CallT.go_fn mixed Tryd.func7 k7 (by simp) fun hf => ?_
  simp only [Int.reduceToNat, Int.reduceLT, Int.reduceLE, Int.reduceBEq, Int.reduceBNe, St0, argFr, ↓thenW, ↓blockW, ↓opX, ↓opV, ↓pX, ↓pW, ↓putK, ↓putP, ↓atK, ↓normK, ↓postZ, evO, Fr.get, Fr.put, ↓reduceIte, reduceIte, Nat.reduceEqDiff, Nat.reduceAdd, Nat.reduceBEq, Nat.reduceLT, Nat.reduceLeDiff, binW, bodyQ, ressW, resW, ne_eq, forall_const, reduceCtorEq, implies_true, sets, oneAll, St.new, St.get, St.look, St.set, setL, setD, rels, fillE, fillD, List.replicate, rowsOf, forall_eq, eraseL, St.erase, Nat.reduceMul, ↓zD, zT, Mod.d]
  refine .go (CallT.of_runs awake_runs rfl) ?_
  simp only [Int.reduceToNat, Int.reduceLT, Int.reduceLE, Int.reduceBEq, Int.reduceBNe, St0, argFr, ↓thenW, ↓blockW, ↓opX, ↓opV, ↓pX, ↓pW, ↓putK, ↓putP, ↓atK, ↓normK, ↓postZ, evO, Fr.get, Fr.put, ↓reduceIte, reduceIte, Nat.reduceEqDiff, Nat.reduceAdd, Nat.reduceBEq, Nat.reduceLT, Nat.reduceLeDiff, binW, bodyQ, ressW, resW, ne_eq, forall_const, reduceCtorEq, implies_true, sets, oneAll, St.new, St.get, St.look, St.set, setL, setD, rels, fillE, fillD, List.replicate, rowsOf, forall_eq, eraseL, St.erase, Nat.reduceMul, ↓zD, zT, Mod.d]
  refine .go (CallT.of_runs (few_runs m) rfl) ?_
  cases hfew : m.few
  · simp only [Int.reduceToNat, Int.reduceLT, Int.reduceLE, Int.reduceBEq, Int.reduceBNe, St0, argFr, ↓thenW, ↓blockW, ↓opX, ↓opV, ↓pX, ↓pW, ↓putK, ↓putP, ↓atK, ↓normK, ↓postZ, evO, Fr.get, Fr.put, ↓reduceIte, reduceIte, Nat.reduceEqDiff, Nat.reduceAdd, Nat.reduceBEq, Nat.reduceLT, Nat.reduceLeDiff, binW, bodyQ, ressW, resW, ne_eq, forall_const, reduceCtorEq, implies_true, sets, oneAll, St.new, St.get, St.look, St.set, setL, setD, rels, fillE, fillD, List.replicate, rowsOf, forall_eq, eraseL, St.erase, Nat.reduceMul, ↓zD, zT]
    refine .go (CallT.of_runs awake_runs rfl) ?_
    simp only [Int.reduceToNat, Int.reduceLT, Int.reduceLE, Int.reduceBEq, Int.reduceBNe, St0, argFr, ↓thenW, ↓blockW, ↓opX, ↓opV, ↓pX, ↓pW, ↓putK, ↓putP, ↓atK, ↓normK, ↓postZ, evO, Fr.get, Fr.put, ↓reduceIte, reduceIte, Nat.reduceEqDiff, Nat.reduceAdd, Nat.reduceBEq, Nat.reduceLT, Nat.reduceLeDiff, binW, bodyQ, ressW, resW, ne_eq, forall_const, reduceCtorEq, implies_true, sets, oneAll, St.new, St.get, St.look, St.set, setL, setD, rels, fillE, fillD, List.replicate, rowsOf, forall_eq, eraseL, St.erase, Nat.reduceMul, ↓zD, zT]
    exact .drop (by simp) (by simp [vw])
  simp only [Int.reduceToNat, Int.reduceLT, Int.reduceLE, Int.reduceBEq, Int.reduceBNe, St0, argFr, ↓thenW, ↓blockW, ↓opX, ↓opV, ↓pX, ↓pW, ↓putK, ↓putP, ↓atK, ↓normK, ↓postZ, evO, Fr.get, Fr.put, ↓reduceIte, reduceIte, Nat.reduceEqDiff, Nat.reduceAdd, Nat.reduceBEq, Nat.reduceLT, Nat.reduceLeDiff, binW, bodyQ, ressW, resW, ne_eq, forall_const, reduceCtorEq, implies_true, sets, oneAll, St.new, St.get, St.look, St.set, setL, setD, rels, fillE, fillD, List.replicate, rowsOf, forall_eq, eraseL, St.erase, Nat.reduceMul, ↓zD, zT, Mod.d]
  refine .go (CallT.of_runs (refCheck_runs m) rfl) ?_
  by_cases hc : m.check = 0
  · obtain ⟨c1, c2, c3, c4, c5, c6, c7⟩ := Mod.check_zero hc
    simp only [Int.reduceToNat, Int.reduceLT, Int.reduceLE, Int.reduceBEq, Int.reduceBNe, St0, argFr, ↓thenW, ↓blockW, ↓opX, ↓opV, ↓pX, ↓pW, ↓putK, ↓putP, ↓atK, ↓normK, ↓postZ, evO, Fr.get, Fr.put, ↓reduceIte, reduceIte, Nat.reduceEqDiff, Nat.reduceAdd, Nat.reduceBEq, Nat.reduceLT, Nat.reduceLeDiff, binW, bodyQ, ressW, resW, ne_eq, forall_const, reduceCtorEq, implies_true, sets, oneAll, St.new, St.get, St.look, St.set, setL, setD, rels, fillE, fillD, List.replicate, rowsOf, forall_eq, eraseL, St.erase, Nat.reduceMul, ↓zD, zT, hc]
    refine .go (CallT.of_runs (restrict_runs m s) rfl) ?_
    rcases restrict_cases hc s with ⟨hs1, hs2, e⟩ | ⟨er, her, e⟩
    · rw [e]
      have hl1 : (mems s).length ≤ 64 := mems_len s
      have hlne := mems_ne hs2
      have hlt := mems_lt hs1
      have hln := mems_nonneg s
      have hlr := mems_rising s
      generalize mems s = l at *
      have hl0 : 1 ≤ l.length := by
        cases l with
        | nil => exact absurd rfl hlne
        | cons a r => simp
      have hAc := take_check hc hl0 hl1
      have hAW : (m.take l).W = (l.length : Int) := rfl
      generalize hA : m.take l = A at *
      have hmx : (if (1 : Int) < (l.length : Int) then (l.length : Int) else 1) = (l.length : Int) := by split <;> omega
      have hmn : (if (l.length : Int) < 64 then (l.length : Int) else 64) = (l.length : Int) := by split <;> omega
      simp only [Int.reduceToNat, Int.reduceLT, Int.reduceLE, Int.reduceBEq, Int.reduceBNe, St0, argFr, ↓thenW, ↓blockW, ↓opX, ↓opV, ↓pX, ↓pW, ↓putK, ↓putP, ↓atK, ↓normK, ↓postZ, evO, Fr.get, Fr.put, ↓reduceIte, reduceIte, Nat.reduceEqDiff, Nat.reduceAdd, Nat.reduceBEq, Nat.reduceLT, Nat.reduceLeDiff, binW, bodyQ, ressW, resW, ne_eq, forall_const, reduceCtorEq, implies_true, sets, oneAll, St.new, St.get, St.look, St.set, setL, setD, rels, fillE, fillD, List.replicate, rowsOf, forall_eq, eraseL, St.erase, Nat.reduceMul, ↓zD, zT, resD, Mod.d, hAW, hmx, hmn]
      (repeat (first | refine And.intro (by omega) ?_ | refine And.intro rfl ?_))
      refine .go (CallT.of_runs (refAll_runs (l.length : Int) (by omega)) rfl) ?_
      simp only [Int.reduceToNat, Int.reduceLT, Int.reduceLE, Int.reduceBEq, Int.reduceBNe, St0, argFr, ↓thenW, ↓blockW, ↓opX, ↓opV, ↓pX, ↓pW, ↓putK, ↓putP, ↓atK, ↓normK, ↓postZ, evO, Fr.get, Fr.put, ↓reduceIte, reduceIte, Nat.reduceEqDiff, Nat.reduceAdd, Nat.reduceBEq, Nat.reduceLT, Nat.reduceLeDiff, binW, bodyQ, ressW, resW, ne_eq, forall_const, reduceCtorEq, implies_true, sets, oneAll, St.new, St.get, St.look, St.set, setL, setD, rels, fillE, fillD, List.replicate, rowsOf, forall_eq, eraseL, St.erase, Nat.reduceMul, ↓zD, zT, Mod.d, hAW]
      (repeat (first | refine And.intro (by omega) ?_ | refine And.intro rfl ?_))
      have hin : (t &&& allS (l.length : Int)) &&& ~~~(allS A.W) = 0#64 := by
        rw [hAW, sub_bits]
        intro i hi
        rw [BitVec.getLsbD_and] at hi
        simp at hi
        exact hi.2
      generalize hir : t &&& allS (l.length : Int) = inner at *
      rw [← hAW]
      refine .go (CallT.of_runs (restrict_runs A inner) (by simp [D.isPureL, D.isPure, Mod.d, sets, rels])) ?_
      by_cases hi0 : inner = 0#64
      · have e2 : A.restrict inner = (.nil, [], 6) := by
          unfold Mod.restrict
          rw [if_neg (by omega), if_neg (by simp [hin]), if_pos hi0]
        have hb : (inner == 0#64) = true := by simp [hi0]
        rw [e2]
        simp only [Int.reduceToNat, Int.reduceLT, Int.reduceLE, Int.reduceBEq, Int.reduceBNe, St0, argFr, ↓thenW, ↓blockW, ↓opX, ↓opV, ↓pX, ↓pW, ↓putK, ↓putP, ↓atK, ↓normK, ↓postZ, evO, Fr.get, Fr.put, ↓reduceIte, reduceIte, Nat.reduceEqDiff, Nat.reduceAdd, Nat.reduceBEq, Nat.reduceLT, Nat.reduceLeDiff, binW, bodyQ, ressW, resW, ne_eq, forall_const, reduceCtorEq, implies_true, sets, oneAll, St.new, St.get, St.look, St.set, setL, setD, rels, fillE, fillD, List.replicate, rowsOf, forall_eq, eraseL, St.erase, Nat.reduceMul, ↓zD, zT, resD, Mod.d, Mod.nil, hb]
        (repeat (first | refine And.intro (by omega) ?_ | refine And.intro rfl ?_))
        exact .drop (by simp) (by simp [vw])
      · have e2 := restrict_yes hAc hin hi0
        rw [e2]
        have hk1 : (mems inner).length ≤ 64 := mems_len inner
        have hkne := mems_ne hi0
        have hkt := mems_lt hin
        have hkn := mems_nonneg inner
        have hkr := mems_rising inner
        generalize mems inner = k at *
        have hkr2 : ∀ x ∈ k, 0 ≤ x ∧ x < l.length := fun x hx => ⟨hkn x hx, by rw [← hAW]; exact hkt x hx⟩
        have hk0 : 1 ≤ k.length := by
          cases k with
          | nil => exact absurd rfl hkne
          | cons a r => simp
        have hBc := take_check hAc hk0 hk1
        have htt : A.take k = m.take (at2 l k) := by rw [← hA]; exact take_take hl1 hkr2
        have hfB : ∀ v : Nat, v < k.length → (A.take k).facts v = m.facts (l.getD (k.getD v 0).toNat 0) := by
          intro v hv
          have hx := hkr2 _ (getD_mem 0 hv)
          have h1 := facts_take hAc hk1 hv hx.1 (by rw [hAW]; exact hx.2)
          rw [h1]
          have hxl : (k.getD v 0).toNat < l.length := by omega
          have h2 := facts_take hc hl1 hxl (hln _ (getD_mem 0 hxl)) (hlt _ (getD_mem 0 hxl))
          rw [hA] at h2
          rw [← h2]
          congr 1
          omega
        have hnsr := at2_rising hlr hkr hkr2
        have hns : ∀ x ∈ at2 l k, 0 ≤ x ∧ x < m.W := by
          intro x hx
          simp only [at2, List.mem_map] at hx
          obtain ⟨y, hy, rfl⟩ := hx
          have := hkr2 y hy
          have hyl : y.toNat < l.length := by omega
          exact ⟨hln _ (getD_mem 0 hyl), hlt _ (getD_mem 0 hyl)⟩
        have hns64 : ∀ x ∈ at2 l k, 0 ≤ x ∧ x < 64 := fun x hx => by have := hns x hx; omega
        have hnsl : (at2 l k).length = k.length := by simp [at2]
        have hnse : ∀ v : Nat, v < k.length → (at2 l k).getD v 0 = l.getD (k.getD v 0).toNat 0 := fun v hv => getD_mapI _ k v 0 hv
        generalize hB : A.take k = B at *
        generalize hnsg : at2 l k = ns at *
        simp only [Int.reduceToNat, Int.reduceLT, Int.reduceLE, Int.reduceBEq, Int.reduceBNe, St0, argFr, ↓thenW, ↓blockW, ↓opX, ↓opV, ↓pX, ↓pW, ↓putK, ↓putP, ↓atK, ↓normK, ↓postZ, evO, Fr.get, Fr.put, ↓reduceIte, reduceIte, Nat.reduceEqDiff, Nat.reduceAdd, Nat.reduceBEq, Nat.reduceLT, Nat.reduceLeDiff, binW, bodyQ, ressW, resW, ne_eq, forall_const, reduceCtorEq, implies_true, sets, oneAll, St.new, St.get, St.look, St.set, setL, setD, rels, fillE, fillD, List.replicate, rowsOf, forall_eq, eraseL, St.erase, Nat.reduceMul, ↓zD, zT, resD, Mod.d, hAW]
        (repeat (first | refine And.intro (by omega) ?_ | refine And.intro rfl ?_))
        refine wpS_loop (fun v : Nat => [(74, .int .i64 v), (73, .int .i64 k.length), (72, .sl 1 (rows .i64 k)), (14, .int .u64 (ui (orTo ns v))), (11, .ref 2 3 0 0), (8, .sl 1 (rows .i64 l)), (3, .ref 0 3 0 0)])
          (fun _ => ⟨3, [(2, ⟨3, [[.int .i64 B.W, .sl 1 (us B.V), .sl 1 (rr B.R)]]⟩), (1, ⟨3, [[.int .i64 l.length, .sl 1 (us A.V), .sl 1 (rr A.R)]]⟩), (0, ⟨3, [[.int .i64 m.W, .sl 1 (us m.V), .sl 1 (rr m.R)]]⟩)]⟩) (fun v => v ≤ k.length) (fun v => k.length - v) 0 (Nat.zero_le _) ?_ ?_
        · (refine Weak.same ?_; simp [sameF, Fr.get, orTo])
        intro v hv
        refine wpS_go mixed ?_
        by_cases h : v < k.length
        · have hd : ((v : Int) < (k.length : Int)) := by omega
          have hw := wrap_up (k := v) (by omega)
          have hx := hkr2 _ (getD_mem 0 h)
          have hf := hfB v h
          have he := hnse v h
          generalize hxe : k.getD v 0 = x at *
          have hx0 : ¬ x < 0 := by omega
          have hx1 : ¬ ((l.length : Int) ≤ x) := by omega
          have hxl : x.toNat < l.length := by omega
          have hy := hns64 _ (getD_mem 0 (show v < ns.length by omega))
          rw [he] at hy
          generalize hye : l.getD x.toNat 0 = y at *
          have hy0 : ¬ y < 0 := by omega
          have hy1 : ¬ (63 : Int) < y := by omega
          simp only [Int.reduceToNat, Int.reduceLT, Int.reduceLE, Int.reduceBEq, Int.reduceBNe, St0, argFr, ↓thenW, ↓blockW, ↓opX, ↓opV, ↓pX, ↓pW, ↓putK, ↓putP, ↓atK, ↓normK, ↓postZ, evO, Fr.get, Fr.put, ↓reduceIte, reduceIte, Nat.reduceEqDiff, Nat.reduceAdd, Nat.reduceBEq, Nat.reduceLT, Nat.reduceLeDiff, binW, bodyQ, ressW, resW, ne_eq, forall_const, reduceCtorEq, implies_true, sets, oneAll, St.new, St.get, St.look, St.set, setL, setD, rels, fillE, fillD, List.replicate, rowsOf, forall_eq, eraseL, St.erase, Nat.reduceMul, ↓zD, zT, hd, rows_get _ _ h, hxe, hx0, hx1, rows_get _ _ hxl, hye, hy0, hy1]
          (repeat (first | refine And.intro (by omega) ?_ | refine And.intro rfl ?_))
          refine .go (CallT.of_runs (facts_runs B v) rfl) ?_
          simp only [Int.reduceToNat, Int.reduceLT, Int.reduceLE, Int.reduceBEq, Int.reduceBNe, St0, argFr, ↓thenW, ↓blockW, ↓opX, ↓opV, ↓pX, ↓pW, ↓putK, ↓putP, ↓atK, ↓normK, ↓postZ, evO, Fr.get, Fr.put, ↓reduceIte, reduceIte, Nat.reduceEqDiff, Nat.reduceAdd, Nat.reduceBEq, Nat.reduceLT, Nat.reduceLeDiff, binW, bodyQ, ressW, resW, ne_eq, forall_const, reduceCtorEq, implies_true, sets, oneAll, St.new, St.get, St.look, St.set, setL, setD, rels, fillE, fillD, List.replicate, rowsOf, forall_eq, eraseL, St.erase, Nat.reduceMul, ↓zD, zT, rows_get _ _ hxl, hye]
          (repeat (first | refine And.intro (by omega) ?_ | refine And.intro rfl ?_))
          refine .go (CallT.of_runs (facts_runs m y) rfl) ?_
          simp only [Int.reduceToNat, Int.reduceLT, Int.reduceLE, Int.reduceBEq, Int.reduceBNe, St0, argFr, ↓thenW, ↓blockW, ↓opX, ↓opV, ↓pX, ↓pW, ↓putK, ↓putP, ↓atK, ↓normK, ↓postZ, evO, Fr.get, Fr.put, ↓reduceIte, reduceIte, Nat.reduceEqDiff, Nat.reduceAdd, Nat.reduceBEq, Nat.reduceLT, Nat.reduceLeDiff, binW, bodyQ, ressW, resW, ne_eq, forall_const, reduceCtorEq, implies_true, sets, oneAll, St.new, St.get, St.look, St.set, setL, setD, rels, fillE, fillD, List.replicate, rowsOf, forall_eq, eraseL, St.erase, Nat.reduceMul, ↓zD, zT, hf, rows_get _ _ hxl, hye, hw]
          (repeat (first | refine And.intro (by omega) ?_ | refine And.intro rfl ?_))
          refine ⟨v + 1, by omega, ?_, by omega⟩
          rw [orTo_succ, he]
          (refine Weak.same ?_; simp only [sameF, Fr.get, ↓reduceIte, reduceIte, Nat.reduceEqDiff, reduceCtorEq, D.int.injEq, D.bool.injEq, D.sl.injEq, and_true, true_and, and_self])
        · have hd : ¬ ((v : Int) < (k.length : Int)) := by omega
          have hv' : v = k.length := by omega
          subst hv'
          simp only [Int.reduceToNat, Int.reduceLT, Int.reduceLE, Int.reduceBEq, Int.reduceBNe, St0, argFr, ↓thenW, ↓blockW, ↓opX, ↓opV, ↓pX, ↓pW, ↓putK, ↓putP, ↓atK, ↓normK, ↓postZ, evO, Fr.get, Fr.put, ↓reduceIte, reduceIte, Nat.reduceEqDiff, Nat.reduceAdd, Nat.reduceBEq, Nat.reduceLT, Nat.reduceLeDiff, binW, bodyQ, ressW, resW, ne_eq, forall_const, reduceCtorEq, implies_true, sets, oneAll, St.new, St.get, St.look, St.set, setL, setD, rels, fillE, fillD, List.replicate, rowsOf, forall_eq, eraseL, St.erase, Nat.reduceMul, ↓zD, zT, hd]
          (repeat (first | refine And.intro (by omega) ?_ | refine And.intro rfl ?_))
          have hm : mems (orTo ns k.length) = ns := by rw [← hnsl]; exact mems_orTo hns64 hnsr
          have hsub : orTo ns k.length &&& ~~~(allS m.W) = 0#64 := by
            rw [sub_bits]
            intro i hi
            obtain ⟨v, hv, e⟩ := (orTo_bit hns64 _ (by omega)).1 hi
            have := hns64 _ (getD_mem 0 (show v < ns.length by omega))
            have := hns _ (getD_mem 0 (show v < ns.length by omega))
            rw [allS_bit]
            simp
            omega
          have hne : orTo ns k.length ≠ 0#64 := by
            intro e
            rw [e] at hm
            have : mems 0#64 = [] := by kernel_rfl
            rw [this] at hm
            rw [← hm] at hnsl
            simp at hnsl
            omega
          refine .go (CallT.of_runs (restrict_runs m (orTo ns k.length)) rfl) ?_
          rw [restrict_yes hc hsub hne, hm]
          simp only [Int.reduceToNat, Int.reduceLT, Int.reduceLE, Int.reduceBEq, Int.reduceBNe, St0, argFr, ↓thenW, ↓blockW, ↓opX, ↓opV, ↓pX, ↓pW, ↓putK, ↓putP, ↓atK, ↓normK, ↓postZ, evO, Fr.get, Fr.put, ↓reduceIte, reduceIte, Nat.reduceEqDiff, Nat.reduceAdd, Nat.reduceBEq, Nat.reduceLT, Nat.reduceLeDiff, binW, bodyQ, ressW, resW, ne_eq, forall_const, reduceCtorEq, implies_true, sets, oneAll, St.new, St.get, St.look, St.set, setL, setD, rels, fillE, fillD, List.replicate, rowsOf, forall_eq, eraseL, St.erase, Nat.reduceMul, ↓zD, zT, resD, Mod.d]
          (repeat (first | refine And.intro (by omega) ?_ | refine And.intro rfl ?_))
          rw [← htt]
          refine .go (CallT.of_runs (refSame_runs B B) rfl) ?_
          rw [same_self]
          simp only [Int.reduceToNat, Int.reduceLT, Int.reduceLE, Int.reduceBEq, Int.reduceBNe, St0, argFr, ↓thenW, ↓blockW, ↓opX, ↓opV, ↓pX, ↓pW, ↓putK, ↓putP, ↓atK, ↓normK, ↓postZ, evO, Fr.get, Fr.put, ↓reduceIte, reduceIte, Nat.reduceEqDiff, Nat.reduceAdd, Nat.reduceBEq, Nat.reduceLT, Nat.reduceLeDiff, binW, bodyQ, ressW, resW, ne_eq, forall_const, reduceCtorEq, implies_true, sets, oneAll, St.new, St.get, St.look, St.set, setL, setD, rels, fillE, fillD, List.replicate, rowsOf, forall_eq, eraseL, St.erase, Nat.reduceMul, ↓zD, zT]
          exact .drop (by simp) (by simp [vw])
    · have hb : (er != 0) = true := by simp [her]
      rw [e]
      simp only [Int.reduceToNat, Int.reduceLT, Int.reduceLE, Int.reduceBEq, Int.reduceBNe, St0, argFr, ↓thenW, ↓blockW, ↓opX, ↓opV, ↓pX, ↓pW, ↓putK, ↓putP, ↓atK, ↓normK, ↓postZ, evO, Fr.get, Fr.put, ↓reduceIte, reduceIte, Nat.reduceEqDiff, Nat.reduceAdd, Nat.reduceBEq, Nat.reduceLT, Nat.reduceLeDiff, binW, bodyQ, ressW, resW, ne_eq, forall_const, reduceCtorEq, implies_true, sets, oneAll, St.new, St.get, St.look, St.set, setL, setD, rels, fillE, fillD, List.replicate, rowsOf, forall_eq, eraseL, St.erase, Nat.reduceMul, ↓zD, zT, resD, Mod.d, Mod.nil, hb]
      (repeat (first | refine And.intro (by omega) ?_ | refine And.intro rfl ?_))
      exact .drop (by simp) (by simp [vw])
  · have hb : (m.check != 0) = true := by simp [hc]
    simp only [Int.reduceToNat, Int.reduceLT, Int.reduceLE, Int.reduceBEq, Int.reduceBNe, St0, argFr, ↓thenW, ↓blockW, ↓opX, ↓opV, ↓pX, ↓pW, ↓putK, ↓putP, ↓atK, ↓normK, ↓postZ, evO, Fr.get, Fr.put, ↓reduceIte, reduceIte, Nat.reduceEqDiff, Nat.reduceAdd, Nat.reduceBEq, Nat.reduceLT, Nat.reduceLeDiff, binW, bodyQ, ressW, resW, ne_eq, forall_const, reduceCtorEq, implies_true, sets, oneAll, St.new, St.get, St.look, St.set, setL, setD, rels, fillE, fillD, List.replicate, rowsOf, forall_eq, eraseL, St.erase, Nat.reduceMul, ↓zD, zT, hb]
    refine .go (CallT.of_runs awake_runs rfl) ?_
    simp only [Int.reduceToNat, Int.reduceLT, Int.reduceLE, Int.reduceBEq, Int.reduceBNe, St0, argFr, ↓thenW, ↓blockW, ↓opX, ↓opV, ↓pX, ↓pW, ↓putK, ↓putP, ↓atK, ↓normK, ↓postZ, evO, Fr.get, Fr.put, ↓reduceIte, reduceIte, Nat.reduceEqDiff, Nat.reduceAdd, Nat.reduceBEq, Nat.reduceLT, Nat.reduceLeDiff, binW, bodyQ, ressW, resW, ne_eq, forall_const, reduceCtorEq, implies_true, sets, oneAll, St.new, St.get, St.look, St.set, setL, setD, rels, fillE, fillD, List.replicate, rowsOf, forall_eq, eraseL, St.erase, Nat.reduceMul, ↓zD, zT]
    exact .drop (by simp) (by simp [vw])
end Go.Pd
