/- Resolution: the law Decides. -/
import Derived.Test.YtigkaakdjibakaaE5
set_option linter.unusedSectionVars false
set_option linter.unusedVariables false
set_option linter.unusedSimpArgs false
set_option linter.defProp false
set_option maxRecDepth 20000
namespace Go.Pd
open Go Go.Proofs
open Rs
namespace Rs
theorem leaf_sat {n v : Nat} {l : List (List Int)} (hl : ∀ c ∈ l, ∀ x ∈ c, litOk n x = true) (h : ffalse n v l 0 = none) : satL v l = true := by
  refine List.all_eq_true.2 fun c hc => ?_
  have hnf := ffalse_none h c hc
  cases hs : satC v c
  · exfalso
    refine hnf fun x hx => ⟨(varI_range (hl c hc x hx)).2, ?_⟩
    cases hm : mkB v x
    · rfl
    · have : satC v c = true := List.any_eq_true.2 ⟨x, hx, hm⟩
      rw [hs] at this; cases this
  · rfl
theorem wf0 (l : List (List Int)) : WF l rs0 := ⟨fun k h => by simp [rs0] at h, fun k h => by simp [rs0] at h, fun k h => by simp [rs0] at h, fun i y h => by cases h⟩
theorem not_stop {s : RS} {a y : Int} (h : ¬ stopL s a y) : 0 ≤ a ∧ y ∈ (s.ls.getD a.toNat ln0).cl := by
  unfold stopL at h
  simp only [not_or, Decidable.not_not] at h
  exact ⟨by omega, h.2⟩
theorem refute_good {n : Nat} {l : List (List Int)} (hc : checkC n l = 0) : ∀ (m : Nat) {idx v : Nat} {s : RS}, idx + m = n → v < 2 ^ idx → WF l s → full s → Good n l idx v s (refuteS l m idx v s).1 (refuteS l m idx v s).2 := by
  obtain ⟨c1, c2, c3, c4⟩ := checkC_zero hc
  have hlit : ∀ c ∈ l, ∀ x ∈ c, litOk n x = true := fun c hcl x hx => ((normE_zero.1 (c4 c hcl)).1 x hx).1
  intro m
  induction m with
  | zero =>
    intro idx v s hidx hv hw hfu
    cases hf : ffalse idx v l 0 with
    | some i =>
      rw [show refuteS l 0 idx v s = inputS l i s by rw [refuteS, hf]]
      exact input_good hc hw hfu hf
    | none =>
      rw [show refuteS l 0 idx v s = (-1, s) by rw [refuteS, hf]]
      have e : idx = n := by omega
      subst e
      exact ⟨hw, ⟨[], by simp⟩, fun _ => ⟨hfu, v, hv, leaf_sat hlit hf⟩, fun h => by simp only at h; omega⟩
  | succ m ih =>
    intro idx v s hidx hv hw hfu
    have hpi : 2 ^ (idx + 1) = 2 ^ idx + 2 ^ idx := by rw [Nat.pow_succ]; omega
    cases hf : ffalse idx v l 0 with
    | some i =>
      rw [show refuteS l (m + 1) idx v s = inputS l i s by rw [refuteS, hf]]
      exact input_good hc hw hfu hf
    | none =>
      have g1 := ih (idx := idx + 1) (v := v) (s := s) (by omega) (by omega) hw hfu
      have er : refuteS l (m + 1) idx v s = if stopL (refuteS l m (idx + 1) v s).2 (refuteS l m (idx + 1) v s).1 (idx + 1 : Nat) then refuteS l m (idx + 1) v s else
          if stopL (refuteS l m (idx + 1) (v + 2 ^ idx) (refuteS l m (idx + 1) v s).2).2 (refuteS l m (idx + 1) (v + 2 ^ idx) (refuteS l m (idx + 1) v s).2).1 (-idx - 1) then refuteS l m (idx + 1) (v + 2 ^ idx) (refuteS l m (idx + 1) v s).2 else
          ((refuteS l m (idx + 1) (v + 2 ^ idx) (refuteS l m (idx + 1) v s).2).2.ls.length, ⟨(refuteS l m (idx + 1) (v + 2 ^ idx) (refuteS l m (idx + 1) v s).2).2.ls ++ [⟨(resolveA ((refuteS l m (idx + 1) (v + 2 ^ idx) (refuteS l m (idx + 1) v s).2).2.ls.getD (refuteS l m (idx + 1) v s).1.toNat ln0).cl ((refuteS l m (idx + 1) (v + 2 ^ idx) (refuteS l m (idx + 1) v s).2).2.ls.getD (refuteS l m (idx + 1) (v + 2 ^ idx) (refuteS l m (idx + 1) v s).2).1.toNat ln0).cl idx).1, (refuteS l m (idx + 1) v s).1, (refuteS l m (idx + 1) (v + 2 ^ idx) (refuteS l m (idx + 1) v s).2).1, idx⟩], (refuteS l m (idx + 1) (v + 2 ^ idx) (refuteS l m (idx + 1) v s).2).2.us⟩) := by
        rw [refuteS, hf]; rfl
      rw [er]; clear er
      generalize refuteS l m (idx + 1) v s = p at g1
      obtain ⟨a, s1⟩ := p
      simp only at g1 ⊢
      by_cases hst : stopL s1 a (idx + 1 : Nat)
      · rw [if_pos hst]
        refine ⟨g1.wf, g1.ext, g1.no, fun ha => ?_⟩
        obtain ⟨y1, y2, y3⟩ := g1.yes ha
        simp only at ha y1 y2 y3 ⊢
        refine ⟨y1, ?_, y3⟩
        have hno := g1.wf.no a.toNat (by omega)
        have hni : ((idx + 1 : Nat) : Int) ∉ (s1.ls.getD a.toNat ln0).cl := by
          rcases hst with h | h
          · omega
          · exact h
        exact fun x hx => fall_back0 hv (fun x hx => (litOk_iff.1 ((normE_zero.1 hno).1 x hx).1).1) y2 x hx fun e => hni (by rw [show ((idx + 1 : Nat) : Int) = x by omega]; exact hx)
      rw [if_neg hst]
      obtain ⟨ha, hain⟩ := not_stop hst
      obtain ⟨y1, y2, y3⟩ := g1.yes ha
      have hfu1 : full s1 := by
        rcases y3 with h | ⟨_, h⟩
        · exact h
        · rw [h] at hain; cases hain
      have g2 := ih (idx := idx + 1) (v := v + 2 ^ idx) (s := s1) (by omega) (by omega) g1.wf hfu1
      generalize refuteS l m (idx + 1) (v + 2 ^ idx) s1 = q at g2
      obtain ⟨b, s2⟩ := q
      simp only at g2 ⊢
      obtain ⟨t1, ht1⟩ := g1.ext
      obtain ⟨t2, ht2⟩ := g2.ext
      have hext : ∃ t, s2.ls = s.ls ++ t := ⟨t1 ++ t2, by rw [ht2, ht1, List.append_assoc]⟩
      by_cases hst2 : stopL s2 b (-idx - 1)
      · rw [if_pos hst2]
        refine ⟨g2.wf, hext, g2.no, fun hb => ?_⟩
        obtain ⟨z1, z2, z3⟩ := g2.yes hb
        simp only at hb z1 z2 z3 ⊢
        refine ⟨z1, ?_, z3⟩
        have hno := g2.wf.no b.toNat (by omega)
        have hni : -(idx : Int) - 1 ∉ (s2.ls.getD b.toNat ln0).cl := by
          rcases hst2 with h | h
          · omega
          · exact h
        exact fun x hx => fall_back1 hv (fun x hx => ((normE_zero.1 hno).1 x hx).1) z2 x hx fun e => hni (by rw [← e]; exact hx)
      rw [if_neg hst2]
      obtain ⟨hb, hbin⟩ := not_stop hst2
      obtain ⟨z1, z2, z3⟩ := g2.yes hb
      have hfu2 : full s2 := by
        rcases z3 with h | ⟨_, h⟩
        · exact h
        · rw [h] at hbin; cases hbin
      have hag : s2.ls.getD a.toNat ln0 = s1.ls.getD a.toNat ln0 := by rw [ht2, getD_app (by omega)]
      have hl12 : s1.ls.length ≤ s2.ls.length := by rw [ht2, List.length_append]; omega
      have na := g1.wf.no a.toNat (by omega)
      have nb := g2.wf.no b.toNat (by omega)
      rw [hag]
      generalize hca : (s1.ls.getD a.toNat ln0).cl = ca at y2 hain na
      generalize hcb : (s2.ls.getD b.toNat ln0).cl = cb at z2 hbin nb
      have la : ∀ x ∈ ca, litOk 12 x = true := fun x hx => ((normE_zero.1 na).1 x hx).1
      have lb : ∀ x ∈ cb, litOk 12 x = true := fun x hx => ((normE_zero.1 nb).1 x hx).1
      have mfal : fallC idx v (mergeR ca cb idx) := fun x hx => by
        rcases List.mem_append.1 hx with hx | hx
        · obtain ⟨h1, h2⟩ := delL_mem.1 hx
          exact fall_back0 hv (fun x hx => (litOk_iff.1 (la x hx)).1) y2 x h1 h2
        · obtain ⟨h1, h2⟩ := delL_mem.1 hx
          exact fall_back1 hv lb z2 x h1 h2
      have mlit : ∀ x ∈ mergeR ca cb idx, litOk 12 x = true := fun x hx => by
        rcases List.mem_append.1 hx with hx | hx
        · exact la x (delL_mem.1 hx).1
        · exact lb x (delL_mem.1 hx).1
      have hnb : bothTo (mergeR ca cb idx) 12 = false := by
        rw [← Bool.not_eq_true, bothTo_iff]
        rintro ⟨w, _, hbo⟩
        simp only [bothB, Bool.and_eq_true, decide_eq_true_eq] at hbo
        have h1 := (mfal _ hbo.1).2
        have h2 := (mfal _ hbo.2).2
        rw [mkB_pos] at h1
        rw [mkB_negv, h1] at h2
        cases h2
      have hres : resolveA ca cb idx = (canon (mergeR ca cb idx), 0) := by
        have hco : collectA (mergeR ca cb idx) = (canon (mergeR ca cb idx), false) := by unfold collectA; rw [if_neg (by rw [hnb]; simp)]
        unfold resolveA
        rw [if_neg (by omega), if_neg, hco, if_neg (by simp)]
        rintro (h | h | h | h)
        · omega
        · omega
        · exact h (by rw [show (idx : Int) + 1 = ((idx + 1 : Nat) : Int) by omega]; exact hain)
        · exact h hbin
      rw [hres]
      have hlast : ((s2.ls ++ [⟨canon (mergeR ca cb idx), a, b, idx⟩] : List Ln).getD s2.ls.length ln0) = ⟨canon (mergeR ca cb idx), a, b, idx⟩ := getD_last
      refine ⟨g2.wf.add ?_ ?_ ?_ ?_, ?_, fun h => by simp only at h; omega, fun _ => ⟨by simp; omega, ?_, ?_⟩⟩
      · simp only [formedB, if_neg (show ¬ a = -1 by omega), Bool.and_eq_true, decide_eq_true_eq]
        omega
      · simp only [rightB, if_neg (show ¬ a = -1 by omega)]
        rw [hag, hca, hcb, hres]
        simp
      · exact canon_norm mlit hnb
      · intro i y hy
        obtain ⟨h1, h2, h3⟩ := g2.wf.us i y hy
        exact ⟨h1, by omega, by rw [getD_app (by omega)]; exact h3⟩
      · obtain ⟨t, ht⟩ := hext
        exact ⟨t ++ [⟨canon (mergeR ca cb idx), a, b, idx⟩], by simp only; rw [ht, List.append_assoc]⟩
      · simp only [Int.toNat_natCast]; rw [hlast]
        exact fun x hx => mfal x (canon_in hx)
      · by_cases he : canon (mergeR ca cb idx) = []
        · exact .inr ⟨by simp, by simp only [Int.toNat_natCast]; rw [hlast]; exact he⟩
        · exact .inl (full_add hfu2 he)
/-- A refutation, or a valuation. -/
theorem refute_decides {n : Nat} {l : List (List Int)} (hc : checkC n l = 0) : ((refuteA n l).2 = 15 ∧ (refuteA n l).1 = [] ∧ ∃ w, w < 2 ^ n ∧ satL w l = true) ∨ ((refuteA n l).2 = 0 ∧ verifyA n l (refuteA n l).1 = 0) := by
  have g := refute_good hc n (idx := 0) (v := 0) (s := rs0) (by omega) (by simp) (wf0 l) (fun k h => by simp [rs0] at h)
  have er : refuteA n l = if (refuteS l n 0 0 rs0).1 < 0 then ([], 15) else ((refuteS l n 0 0 rs0).2.ls, 0) := by rw [refuteA, if_neg (by omega), Int.toNat_natCast]
  rw [er]
  generalize refuteS l n 0 0 rs0 = p at g
  obtain ⟨r, s⟩ := p
  simp only at g ⊢
  by_cases hr : r < 0
  · rw [if_pos hr]
    exact .inl ⟨rfl, rfl, (g.no hr).2⟩
  · rw [if_neg hr]
    obtain ⟨y1, y2, y3⟩ := g.yes (by omega)
    have he : (s.ls.getD r.toNat ln0).cl = [] := by
      cases hcl : (s.ls.getD r.toNat ln0).cl with
      | nil => rfl
      | cons x t =>
        have hx : x ∈ (s.ls.getD r.toNat ln0).cl := by rw [hcl]; simp
        have h1 := (y2 x hx).1
        have h2 := varI_range ((normE_zero.1 (g.wf.no r.toNat (by omega))).1 x hx).1
        omega
    have hlast : r + 1 = s.ls.length := by
      rcases y3 with h | ⟨h, _⟩
      · exact absurd he (h r.toNat (by omega))
      · exact h
    have hne : s.ls ≠ [] := fun e => by rw [e] at y1; simp at y1; omega
    refine .inr ⟨rfl, ?_⟩
    unfold verifyA
    have hform : formedFrom l.length s.ls 0 = true := formedFrom_of fun k hk => by rw [Int.zero_add]; exact g.wf.fo k hk
    have hright : s.ls.all (rightB l s.ls) = true := List.all_eq_true.2 fun p hp => by
      obtain ⟨k, hk, rfl⟩ := List.mem_iff_getElem.1 hp
      have := g.wf.ri k hk
      simpa [List.getD, hk] using this
    rw [if_neg (by omega), if_neg (by rw [hform]; simp), if_neg (by rw [hright]; simp), if_neg]
    rintro (h | h)
    · exact hne h
    · rw [show s.ls.length - 1 = r.toNat by omega] at h
      exact h he
theorem least_some {l : List (List Int)} : ∀ {m k v : Nat}, leastV l m k = some v → satL v l = true ∧ v < k + m
  | 0, _, _, h => by cases h
  | m + 1, k, v, h => by
    unfold leastV at h
    by_cases hs : satL k l = true
    · rw [if_pos hs] at h; cases h; exact ⟨hs, by omega⟩
    · rw [if_neg hs] at h
      have := least_some h
      exact ⟨this.1, by omega⟩
theorem least_none {l : List (List Int)} : ∀ {m k : Nat}, leastV l m k = none → ∀ w, k ≤ w → w < k + m → satL w l = false
  | 0, _, _, w, h1, h2 => by omega
  | m + 1, k, h, w, h1, h2 => by
    unfold leastV at h
    by_cases hs : satL k l = true
    · rw [if_pos hs] at h; cases h
    · rw [if_neg hs] at h
      by_cases e : w = k
      · rw [e]; simpa using hs
      · exact least_none h w (by omega) (by omega)
end Rs
theorem resolutionDecides_runs (n : Int) (l : List (List Int)) : Runs Try.prog 10 [.int .i64 n, .sl 1 (rl l)] (.bool true) := by
  refine CallT.go_fn mixed Try.func10 k10 (by simp) fun hf => ?_
  simp only [Int.reduceToNat, Int.reduceLT, Int.reduceLE, Int.reduceBEq, Int.reduceBNe, St0, argFr, ↓thenW, ↓blockW, ↓opX, ↓opV, ↓pX, ↓pW, ↓putK, ↓putP, ↓atK, ↓normK, ↓postZ, ↓reduceIte, reduceIte, Nat.reduceEqDiff, Nat.reduceAdd, Nat.reduceBEq, Nat.reduceLT, Nat.reduceLeDiff, binW, bodyQ, ressW, resW, ne_eq, forall_const, reduceCtorEq, implies_true, sets, oneAll, setD, rels, fillE, fillD, List.replicate, rowsOf, forall_eq, Nat.reduceMul, ↓zD, zT]
  refine .go (CallT.of_runs (few18 n l) (by simp [D.isPureL, D.isPure])) ?_
  cases hfew : fewA n l
  · simp only [Int.reduceToNat, Int.reduceLT, Int.reduceLE, Int.reduceBEq, Int.reduceBNe, St0, argFr, ↓thenW, ↓blockW, ↓opX, ↓opV, ↓pX, ↓pW, ↓putK, ↓putP, ↓atK, ↓normK, ↓postZ, ↓reduceIte, reduceIte, Nat.reduceEqDiff, Nat.reduceAdd, Nat.reduceBEq, Nat.reduceLT, Nat.reduceLeDiff, binW, bodyQ, ressW, resW, ne_eq, forall_const, reduceCtorEq, implies_true, sets, oneAll, setD, rels, fillE, fillD, List.replicate, rowsOf, forall_eq, Nat.reduceMul, ↓zD, zT]
    refine .go awakeT ?_
    simp only [Int.reduceToNat, Int.reduceLT, Int.reduceLE, Int.reduceBEq, Int.reduceBNe, St0, argFr, ↓thenW, ↓blockW, ↓opX, ↓opV, ↓pX, ↓pW, ↓putK, ↓putP, ↓atK, ↓normK, ↓postZ, ↓reduceIte, reduceIte, Nat.reduceEqDiff, Nat.reduceAdd, Nat.reduceBEq, Nat.reduceLT, Nat.reduceLeDiff, binW, bodyQ, ressW, resW, ne_eq, forall_const, reduceCtorEq, implies_true, sets, oneAll, setD, rels, fillE, fillD, List.replicate, rowsOf, forall_eq, Nat.reduceMul, ↓zD, zT]
    exact .same
  obtain ⟨f1, f2, f3⟩ := fewA_true hfew
  simp only [Int.reduceToNat, Int.reduceLT, Int.reduceLE, Int.reduceBEq, Int.reduceBNe, St0, argFr, ↓thenW, ↓blockW, ↓opX, ↓opV, ↓pX, ↓pW, ↓putK, ↓putP, ↓atK, ↓normK, ↓postZ, ↓reduceIte, reduceIte, Nat.reduceEqDiff, Nat.reduceAdd, Nat.reduceBEq, Nat.reduceLT, Nat.reduceLeDiff, binW, bodyQ, ressW, resW, ne_eq, forall_const, reduceCtorEq, implies_true, sets, oneAll, setD, rels, fillE, fillD, List.replicate, rowsOf, forall_eq, Nat.reduceMul, ↓zD, zT]
  refine .go (CallT.of_runs (check15 n l) (by simp [D.isPureL, D.isPure])) ?_
  by_cases hc : checkC n l = 0
  case neg =>
    have e : (checkC n l != 0) = true := by simpa using hc
    simp only [Int.reduceToNat, Int.reduceLT, Int.reduceLE, Int.reduceBEq, Int.reduceBNe, St0, argFr, ↓thenW, ↓blockW, ↓opX, ↓opV, ↓pX, ↓pW, ↓putK, ↓putP, ↓atK, ↓normK, ↓postZ, ↓reduceIte, reduceIte, Nat.reduceEqDiff, Nat.reduceAdd, Nat.reduceBEq, Nat.reduceLT, Nat.reduceLeDiff, binW, bodyQ, ressW, resW, ne_eq, forall_const, reduceCtorEq, implies_true, sets, oneAll, setD, rels, fillE, fillD, List.replicate, rowsOf, forall_eq, Nat.reduceMul, ↓zD, zT, e]
    refine .go awakeT ?_
    simp only [Int.reduceToNat, Int.reduceLT, Int.reduceLE, Int.reduceBEq, Int.reduceBNe, St0, argFr, ↓thenW, ↓blockW, ↓opX, ↓opV, ↓pX, ↓pW, ↓putK, ↓putP, ↓atK, ↓normK, ↓postZ, ↓reduceIte, reduceIte, Nat.reduceEqDiff, Nat.reduceAdd, Nat.reduceBEq, Nat.reduceLT, Nat.reduceLeDiff, binW, bodyQ, ressW, resW, ne_eq, forall_const, reduceCtorEq, implies_true, sets, oneAll, setD, rels, fillE, fillD, List.replicate, rowsOf, forall_eq, Nat.reduceMul, ↓zD, zT]
    exact .same
  have e : (checkC n l != 0) = false := by simpa using hc
  obtain ⟨c1, c2, c3, c4⟩ := checkC_zero hc
  obtain ⟨m, rfl⟩ := Int.eq_ofNat_of_zero_le c1
  simp only [Int.reduceToNat, Int.reduceLT, Int.reduceLE, Int.reduceBEq, Int.reduceBNe, St0, argFr, ↓thenW, ↓blockW, ↓opX, ↓opV, ↓pX, ↓pW, ↓putK, ↓putP, ↓atK, ↓normK, ↓postZ, ↓reduceIte, reduceIte, Nat.reduceEqDiff, Nat.reduceAdd, Nat.reduceBEq, Nat.reduceLT, Nat.reduceLeDiff, binW, bodyQ, ressW, resW, ne_eq, forall_const, reduceCtorEq, implies_true, sets, oneAll, setD, rels, fillE, fillD, List.replicate, rowsOf, forall_eq, Nat.reduceMul, ↓zD, zT, e]
  refine .go (CallT.of_runs (Solve30 m l) (by simp [D.isPureL, D.isPure])) ?_
  cases hlv : leastV l (2 ^ m) 0 with
  | some v =>
    have es : solveA m l = ((v : Int), 0) := by rw [solveA, if_neg (by omega), Int.toNat_natCast, hlv]
    obtain ⟨s1, s2⟩ := least_some hlv
    rw [Nat.zero_add] at s2
    have hR : (refuteA m l).2 = 15 ∧ (refuteA m l).1 = [] := by
      rcases refute_decides hc with ⟨h1, h2, _⟩ | ⟨h1, h2⟩
      · exact ⟨h1, h2⟩
      · have := verify_sound h2 v
        rw [s1] at this; cases this
    have hH : holdsA m l v = (true, 0) := by
      unfold holdsA
      rw [if_neg (by omega), if_neg, Int.toNat_natCast, s1]
      rw [Int.toNat_natCast]
      rintro (h | h)
      · omega
      · omega
    have hcH := Holds26 m l v
    rw [hH] at hcH
    have hcR := Refute32 m l
    rw [hR.1, hR.2] at hcR
    rw [es]
    simp only [Int.reduceToNat, Int.reduceLT, Int.reduceLE, Int.reduceBEq, Int.reduceBNe, St0, argFr, ↓thenW, ↓blockW, ↓opX, ↓opV, ↓pX, ↓pW, ↓putK, ↓putP, ↓atK, ↓normK, ↓postZ, ↓reduceIte, reduceIte, Nat.reduceEqDiff, Nat.reduceAdd, Nat.reduceBEq, Nat.reduceLT, Nat.reduceLeDiff, binW, bodyQ, ressW, resW, ne_eq, forall_const, reduceCtorEq, implies_true, sets, oneAll, setD, rels, fillE, fillD, List.replicate, rowsOf, forall_eq, Nat.reduceMul, ↓zD, zT]
    refine .go (CallT.of_runs hcR (by simp [D.isPureL, D.isPure])) ?_
    simp only [Int.reduceToNat, Int.reduceLT, Int.reduceLE, Int.reduceBEq, Int.reduceBNe, St0, argFr, ↓thenW, ↓blockW, ↓opX, ↓opV, ↓pX, ↓pW, ↓putK, ↓putP, ↓atK, ↓normK, ↓postZ, ↓reduceIte, reduceIte, Nat.reduceEqDiff, Nat.reduceAdd, Nat.reduceBEq, Nat.reduceLT, Nat.reduceLeDiff, binW, bodyQ, ressW, resW, ne_eq, forall_const, reduceCtorEq, implies_true, sets, oneAll, setD, rels, fillE, fillD, List.replicate, rowsOf, forall_eq, Nat.reduceMul, ↓zD, zT]
    refine .go (CallT.of_runs hcH (by simp [D.isPureL, D.isPure])) ?_
    simp only [Int.reduceToNat, Int.reduceLT, Int.reduceLE, Int.reduceBEq, Int.reduceBNe, St0, argFr, ↓thenW, ↓blockW, ↓opX, ↓opV, ↓pX, ↓pW, ↓putK, ↓putP, ↓atK, ↓normK, ↓postZ, ↓reduceIte, reduceIte, Nat.reduceEqDiff, Nat.reduceAdd, Nat.reduceBEq, Nat.reduceLT, Nat.reduceLeDiff, binW, bodyQ, ressW, resW, ne_eq, forall_const, reduceCtorEq, implies_true, sets, oneAll, setD, rels, fillE, fillD, List.replicate, rowsOf, forall_eq, Nat.reduceMul, ↓zD, zT, show (lnR []).length = 0 from rfl]
    refine .go awakeT ?_
    simp only [Int.reduceToNat, Int.reduceLT, Int.reduceLE, Int.reduceBEq, Int.reduceBNe, St0, argFr, ↓thenW, ↓blockW, ↓opX, ↓opV, ↓pX, ↓pW, ↓putK, ↓putP, ↓atK, ↓normK, ↓postZ, ↓reduceIte, reduceIte, Nat.reduceEqDiff, Nat.reduceAdd, Nat.reduceBEq, Nat.reduceLT, Nat.reduceLeDiff, binW, bodyQ, ressW, resW, ne_eq, forall_const, reduceCtorEq, implies_true, sets, oneAll, setD, rels, fillE, fillD, List.replicate, rowsOf, forall_eq, Nat.reduceMul, ↓zD, zT]
    exact .same
  | none =>
    have es : solveA m l = (0, 6) := by rw [solveA, if_neg (by omega), Int.toNat_natCast, hlv]
    have hR : (refuteA m l).2 = 0 ∧ verifyA m l (refuteA m l).1 = 0 := by
      rcases refute_decides hc with ⟨h1, h2, w, h3, h4⟩ | h
      · have := least_none hlv w (by omega) (by omega)
        rw [h4] at this; cases this
      · exact h
    have hcV := Verify23 m l (refuteA m l).1
    rw [hR.2] at hcV
    have hcR := Refute32 m l
    rw [hR.1] at hcR
    rw [es]
    simp only [Int.reduceToNat, Int.reduceLT, Int.reduceLE, Int.reduceBEq, Int.reduceBNe, St0, argFr, ↓thenW, ↓blockW, ↓opX, ↓opV, ↓pX, ↓pW, ↓putK, ↓putP, ↓atK, ↓normK, ↓postZ, ↓reduceIte, reduceIte, Nat.reduceEqDiff, Nat.reduceAdd, Nat.reduceBEq, Nat.reduceLT, Nat.reduceLeDiff, binW, bodyQ, ressW, resW, ne_eq, forall_const, reduceCtorEq, implies_true, sets, oneAll, setD, rels, fillE, fillD, List.replicate, rowsOf, forall_eq, Nat.reduceMul, ↓zD, zT]
    refine .go (CallT.of_runs hcR (by simp [D.isPureL, D.isPure])) ?_
    simp only [Int.reduceToNat, Int.reduceLT, Int.reduceLE, Int.reduceBEq, Int.reduceBNe, St0, argFr, ↓thenW, ↓blockW, ↓opX, ↓opV, ↓pX, ↓pW, ↓putK, ↓putP, ↓atK, ↓normK, ↓postZ, ↓reduceIte, reduceIte, Nat.reduceEqDiff, Nat.reduceAdd, Nat.reduceBEq, Nat.reduceLT, Nat.reduceLeDiff, binW, bodyQ, ressW, resW, ne_eq, forall_const, reduceCtorEq, implies_true, sets, oneAll, setD, rels, fillE, fillD, List.replicate, rowsOf, forall_eq, Nat.reduceMul, ↓zD, zT]
    refine .go (CallT.of_runs hcV (by simp [D.isPureL, D.isPure])) ?_
    simp only [Int.reduceToNat, Int.reduceLT, Int.reduceLE, Int.reduceBEq, Int.reduceBNe, St0, argFr, ↓thenW, ↓blockW, ↓opX, ↓opV, ↓pX, ↓pW, ↓putK, ↓putP, ↓atK, ↓normK, ↓postZ, ↓reduceIte, reduceIte, Nat.reduceEqDiff, Nat.reduceAdd, Nat.reduceBEq, Nat.reduceLT, Nat.reduceLeDiff, binW, bodyQ, ressW, resW, ne_eq, forall_const, reduceCtorEq, implies_true, sets, oneAll, setD, rels, fillE, fillD, List.replicate, rowsOf, forall_eq, Nat.reduceMul, ↓zD, zT]
    refine .go awakeT ?_
    simp only [Int.reduceToNat, Int.reduceLT, Int.reduceLE, Int.reduceBEq, Int.reduceBNe, St0, argFr, ↓thenW, ↓blockW, ↓opX, ↓opV, ↓pX, ↓pW, ↓putK, ↓putP, ↓atK, ↓normK, ↓postZ, ↓reduceIte, reduceIte, Nat.reduceEqDiff, Nat.reduceAdd, Nat.reduceBEq, Nat.reduceLT, Nat.reduceLeDiff, binW, bodyQ, ressW, resW, ne_eq, forall_const, reduceCtorEq, implies_true, sets, oneAll, setD, rels, fillE, fillD, List.replicate, rowsOf, forall_eq, Nat.reduceMul, ↓zD, zT]
    exact .same
end Go.Pd
