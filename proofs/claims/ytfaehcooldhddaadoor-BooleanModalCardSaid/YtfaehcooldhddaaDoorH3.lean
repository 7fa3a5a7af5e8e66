/- Boolean: plain: the list of primes; maps of cubes. -/
import Derived.Test.YtfaehcooldhddaaDoorH2
set_option linter.unusedSectionVars false
set_option linter.unusedVariables false
set_option linter.unusedSimpArgs false
set_option linter.defProp false
set_option maxRecDepth 20000
namespace Go.Pd
open Go Go.Proofs
open Rs Fm
namespace Fm
def pairI (l : List (Nat × Nat)) : List (Int × Int) := l.map fun p => ((p.1 : Int), (p.2 : Int))
theorem pairI_len (l : List (Nat × Nat)) : (pairI l).length = l.length := by simp [pairI]
def primesN (t : BitVec 64) (n : Nat) : List (Nat × Nat) := (List.range (2 ^ n)).flatMap fun c => ((List.range (2 ^ n)).filter fun v => primeB t n (c, v)).map fun v => (c, v)
theorem sub_le {v c : Nat} (h : v &&& c = v) : v ≤ c := by rw [← h]; exact Nat.and_le_right
theorem primesN_mem {t : BitVec 64} {n : Nat} {p : Nat × Nat} : p ∈ primesN t n ↔ primeB t n p = true := by
  unfold primesN
  simp only [List.mem_flatMap, List.mem_range, List.mem_map, List.mem_filter]
  constructor
  · rintro ⟨c, hc, v, ⟨hv, hp⟩, rfl⟩
    exact hp
  · intro h
    obtain ⟨c1, c2, _⟩ := cube_iff.1 (prime_iff.1 h).1
    have := sub_le c2
    exact ⟨p.1, c1, p.2, ⟨by omega, h⟩, rfl⟩
theorem primesN_lex (t : BitVec 64) (n : Nat) : (primesN t n).Pairwise fun a b => a.1 < b.1 ∨ (a.1 = b.1 ∧ a.2 < b.2) := by
  unfold primesN
  rw [List.pairwise_flatMap]
  refine ⟨fun c hc => ?_, List.pairwise_lt_range.imp fun {a b} h x hx y hy => ?_⟩
  · rw [List.pairwise_map]
    exact (List.Pairwise.filter _ List.pairwise_lt_range).imp fun h => .inr ⟨rfl, h⟩
  · simp only [List.mem_map] at hx hy
    obtain ⟨_, _, rfl⟩ := hx
    obtain ⟨_, _, rfl⟩ := hy
    exact .inl h
theorem primesN_nodup (t : BitVec 64) (n : Nat) : (primesN t n).Nodup := (primesN_lex t n).imp fun {a b} h e => by subst e; omega
theorem pairI_sorted (t : BitVec 64) (n : Nat) : (pairI (primesN t n)).Pairwise fun a b => cmpC a b < 0 := by
  unfold pairI
  rw [List.pairwise_map]
  refine (primesN_lex t n).imp fun {a b} h => ?_
  rw [cmpC_lt]
  simp only
  omega
theorem out_perm {t : BitVec 64} {n r : Nat} {out : List (Nat × Nat)} (hn : n ≤ 6) (ho : OutOK t n r out) (he : NowOK t n r []) : (primesN t n).Perm out := by
  refine (List.perm_ext_iff_of_nodup (primesN_nodup t n) ho.1).2 fun p => ?_
  rw [primesN_mem, ho.2]
  exact ⟨fun h => ⟨h, now_empty hn he p (prime_iff.1 h).1⟩, fun h => h.1⟩
/-- Few cubes. -/
theorem few_pairs {l : List (Nat × Nat)} (hd : l.Nodup) (h : ∀ p ∈ l, p.1 < 64 ∧ p.2 < 64) : l.length ≤ 4096 := by
  have := nodup_le 4096 (l.map fun p => p.1 * 64 + p.2) ?_ ?_
  · simpa using this
  · unfold List.Nodup at hd ⊢
    rw [List.pairwise_map]
    refine hd.imp_of_mem fun {a b} ha hb hne e => hne ?_
    have h1 := h a ha
    have h2 := h b hb
    have : a.1 = b.1 := by omega
    have : a.2 = b.2 := by omega
    exact Prod.ext ‹_› ‹_›
  · intro x hx
    simp only [List.mem_map] at hx
    obtain ⟨p, hp, rfl⟩ := hx
    have := h p hp
    omega
theorem cube_lt {t : BitVec 64} {n : Nat} (hn : n ≤ 6) {p : Nat × Nat} (h : cubeB t n p = true) : p.1 < 64 ∧ p.2 < 64 := by
  obtain ⟨c1, c2, _⟩ := cube_iff.1 h
  have := two64 hn
  have := sub_le c2
  omega
/-- A map's entries: a set of cubes. -/
def entC (l : List (Nat × Nat)) : List (List Int × D) := l.map fun p => ([(p.1 : Int), (p.2 : Int)], D.bool true)
theorem entC_two (l : List (Nat × Nat)) : ∀ p ∈ entC l, p.1.length = 2 := by
  intro p hp
  simp only [entC, List.mem_map] at hp
  obtain ⟨q, _, rfl⟩ := hp
  rfl
theorem entC_len (l : List (Nat × Nat)) : (arow (entC l)).length = l.length := by rw [arow_len]; simp [entC]
theorem entC_get (l : List (Nat × Nat)) {i : Nat} (h : i < l.length) : (arow (entC l)).getD i [] = [.agg [.int .i64 ((l.getD i (0, 0)).1 : Int), .int .i64 ((l.getD i (0, 0)).2 : Int)], .bool true] := by
  simp [arow, entC, List.getD, h]
def insN (p : Nat × Nat) (l : List (Nat × Nat)) : List (Nat × Nat) := if p ∈ l then l else l ++ [p]
theorem insN_mem {p q : Nat × Nat} {l : List (Nat × Nat)} : q ∈ insN p l ↔ q ∈ l ∨ q = p := by
  unfold insN
  split
  · rename_i h
    exact ⟨.inl, fun hq => hq.elim id fun e => e ▸ h⟩
  · simp
theorem insN_nodup {p : Nat × Nat} {l : List (Nat × Nat)} (h : l.Nodup) : (insN p l).Nodup := by
  unfold insN
  split
  · exact h
  · rename_i hp
    rw [List.nodup_append]
    refine ⟨h, by simp, fun a ha b hb => ?_⟩
    rw [List.mem_singleton] at hb
    subst hb
    exact fun e => hp (e ▸ ha)
theorem find_ent (c v : Nat) : ∀ (l : List (Nat × Nat)) (i : Nat), ((c, v) ∉ l ∧ afindL [(c : Int), (v : Int)] (entC l) i = none) ∨ ((c, v) ∈ l ∧ ∃ j, i ≤ j ∧ afindL [(c : Int), (v : Int)] (entC l) i = some (j, .bool true) ∧ (entC l)[j - i]? = some ([(c : Int), (v : Int)], .bool true))
  | [], i => .inl ⟨by simp, rfl⟩
  | p :: r, i => by
    show _ ∨ _
    have hu : afindL [(c : Int), (v : Int)] (entC (p :: r)) i = if [(c : Int), (v : Int)] = [(p.1 : Int), (p.2 : Int)] then some (i, D.bool true) else afindL [(c : Int), (v : Int)] (entC r) (i + 1) := rfl
    rw [hu]
    by_cases e : [(c : Int), (v : Int)] = [(p.1 : Int), (p.2 : Int)]
    · rw [if_pos e]
      simp only [List.cons.injEq, and_true] at e
      have e' : (c, v) = p := Prod.ext (by simp only; omega) (by simp only; omega)
      refine .inr ⟨by rw [e']; simp, i, Nat.le_refl _, rfl, ?_⟩
      rw [Nat.sub_self]
      subst e'
      rfl
    · rw [if_neg e]
      have ne : (c, v) ≠ p := fun h => e (by subst h; rfl)
      rcases find_ent c v r (i + 1) with ⟨h1, h2⟩ | ⟨h1, j, h2, h3, h4⟩
      · exact .inl ⟨by rw [List.mem_cons]; exact fun h => h.elim ne h1, h2⟩
      · refine .inr ⟨by simp [h1], j, by omega, h3, ?_⟩
        rw [show j - i = (j - (i + 1)) + 1 by omega]
        exact h4
theorem get_ent (c v : Nat) (l : List (Nat × Nat)) : mres false (.bool false) (afindL [(c : Int), (v : Int)] (entC l) 0) = .bool (decide ((c, v) ∈ l)) := by
  rcases find_ent c v l 0 with ⟨h1, h2⟩ | ⟨h1, j, _, h2, _⟩
  · rw [h2, decide_eq_false h1]; rfl
  · rw [h2, decide_eq_true h1]; rfl
theorem put_ent (c v : Nat) (l : List (Nat × Nat)) : aputL [(c : Int), (v : Int)] (.bool true) (entC l) = entC (insN (c, v) l) := by
  unfold aputL insN
  rcases find_ent c v l 0 with ⟨h1, h2⟩ | ⟨h1, j, _, h2, h3⟩
  · rw [h2, if_neg h1]; simp [entC]
  · rw [h2, if_pos h1]
    simp only
    rw [Nat.sub_zero] at h3
    refine List.ext_getElem? fun i => ?_
    rw [List.getElem?_set]
    by_cases hi : j = i
    · subst hi
      rw [if_pos rfl, if_pos (List.getElem?_eq_some_iff.1 h3).1, h3]
    · rw [if_neg hi]
end Fm
end Go.Pd
