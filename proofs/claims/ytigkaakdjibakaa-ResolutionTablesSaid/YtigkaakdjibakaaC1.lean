/- Resolution: plain laws: unit propagation. -/
import Derived.Test.YtigkaakdjibakaaB9
set_option linter.unusedSectionVars false
set_option linter.unusedVariables false
set_option linter.unusedSimpArgs false
set_option linter.defProp false
set_option maxRecDepth 20000
namespace Go.Pd
open Go Go.Proofs
namespace Rs
def negIn (K : List Int) (x : Int) : Bool := decide (-x ∈ K)
/-- The literals of a clause that are not false. -/
def freeL (K c : List Int) : List Int := c.filter fun x => !negIn K x
def lastI (l : List Int) : Int := l.getLastD 0
/-- What the specification's state says of a clause. -/
def stateA (K c : List Int) : Bool × Int × Int := if c.any (fun x => decide (x ∈ K)) = true then (true, 0, 0) else (false, ((freeL K c).length : Int), lastI (freeL K c))
def conf1 (K c : List Int) : Bool := !(stateA K c).1 && decide ((stateA K c).2.1 = 0)
def unit1 (K c : List Int) : Bool := !(stateA K c).1 && decide ((stateA K c).2.1 = 1)
def confR (K : List Int) : List (List Int) → Int → Int
  | [], _ => -1
  | c :: l, i => if conf1 K c = true then i else confR K l (i + 1)
def unitR (K : List Int) : List (List Int) → Int
  | [] => 0
  | c :: l => if unit1 K c = true then (stateA K c).2.2 else unitR K l
theorem confR_range (K : List Int) : ∀ (l : List (List Int)) (i : Int), confR K l i = -1 ∨ (i ≤ confR K l i ∧ confR K l i < i + l.length)
  | [], i => .inl rfl
  | c :: l, i => by
    unfold confR
    by_cases h : conf1 K c = true
    · rw [if_pos h]; right; simp; omega
    · rw [if_neg h]
      rcases confR_range K l (i + 1) with e | e
      · exact .inl e
      · right; simp; omega
/-- A next unit, if there is one and nothing is in conflict. -/
def stepK (l : List (List Int)) (K : List Int) : Option Int := if confR K l 0 < 0 ∧ unitR K l ≠ 0 then some (unitR K l) else none
def limK (l : List (List Int)) : Nat → List Int → List Int
  | 0, K => K
  | m + 1, K => match stepK l K with
    | some u => limK l m (K ++ [u])
    | none => K
/-- Known literals: of different variables. -/
def good (K : List Int) : Prop := (∀ x ∈ K, litOk 12 x = true) ∧ K.Pairwise fun a b => varI a ≠ varI b
theorem good_cons {K : List Int} (h : good K) {x : Int} (hx : x ∈ K) : -x ∉ K := by
  intro hn
  have h0 := (litOk_iff.1 (h.1 x hx)).1
  have hv := varI_neg h0
  have key : ∀ K : List Int, K.Pairwise (fun a b => varI a ≠ varI b) → x ∈ K → -x ∈ K → False := by
    intro K
    induction K with
    | nil => intro _ h; simp at h
    | cons y K ih =>
      intro hp h1 h2
      rw [List.pairwise_cons] at hp
      rcases List.mem_cons.1 h1 with e | e <;> rcases List.mem_cons.1 h2 with e' | e'
      · omega
      · exact hp.1 _ e' (by rw [← e, hv])
      · exact hp.1 _ e (by rw [← e', hv])
      · exact ih hp.2 e e'
  exact key K h.2 hx hn
theorem nodup_le : ∀ (n : Nat) (l : List Nat), l.Nodup → (∀ x ∈ l, x < n) → l.length ≤ n
  | 0, [], _, _ => Nat.le_refl _
  | 0, x :: l, _, h => by have := h x (by simp); omega
  | n + 1, l, hn, h => by
    have h1 := nodup_le n (l.filter fun x => x != n) (hn.filter _) fun x hx => by
      rw [List.mem_filter] at hx
      have := h x hx.1
      have : x ≠ n := by simpa using hx.2
      omega
    have h2 : l.length ≤ (l.filter fun x => x != n).length + 1 := by
      clear h1
      induction l with
      | nil => simp
      | cons y l ih =>
        rw [List.nodup_cons] at hn
        by_cases e : y = n
        · subst e
          have : l.filter (fun x => x != y) = l := List.filter_eq_self.2 fun x hx => by
            have : x ≠ y := fun e => hn.1 (e ▸ hx)
            simpa using this
          rw [List.filter_cons, if_neg (by simp), this]; simp
        · rw [List.filter_cons, if_pos (by simpa using e)]
          have := ih hn.2 fun x hx => h x (by simp [hx])
          simp; omega
    omega
theorem good_len {K : List Int} (h : good K) : K.length ≤ 12 := by
  have := nodup_le 12 (K.map fun x => (varI x).toNat) ?_ ?_
  · simpa using this
  · refine List.pairwise_map.2 (h.2.imp_of_mem fun {a b} ha hb hne e => ?_)
    have h1 := varI_range (h.1 a ha)
    have h2 := varI_range (h.1 b hb)
    omega
  · intro x hx
    simp only [List.mem_map] at hx
    obtain ⟨y, hy, rfl⟩ := hx
    have := varI_range (h.1 y hy)
    omega
theorem good_snoc {K : List Int} {u : Int} (h : good K) (hu : litOk 12 u = true) (h1 : u ∉ K) (h2 : -u ∉ K) : good (K ++ [u]) := by
  refine ⟨fun x hx => ?_, ?_⟩
  · rcases List.mem_append.1 hx with hx | hx
    · exact h.1 x hx
    · rw [List.mem_singleton.1 hx]; exact hu
  · rw [List.pairwise_append]
    refine ⟨h.2, List.pairwise_singleton _ _, fun a ha b hb e => ?_⟩
    rw [List.mem_singleton.1 hb] at e
    rcases varI_inj (litOk_iff.1 (h.1 a ha)).1 (litOk_iff.1 hu).1 e with e | e
    · exact h1 (e ▸ ha)
    · exact h2 (by rw [show -u = a by omega]; exact ha)
theorem norm_good {n : Int} {c : List Int} (hn : n ≤ 12) (h : normE n (-1) c = 0) : good c :=
  ⟨fun x hx => litOk_mono hn ((normE_zero.1 h).1 x hx).1, (normE_zero.1 h).2.imp fun h => by omega⟩
/-- No opposite literals. -/
theorem good_both {K : List Int} (h : good K) : bothTo K 12 = false := by
  rw [← Bool.not_eq_true, bothTo_iff]
  rintro ⟨v, _, hb⟩
  simp only [bothB, Bool.and_eq_true, decide_eq_true_eq] at hb
  exact good_cons h hb.1 (by rw [show -((v : Int) + 1) = -(v : Int) - 1 by omega]; exact hb.2)
theorem freeL_mem {K c : List Int} {x : Int} : x ∈ freeL K c ↔ x ∈ c ∧ -x ∉ K := by simp [freeL, negIn]
/-- A clause with nothing free is in conflict; and so on. -/
theorem conf_free {K c : List Int} (h : good K) : conf1 K c = decide (freeL K c = []) := by
  unfold conf1 stateA
  by_cases ha : c.any (fun x => decide (x ∈ K)) = true
  · rw [if_pos ha]
    simp only [List.any_eq_true, decide_eq_true_eq] at ha
    obtain ⟨x, hx, hk⟩ := ha
    have : x ∈ freeL K c := freeL_mem.2 ⟨hx, good_cons h hk⟩
    symm
    simp only [Bool.not_true, Bool.false_and]
    exact decide_eq_false fun e => by rw [e] at this; cases this
  · rw [if_neg ha]
    rw [Bool.eq_iff_iff]; simp
theorem unit_free {K c : List Int} (h : good K) {x : Int} (hf : freeL K c = [x]) : unit1 K c = decide (x ∉ K) ∧ (x ∉ K → (stateA K c).2.2 = x) := by
  have hx := freeL_mem.1 (show x ∈ freeL K c by rw [hf]; simp)
  unfold unit1 stateA
  by_cases hk : x ∈ K
  · have ha : c.any (fun x => decide (x ∈ K)) = true := List.any_eq_true.2 ⟨x, hx.1, by simpa using hk⟩
    rw [if_pos ha]
    exact ⟨by simp [hk], fun hn => absurd hk hn⟩
  · have ha : ¬ c.any (fun x => decide (x ∈ K)) = true := by
      simp only [List.any_eq_true, decide_eq_true_eq, not_exists, not_and]
      intro y hy hyk
      have : y ∈ freeL K c := freeL_mem.2 ⟨hy, good_cons h hyk⟩
      rw [hf, List.mem_singleton] at this
      exact hk (this ▸ hyk)
    rw [if_neg ha, hf]
    exact ⟨by simp [hk], fun _ => rfl⟩
theorem unit_not {K c : List Int} (hf : (freeL K c).length ≠ 1) : unit1 K c = false := by
  unfold unit1 stateA
  by_cases ha : c.any (fun x => decide (x ∈ K)) = true
  · rw [if_pos ha]; simp
  · rw [if_neg ha]; simp; omega
theorem unit_lit {K c : List Int} (h : unit1 K c = true) : ∃ x, freeL K c = [x] ∧ (stateA K c).2.2 = x ∧ x ∉ K := by
  unfold unit1 stateA at h
  unfold stateA
  by_cases ha : c.any (fun x => decide (x ∈ K)) = true
  · rw [if_pos ha] at h; simp at h
  · rw [if_neg ha] at h ⊢
    simp only [Bool.not_false, Bool.true_and, decide_eq_true_eq] at h
    have h1 : (freeL K c).length = 1 := by omega
    obtain ⟨x, hx⟩ := List.length_eq_one_iff.1 h1
    refine ⟨x, hx, by rw [hx]; rfl, fun hk => ha ?_⟩
    have := freeL_mem.1 (show x ∈ freeL K c by rw [hx]; simp)
    exact List.any_eq_true.2 ⟨x, this.1, by simpa using hk⟩
theorem unitR_lit {K : List Int} : ∀ {l : List (List Int)}, litsOk l → unitR K l ≠ 0 → ∃ c ∈ l, freeL K c = [unitR K l] ∧ unitR K l ∉ K ∧ -unitR K l ∉ K ∧ litOk 12 (unitR K l) = true
  | [], _, h => absurd rfl h
  | c :: l, ho, h => by
    unfold unitR at h ⊢
    by_cases hu : unit1 K c = true
    · rw [if_pos hu] at h ⊢
      obtain ⟨x, h1, h2, h3⟩ := unit_lit hu
      have hx := freeL_mem.1 (show x ∈ freeL K c by rw [h1]; simp)
      rw [h2]
      exact ⟨c, by simp, h1, h3, hx.2, (ho c (by simp)).2 x hx.1⟩
    · rw [if_neg hu] at h ⊢
      obtain ⟨d, h1, h2⟩ := unitR_lit (fun c hc => ho c (by simp [hc])) h
      exact ⟨d, by simp [h1], h2⟩
theorem step_good {l : List (List Int)} {K : List Int} {u : Int} (ho : litsOk l) (h : good K) (hs : stepK l K = some u) : good (K ++ [u]) := by
  unfold stepK at hs
  split at hs
  · rename_i hc
    simp at hs; subst hs
    obtain ⟨c, _, _, h2, h3, h4⟩ := unitR_lit ho hc.2
    exact good_snoc h h4 h2 h3
  · cases hs
/-- The program's scan. -/
def scan (K : List Int) : List (List Int) → Int → Int → Int × Int
  | [], _, u => (-1, u)
  | c :: l, i, u => if freeL K c = [] then (i, u) else scan K l (i + 1) (if u = 0 ∧ (freeL K c).length = 1 ∧ (freeL K c).getD 0 0 ∉ K then (freeL K c).getD 0 0 else u)
theorem scan_law {K : List Int} (hg : good K) : ∀ (l : List (List Int)) (i u : Int), 0 ≤ i → (∀ c ∈ l, ∀ x ∈ c, x ≠ 0) → (scan K l i u).1 = confR K l i ∧ (confR K l i < 0 → (scan K l i u).2 = if u = 0 then unitR K l else u)
  | [], i, u, _, _ => by
    refine ⟨rfl, fun _ => ?_⟩
    by_cases h : u = 0
    · rw [if_pos h, h]; rfl
    · rw [if_neg h]; rfl
  | c :: l, i, u, hi, hz => by
    unfold scan confR unitR
    rw [conf_free hg]
    by_cases hf : freeL K c = []
    · rw [if_pos hf, if_pos (by simpa using hf)]
      exact ⟨rfl, fun h => by omega⟩
    · have hd : (if decide (freeL K c = []) = true then i else confR K l (i + 1)) = confR K l (i + 1) := if_neg (by simpa using hf)
      rw [if_neg hf, hd]
      have ih := scan_law hg l (i + 1) (if u = 0 ∧ (freeL K c).length = 1 ∧ (freeL K c).getD 0 0 ∉ K then (freeL K c).getD 0 0 else u) (by omega) fun c hc => hz c (by simp [hc])
      refine ⟨ih.1, fun h => ?_⟩
      rw [ih.2 h]
      by_cases h1 : (freeL K c).length = 1
      · obtain ⟨x, hx⟩ := List.length_eq_one_iff.1 h1
        have hxm := freeL_mem.1 (show x ∈ freeL K c by rw [hx]; simp)
        have hx0 := hz c (by simp) x hxm.1
        obtain ⟨u1, u2⟩ := unit_free hg hx
        rw [u1, hx]
        simp only [List.getD_cons_zero, List.length_singleton, true_and]
        by_cases hu : u = 0
        · by_cases hk : x ∈ K
          · simp [hu, hk]
          · simp [hu, hk, hx0, u2 hk]
        · simp [hu]
      · rw [unit_not h1, if_neg (show ¬ (u = 0 ∧ (freeL K c).length = 1 ∧ (freeL K c).getD 0 0 ∉ K) from fun h => h1 h.2.1), if_neg (show ¬ (false = true) by simp)]
end Rs
end Go.Pd
