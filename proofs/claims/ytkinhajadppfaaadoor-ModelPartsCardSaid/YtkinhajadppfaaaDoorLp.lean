/- Package model: the plain laws of restrictions, renamings and unions. -/
import Derived.Test.YtkinhajadppfaaaDoorLa
set_option linter.unusedSectionVars false
set_option linter.unusedVariables false
set_option linter.unusedSimpArgs false
set_option linter.defProp false
set_option maxRecDepth 20000
namespace Go.Pd
open Go Go.Proofs
theorem pullTo_bit (s : BitVec 64) (l : List Int) (i : Nat) : ∀ k, (pullTo s l k).getLsbD i = (decide (i < 64) && decide (i < k) && hasS s (l.getD i 0))
  | 0 => by simp [pullTo]
  | k + 1 => by
    rw [pullTo, BitVec.getLsbD_or, pullTo_bit s l i k, BitVec.getLsbD_shiftLeft]
    by_cases h64 : i < 64
    · by_cases hk : i < k
      · have : i < k + 1 := by omega
        simp [h64, hk, this]
      · by_cases e : i = k
        · subst e
          have : (if hasS s (l.getD i 0) = true then 1#64 else 0#64).getLsbD (i - i) = hasS s (l.getD i 0) := by
            rw [Nat.sub_self]
            cases hasS s (l.getD i 0) <;> rfl
          rw [this]
          simp [h64]
        · have h1 : ¬ i < k + 1 := by omega
          have : (if hasS s (l.getD k 0) = true then 1#64 else 0#64).getLsbD (i - k) = false := by
            have hd : i - k ≠ 0 := by omega
            cases hasS s (l.getD k 0)
            · simp
            · simp; omega
          rw [this]
          simp [h64, hk, h1]
    · simp [h64]
theorem pullS_bit (s : BitVec 64) (l : List Int) (i : Nat) : (pullS s l).getLsbD i = (decide (i < 64) && decide (i < l.length) && hasS s (l.getD i 0)) := pullTo_bit s l i l.length
theorem getD_map0 {α : Type} (f : α → BitVec 64) (l : List α) (i : Nat) (d : α) (h : i < l.length) : (l.map f).getD i 0 = f (l.getD i d) := by simp [List.getD, h]
theorem getD_mapI {α : Type} (f : α → Int) (l : List α) (i : Nat) (d : α) (h : i < l.length) : (l.map f).getD i 0 = f (l.getD i d) := by simp [List.getD, h]
theorem getD_mem {α : Type} {l : List α} {i : Nat} (d : α) (h : i < l.length) : l.getD i d ∈ l := by simp [List.getD, h]
theorem pull_sub (s : BitVec 64) (l : List Int) : bsub (pullS s l) (allS l.length) := by
  intro i hi
  rw [pullS_bit] at hi
  rw [allS_bit]
  simp at hi ⊢
  omega
def at2 (l k : List Int) : List Int := k.map fun x => l.getD x.toNat 0
theorem pull_pull {l k : List Int} (hl : l.length ≤ 64) (hk : ∀ x ∈ k, 0 ≤ x ∧ x < l.length) (s : BitVec 64) : pullS (pullS s l) k = pullS s (at2 l k) := by
  apply BitVec.eq_of_getLsbD_eq
  intro i h64
  rw [pullS_bit, pullS_bit]
  have e : (at2 l k).length = k.length := by simp [at2]
  rw [e]
  by_cases h : i < k.length
  · have hx := hk _ (getD_mem 0 h)
    have e2 : (at2 l k).getD i 0 = l.getD (k.getD i 0).toNat 0 := getD_mapI _ k i 0 h
    rw [e2]
    generalize k.getD i 0 = x at *
    have h1 : x.toNat < 64 := by omega
    have h2 : x.toNat < l.length := by omega
    have e3 : hasS (pullS s l) x = hasS s (l.getD x.toNat 0) := by
      unfold hasS
      rw [pullS_bit]
      simp only [hx.1, decide_true, Bool.true_and, h1, h2]
      rfl
    rw [e3]
  · simp [h]
theorem row_at {r : List (BitVec 64)} {l : List Int} {w : Nat} (h : w < l.length) : (rowOf r l).getD w 0 = pullS (r.getD (l.getD w 0).toNat 0) l := getD_map0 _ l w 0 h
theorem take_take {m : Mod} {l k : List Int} (hl : l.length ≤ 64) (hk : ∀ x ∈ k, 0 ≤ x ∧ x < l.length) : (m.take l).take k = m.take (at2 l k) := by
  have e : (at2 l k).length = k.length := by simp [at2]
  unfold Mod.take
  simp only [List.map_map, e, Mod.mk.injEq, true_and]
  refine ⟨List.map_congr_left fun s _ => pull_pull hl hk s, List.map_congr_left fun r _ => ?_⟩
  simp only [Function.comp]
  have e2 : rowOf r (at2 l k) = k.map fun w => pullS (r.getD (l.getD w.toNat 0).toNat 0) (at2 l k) := by
    unfold rowOf
    conv => lhs; arg 2; unfold at2
    rw [List.map_map]
    rfl
  rw [e2]
  conv => lhs; unfold rowOf
  refine List.map_congr_left fun w hw => ?_
  have hx := hk w hw
  have := row_at (r := r) (l := l) (w := w.toNat) (by omega)
  unfold rowOf at this
  rw [this, pull_pull hl hk]
theorem outS_false {n : Int} {l : List (BitVec 64)} (h : ∀ s ∈ l, bsub s (allS n)) : outS n l = false := by
  unfold outS
  rw [List.any_eq_false]
  intro s hs
  simp only [bne_iff_ne, ne_eq, Decidable.not_not]
  exact sub_bits.2 (h s hs)
theorem outS_sub {n : Int} {l : List (BitVec 64)} (h : outS n l = false) {s : BitVec 64} (hs : s ∈ l) : bsub s (allS n) := by
  unfold outS at h
  have := List.any_eq_false.1 h s hs
  simp only [bne_iff_ne, ne_eq, Decidable.not_not] at this
  exact sub_bits.1 this
theorem check_mk {m : Mod} (h1 : 1 ≤ m.W) (h2 : m.W ≤ 64) (h3 : m.R.length ≤ 4) (h4 : m.V.length ≤ 8) (h5 : ∀ r ∈ m.R, (r.length : Int) = m.W) (h6 : ∀ s ∈ m.V, bsub s (allS m.W)) (h7 : ∀ r ∈ m.R, ∀ s ∈ r, bsub s (allS m.W)) : m.check = 0 := by
  unfold Mod.check
  rw [if_neg (by omega), if_neg (by omega), if_neg, if_neg]
  · simp only [Bool.or_eq_true, not_or, Bool.not_eq_true]
    exact ⟨outS_false h6, List.any_eq_false.2 fun r hr => by simpa using outS_false (h7 r hr)⟩
  · simp only [Bool.not_eq_true]
    exact List.any_eq_false.2 fun r hr => by simpa using h5 r hr
theorem take_check {m : Mod} {l : List Int} (hc : m.check = 0) (h1 : 1 ≤ l.length) (h2 : l.length ≤ 64) : (m.take l).check = 0 := by
  obtain ⟨c1, c2, c3, c4, c5, c6, c7⟩ := Mod.check_zero hc
  refine check_mk (by show (1 : Int) ≤ (l.length : Int); omega) (by show (l.length : Int) ≤ 64; omega) (by simpa [Mod.take] using c3) (by simpa [Mod.take] using c4) ?_ ?_ ?_
  · intro r hr
    simp only [Mod.take, List.mem_map] at hr
    obtain ⟨r0, _, rfl⟩ := hr
    simp [rowOf, Mod.take]
  · intro s hs
    simp only [Mod.take, List.mem_map] at hs
    obtain ⟨s0, _, rfl⟩ := hs
    exact pull_sub s0 l
  · intro r hr s hs
    simp only [Mod.take, List.mem_map] at hr
    obtain ⟨r0, _, rfl⟩ := hr
    simp only [rowOf, List.mem_map] at hs
    obtain ⟨w, _, rfl⟩ := hs
    exact pull_sub _ l
theorem facts_take {m : Mod} {l : List Int} (hc : m.check = 0) (h2 : l.length ≤ 64) {i : Nat} (hi : i < l.length) (h0 : 0 ≤ l.getD i 0) (h1 : l.getD i 0 < m.W) : (m.take l).facts i = m.facts (l.getD i 0) := by
  have hc2 := take_check hc (by omega) h2
  unfold Mod.facts
  rw [if_neg (by show ¬ ((m.take l).check ≠ 0 ∨ (i : Int) < 0 ∨ (l.length : Int) ≤ i); omega), if_neg (by omega)]
  have key : ∀ k, k ≤ m.V.length → factsTo (m.take l).V (i : Int).toNat k = factsTo m.V (l.getD i 0).toNat k := by
    intro k
    induction k with
    | zero => intro _; rfl
    | succ k ih =>
      intro hk
      unfold factsTo
      rw [ih (by omega)]
      have e : (m.take l).V.getD k 0 = pullS (m.V.getD k 0) l := getD_map0 _ m.V k 0 (by omega)
      rw [e, Int.toNat_natCast, pullS_bit]
      have h64 : i < 64 := by omega
      simp only [h64, hi, decide_true, Bool.true_and]
      unfold hasS
      simp only [h0, decide_true, Bool.true_and]
  have hlen : (m.take l).V.length = m.V.length := by simp [Mod.take]
  rw [hlen, key _ (Nat.le_refl _)]

/-! ### Lists that rise -/
def rising (l : List Int) : Prop := l.Pairwise (· < ·)
theorem rising_eq : ∀ {a b : List Int}, rising a → rising b → (∀ x, x ∈ a ↔ x ∈ b) → a = b
  | [], [], _, _, _ => rfl
  | [], y :: b, _, _, h => by have := (h y).2 (by simp); simp at this
  | x :: a, [], _, _, h => by have := (h x).1 (by simp); simp at this
  | x :: a, y :: b, ha, hb, h => by
    have ha' := List.pairwise_cons.1 ha
    have hb' := List.pairwise_cons.1 hb
    have e : x = y := by
      have h1 := (h x).1 (by simp)
      have h2 := (h y).2 (by simp)
      rcases List.mem_cons.1 h1 with h1 | h1
      · exact h1
      · rcases List.mem_cons.1 h2 with h2 | h2
        · exact h2.symm
        · have := ha'.1 y h2
          have := hb'.1 x h1
          omega
    subst e
    congr 1
    refine rising_eq ha'.2 hb'.2 fun z => ⟨fun hz => ?_, fun hz => ?_⟩
    · rcases List.mem_cons.1 ((h z).1 (by simp [hz])) with e | e
      · have := ha'.1 z hz; omega
      · exact e
    · rcases List.mem_cons.1 ((h z).2 (by simp [hz])) with e | e
      · have := hb'.1 z hz; omega
      · exact e
theorem mems_rising (s : BitVec 64) : rising (mems s) := by
  unfold rising mems memTo
  refine List.Pairwise.map _ (fun a b h => ?_) (List.Pairwise.filter _ List.pairwise_lt_range)
  exact Int.ofNat_lt.2 h
theorem rising_at {l : List Int} (h : rising l) {i j : Nat} (hij : i < j) (hj : j < l.length) : l.getD i 0 < l.getD j 0 := by
  have := List.pairwise_iff_getElem.1 h i j (by omega) hj hij
  simp only [List.getD, List.getElem?_eq_getElem hj, List.getElem?_eq_getElem (show i < l.length by omega), Option.getD_some]
  exact this
theorem at2_rising {l k : List Int} (hl : rising l) (hk : rising k) (hr : ∀ x ∈ k, 0 ≤ x ∧ x < l.length) : rising (at2 l k) := by
  unfold rising at2
  rw [List.pairwise_map]
  refine List.Pairwise.imp_of_mem (R := (· < ·)) (fun {a b} ha hb hab => ?_) hk
  have h1 := hr a ha
  have h2 := hr b hb
  exact rising_at hl (by omega) (by omega)
def orTo (ns : List Int) : Nat → BitVec 64
  | 0 => 0#64
  | i + 1 => orTo ns i ||| 1#64 <<< (ns.getD i 0).toNat
theorem one_shl_bit {t j : Nat} (ht : t < 64) : (1#64 <<< t).getLsbD j = true ↔ j = t := by
  rw [BitVec.getLsbD_shiftLeft]
  by_cases hk : j < 64
  · by_cases hkt : j < t
    · simp [hk, hkt]; omega
    · simp only [hk, hkt, decide_true, Bool.true_and, decide_false, Bool.not_false]
      by_cases e : j = t
      · subst e; simp
      · have : j - t ≠ 0 := by omega
        simp [e]; omega
  · simp [hk]; omega
theorem orTo_bit {ns : List Int} (h : ∀ x ∈ ns, 0 ≤ x ∧ x < 64) {j : Nat} : ∀ i, i ≤ ns.length → ((orTo ns i).getLsbD j = true ↔ ∃ v, v < i ∧ ns.getD v 0 = (j : Int))
  | 0, _ => by simp [orTo]
  | i + 1, hi => by
    have hx := h _ (getD_mem 0 (show i < ns.length by omega))
    rw [orTo, BitVec.getLsbD_or, Bool.or_eq_true, orTo_bit h i (by omega), one_shl_bit (by omega)]
    constructor
    · rintro (⟨v, hv, e⟩ | e)
      · exact ⟨v, by omega, e⟩
      · exact ⟨i, by omega, by omega⟩
    · rintro ⟨v, hv, e⟩
      by_cases ev : v = i
      · subst ev; right; omega
      · left; exact ⟨v, by omega, e⟩
theorem mems_orTo {ns : List Int} (h : ∀ x ∈ ns, 0 ≤ x ∧ x < 64) (hr : rising ns) : mems (orTo ns ns.length) = ns := by
  refine rising_eq (mems_rising _) hr fun x => ?_
  rw [mems_mem]
  constructor
  · rintro ⟨i, hi, hb, rfl⟩
    obtain ⟨v, hv, e⟩ := (orTo_bit h _ (Nat.le_refl _)).1 hb
    rw [← e]
    exact getD_mem 0 hv
  · intro hx
    have h1 := h x hx
    refine ⟨x.toNat, by omega, (orTo_bit h _ (Nat.le_refl _)).2 ?_, by omega⟩
    obtain ⟨v, hv, e⟩ := List.getElem_of_mem hx
    refine ⟨v, hv, ?_⟩
    simp [List.getD, hv, e]; omega

/-! ### The list of all worlds -/
def idL (n : Nat) : List Int := (List.range n).map Int.ofNat
theorem idL_len (n : Nat) : (idL n).length = n := by simp [idL]
theorem idL_at {n i : Nat} (h : i < n) : (idL n).getD i 0 = (i : Int) := by simp [idL, List.getD, h]
theorem pull_id {n : Nat} {s : BitVec 64} (h : bsub s (allS n)) : pullS s (idL n) = s := by
  apply BitVec.eq_of_getLsbD_eq
  intro i h64
  rw [pullS_bit, idL_len]
  by_cases hi : i < n
  · rw [idL_at hi, hasS_nat]; simp [h64, hi]
  · cases hs : s.getLsbD i with
    | false => simp [hi]
    | true =>
      have := h i hs
      rw [allS_bit] at this
      simp at this
      omega
theorem row_id {n : Nat} {r : List (BitVec 64)} (hl : r.length = n) (h : ∀ s ∈ r, bsub s (allS n)) : rowOf r (idL n) = r := by
  refine List.ext_getElem (by simp [rowOf, idL, hl]) fun i h1 h2 => ?_
  have hi : i < n := by omega
  have e := row_at (r := r) (l := idL n) (w := i) (by rw [idL_len]; exact hi)
  rw [idL_at hi, Int.toNat_natCast, pull_id (h _ (getD_mem 0 h2))] at e
  simp only [List.getD, List.getElem?_eq_getElem h1, List.getElem?_eq_getElem h2, Option.getD_some] at e
  exact e
theorem map_same {α : Type} {f : α → α} {l : List α} (h : ∀ x ∈ l, f x = x) : l.map f = l := by
  conv => rhs; rw [← List.map_id l]
  exact List.map_congr_left fun x hx => h x hx
theorem take_id {m : Mod} {n : Nat} (hc : m.check = 0) (hn : m.W = (n : Int)) : m.take (idL n) = m := by
  obtain ⟨c1, c2, c3, c4, c5, c6, c7⟩ := Mod.check_zero hc
  obtain ⟨W, V, R⟩ := m
  simp only at *
  unfold Mod.take
  simp only [idL_len, Mod.mk.injEq]
  refine ⟨hn.symm, map_same fun s hs => pull_id (by rw [← hn]; exact outS_sub c6 hs), map_same fun r hr => row_id (by have := c5 r hr; omega) fun s hs => by rw [← hn]; exact outS_sub (c7 r hr) hs⟩

/-! ### Renamings -/
theorem inv_to {to : List Int} (h : isPerm to = true) {i : Nat} (hi : i < to.length) : to.getD ((invK to to.length).getD i 0).toNat 0 = (i : Int) := by
  obtain ⟨v, hv, e⟩ := perm_hit h hi
  rw [invK_at h hv e, Int.toNat_natCast, e]
theorem to_inv {to : List Int} (h : isPerm to = true) {v : Nat} (hv : v < to.length) : (invK to to.length).getD (to.getD v 0).toNat 0 = (v : Int) := by
  have := perm_range h v hv
  exact invK_at h hv (by omega)
theorem inv_perm {to : List Int} (h : isPerm to = true) : isPerm (invK to to.length) = true := by
  have hl := invK_len to to.length
  refine perm_of (fun v hv => ?_) fun u v huv hv e => ?_
  · rw [hl] at hv ⊢
    exact invK_mem h _ (getD_mem 0 (by rw [hl]; exact hv))
  · rw [hl] at hv
    have h1 := inv_to h (i := u) (by omega)
    have h2 := inv_to h (i := v) hv
    rw [e] at h1
    omega
theorem inv_inv {to : List Int} (h : isPerm to = true) : invK (invK to to.length) to.length = to := by
  have hl := invK_len to to.length
  have hp := inv_perm h
  refine List.ext_getElem (by rw [invK_len]) fun i h1 h2 => ?_
  have hr := perm_range h i h2
  have e := to_inv h h2
  have := invK_at hp (i := i) (v := (to.getD i 0).toNat) (by rw [hl]; omega) e
  rw [hl] at this
  simp only [List.getD, List.getElem?_eq_getElem h1, List.getElem?_eq_getElem h2, Option.getD_some] at this hr
  rw [this]
  omega
theorem at_inv {to : List Int} (h : isPerm to = true) : at2 (invK to to.length) to = idL to.length := by
  refine List.ext_getElem (by simp [at2, idL]) fun i h1 h2 => ?_
  have hi : i < to.length := by simpa [at2] using h1
  have e := to_inv h hi
  simp only [at2, List.getElem_map, idL, List.getElem_range]
  simp only [List.getD, List.getElem?_eq_getElem hi, Option.getD_some] at e ⊢
  exact e
end Go.Pd
