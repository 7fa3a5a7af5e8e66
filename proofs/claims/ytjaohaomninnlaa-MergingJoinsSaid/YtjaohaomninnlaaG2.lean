/- Merging: the plain laws: lists that fall, their order, their weight; ranks by leximax. Of no program. -/
import Derived.Test.YtjaohaomninnlaaG1
set_option linter.unusedSectionVars false
set_option linter.unusedVariables false
set_option linter.unusedSimpArgs false
set_option linter.defProp false
set_option maxRecDepth 20000
namespace Go.Pd.Mg
open Go

/-! ### Lists that fall -/
def falling (l : List Int) : Prop := l.Pairwise (· ≥ ·)
theorem falling_perm : ∀ {a b : List Int}, falling a → falling b → a.Perm b → a = b := by
  intro a b ha hb hp
  exact List.Perm.eq_of_pairwise (le := (· ≥ ·)) (fun x y _ _ h1 h2 => by simp only [ge_iff_le] at h1 h2; omega) ha hb hp
def descS (l : List Int) : List Int := l.mergeSort fun a b => decide (b ≤ a)
theorem descS_perm (l : List Int) : (descS l).Perm l := List.mergeSort_perm l _
theorem descS_falling (l : List Int) : falling (descS l) := by
  have := List.pairwise_mergeSort (le := fun a b : Int => decide (b ≤ a)) (fun a b c h1 h2 => by simp at h1 h2 ⊢; omega) (fun a b => by simp; omega) l
  unfold falling descS
  exact this.imp fun h => by simpa using h
theorem descS_eq {l m : List Int} (hp : m.Perm l) (hf : falling m) : m = descS l := falling_perm hf (descS_falling l) (hp.trans (descS_perm l).symm)
theorem descS_len (l : List Int) : (descS l).length = l.length := (descS_perm l).length_eq

/-- Go's order of lists. -/
def lexC : List Int → List Int → Int
  | [], [] => 0
  | [], _ :: _ => -1
  | _ :: _, [] => 1
  | a :: as, b :: bs => if a < b then -1 else if b < a then 1 else lexC as bs
theorem lexC_self : ∀ a : List Int, lexC a a = 0
  | [] => rfl
  | x :: a => by unfold lexC; rw [if_neg (by omega), if_neg (by omega)]; exact lexC_self a
theorem lexC_range : ∀ a b : List Int, lexC a b = -1 ∨ lexC a b = 0 ∨ lexC a b = 1
  | [], [] => .inr (.inl rfl)
  | [], _ :: _ => .inl rfl
  | _ :: _, [] => .inr (.inr rfl)
  | x :: a, y :: b => by
    unfold lexC
    split
    · exact .inl rfl
    · split
      · exact .inr (.inr rfl)
      · exact lexC_range a b
theorem lexC_zero : ∀ {a b : List Int}, lexC a b = 0 → a = b
  | [], [], _ => rfl
  | [], _ :: _, h => by simp [lexC] at h
  | _ :: _, [], h => by simp [lexC] at h
  | x :: a, y :: b, h => by
    unfold lexC at h
    split at h
    · omega
    · split at h
      · omega
      · rw [lexC_zero h, show x = y by omega]
theorem lexC_anti : ∀ a b : List Int, lexC b a = - lexC a b
  | [], [] => rfl
  | [], _ :: _ => rfl
  | _ :: _, [] => rfl
  | x :: a, y :: b => by
    unfold lexC
    by_cases h1 : x < y
    · rw [if_pos h1, if_neg (by omega), if_pos h1]; rfl
    · by_cases h2 : y < x
      · rw [if_pos h2, if_neg h1, if_pos h2]
      · rw [if_neg h2, if_neg h1, if_neg h1, if_neg h2]; exact lexC_anti a b
theorem lexC_trans : ∀ {a b c : List Int}, lexC a b < 0 → lexC b c < 0 → lexC a c < 0
  | [], [], _, h, _ => by simp [lexC] at h
  | [], _ :: _, [], _, h => by simp [lexC] at h
  | [], _ :: _, _ :: _, _, _ => by simp [lexC]
  | _ :: _, [], _, h, _ => by simp [lexC] at h
  | _ :: _, _ :: _, [], _, h => by simp [lexC] at h
  | x :: a, y :: b, z :: c, h1, h2 => by
    unfold lexC at h1 h2 ⊢
    by_cases hxy : x < y
    · by_cases hyz : z < y
      · rw [if_neg (by omega), if_pos hyz] at h2; omega
      · rw [if_pos (by omega)]; omega
    · rw [if_neg hxy] at h1
      by_cases hyx : y < x
      · rw [if_pos hyx] at h1; omega
      · rw [if_neg hyx] at h1
        by_cases hyz : y < z
        · rw [if_pos (by omega)]; omega
        · rw [if_neg hyz] at h2
          by_cases hzy : z < y
          · rw [if_pos hzy] at h2; omega
          · rw [if_neg hzy] at h2
            rw [if_neg (by omega), if_neg (by omega)]
            exact lexC_trans h1 h2
theorem lexC_ntrans {a b c : List Int} (h1 : ¬ lexC a b < 0) (h2 : ¬ lexC b c < 0) : ¬ lexC a c < 0 := by
  intro h
  by_cases e1 : lexC a b = 0
  · rw [lexC_zero e1] at h; exact h2 h
  · by_cases e2 : lexC b c = 0
    · rw [← lexC_zero e2] at h; exact h1 h
    · have r1 := lexC_range a b
      have r2 := lexC_range b c
      have a1 := lexC_anti a b
      have a2 := lexC_anti b c
      have a3 := lexC_anti a c
      have := lexC_trans (a := c) (b := b) (c := a) (by omega) (by omega)
      omega

/-! ### The weight of a list: it says the order -/
def wt : List Int → Nat
  | [] => 0
  | x :: l => 64 ^ x.toNat + wt l
theorem wt_append : ∀ a b : List Int, wt (a ++ b) = wt a + wt b
  | [], b => by simp [wt]
  | x :: a, b => by simp only [List.cons_append, wt, wt_append a b]; omega
theorem wt_perm {a b : List Int} (h : a.Perm b) : wt a = wt b := by
  induction h with
  | nil => rfl
  | cons x _ ih => simp only [wt, ih]
  | swap x y l => simp only [wt]; omega
  | trans _ _ ih1 ih2 => exact ih1.trans ih2
theorem wt_le {x : Nat} : ∀ {l : List Int}, (∀ y ∈ l, y ≤ (x : Int)) → wt l ≤ l.length * 64 ^ x
  | [], _ => by simp [wt]
  | y :: l, h => by
    have h1 := wt_le (l := l) fun z hz => h z (by simp [hz])
    have h2 := h y (by simp)
    have h3 : 64 ^ y.toNat ≤ 64 ^ x := Nat.pow_le_pow_right (by omega) (by omega)
    simp only [wt, List.length_cons, Nat.succ_mul]
    omega
theorem wt_lt : ∀ {a b : List Int}, a.length = b.length → a.length < 64 → falling a → falling b → (∀ x ∈ a, 0 ≤ x) → (∀ x ∈ b, 0 ≤ x) → (lexC a b < 0 → wt a < wt b)
  | [], [], _, _, _, _, _, _, h => by simp [lexC] at h
  | [], _ :: _, hl, _, _, _, _, _, _ => by simp at hl
  | _ :: _, [], hl, _, _, _, _, _, _ => by simp at hl
  | x :: a, y :: b, hl, h64, fa, fb, pa, pb, h => by
    unfold lexC at h
    have fa' := List.pairwise_cons.1 fa
    have fb' := List.pairwise_cons.1 fb
    have hx := pa x (by simp)
    have hy := pb y (by simp)
    simp only [List.length_cons] at hl h64
    split at h
    · rename_i hxy
      have h1 : wt (x :: a) ≤ (x :: a).length * 64 ^ x.toNat := wt_le fun z hz => by
        rcases List.mem_cons.1 hz with rfl | hz
        · omega
        · have := fa'.1 z hz; simp only [ge_iff_le] at this; omega
      have h2 : 64 ^ (x.toNat + 1) ≤ 64 ^ y.toNat := Nat.pow_le_pow_right (by omega) (by omega)
      have h3 : 64 ^ (x.toNat + 1) = 64 * 64 ^ x.toNat := by rw [Nat.pow_succ, Nat.mul_comm]
      have h4 : (x :: a).length * 64 ^ x.toNat < 64 * 64 ^ x.toNat := Nat.mul_lt_mul_of_pos_right (by simp; omega) (Nat.pow_pos (by omega))
      have h5 : 64 ^ y.toNat ≤ wt (y :: b) := by simp only [wt]; omega
      omega
    · split at h
      · omega
      · have e : x = y := by omega
        have := wt_lt (a := a) (b := b) (by omega) (by omega) fa'.2 fb'.2 (fun z hz => pa z (by simp [hz])) (fun z hz => pb z (by simp [hz])) h
        simp only [wt, e]; omega
theorem wt_iff {a b : List Int} (hl : a.length = b.length) (h64 : a.length < 64) (fa : falling a) (fb : falling b) (pa : ∀ x ∈ a, 0 ≤ x) (pb : ∀ x ∈ b, 0 ≤ x) : lexC a b < 0 ↔ wt a < wt b := by
  refine ⟨wt_lt hl h64 fa fb pa pb, fun h => ?_⟩
  by_cases e : lexC a b = 0
  · rw [lexC_zero e] at h; omega
  · have r := lexC_range a b
    rcases r with r | r | r
    · omega
    · exact absurd r e
    · have a1 := lexC_anti a b
      have := wt_lt hl.symm (by omega) fb fa pb pa (by omega)
      omega

/-! ### How many different ones are less -/
theorem nodup_len {α : Type} [DecidableEq α] : ∀ {a b : List α}, a.Nodup → b.Nodup → (∀ x, x ∈ a ↔ x ∈ b) → a.length = b.length
  | [], b, _, _, h => by
    cases b with
    | nil => rfl
    | cons y b => have := (h y).2 (by simp); simp at this
  | x :: a, b, ha, hb, h => by
    have ha' := List.nodup_cons.1 ha
    have hx : x ∈ b := (h x).1 (by simp)
    have := nodup_len (a := a) (b := b.erase x) ha'.2 (hb.erase x) fun z => by
      rw [List.Nodup.mem_erase_iff hb]
      constructor
      · intro hz
        exact ⟨fun e => ha'.1 (e ▸ hz), (h z).1 (by simp [hz])⟩
      · rintro ⟨hne, hz⟩
        rcases List.mem_cons.1 ((h z).2 hz) with e | e
        · exact absurd e hne
        · exact e
    rw [List.length_erase_of_mem hx] at this
    have hpos : 0 < b.length := List.length_pos_of_mem hx
    simp only [List.length_cons]
    omega
/-- The first places of the different ones. -/
def firstsTo (l : List (List Int)) : Nat → List (List Int)
  | 0 => []
  | k + 1 => if (List.range k).any (fun i => l.getD i [] == l.getD k []) then firstsTo l k else firstsTo l k ++ [l.getD k []]
theorem firstsTo_law (l : List (List Int)) : ∀ k, (firstsTo l k).Nodup ∧ ∀ x, x ∈ firstsTo l k ↔ ∃ i, i < k ∧ l.getD i [] = x
  | 0 => ⟨List.nodup_nil, fun x => by simp [firstsTo]⟩
  | k + 1 => by
    obtain ⟨h1, h2⟩ := firstsTo_law l k
    unfold firstsTo
    by_cases h : (List.range k).any (fun i => l.getD i [] == l.getD k []) = true
    · rw [if_pos h]
      refine ⟨h1, fun x => (h2 x).trans ⟨fun ⟨i, hi, e⟩ => ⟨i, by omega, e⟩, fun ⟨i, hi, e⟩ => ?_⟩⟩
      by_cases ei : i = k
      · subst ei
        obtain ⟨j, hj, e2⟩ := List.any_eq_true.1 h
        exact ⟨j, List.mem_range.1 hj, (eq_of_beq e2).trans e⟩
      · exact ⟨i, by omega, e⟩
    · rw [if_neg h]
      have hn : l.getD k [] ∉ firstsTo l k := by
        intro hm
        obtain ⟨i, hi, e⟩ := (h2 _).1 hm
        exact h (List.any_eq_true.2 ⟨i, List.mem_range.2 hi, by rw [e]; simp⟩)
      refine ⟨List.nodup_append.2 ⟨h1, by simp, fun a ha b hb => ?_⟩, fun x => ?_⟩
      · simp at hb; subst hb; rintro rfl; exact hn ha
      · rw [List.mem_append, h2]
        constructor
        · rintro (⟨i, hi, e⟩ | hx)
          · exact ⟨i, by omega, e⟩
          · simp at hx; exact ⟨k, by omega, hx.symm⟩
        · rintro ⟨i, hi, e⟩
          by_cases ei : i = k
          · subst ei; right; rw [e]; simp
          · left; exact ⟨i, by omega, e⟩
/-- The rank by leximax: how many different lists are less. -/
def lexR (l : List (List Int)) (v : Nat) : Int := (((firstsTo l l.length).filter fun x => decide (lexC x (l.getD v []) < 0)).length : Int)
theorem lexR_of {l m : List (List Int)} (hn : m.Nodup) (hm : ∀ x, x ∈ m ↔ x ∈ l) (v : Nat) : ((m.filter fun x => decide (lexC x (l.getD v []) < 0)).length : Int) = lexR l v := by
  obtain ⟨h1, h2⟩ := firstsTo_law l l.length
  unfold lexR
  congr 1
  refine nodup_len (hn.filter _) (h1.filter _) fun x => ?_
  rw [List.mem_filter, List.mem_filter, hm, h2]
  have : x ∈ l ↔ ∃ i, i < l.length ∧ l.getD i [] = x := by
    constructor
    · intro hx
      obtain ⟨i, hi, e⟩ := List.getElem_of_mem hx
      exact ⟨i, hi, by simp [List.getD, hi, e]⟩
    · rintro ⟨i, hi, rfl⟩
      simp [List.getD, hi]
  rw [this]
theorem filter_sub {α : Type} {p q : α → Bool} {l : List α} (h : ∀ x ∈ l, p x = true → q x = true) : (l.filter p).length ≤ (l.filter q).length ∧ ((∃ x ∈ l, q x = true ∧ p x = false) → (l.filter p).length < (l.filter q).length) := by
  induction l with
  | nil => exact ⟨Nat.le_refl _, by rintro ⟨x, hx, _⟩; simp at hx⟩
  | cons a l ih =>
    obtain ⟨h1, h2⟩ := ih fun x hx => h x (by simp [hx])
    have ha := h a (by simp)
    cases hp : p a <;> cases hq : q a <;> simp only [List.filter_cons, hp, hq, List.length_cons, if_true, if_false, Bool.false_eq_true]
    · refine ⟨h1, ?_⟩
      rintro ⟨x, hx, h3, h4⟩
      rcases List.mem_cons.1 hx with rfl | hx
      · rw [hq] at h3; cases h3
      · exact h2 ⟨x, hx, h3, h4⟩
    · exact ⟨by omega, fun _ => by omega⟩
    · rw [ha hp] at hq; cases hq
    · refine ⟨by omega, ?_⟩
      rintro ⟨x, hx, h3, h4⟩
      rcases List.mem_cons.1 hx with rfl | hx
      · rw [hp] at h4; cases h4
      · have := h2 ⟨x, hx, h3, h4⟩; omega
theorem lexR_lt {l : List (List Int)} {u v : Nat} (hu : u < l.length) : lexR l u < lexR l v ↔ lexC (l.getD u []) (l.getD v []) < 0 := by
  obtain ⟨h1, h2⟩ := firstsTo_law l l.length
  constructor
  · intro h
    apply Classical.byContradiction
    intro hn
    have : lexR l v ≤ lexR l u := by
      unfold lexR
      have := (filter_sub (l := firstsTo l l.length) (p := fun x => decide (lexC x (l.getD v []) < 0)) (q := fun x => decide (lexC x (l.getD u []) < 0)) fun x _ hx => by
        simp only [decide_eq_true_eq] at hx ⊢
        by_cases e : lexC (l.getD u []) (l.getD v []) = 0
        · rw [lexC_zero e]; exact hx
        · have r := lexC_range (l.getD u []) (l.getD v [])
          have a := lexC_anti (l.getD u []) (l.getD v [])
          exact lexC_trans hx (by omega)).1
      omega
    omega
  · intro h
    unfold lexR
    have := (filter_sub (l := firstsTo l l.length) (p := fun x => decide (lexC x (l.getD u []) < 0)) (q := fun x => decide (lexC x (l.getD v []) < 0)) fun x _ hx => by
      simp only [decide_eq_true_eq] at hx ⊢
      exact lexC_trans hx h).2 ⟨l.getD u [], (h2 _).2 ⟨u, hu, rfl⟩, by simpa using h, by rw [lexC_self]; simp⟩
    omega
theorem lexR_nonneg (l : List (List Int)) (v : Nat) : 0 ≤ lexR l v := by unfold lexR; omega

/-! ### Ranks -/
def listsM (n : Nat) (p : List (BitVec 64)) : List (List Int) := (List.range (2 ^ n)).map fun v => descS (distL n p v)
def rankV (way : Int) (n : Nat) (p : List (BitVec 64)) (v : Nat) : Int := if way = 3 then lexR (listsM n p) v else if way = 2 then maxL (distL n p v) else sumL (distL n p v)
def ranksM (way : Int) (n : Nat) (p : List (BitVec 64)) : List Int := (List.range (2 ^ n)).map fun v => rankV way n p v
end Go.Pd.Mg
