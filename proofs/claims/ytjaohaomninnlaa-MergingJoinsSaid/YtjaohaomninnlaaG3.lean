/- Merging: the plain laws of the statements. Of no program. -/
import Derived.Test.YtjaohaomninnlaaG2
set_option linter.unusedSectionVars false
set_option linter.unusedVariables false
set_option linter.unusedSimpArgs false
set_option linter.defProp false
set_option maxRecDepth 20000
namespace Go.Pd.Mg
open Go

theorem foldl_add : ∀ (l : List Int) (a : Int), l.foldl (· + ·) a = a + l.foldl (· + ·) 0
  | [], a => by simp
  | x :: l, a => by simp only [List.foldl_cons]; rw [foldl_add l (a + x), foldl_add l (0 + x)]; omega
theorem sumL_cons (x : Int) (l : List Int) : sumL (x :: l) = x + sumL l := by
  unfold sumL; rw [List.foldl_cons, foldl_add]; omega
theorem sumL_nil : sumL [] = 0 := rfl
theorem sumL_append (a b : List Int) : sumL (a ++ b) = sumL a + sumL b := by
  induction a with
  | nil => simp [sumL_nil]
  | cons x a ih => rw [List.cons_append, sumL_cons, sumL_cons, ih]; omega
theorem sumL_perm {a b : List Int} (h : a.Perm b) : sumL a = sumL b := by
  induction h with
  | nil => rfl
  | cons x _ ih => rw [sumL_cons, sumL_cons, ih]
  | swap x y l => simp only [sumL_cons]; omega
  | trans _ _ ih1 ih2 => exact ih1.trans ih2
theorem foldl_max : ∀ (l : List Int) (a : Int), 0 ≤ a → l.foldl max a = max a (l.foldl max 0)
  | [], a, h => by simp; omega
  | x :: l, a, h => by
    simp only [List.foldl_cons]
    rw [foldl_max l (max a x) (by omega), foldl_max l (max 0 x) (by omega)]; omega
theorem maxL_cons (x : Int) (l : List Int) : maxL (x :: l) = max (max 0 x) (maxL l) := by
  unfold maxL; rw [List.foldl_cons, foldl_max l (max 0 x) (by omega)]
theorem maxL_nil : maxL [] = 0 := rfl
theorem maxL_nonneg (l : List Int) : 0 ≤ maxL l := by
  cases l with
  | nil => exact Int.le_refl _
  | cons x l => rw [maxL_cons]; omega
theorem maxL_append (a b : List Int) : maxL (a ++ b) = max (maxL a) (maxL b) := by
  induction a with
  | nil => rw [List.nil_append, maxL_nil]; have := maxL_nonneg b; omega
  | cons x a ih => rw [List.cons_append, maxL_cons, maxL_cons, ih]; omega
theorem maxL_perm {a b : List Int} (h : a.Perm b) : maxL a = maxL b := by
  induction h with
  | nil => rfl
  | cons x _ ih => rw [maxL_cons, maxL_cons, ih]
  | swap x y l => simp only [maxL_cons]; omega
  | trans _ _ ih1 ih2 => exact ih1.trans ih2
theorem maxL_le {l : List Int} : (∀ x ∈ l, x ≤ maxL l) ∧ (maxL l = 0 ∨ maxL l ∈ l) := by
  induction l with
  | nil => exact ⟨by simp, .inl rfl⟩
  | cons x l ih =>
    rw [maxL_cons]
    have h0 := maxL_nonneg l
    refine ⟨fun y hy => ?_, ?_⟩
    · rcases List.mem_cons.1 hy with rfl | hy
      · omega
      · have := ih.1 y hy; omega
    · by_cases h : max 0 x ≤ maxL l
      · have e : max (max 0 x) (maxL l) = maxL l := by omega
        rw [e]
        rcases ih.2 with h2 | h2
        · exact .inl h2
        · exact .inr (by simp [h2])
      · have e : max (max 0 x) (maxL l) = max 0 x := by omega
        rw [e]
        by_cases hx : 0 < x
        · exact .inr (by have : max 0 x = x := by omega
                         rw [this]; simp)
        · omega

/-! ### One number that says the order -/
def keyL (way : Int) (l : List Int) : Int := if way = 3 then (wt l : Int) else if way = 2 then maxL l else sumL l
theorem keyL_perm {way : Int} {a b : List Int} (h : a.Perm b) : keyL way a = keyL way b := by
  unfold keyL
  rw [wt_perm h, maxL_perm h, sumL_perm h]
def keyV (way : Int) (n : Nat) (p : List (BitVec 64)) (v : Nat) : Int := keyL way (distL n p v)
theorem distL_len (n : Nat) (p : List (BitVec 64)) (v : Nat) : (distL n p v).length = p.length := by simp [distL]
theorem distL_range {n : Nat} {p : List (BitVec 64)} {v : Nat} : ∀ x ∈ distL n p v, 0 ≤ x ∧ x ≤ n := by
  intro x hx
  simp only [distL, List.mem_map] at hx
  obtain ⟨b, _, rfl⟩ := hx
  exact distB_range n b v
theorem listsM_at {n : Nat} {p : List (BitVec 64)} {v : Nat} (h : v < 2 ^ n) : (listsM n p).getD v [] = descS (distL n p v) := by
  simp [listsM, List.getD, h]
theorem rank_lt {way : Int} {n : Nat} {p : List (BitVec 64)} (hp : p.length < 64) {u v : Nat} (hu : u < 2 ^ n) (hv : v < 2 ^ n) : rankV way n p u < rankV way n p v ↔ keyV way n p u < keyV way n p v := by
  unfold rankV keyV keyL
  by_cases h3 : way = 3
  · simp only [h3, if_true]
    rw [lexR_lt (by simpa [listsM] using hu), listsM_at hu, listsM_at hv]
    rw [wt_iff (by simp [descS_len, distL_len]) (by rw [descS_len, distL_len]; exact hp) (descS_falling _) (descS_falling _) (fun x hx => (distL_range x ((descS_perm _).mem_iff.1 hx)).1) (fun x hx => (distL_range x ((descS_perm _).mem_iff.1 hx)).1)]
    rw [wt_perm (descS_perm _), wt_perm (descS_perm _)]
    omega
  · simp only [h3, if_false]
def mergeM (way : Int) (n : Nat) (p : List (BitVec 64)) (c : BitVec 64) : BitVec 64 := bestS (ranksM way n p) c
theorem ranksM_len (way : Int) (n : Nat) (p : List (BitVec 64)) : (ranksM way n p).length = 2 ^ n := by simp [ranksM]
theorem ranksM_at {way : Int} {n : Nat} {p : List (BitVec 64)} {v : Nat} (h : v < 2 ^ n) : (ranksM way n p).getD v 0 = rankV way n p v := by simp [ranksM, List.getD, h]
theorem pow_le {n : Nat} (hn : n ≤ 4) : 2 ^ n ≤ 16 := Nat.pow_le_pow_right (n := 2) (by omega) hn
theorem mergeM_bit {way : Int} {n : Nat} {p : List (BitVec 64)} {c : BitVec 64} (hn : n ≤ 4) (hp : p.length < 64) (v : Nat) :
    (mergeM way n p c).getLsbD v = true ↔ v < 2 ^ n ∧ c.getLsbD v = true ∧ ∀ u, u < 2 ^ n → c.getLsbD u = true → keyV way n p v ≤ keyV way n p u := by
  have h16 := pow_le hn
  unfold mergeM
  rw [bestS_bit (by rw [ranksM_len]; omega), isBest, ranksM_len]
  constructor
  · rintro ⟨h1, h2, h3⟩
    refine ⟨h1, h2, fun u hu hc => ?_⟩
    have := h3 u hu hc
    rw [ranksM_at h1, ranksM_at hu] at this
    have k := rank_lt (way := way) (p := p) hp hu h1
    omega
  · rintro ⟨h1, h2, h3⟩
    refine ⟨h1, h2, fun u hu hc => ?_⟩
    rw [ranksM_at h1, ranksM_at hu]
    have := h3 u hu hc
    have k := rank_lt (way := way) (p := p) hp hu h1
    omega
theorem mergeM_zero {way : Int} {n : Nat} {p : List (BitVec 64)} {c : BitVec 64} (hn : n ≤ 4) : mergeM way n p c = 0#64 ↔ ∀ v, v < 2 ^ n → c.getLsbD v = false := by
  have h16 := pow_le hn
  unfold mergeM
  rw [bestS_zero (by rw [ranksM_len]; omega), ranksM_len]
theorem bits_eq {s t : BitVec 64} (h : ∀ i, s.getLsbD i = true ↔ t.getLsbD i = true) : s = t := by
  apply BitVec.eq_of_getLsbD_eq
  intro i _
  have := h i
  cases hs : s.getLsbD i <;> cases ht : t.getLsbD i <;> simp_all
theorem sub_zero {s t : BitVec 64} : s &&& ~~~t = 0#64 ↔ ∀ i, s.getLsbD i = true → t.getLsbD i = true := by
  constructor
  · intro h i hs
    have := congrArg (fun x : BitVec 64 => x.getLsbD i) h
    simp only [BitVec.getLsbD_and, BitVec.getLsbD_not, hs, Bool.true_and, BitVec.getLsbD_zero] at this
    by_cases hi : i < 64
    · simpa [hi] using this
    · rw [BitVec.getLsbD_of_ge _ _ (by omega)] at hs; cases hs
  · intro h
    apply BitVec.eq_of_getLsbD_eq
    intro i hi
    rw [BitVec.getLsbD_and, BitVec.getLsbD_not, BitVec.getLsbD_zero]
    cases hs : s.getLsbD i with
    | false => rfl
    | true => simp [h i hs]
theorem nonzero_bit {s : BitVec 64} (h : s ≠ 0#64) : ∃ i, s.getLsbD i = true := by
  apply Classical.byContradiction
  intro hn
  exact h (zero_of_bits fun i => by
    cases e : s.getLsbD i with
    | false => rfl
    | true => exact absurd ⟨i, e⟩ hn)

/-- The order of the sources does not matter. -/
theorem merge_perm {way : Int} {n : Nat} {p q : List (BitVec 64)} {c : BitVec 64} (hn : n ≤ 4) (hp : p.length < 64) (h : p.Perm q) : mergeM way n p c = mergeM way n q c := by
  have hk : ∀ v, keyV way n p v = keyV way n q v := fun v => keyL_perm (h.map _)
  refine bits_eq fun v => ?_
  rw [mergeM_bit hn hp, mergeM_bit hn (by rw [← h.length_eq]; exact hp)]
  simp only [hk]
theorem merge_sub {way : Int} {n : Nat} {p : List (BitVec 64)} {c : BitVec 64} (hn : n ≤ 4) (hp : p.length < 64) : mergeM way n p c &&& ~~~c = 0#64 :=
  sub_zero.2 fun v hv => ((mergeM_bit hn hp v).1 hv).2.1
/-- The key is least just where all distances are 0. -/
theorem key_zero {way : Int} : ∀ {l : List Int}, (∀ x ∈ l, 0 ≤ x) → keyL way (l.map fun _ => 0) ≤ keyL way l ∧ (keyL way l ≤ keyL way (l.map fun _ => 0) → ∀ x ∈ l, x = 0) := by
  intro l hl
  have hw : ∀ {l : List Int}, (∀ x ∈ l, 0 ≤ x) → wt (l.map fun _ => (0 : Int)) ≤ wt l ∧ (wt l ≤ wt (l.map fun _ => (0 : Int)) → ∀ x ∈ l, x = 0) := by
    intro l
    induction l with
    | nil => intro _; exact ⟨Nat.le_refl _, by simp⟩
    | cons y l ih =>
      intro h
      obtain ⟨h1, h2⟩ := ih fun x hx => h x (by simp [hx])
      have hy := h y (by simp)
      have hp : 1 ≤ 64 ^ y.toNat := Nat.pow_pos (by omega)
      have e0 : 64 ^ (0 : Int).toNat = 1 := rfl
      simp only [List.map_cons, wt, e0]
      refine ⟨by omega, fun hle x hx => ?_⟩
      have hy0 : y = 0 := by
        apply Classical.byContradiction
        intro hne
        have : 64 ^ 1 ≤ 64 ^ y.toNat := Nat.pow_le_pow_right (by omega) (by omega)
        omega
      rcases List.mem_cons.1 hx with rfl | hx
      · exact hy0
      · refine h2 ?_ x hx
        rw [hy0] at hle
        rw [e0] at hle
        omega
  have hs : ∀ {l : List Int}, (∀ x ∈ l, 0 ≤ x) → sumL (l.map fun _ => (0 : Int)) = 0 ∧ 0 ≤ sumL l ∧ (sumL l ≤ 0 → ∀ x ∈ l, x = 0) := by
    intro l
    induction l with
    | nil => intro _; exact ⟨rfl, Int.le_refl _, by simp⟩
    | cons y l ih =>
      intro h
      obtain ⟨h1, h2, h3⟩ := ih fun x hx => h x (by simp [hx])
      have hy := h y (by simp)
      rw [List.map_cons, sumL_cons, sumL_cons]
      refine ⟨by omega, by omega, fun hle x hx => ?_⟩
      rcases List.mem_cons.1 hx with rfl | hx
      · omega
      · exact h3 (by omega) x hx
  have hm : ∀ {l : List Int}, maxL (l.map fun _ => (0 : Int)) = 0 := by
    intro l
    induction l with
    | nil => rfl
    | cons y l ih => rw [List.map_cons, maxL_cons, ih]; omega
  unfold keyL
  split
  · obtain ⟨h1, h2⟩ := hw hl
    exact ⟨by omega, fun h => h2 (by omega)⟩
  · split
    · rw [hm]
      exact ⟨maxL_nonneg l, fun h x hx => by have := maxL_le.1 x hx; have := hl x hx; omega⟩
    · obtain ⟨h1, h2, h3⟩ := hs hl
      rw [h1]
      exact ⟨h2, h3⟩
def agreedM (n : Nat) (p : List (BitVec 64)) (al : BitVec 64) : BitVec 64 := p.foldl (· &&& ·) al
theorem agreed_bit {p : List (BitVec 64)} : ∀ {al : BitVec 64} {v : Nat}, (p.foldl (· &&& ·) al).getLsbD v = true ↔ al.getLsbD v = true ∧ ∀ b ∈ p, b.getLsbD v = true := by
  induction p with
  | nil => intro al v; simp
  | cons b p ih =>
    intro al v
    rw [List.foldl_cons, ih, BitVec.getLsbD_and, Bool.and_eq_true]
    constructor
    · rintro ⟨⟨h1, h2⟩, h3⟩
      exact ⟨h1, fun x hx => by rcases List.mem_cons.1 hx with rfl | hx; exact h2; exact h3 x hx⟩
    · rintro ⟨h1, h2⟩
      exact ⟨⟨h1, h2 b (by simp)⟩, fun x hx => h2 x (by simp [hx])⟩
theorem dist_all_zero {n : Nat} {p : List (BitVec 64)} (hne : ∀ b ∈ p, ∃ u, u < 2 ^ n ∧ b.getLsbD u = true) {v : Nat} (hv : v < 2 ^ n) : (∀ x ∈ distL n p v, x = 0) ↔ ∀ b ∈ p, b.getLsbD v = true := by
  constructor
  · intro h b hb
    exact (distB_zero (hne b hb) hv).1 (h _ (List.mem_map_of_mem hb))
  · intro h x hx
    simp only [distL, List.mem_map] at hx
    obtain ⟨b, hb, rfl⟩ := hx
    exact (distB_zero (hne b hb) hv).2 (h b hb)
/-- What all agree on, if the constraint permits it. -/
theorem merge_agreed {way : Int} {n : Nat} {p : List (BitVec 64)} {c al : BitVec 64} (hn : n ≤ 4) (hp : p.length < 64) (hne : ∀ b ∈ p, ∃ u, u < 2 ^ n ∧ b.getLsbD u = true) (hal : ∀ v, al.getLsbD v = true ↔ v < 2 ^ n)
    (h : agreedM n p al &&& c ≠ 0#64) : mergeM way n p c = agreedM n p al &&& c := by
  obtain ⟨w, hw⟩ := nonzero_bit h
  rw [BitVec.getLsbD_and, Bool.and_eq_true] at hw
  have hwa := agreed_bit.1 hw.1
  have hwn := (hal w).1 hwa.1
  have z : ∀ u, u < 2 ^ n → (distL n p u).map (fun _ => (0 : Int)) = (distL n p w).map fun _ => 0 := by
    intro u _
    simp [distL, Function.comp_def]
  have same : ∀ {l : List Int}, (∀ x ∈ l, x = 0) → l.map (fun _ => (0 : Int)) = l := by
    intro l hl
    conv => rhs; rw [← List.map_id l]
    exact List.map_congr_left fun x hx => (hl x hx).symm
  have hk0 : keyV way n p w = keyL way ((distL n p w).map fun _ => 0) := by
    unfold keyV
    rw [same ((dist_all_zero hne hwn).2 hwa.2)]
  refine bits_eq fun v => ?_
  rw [mergeM_bit hn hp, BitVec.getLsbD_and, Bool.and_eq_true, agreedM, agreed_bit, hal]
  constructor
  · rintro ⟨h1, h2, h3⟩
    refine ⟨⟨h1, ?_⟩, h2⟩
    have hle := h3 w hwn hw.2
    rw [hk0, ← z v h1] at hle
    exact (dist_all_zero hne h1).1 ((key_zero fun x hx => (distL_range x hx).1).2 hle)
  · rintro ⟨⟨h1, h2⟩, h3⟩
    refine ⟨h1, h3, fun u hu _ => ?_⟩
    have hz := same ((dist_all_zero hne h1).2 h2)
    have := (key_zero (way := way) (l := distL n p u) fun x hx => (distL_range x hx).1).1
    rw [z u hu, ← z v h1, hz] at this
    exact this

/-- Under a stronger constraint. -/
theorem merge_narrow {way : Int} {n : Nat} {p : List (BitVec 64)} {c d : BitVec 64} (hn : n ≤ 4) (hp : p.length < 64) (h : mergeM way n p c &&& d ≠ 0#64) : mergeM way n p (c &&& d) = mergeM way n p c &&& d := by
  obtain ⟨w, hw⟩ := nonzero_bit h
  rw [BitVec.getLsbD_and, Bool.and_eq_true] at hw
  obtain ⟨w1, w2, w3⟩ := (mergeM_bit hn hp w).1 hw.1
  refine bits_eq fun v => ?_
  rw [BitVec.getLsbD_and, Bool.and_eq_true, mergeM_bit hn hp, mergeM_bit hn hp]
  simp only [BitVec.getLsbD_and, Bool.and_eq_true]
  constructor
  · rintro ⟨h1, ⟨h2, h3⟩, h4⟩
    refine ⟨⟨h1, h2, fun u hu hc => ?_⟩, h3⟩
    have a := h4 w w1 ⟨w2, hw.2⟩
    have b := w3 u hu hc
    omega
  · rintro ⟨⟨h1, h2, h3⟩, h4⟩
    exact ⟨h1, ⟨h2, h4⟩, fun u hu hc => h3 u hu hc.1⟩
theorem wt_max {l m : List Int} (hl : l.length = m.length) (h64 : l.length < 64) (h : maxL l < maxL m) (hm : ∀ x ∈ m, 0 ≤ x) (hl0 : ∀ x ∈ l, 0 ≤ x) : wt l < wt m := by
  have h0 := maxL_nonneg l
  have hmm : maxL m ∈ m := by rcases (maxL_le (l := m)).2 with e | e; omega; exact e
  have h1 : wt l ≤ l.length * 64 ^ (maxL l).toNat := wt_le fun y hy => by have := maxL_le.1 y hy; omega
  have h2 : 64 ^ (maxL m).toNat ≤ wt m := by
    have : ∀ {m : List Int} {x : Int}, x ∈ m → 64 ^ x.toNat ≤ wt m := by
      intro m
      induction m with
      | nil => intro x hx; simp at hx
      | cons y m ih =>
        intro x hx
        simp only [wt]
        rcases List.mem_cons.1 hx with rfl | hx
        · exact Nat.le_add_right _ _
        · exact Nat.le_trans (ih hx) (Nat.le_add_left _ _)
    exact this hmm
  have h3 : 64 ^ ((maxL l).toNat + 1) ≤ 64 ^ (maxL m).toNat := Nat.pow_le_pow_right (by omega) (by omega)
  have h4 : 64 ^ ((maxL l).toNat + 1) = 64 * 64 ^ (maxL l).toNat := by rw [Nat.pow_succ, Nat.mul_comm]
  have h5 : l.length * 64 ^ (maxL l).toNat < 64 * 64 ^ (maxL l).toNat := Nat.mul_lt_mul_of_pos_right h64 (Nat.pow_pos (by omega))
  omega
/-- Leximax chooses among those with the least greatest distance. -/
theorem merge_leximax {n : Nat} {p : List (BitVec 64)} {c : BitVec 64} (hn : n ≤ 4) (hp : p.length < 64) : mergeM 3 n p c &&& ~~~(mergeM 2 n p c) = 0#64 := by
  refine sub_zero.2 fun v hv => ?_
  obtain ⟨h1, h2, h3⟩ := (mergeM_bit hn hp v).1 hv
  refine (mergeM_bit hn hp v).2 ⟨h1, h2, fun u hu hc => ?_⟩
  have := h3 u hu hc
  simp only [keyV, keyL, if_true, Int.reduceEq, if_false] at this ⊢
  apply Classical.byContradiction
  intro hlt
  have := wt_max (l := distL n p u) (m := distL n p v) (by simp [distL_len]) (by rw [distL_len]; exact hp) (by omega) (fun x hx => (distL_range x hx).1) (fun x hx => (distL_range x hx).1)
  omega

/-- Two groups. -/
theorem key_append {way : Int} {n : Nat} (p q : List (BitVec 64)) (v : Nat) : keyV way n (p ++ q) v = if way = 2 then max (keyV way n p v) (keyV way n q v) else keyV way n p v + keyV way n q v := by
  have e : distL n (p ++ q) v = distL n p v ++ distL n q v := by simp [distL]
  unfold keyV keyL
  rw [e]
  by_cases h3 : way = 3
  · have : ¬ way = 2 := by omega
    simp only [h3, if_true, wt_append]
    omega
  · by_cases h2 : way = 2
    · simp only [h2, maxL_append]; rfl
    · simp only [h3, h2, if_false, sumL_append]
theorem merge_joins {way : Int} {n : Nat} {p q : List (BitVec 64)} {c : BitVec 64} (hn : n ≤ 4) (hp : p.length ≤ 4) (hq : q.length ≤ 4) : mergeM way n p c &&& mergeM way n q c &&& ~~~(mergeM way n (p ++ q) c) = 0#64 := by
  refine sub_zero.2 fun v hv => ?_
  rw [BitVec.getLsbD_and, Bool.and_eq_true] at hv
  obtain ⟨h1, h2, h3⟩ := (mergeM_bit hn (by omega) v).1 hv.1
  obtain ⟨_, _, h4⟩ := (mergeM_bit hn (by omega) v).1 hv.2
  refine (mergeM_bit hn (by simp; omega) v).2 ⟨h1, h2, fun u hu hc => ?_⟩
  have a := h3 u hu hc
  have b := h4 u hu hc
  rw [key_append, key_append]
  split <;> omega
theorem merge_joins_all {way : Int} {n : Nat} {p q : List (BitVec 64)} {c : BitVec 64} (hn : n ≤ 4) (hp : p.length ≤ 4) (hq : q.length ≤ 4) (hw : way ≠ 2) (h : mergeM way n p c &&& mergeM way n q c ≠ 0#64) : mergeM way n (p ++ q) c = mergeM way n p c &&& mergeM way n q c := by
  obtain ⟨w, hv⟩ := nonzero_bit h
  rw [BitVec.getLsbD_and, Bool.and_eq_true] at hv
  obtain ⟨h1, h2, h3⟩ := (mergeM_bit hn (by omega) w).1 hv.1
  obtain ⟨_, _, h4⟩ := (mergeM_bit hn (by omega) w).1 hv.2
  refine bits_eq fun v => ⟨fun hz => ?_, fun hz => sub_zero.1 (merge_joins hn hp hq) v hz⟩
  obtain ⟨z1, z2, z3⟩ := (mergeM_bit hn (by simp; omega) v).1 hz
  have a := h3 v z1 z2
  have b := h4 v z1 z2
  have z := z3 w h1 h2
  rw [key_append, key_append, if_neg hw, if_neg hw] at z
  rw [BitVec.getLsbD_and, Bool.and_eq_true, mergeM_bit hn (by omega), mergeM_bit hn (by omega)]
  exact ⟨⟨z1, z2, fun u hu hc => by have := h3 u hu hc; omega⟩, ⟨z1, z2, fun u hu hc => by have := h4 u hu hc; omega⟩⟩

/-- Two beliefs that satisfy the constraint. -/
theorem key_two {way : Int} {x y : Int} (hx : 0 ≤ x) (hxy : x ≤ y) : keyL way [x, 0] ≤ keyL way [0, y] := by
  unfold keyL
  have h : 64 ^ x.toNat ≤ 64 ^ y.toNat := Nat.pow_le_pow_right (by omega) (by omega)
  simp only [wt, maxL_cons, maxL_nil, sumL_cons, sumL_nil]
  split
  · omega
  · split <;> omega
theorem fair_one {way : Int} {n : Nat} {a b c : BitVec 64} (hn : n ≤ 4) (hb : ∃ u, u < 2 ^ n ∧ b.getLsbD u = true) (hbc : ∀ u, b.getLsbD u = true → c.getLsbD u = true) (h : mergeM way n [a, b] c &&& a ≠ 0#64) : mergeM way n [a, b] c &&& b ≠ 0#64 := by
  obtain ⟨v, hv⟩ := nonzero_bit h
  rw [BitVec.getLsbD_and, Bool.and_eq_true] at hv
  obtain ⟨h1, h2, h3⟩ := (mergeM_bit hn (by simp) v).1 hv.1
  obtain ⟨u, hu, hub, hle⟩ := distB_back hb h1 hv.2
  have za : distB n a v = 0 := (distB_zero ⟨v, h1, hv.2⟩ h1).2 hv.2
  have zb : distB n b u = 0 := (distB_zero hb hu).2 hub
  have key : keyV way n [a, b] u ≤ keyV way n [a, b] v := by
    unfold keyV distL
    simp only [List.map_cons, List.map_nil, za, zb]
    exact key_two (distB_range n a u).1 hle
  refine ne_zero_bit (i := u) ?_
  rw [BitVec.getLsbD_and, Bool.and_eq_true, mergeM_bit hn (by simp)]
  exact ⟨⟨hu, hbc u hub, fun x hx hc => by have := h3 x hx hc; omega⟩, hub⟩
theorem merge_fair {way : Int} {n : Nat} {a b c : BitVec 64} (hn : n ≤ 4) (ha : ∃ u, u < 2 ^ n ∧ a.getLsbD u = true) (hb : ∃ u, u < 2 ^ n ∧ b.getLsbD u = true) (hac : ∀ u, a.getLsbD u = true → c.getLsbD u = true) (hbc : ∀ u, b.getLsbD u = true → c.getLsbD u = true) :
    mergeM way n [a, b] c &&& a = 0#64 ↔ mergeM way n [a, b] c &&& b = 0#64 := by
  have e : mergeM way n [a, b] c = mergeM way n [b, a] c := merge_perm hn (by simp) (List.Perm.swap b a [])
  constructor
  · intro h
    apply Classical.byContradiction
    intro hne
    rw [e] at hne h
    exact fair_one hn ha hac hne h
  · intro h
    apply Classical.byContradiction
    intro hne
    exact fair_one hn hb hbc hne h
end Go.Pd.Mg
