/-
  PURE DATA, part T: single bits of unsigned numbers. Of no program.
-/
import Derived.Test.YtkinhajadppfaaaDoorPdS
set_option linter.unusedSectionVars false
set_option linter.unusedVariables false
set_option linter.unusedSimpArgs false
set_option linter.defProp false
namespace Go.Pd
open Go

theorem bit_and1 (s : BitVec 64) (w : Nat) : s >>> w &&& 1#64 = if s.getLsbD w then 1#64 else 0#64 := by
  apply BitVec.eq_of_toNat_eq
  rw [BitVec.toNat_and, BitVec.toNat_ushiftRight]
  have : (1#64).toNat = 1 := rfl
  rw [this, Nat.and_one_is_mod]
  unfold BitVec.getLsbD
  rw [Nat.testBit_eq_decide_div_mod_eq, Nat.shiftRight_eq_div_pow]
  by_cases h : s.toNat / 2 ^ w % 2 = 1
  · simp [h]
  · simp [h]; omega
theorem bit_rem2 (s : BitVec 64) (w : Nat) : s >>> w % 2#64 = if s.getLsbD w then 1#64 else 0#64 := by
  rw [← bit_and1]
  apply BitVec.eq_of_toNat_eq
  rw [BitVec.toNat_and, BitVec.toNat_umod]
  have : (1#64).toNat = 1 := rfl
  rw [this, Nat.and_one_is_mod]
  rfl
theorem bit_rem2_eq (s : BitVec 64) (w : Nat) : (s >>> w % 2#64 == 1#64) = s.getLsbD w := by
  rw [bit_rem2]
  cases s.getLsbD w <;> rfl
theorem bit_and1_eq (s : BitVec 64) (w : Nat) : (s >>> w &&& 1#64 == 1#64) = s.getLsbD w := by
  rw [bit_and1]
  cases s.getLsbD w <;> rfl
theorem bit_and1_ui (s : BitVec 64) (w : Nat) : ui (s >>> w &&& 1#64) = if s.getLsbD w then 1 else 0 := by
  rw [bit_and1]
  cases s.getLsbD w <;> rfl
/-- Does a set contain a world? -/
def hasS (s : BitVec 64) (w : Int) : Bool := decide (0 ≤ w) && s.getLsbD w.toNat
theorem hasS_nat (s : BitVec 64) (w : Nat) : hasS s w = s.getLsbD w := by simp [hasS]

theorem shl_one {k : Nat} (hk : k < 62) : shlI .i64 1 k = ((2 ^ k : Nat) : Int) := by
  have hp : 2 ^ k < 2 ^ 62 := Nat.pow_lt_pow_right (by omega) hk
  unfold shlI
  have e : min (k : Int).toNat IntKind.i64.bits = k := by
    have : IntKind.i64.bits = 64 := rfl
    rw [this, Int.toNat_natCast]; omega
  rw [e, Int.one_mul, wrap_i64]
  · simp
  · have : ((2 : Int) ^ k) = ((2 ^ k : Nat) : Int) := by simp
    rw [this]
    exact ⟨Int.le_trans (by decide) (Int.natCast_nonneg _), Int.le_trans (Int.ofNat_le.2 (Nat.le_of_lt hp)) (by decide)⟩
/-- Or of a small number and a power: their sum. -/
theorem or_pow {a k : Nat} (h : a < 2 ^ k) (hk : k < 62) : bitI .or .i64 (a : Int) (shlI .i64 1 k) = ((a + 2 ^ k : Nat) : Int) := by
  have hp : 2 ^ k < 2 ^ 62 := Nat.pow_lt_pow_right (by omega) hk
  have e1 := shl_one hk
  rw [e1]
  show IntKind.i64.wrap ((BitVec.ofInt 64 (a : Int) ||| BitVec.ofInt 64 ((2 ^ k : Nat) : Int)).toNat : Int) = _
  rw [BitVec.ofInt_natCast, BitVec.ofInt_natCast, BitVec.toNat_or, BitVec.toNat_ofNat, BitVec.toNat_ofNat, Nat.mod_eq_of_lt (by omega), Nat.mod_eq_of_lt (by omega)]
  have := Nat.two_pow_add_eq_or_of_lt h 1
  rw [Nat.mul_one] at this
  rw [Nat.or_comm, ← this, Nat.add_comm]
  exact wrap_i64 (by omega)
theorem or_zero {a k : Nat} (h : a < 2 ^ k) (hk : k < 62) : bitI .or .i64 (a : Int) (shlI .i64 0 k) = (a : Int) := by
  have hp : 2 ^ k < 2 ^ 62 := Nat.pow_lt_pow_right (by omega) hk
  have e1 : shlI .i64 0 k = 0 := by
    unfold shlI
    rw [Int.zero_mul]; rfl
  rw [e1]
  show IntKind.i64.wrap ((BitVec.ofInt 64 (a : Int) ||| BitVec.ofInt 64 0).toNat : Int) = _
  rw [BitVec.ofInt_natCast, BitVec.toNat_or, BitVec.toNat_ofNat, Nat.mod_eq_of_lt (by omega)]
  have : (BitVec.ofInt 64 0).toNat = 0 := rfl
  rw [this, Nat.or_zero]
  exact wrap_i64 (by omega)
end Go.Pd
namespace Go.Pd
open Go
theorem growD_nil (key sz : Nat) : growD key sz [] = .nils := rfl
theorem growD_cons (key sz : Nat) (e : List D) (r : List (List D)) : growD key sz (e :: r) = .osl key sz (r.length + 1) := rfl
theorem growO_nil (key sz : Nat) : growO key sz [] = [] := rfl
theorem growO_cons (key sz : Nat) (e : List D) (r : List (List D)) : growO key sz (e :: r) = [(key, ⟨sz, e :: r⟩)] := rfl
theorem rows_nil (k : IntKind) : rows k [] = [] := rfl
theorem rows_cons (k : IntKind) (n : Int) (l : List Int) : rows k (n :: l) = [.int k n] :: rows k l := rfl
theorem rows_snoc (k : IntKind) (l : List Int) (n : Int) : rows k l ++ [[.int k n]] = rows k (l ++ [n]) := by simp [rows]
theorem rr_snoc (l : List (List (BitVec 64))) (r : List (BitVec 64)) : rr l ++ [[.sl 1 (us r)]] = rr (l ++ [r]) := by simp [rr, sets]
theorem rr_nil : rr [] = [] := rfl
theorem rr_cons (l : List (BitVec 64)) (r : List (List (BitVec 64))) : rr (l :: r) = [.sl 1 (us l)] :: rr r := rfl
variable [Tabs]
/-- Behind an append to the slice that grows: the new object takes the old one's name. -/
theorem Weak.grow {C : Cx} {f f' : Fr} {n sz : Nat} {els : List (List D)} (hn : C.n0 ≤ n) (hp : ∀ e ∈ els, D.isPureL e = true)
    (hf : vwF ⟨n + 2, [(n + 1, ⟨sz, els⟩)]⟩ ⟨n + 1, [(n, ⟨sz, els⟩)]⟩ (fun k => if k = n then n + 1 else k) f f') : Weak C f ⟨n + 2, [(n + 1, ⟨sz, els⟩)]⟩ f' ⟨n + 1, [(n, ⟨sz, els⟩)]⟩ := by
  refine Weak.view (fun k => if k = n then n + 1 else k) (by show C.n0 ≤ n + 1; omega) (fun k hk => if_neg (by omega)) hf ?_ ?_
  · intro p hp'
    simp only [List.mem_singleton] at hp'
    subst hp'
    exact ⟨Nat.lt_succ_self n, ⟨sz, els⟩, by simp [St.get, St.look], rfl, .same hp⟩
  · intro p hp' q hq' _
    simp only [List.mem_singleton] at hp' hq'
    rw [hp', hq']

theorem grow_view {key m n sz : Nat} {els : List (List D)} (hs : 0 < sz) (hp : ∀ e ∈ els, D.isPureL e = true) {ρ : Nat → Nat} : vw ⟨m, growO key sz els⟩ ⟨n, []⟩ ρ (growD key sz els) (.sl sz els) := by
  cases els with
  | nil => simp [growD, vw]
  | cons e r =>
    simp only [growD, growO, vw]
    refine ⟨trivial, hs, by simp, ⟨sz, e :: r⟩, by simp [St.get, St.look], rfl, Nat.le_refl _, by simp, hp⟩

/-- The one object that comes back takes another name. -/
theorem RetV.name {n0 n m sz j : Nat} {els : List (List D)} {d d' : D} (hn : n0 ≤ n) (hp : ∀ e ∈ els, D.isPureL e = true) (hv : vw ⟨m, [(j, ⟨sz, els⟩)]⟩ ⟨n + 1, [(n, ⟨sz, els⟩)]⟩ (fun k => if k = n then j else k) d d') : RetV n0 ⟨m, [(j, ⟨sz, els⟩)]⟩ d ⟨n + 1, [(n, ⟨sz, els⟩)]⟩ d' := by
  refine .inr ⟨fun k => if k = n then j else k, by show n0 ≤ n + 1; omega, fun k hk => if_neg (by omega), hv, ?_, ?_⟩
  · intro p hp'
    simp only [List.mem_singleton] at hp'
    subst hp'
    exact ⟨Nat.lt_succ_self n, ⟨sz, els⟩, by simp [St.get, St.look], rfl, .same hp⟩
  · intro p hp' q hq' _
    simp only [List.mem_singleton] at hp' hq'
    rw [hp', hq']

/-- The names behind an append. -/
def up (n : Nat) (k : Nat) : Nat := if k = n then n + 1 else k
theorem up_self (n : Nat) : up n n = n + 1 := if_pos rfl
theorem up_ne {n k : Nat} (h : k ≠ n) : up n k = k := if_neg h
/-- Behind an append, with other objects beside it. -/
theorem Weak.growR {C : Cx} {f f' : Fr} {n sz : Nat} {els : List (List D)} {rest rest' : List (Nat × Ob)} (hn : C.n0 ≤ n) (hp : ∀ e ∈ els, D.isPureL e = true)
    (hf : vwF ⟨n + 2, (n + 1, ⟨sz, els⟩) :: rest⟩ ⟨n + 1, (n, ⟨sz, els⟩) :: rest'⟩ (up n) f f')
    (hr : ∀ p ∈ rest', p.1 < n ∧ ∃ ob, St.look rest p.1 = some ob ∧ ob.sz = p.2.sz ∧ vwE ⟨n + 2, (n + 1, ⟨sz, els⟩) :: rest⟩ ⟨n + 1, (n, ⟨sz, els⟩) :: rest'⟩ (up n) ob.els p.2.els) :
    Weak C f ⟨n + 2, (n + 1, ⟨sz, els⟩) :: rest⟩ f' ⟨n + 1, (n, ⟨sz, els⟩) :: rest'⟩ := by
  refine Weak.view (up n) (by show C.n0 ≤ n + 1; omega) (fun k hk => up_ne (by omega)) hf ?_ ?_
  · intro p hp'
    rcases List.mem_cons.1 hp' with rfl | hp'
    · exact ⟨Nat.lt_succ_self n, ⟨sz, els⟩, by simp [St.get, St.look, up_self], rfl, .same hp⟩
    · obtain ⟨h1, ob, h2, h3, h4⟩ := hr p hp'
      refine ⟨by show p.1 < n + 1; omega, ob, ?_, h3, h4⟩
      rw [up_ne (by omega)]
      simp only [St.get, St.look, if_neg (show ¬ n + 1 = p.1 by omega)]
      exact h2
  · intro p hp' q hq' e
    have key : ∀ p ∈ (n, (⟨sz, els⟩ : Ob)) :: rest', p.1 = n ∨ p.1 < n := by
      intro p hp'
      rcases List.mem_cons.1 hp' with rfl | hp'
      · exact .inl rfl
      · exact .inr (hr p hp').1
    rcases key p hp' with h | h <;> rcases key q hq' with h' | h'
    · omega
    · rw [h, up_self, up_ne (by omega)] at e; omega
    · rw [h', up_self, up_ne (by omega)] at e; omega
    · rw [up_ne (by omega), up_ne (by omega)] at e; exact e
end Go.Pd
