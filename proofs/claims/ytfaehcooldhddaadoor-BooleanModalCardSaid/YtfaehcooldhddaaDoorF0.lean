/- Boolean: what the texts share. -/
import Derived.Test.YtfaehcooldhddaaDoorX9
import Derived.Shelf.Spec.TrailingZeros
set_option linter.unusedSectionVars false
set_option linter.unusedVariables false
set_option linter.unusedSimpArgs false
set_option linter.defProp false
set_option maxRecDepth 20000
namespace Go.Pd
open Go Go.Proofs
theorem mixed : Tryd.prog.follows .mixedOrders = true := by kernel_rfl
/-- The table of math/bits. -/
instance tabs09 : Tabs := ⟨[(1, Lib.deBruijn64tab.map fun (n : Nat) => Value.int .u8 (n : Int))]⟩
theorem shrNat (v w : Nat) (hw : w ≤ 60) : shrI .i64 (v : Int) (w : Int) = ((v / 2 ^ w : Nat) : Int) := by
  unfold shrI
  have e : min (w : Int).toNat IntKind.i64.bits = w := by
    have : IntKind.i64.bits = 64 := rfl
    rw [this, Int.toNat_natCast]; omega
  rw [e, Int.fdiv_eq_ediv_of_nonneg _ (by have : (0 : Int) < 2 ^ w := Int.pow_pos (by decide); omega)]
  simp
theorem and1Nat {a : Nat} (h : a < 2 ^ 62) : bitI .and .i64 (a : Int) 1 = ((a % 2 : Nat) : Int) := by
  show IntKind.i64.wrap ((BitVec.ofInt 64 (a : Int) &&& BitVec.ofInt 64 1).toNat : Int) = _
  rw [BitVec.ofInt_natCast, BitVec.toNat_and, BitVec.toNat_ofNat, Nat.mod_eq_of_lt (by omega)]
  have : (BitVec.ofInt 64 1).toNat = 1 := rfl
  rw [this, Nat.and_one_is_mod]
  exact wrap_i64 (by omega)
theorem tmod2 (a : Nat) : ((a : Int)).tmod 2 = ((a % 2 : Nat) : Int) := by
  rw [Int.tmod_eq_emod_of_nonneg (by omega)]; omega
theorem bitNat (v w : Nat) : (((v / 2 ^ w % 2 : Nat) : Int) == 1) = v.testBit w := by
  rw [Nat.testBit_eq_decide_div_mod_eq, Bool.eq_iff_iff, beq_iff_eq, decide_eq_true_iff]; omega
theorem bitNat0 (v w : Nat) : (((v / 2 ^ w % 2 : Nat) : Int) == 0) = !v.testBit w := by
  rw [Nat.testBit_eq_decide_div_mod_eq]
  rcases Nat.mod_two_eq_zero_or_one (v / 2 ^ w) with h | h <;> simp [h]
theorem div_lt62 {v : Nat} (h : v < 2 ^ 62) (w : Nat) : v / 2 ^ w < 2 ^ 62 := Nat.lt_of_le_of_lt (Nat.div_le_self _ _) h
namespace Rs
theorem nodup_le : ∀ (n : Nat) (l : List Nat), l.Nodup → (∀ x ∈ l, x < n) → l.length ≤ n
  | 0, [], _, _ => Nat.le_refl _
  | 0, x :: l, _, h => by have := h x (by simp); omega
  | n + 1, l, hn, h => by
    have h1 := nodup_le n (l.filter fun x => x != n) (hn.filter _) fun x hx => by
      rw [List.mem_filter] at hx
      have := h x hx.1
      have : x ≠ n := by simpa using hx.2
      omega
    have h2 : l.length ≤ (l.filter fun x => x != n).length + 1 := by
      clear h1
      induction l with
      | nil => simp
      | cons y l ih =>
        rw [List.nodup_cons] at hn
        by_cases e : y = n
        · subst e
          have : l.filter (fun x => x != y) = l := List.filter_eq_self.2 fun x hx => by
            have : x ≠ y := fun e => hn.1 (e ▸ hx)
            simpa using this
          rw [List.filter_cons, if_neg (by simp), this]; simp
        · rw [List.filter_cons, if_pos (by simpa using e)]
          have := ih hn.2 fun x hx => h x (by simp [hx])
          simp; omega
    omega
def mo (u : List (Int × Int)) : List (Int × D) := u.map fun p => (p.1, .int .i64 p.2)
def ulook (x : Int) : List (Int × Int) → Option Int
  | [] => none
  | (k, y) :: r => if x = k then some y else ulook x r
theorem afind_mo (x : Int) : ∀ (u : List (Int × Int)) (i : Nat), (ulook x u = none ∧ afind x (mo u) i = none) ∨ ∃ y j, ulook x u = some y ∧ afind x (mo u) i = some (j, .int .i64 y)
  | [], i => .inl ⟨rfl, rfl⟩
  | (k, y) :: r, i => by
    show (ulook x ((k, y) :: r) = none ∧ afind x ((k, .int .i64 y) :: mo r) i = none) ∨ ∃ y' j, ulook x ((k, y) :: r) = some y' ∧ afind x ((k, .int .i64 y) :: mo r) i = some (j, .int .i64 y')
    unfold ulook afind
    by_cases h : x = k
    · rw [if_pos h, if_pos h]; exact .inr ⟨y, i, rfl, rfl⟩
    · rw [if_neg h, if_neg h]; exact afind_mo x r (i + 1)
theorem grow_viewL {nx n key sz : Nat} {objs : List (Nat × Ob)} {els : List (List D)} (hs : 0 < sz) (hp : ∀ e ∈ els, D.isPureL e = true) (h : St.look objs key = growG sz els) {ρ : Nat → Nat} : vw ⟨nx, objs⟩ ⟨n, []⟩ ρ (growD key sz els) (.sl sz els) := by
  cases els with
  | nil => simp [growD, vw]
  | cons e t =>
    simp only [growD, vw]
    exact ⟨trivial, hs, by simp, ⟨sz, e :: t⟩, h, rfl, Nat.le_refl _, by simp, hp⟩
end Rs
def ren73 : Go.Shelf.Ren where
  f := fun x => match x with | 29 => 73 | n => n
  t := fun x => match x with | 22 => 24 | 25 => 43 | 54 => 103 | n => n
  g := fun x => match x with | n => n

theorem lays73 : Lays7.n29 Tryd.prog ren73 :=
  { mixed := Eq.refl true, f29 := Eq.trans Tryd.func73 (congrArg some (by kernel_rfl)),
    t0 := Tryd.underlying0, a0 := Tryd.isAgg0, z0 := Tryd.sizeOf0, v0 := Tryd.zeroValue0,
    i0 := Eq.refl (some (some (Value.tuple #[]), 1, 0)), t3 := Tryd.underlying3, a3 := Tryd.isAgg3, z3 := Tryd.sizeOf3,
    v3 := Tryd.zeroValue3, i3 := Eq.refl (some (some (Value.int IntKind.i64 0), 1, 8)), t4 := Tryd.underlying4,
    a4 := Tryd.isAgg4, z4 := Tryd.sizeOf4, v4 := Tryd.zeroValue4, i4 := Eq.refl (some (some (Value.bool false), 1, 1)),
    t5 := Tryd.underlying5, a5 := Tryd.isAgg5, z5 := Tryd.sizeOf5, v5 := Tryd.zeroValue5,
    i5 := Eq.refl (some (some (Value.int IntKind.u8 0), 1, 1)), t22 := Tryd.underlying24, a22 := Tryd.isAgg24,
    z22 := Tryd.sizeOf24, v22 := Tryd.zeroValue24, i22 := Eq.refl (some (some (Value.int IntKind.u64 0), 1, 8)),
    t25 := Tryd.underlying43, a25 := Tryd.isAgg43, z25 := Tryd.sizeOf43, v25 := Tryd.zeroValue43,
    i25 := Eq.refl (some (some (Value.int IntKind.u64 0), 1, 8)), t54 := Tryd.underlying103, a54 := Tryd.isAgg103,
    z54 := Tryd.sizeOf103, g1 := by kernel_rfl }

def tz (s : BitVec 64) : Nat := Lib.ctz 64 s.toNat

theorem tz_runs (s : BitVec 64) : Runs Tryd.prog 73 [.int .u64 (ui s)] (.int .i64 (tz s)) := by
  refine ⟨⟨_, Tryd.func73, by kernel_rfl, by kernel_rfl⟩, fun M0 w ι vals hS hl hv => ?_⟩
  have h0 := hv 0 (by simp)
  simp only [List.getD_cons_zero] at h0
  have e0 : vals = #[.int .u64 (s.toNat : Int)] := by
    have : vals.getD 0 undef = .int .u64 (ui s) := by
      exact h0.int_inv.1
    obtain ⟨l⟩ := vals
    match l, hl with
    | [v], _ => simp at this; rw [this]; rfl
  subst e0
  have hT : TabAt (ren73.g 1) Lib.deBruijn64tab w := by
    intro j hj
    obtain ⟨_, _, h3⟩ := hS.tabs (1, Lib.deBruijn64tab.map fun (n : Nat) => Value.int .u8 (n : Int)) (by simp [Tabs.tabs])
    refine h3 j _ ?_
    simp [List.getD, hj]
  refine (Any7.bits_TrailingZeros64 lays73 s.toNat s.isLt w fun _ => hT).mono fun e w' hh => ?_
  obtain ⟨rfl, rfl⟩ := hh
  refine ⟨_, ι, rfl, Kept.refl _ _, hS, Nat.le_refl _, fun _ _ => rfl, (fun k o hk => by cases hk), R.pure (RP.int ?_)⟩
  have : tz s ≤ 64 := by
    unfold tz
    by_cases h : s.toNat = 0
    · simp [Lib.ctz, h]
    · exact Nat.le_of_lt (Lib.lowest_bit 64 _ h s.isLt).2
  have e1 : IntKind.i64.min = -9223372036854775808 := rfl
  have e2 : IntKind.i64.max = 9223372036854775807 := rfl
  unfold tz at this
  omega
end Go.Pd
