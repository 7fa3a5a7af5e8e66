/- Part F0. -/
import Derived.Test.YtjklmijiccabfaaKX9
import Derived.Test.YtjklmijiccabfaaKXH
set_option linter.unusedSectionVars false
set_option linter.unusedVariables false
set_option linter.unusedSimpArgs false
set_option linter.defProp false
set_option maxRecDepth 20000
set_option maxHeartbeats 1000000
namespace Go.Pd
open Go Go.Proofs
theorem mixed : Try.prog.follows .mixedOrders = true := by kernel_rfl
instance : Tabs := ⟨[]⟩
theorem shrNat (v w : Nat) (hw : w ≤ 60) : shrI .i64 (v : Int) (w : Int) = ((v / 2 ^ w : Nat) : Int) := by
 unfold shrI
 have e : min (w : Int).toNat IntKind.i64.bits = w := by
  have : IntKind.i64.bits = 64 := rfl
  rw [this, Int.toNat_natCast]; omega
 rw [e, Int.fdiv_eq_ediv_of_nonneg _ (by have : (0 : Int) < 2 ^ w := Int.pow_pos (by decide); omega)]
 simp
theorem and1Nat {a : Nat} (h : a < 2 ^ 62) : bitI .and .i64 (a : Int) 1 = ((a % 2 : Nat) : Int) := by
 show IntKind.i64.wrap ((BitVec.ofInt 64 (a : Int) &&& BitVec.ofInt 64 1).toNat : Int) = _
 rw [BitVec.ofInt_natCast, BitVec.toNat_and, BitVec.toNat_ofNat, Nat.mod_eq_of_lt (by omega)]
 have : (BitVec.ofInt 64 1).toNat = 1 := rfl
 rw [this, Nat.and_one_is_mod]
 exact wrap_i64 (by omega)
theorem bitNat (v w : Nat) : (((v / 2 ^ w % 2 : Nat) : Int) == 1) = v.testBit w := by
 rw [Nat.testBit_eq_decide_div_mod_eq, Bool.eq_iff_iff, beq_iff_eq, decide_eq_true_iff]; omega
namespace Rs
theorem nodup_le : ∀ (n : Nat) (l : List Nat), l.Nodup → (∀ x ∈ l, x < n) → l.length ≤ n
 | 0, [], _, _ => Nat.le_refl _
 | 0, x :: l, _, h => by have := h x (by simp); omega
 | n + 1, l, hn, h => by
  have h1 := nodup_le n (l.filter fun x => x != n) (hn.filter _) fun x hx => by
   rw [List.mem_filter] at hx
   have := h x hx.1
   have : x ≠ n := by simpa using hx.2
   omega
  have h2 : l.length ≤ (l.filter fun x => x != n).length + 1 := by
   clear h1
   induction l with
   | nil => simp
   | cons y l ih =>
    rw [List.nodup_cons] at hn
    by_cases e : y = n
    ·subst e
     have : l.filter (fun x => x != y) = l := List.filter_eq_self.2 fun x hx => by
      have : x ≠ y := fun e => hn.1 (e ▸ hx)
      simpa using this
     rw [List.filter_cons, if_neg (by simp), this]; simp
    ·rw [List.filter_cons, if_pos (by simpa using e)]
     have := ih hn.2 fun x hx => h x (by simp [hx])
     simp; omega
  omega
def mo (u : List (Int × Int)) : List (Int × D) := u.map fun p => (p.1, .int .i64 p.2)
def ulook (x : Int) : List (Int × Int) → Option Int
 | [] => none
 | (k, y) :: r => if x = k then some y else ulook x r
theorem afind_mo (x : Int) : ∀ (u : List (Int × Int)) (i : Nat), (ulook x u = none ∧ afind x (mo u) i = none) ∨ ∃ y j, ulook x u = some y ∧ afind x (mo u) i = some (j, .int .i64 y)
 | [], i => .inl ⟨rfl, rfl⟩
 | (k, y) :: r, i => by
  show (ulook x ((k, y) :: r) = none ∧ afind x ((k, .int .i64 y) :: mo r) i = none) ∨ ∃ y' j, ulook x ((k, y) :: r) = some y' ∧ afind x ((k, .int .i64 y) :: mo r) i = some (j, .int .i64 y')
  unfold ulook afind
  by_cases h : x = k
  ·rw [if_pos h, if_pos h]; exact .inr ⟨y, i, rfl, rfl⟩
  ·rw [if_neg h, if_neg h]; exact afind_mo x r (i + 1)
theorem grow_viewL {nx n key sz : Nat} {objs : List (Nat × Ob)} {els : List (List D)} (hs : 0 < sz) (hp : ∀ e ∈ els, D.isPureL e = true) (h : St.look objs key = growG sz els) {ρ : Nat → Nat} : vw ⟨nx, objs⟩ ⟨n, []⟩ ρ (growD key sz els) (.sl sz els) := by
 cases els with
 | nil => simp [growD, vw]
 | cons e t =>
  simp only [growD, vw]
  exact ⟨trivial, hs, by simp, ⟨sz, e :: t⟩, h, rfl, Nat.le_refl _, by simp, hp⟩
end Rs
end Go.Pd
