/- Package model and its specification: contracts, part a. -/
import Derived.Test.YtkinhajadppfaaaDoorCode
import Derived.Test.YtkinhajadppfaaaDoorPdU
import Derived.Shelf.Spec.TrailingZeros
set_option linter.unusedSectionVars false
set_option linter.unusedVariables false
set_option linter.unusedSimpArgs false
set_option linter.defProp false
namespace Go.Pd
open Go Go.Proofs

theorem mixed : Tryd.prog.follows .mixedOrders = true := by kernel_rfl

/-- The table of math/bits. -/
instance tabs13 : Tabs := ⟨[(0, Lib.deBruijn64tab.map fun (n : Nat) => Value.int .u8 (n : Int))]⟩

def ren46 : Go.Shelf.Ren where
  f := fun x => match x with | 29 => 46 | n => n
  t := fun x => match x with | 22 => 31 | 25 => 69 | 54 => 68 | n => n
  g := fun x => match x with | 1 => 0 | n => n

theorem lays46 : Lays7.n29 Tryd.prog ren46 :=
  { mixed := Eq.refl true, f29 := Eq.trans Tryd.func46 (congrArg some (Eq.refl _)),
    t0 := Tryd.underlying0, a0 := Tryd.isAgg0, z0 := Tryd.sizeOf0, v0 := Tryd.zeroValue0,
    i0 := Eq.refl (some (some (Value.tuple #[]), 1, 0)), t3 := Tryd.underlying3, a3 := Tryd.isAgg3, z3 := Tryd.sizeOf3,
    v3 := Tryd.zeroValue3, i3 := Eq.refl (some (some (Value.int IntKind.i64 0), 1, 8)), t4 := Tryd.underlying4,
    a4 := Tryd.isAgg4, z4 := Tryd.sizeOf4, v4 := Tryd.zeroValue4, i4 := Eq.refl (some (some (Value.bool false), 1, 1)),
    t5 := Tryd.underlying5, a5 := Tryd.isAgg5, z5 := Tryd.sizeOf5, v5 := Tryd.zeroValue5,
    i5 := Eq.refl (some (some (Value.int IntKind.u8 0), 1, 1)), t22 := Tryd.underlying31, a22 := Tryd.isAgg31,
    z22 := Tryd.sizeOf31, v22 := Tryd.zeroValue31, i22 := Eq.refl (some (some (Value.int IntKind.u64 0), 1, 8)),
    t25 := Tryd.underlying69, a25 := Tryd.isAgg69, z25 := Tryd.sizeOf69, v25 := Tryd.zeroValue69,
    i25 := Eq.refl (some (some (Value.int IntKind.u64 0), 1, 8)), t54 := Tryd.underlying68, a54 := Tryd.isAgg68,
    z54 := Tryd.sizeOf68, g1 := by kernel_rfl }

def tz (s : BitVec 64) : Nat := Lib.ctz 64 s.toNat

theorem tz_runs (s : BitVec 64) : Runs Tryd.prog 46 [.int .u64 (ui s)] (.int .i64 (tz s)) := by
  refine ⟨⟨_, Tryd.func46, by kernel_rfl, by kernel_rfl⟩, fun M0 w ι vals hS hl hv => ?_⟩
  have h0 := hv 0 (by simp)
  simp only [List.getD_cons_zero] at h0
  have e0 : vals = #[.int .u64 (s.toNat : Int)] := by
    have : vals.getD 0 undef = .int .u64 (ui s) := by
      exact h0.int_inv.1
    obtain ⟨l⟩ := vals
    match l, hl with
    | [v], _ => simp at this; rw [this]; rfl
  subst e0
  have hT : TabAt (ren46.g 1) Lib.deBruijn64tab w := by
    intro j hj
    obtain ⟨_, _, h3⟩ := hS.tabs (0, Lib.deBruijn64tab.map fun (n : Nat) => Value.int .u8 (n : Int)) (by simp [Tabs.tabs])
    refine h3 j _ ?_
    simp [List.getD, hj]
  refine (Any7.bits_TrailingZeros64 lays46 s.toNat s.isLt w fun _ => hT).mono fun e w' hh => ?_
  obtain ⟨rfl, rfl⟩ := hh
  refine ⟨_, ι, rfl, Kept.refl _ _, hS, Nat.le_refl _, fun _ _ => rfl, (fun k o hk => by cases hk), R.pure (RP.int ?_)⟩
  have : tz s ≤ 64 := by
    unfold tz
    by_cases h : s.toNat = 0
    · simp [Lib.ctz, h]
    · exact Nat.le_of_lt (Lib.lowest_bit 64 _ h s.isLt).2
  have e1 : IntKind.i64.min = -9223372036854775808 := rfl
  have e2 : IntKind.i64.max = 9223372036854775807 := rfl
  unfold tz at this
  omega
end Go.Pd
