/- Runs: the length of a word, by the shelf's contract; the functions' table. -/
import Derived.Test.YthohheekakbpbaaXF
import Derived.Test.YthohheekakbpbaaCode
import Derived.Shelf.Small.Bits
set_option linter.unusedSectionVars false
set_option linter.unusedVariables false
set_option linter.unusedSimpArgs false
set_option linter.defProp false
set_option maxRecDepth 20000
namespace Go.Pd
open Go Go.Proofs
open Go.Shelf
instance : Tabs := ⟨[]⟩
theorem mixed : Try.prog.follows .mixedOrders = true := by kernel_rfl
def ren69 : Go.Shelf.Ren where
  f := fun x => match x with | 125 => 69 | 128 => 82 | 129 => 83 | n => n
  t := fun x => match x with | 46 => 89 | 51 => 100 | 53 => 47 | n => n
  g := fun x => x
theorem lays69 : Lays.n125 Try.prog ren69 :=
  { mixed := Eq.refl true, f125 := Eq.trans Try.func69 (congrArg some (by kernel_rfl)), f128 := Eq.trans Try.func82 (congrArg some (by kernel_rfl)), f129 := Eq.trans Try.func83 (congrArg some (by kernel_rfl)),
    t3 := Try.underlying3, a3 := Try.isAgg3, z3 := Try.sizeOf3, v3 := Try.zeroValue3, t4 := Try.underlying4, a4 := Try.isAgg4, z4 := Try.sizeOf4, v4 := Try.zeroValue4, t5 := Try.underlying5,
    a5 := Try.isAgg5, z5 := Try.sizeOf5, v5 := Try.zeroValue5, t9 := Try.underlying9, a9 := Try.isAgg9, z9 := Try.sizeOf9, v9 := Try.zeroValue9, t46 := Try.underlying89, a46 := Try.isAgg89,
    z46 := Try.sizeOf89, v46 := Try.zeroValue89, t51 := Try.underlying100, a51 := Try.isAgg100, z51 := Try.sizeOf100, v51 := Try.zeroValue100, t53 := Try.underlying47, a53 := Try.isAgg47, z53 := Try.sizeOf47, v53 := Try.zeroValue47 }
theorem len69 {n : Int} (h : 0 ≤ n ∧ n ≤ 18446744073709551615) (hb : (Lib.bitLen n.toNat : Int) ≤ 9223372036854775807) : Runs Try.prog 69 [.int .u64 n] (.int .i64 (Lib.bitLen n.toNat)) := by
  refine ⟨⟨_, Try.func69, by kernel_rfl, by kernel_rfl⟩, fun M0 w ι vals hS hl hv => ?_⟩
  have h0 := hv 0 (by simp)
  simp only [List.getD_cons_zero] at h0
  have e0 : vals = #[.int .u64 n] := by
    have : vals.getD 0 undef = .int .u64 n := h0.int_inv.1
    obtain ⟨l⟩ := vals
    match l, hl with
    | [v], _ => simp at this; rw [this]
  subst e0
  refine (Any.bits_Len lays69 n w h.1 h.2).mono fun e w' hh => ?_
  obtain ⟨rfl, rfl⟩ := hh
  refine ⟨_, ι, rfl, Kept.refl _ _, hS, Nat.le_refl _, fun _ _ => rfl, (fun k o hk => by cases hk), R.pure (RP.int ?_)⟩
  have e1 : IntKind.i64.min = -9223372036854775808 := rfl
  have e2 : IntKind.i64.max = 9223372036854775807 := rfl
  omega
def Orc : Oracle := fun g args => match g, args with
  | 69, [.int .u64 n] => if (0 ≤ n ∧ n ≤ 18446744073709551615) ∧ (Lib.bitLen n.toNat : Int) ≤ 9223372036854775807 then some (.int .i64 (Lib.bitLen n.toNat)) else none
  | _, _ => none
theorem Orc_ok : OracleOk Try.prog Orc := fun g args d h σ => by
  unfold Orc at h
  split at h
  · split at h
    · rename_i hc
      simp only [Option.some.injEq] at h
      subst h
      exact CallT.of_runs (len69 hc.1 hc.2) rfl
    · cases h
  · cases h
end Go.Pd
