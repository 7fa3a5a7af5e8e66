/- Part RowKit. -/
import Derived.Test.YtccobgpcnfjbhaaRows
import Derived.Test.YtccobgpcnfjbhaaZtX9
import Derived.WalkKit
import Derived.ProofKit
import Derived.OpenShut
set_option linter.unusedSectionVars false
set_option linter.unusedVariables false
set_option linter.unusedSimpArgs false
set_option linter.defProp false
set_option maxRecDepth 20000
set_option maxHeartbeats 1000000
namespace Go.Proofs.Ytccobgpcnfjbhaa
open Go.ChangeShapes Go.WideShapes Go.ChangeAt Go.RowKit Go.Pd
theorem own : ownKnob Try.prog.godebug=none:=by kernel_rfl
theorem laidOut : laidOutB Try.prog=true:=by kernel_rfl
theorem V3 (W:World):dS W fun _=>False:=⟨fun p hp=>by simp [vU.tN] at hp,fun p hp=>by simp [vU.deep] at hp⟩
theorem Qb {M:Nat->Prop} {W:World} {v:Value} {a:D} (h:RP M W v a) (s:cX Try.prog 8 5 a):∃ n:Nat,n<256/\a = .int .u8 (n:Int):=by
 simp only [cX,Try.underlying5,rK,List.cons.injEq,and_true] at s
 obtain⟨n,rfl⟩:=s
 have hf:=h.fact
 simp only [D.fact] at hf
 have e2:IntKind.u8.max=255:=rfl
 have e1:IntKind.u8.min=0:=rfl
 exact⟨n.toNat,by omega,by rw [Int.toNat_of_nonneg (by omega)]⟩
end Go.Proofs.Ytccobgpcnfjbhaa
