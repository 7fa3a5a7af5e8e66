/- Part TZ. -/
import Derived.Test.YtccobgpcnfjbhaaDoorSlF0
set_option linter.unusedSectionVars false
set_option linter.unusedVariables false
set_option linter.unusedSimpArgs false
set_option linter.defProp false
set_option maxRecDepth 20000
set_option maxHeartbeats 1000000
open Go.Proofs.Tryd
open Eq renaming refl->γ
namespace Go.Pd
open Go Go.Proofs
def ej : Go.Shelf.Ren where
 f:=λx=>match x with | 29=>41 | n=>n
 t:=λx=>match x with | 22=>40 | 25=>88 | 54=>87 | n=>n
 g:=λx=>match x with | 1=>0 | n=>n
theorem ao : Lays7.n29 prog ej:=
 { mixed:=γ true,f29:=Eq.trans func41 (congrArg some (γ _)), t0:=Tryd.underlying0,a0:=Tryd.isAgg0,z0:=Tryd.sizeOf0,v0:=Tryd.zeroValue0, i0:=γ (some (some (Value.tuple #[]),1,0)),t3:=Tryd.underlying3,a3:=Tryd.isAgg3,z3:=Tryd.sizeOf3, v3:=Tryd.zeroValue3,i3:=γ (some (some (Value.int IntKind.i64 0),1,8)),t4:=Tryd.underlying4, a4:=Tryd.isAgg4,z4:=Tryd.sizeOf4,v4:=Tryd.zeroValue4,i4:=γ (some (some (Value.bool false),1,1)), t5:=Tryd.underlying5,a5:=Tryd.isAgg5,z5:=Tryd.sizeOf5,v5:=Tryd.zeroValue5, i5:=γ (some (some (Value.int IntKind.u8 0),1,1)),t22:=Tryd.underlying40,a22:=Tryd.isAgg40, z22:=Tryd.sizeOf40,v22:=Tryd.zeroValue40,i22:=γ (some (some (Value.int IntKind.u64 0),1,8)), t25:=Tryd.underlying88,a25:=Tryd.isAgg88,z25:=Tryd.sizeOf88,v25:=Tryd.zeroValue88, i25:=γ (some (some (Value.int IntKind.u64 0),1,8)),t54:=Tryd.underlying87,a54:=Tryd.isAgg87, z54:=Tryd.sizeOf87,g1:=by kernel_rfl }
def tz (s:BitVec 64):Nat:=Lib.ctz 64 s.toNat
theorem jc (s:BitVec 64):wP prog 41 [.int .u64 (ui s)] (.int .i64 (tz s)):=by
 refine⟨⟨_,func41,by kernel_rfl,by kernel_rfl⟩,λM0 w ι vals hS hl hv=>?_⟩;have h0:=hv 0 (by simp);simp only [List.getD_cons_zero] at h0
 have e0:vals = #[.int .u64 (s.toNat:Int)]:=by
  have:vals.getD 0 undef = .int .u64 (ui s):=by exact h0.xH.1
  obtain⟨l⟩:=vals
  match l,hl with
  | [v],_=>simp at this; rw [this]; rfl
 subst e0
 have hT:TabAt (ej.g 1) Lib.deBruijn64tab w:=by intro j hj;obtain⟨_,_,h3⟩:=hS.tW (0,Lib.deBruijn64tab.map λ(n:Nat)=>Value.int .u8 (n:Int)) (by simp [zJ.tW]);refine h3 j _ ?_;simp [List.getD,hj]
 refine(Any7.bits_TrailingZeros64 ao s.toNat s.isLt w λ_=>hT).mono λe w' hh=>?_;obtain⟨rfl,rfl⟩:=hh;refine⟨_,ι,rfl,Kept.refl _ _,hS,Nat.le_refl _,λ_ _=>rfl,(λk o hk=>by cases hk),R.pure (RP.int ?_)⟩
 have:tz s<=64:=by
  unfold tz
  by_cases h:s.toNat=0
  ·simp [Lib.ctz,h]
  ·exact Nat.le_of_lt (Lib.lowest_bit 64 _ h s.isLt).2
 have e1:IntKind.i64.min = -9223372036854775808:=rfl;have e2:IntKind.i64.max=9223372036854775807:=rfl;unfold tz at this;omega
end Go.Pd
