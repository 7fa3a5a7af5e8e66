/- Part B0. -/
import Derived.Test.YtccobgpcnfjbhaaDoorSlXF
import Derived.Test.YtccobgpcnfjbhaaDoorSlF0
import Derived.Shelf.Small.Bits
set_option linter.unusedSectionVars false
set_option linter.unusedVariables false
set_option linter.unusedSimpArgs false
set_option linter.defProp false
set_option maxRecDepth 20000
set_option maxHeartbeats 1000000
open Go.Proofs.Tryd
namespace Go.Pd
open Go Go.Proofs
open Go.Shelf
def bb : Go.Shelf.Ren where
 f:=λx=>match x with | 125=>54 | 128=>66 | 129=>67 | n=>n
 t:=λx=>match x with | 46=>88 | 51=>101 | 53=>40 | n=>n
 g:=λx=>x
theorem gp : Lays.n125 prog bb:= { mixed:=Eq.refl true,f125:=Eq.trans func54 (congrArg some (by kernel_rfl)),f128:=Eq.trans func66 (congrArg some (by kernel_rfl)),f129:=Eq.trans func67 (congrArg some (by kernel_rfl)),t3:=Tryd.underlying3,a3:=Tryd.isAgg3,z3:=Tryd.sizeOf3,v3:=Tryd.zeroValue3,t4:=Tryd.underlying4,a4:=Tryd.isAgg4,z4:=Tryd.sizeOf4,v4:=Tryd.zeroValue4,t5:=Tryd.underlying5,a5:=Tryd.isAgg5,z5:=Tryd.sizeOf5,v5:=Tryd.zeroValue5,t9:=Tryd.underlying9,a9:=Tryd.isAgg9,z9:=Tryd.sizeOf9,v9:=Tryd.zeroValue9,t46:=Tryd.underlying88,a46:=Tryd.isAgg88,z46:=Tryd.sizeOf88,v46:=Tryd.zeroValue88,t51:=Tryd.underlying101,a51:=Tryd.isAgg101,z51:=Tryd.sizeOf101,v51:=Tryd.zeroValue101,t53:=Tryd.underlying40,a53:=Tryd.isAgg40,z53:=Tryd.sizeOf40,v53:=Tryd.zeroValue40 }
theorem aq {n:Int} (h:0<=n/\n<=18446744073709551615) (hb:(Lib.bitLen n.toNat:Int)<=9223372036854775807):wP prog 54 [.int .u64 n] (.int .i64 (Lib.bitLen n.toNat)):=by
 refine⟨⟨_,func54,by kernel_rfl,by kernel_rfl⟩,λM0 w ι vals hS hl hv=>?_⟩;have h0:=hv 0 (by simp);simp only [List.getD_cons_zero] at h0
 have e0:vals = #[.int .u64 n]:=by
  have:vals.getD 0 undef = .int .u64 n:=h0.xH.1;obtain⟨l⟩:=vals
  match l,hl with
  | [v],_=>simp at this; rw [this]
 subst e0;refine(Any.bits_Len gp n w h.1 h.2).mono λe w' hh=>?_;obtain⟨rfl,rfl⟩:=hh;refine⟨_,ι,rfl,Kept.refl _ _,hS,Nat.le_refl _,λ_ _=>rfl,(λk o hk=>by cases hk),R.pure (RP.int ?_)⟩;have e1:IntKind.i64.min = -9223372036854775808:=rfl;have e2:IntKind.i64.max=9223372036854775807:=rfl;omega
def YB : lP:=λg args=>match g,args with
 | 54,[.int .u64 n]=>if (0<=n/\n<=18446744073709551615)/\ (Lib.bitLen n.toNat:Int)<=9223372036854775807 then some (.int .i64 (Lib.bitLen n.toNat)) else none
 | _,_=>none
theorem x7 : mJ prog YB:=λg args d h σ=>by
 unfold YB at h
 split at h
 ·split at h
  ·rename_i hc;simp only [Option.some.injEq] at h;subst h;exact xS.tP (aq hc.1 hc.2) rfl
  ·cases h
 ·cases h
end Go.Pd
