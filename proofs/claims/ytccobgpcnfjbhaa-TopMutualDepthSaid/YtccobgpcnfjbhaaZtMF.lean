/- Part MF. -/
import Derived.Test.YtccobgpcnfjbhaaZtB0
import Derived.Test.YtccobgpcnfjbhaaZtQA
set_option linter.unusedSectionVars false
set_option linter.unusedVariables false
set_option linter.unusedSimpArgs false
set_option linter.defProp false
set_option maxRecDepth 20000
set_option maxHeartbeats 1000000
open Go.Proofs.Try
open List renaming not_mem_nil->γ,mem_cons->δ
namespace Go.Pd
open Go Go.Proofs
open Rs Fm Ru Te
namespace Md
def fK (k:Nat):List Nd:=⟨3,0,0,0,0,0⟩ :: (List.range k).map λ(i:Nat)=>⟨11,0,0,3,(i:Int),0⟩
end Md
open Md
theorem Tp : xK prog 8 [.int .i64 0] (.sl 6 (uS (fK 0))):=wK 40 (by kernel_rfl)
theorem Wq : xK prog 9 [.int .i64 3,.sl 6 (uS (fK 0))] (.sl 6 (uS (fK 1))):=wK 40 (by kernel_rfl)
theorem Wr : xK prog 9 [.int .i64 3,.sl 6 (uS (fK 1))] (.sl 6 (uS (fK 2))):=wK 40 (by kernel_rfl)
theorem Ws : xK prog 9 [.int .i64 3,.sl 6 (uS (fK 2))] (.sl 6 (uS (fK 3))):=wK 40 (by kernel_rfl)
theorem Wt : xK prog 9 [.int .i64 3,.sl 6 (uS (fK 3))] (.sl 6 (uS (fK 4))):=wK 40 (by kernel_rfl)
theorem Wu : xK prog 9 [.int .i64 3,.sl 6 (uS (fK 4))] (.sl 6 (uS (fK 5))):=wK 40 (by kernel_rfl)
theorem Wv : xK prog 9 [.int .i64 3,.sl 6 (uS (fK 5))] (.sl 6 (uS (fK 6))):=wK 40 (by kernel_rfl)
theorem Sp : xK prog 25 [] (.sl 6 (uS [⟨1,0,0,0,0,0⟩])):=wK 40 (by kernel_rfl)
theorem Wm : xK prog 24 [.int .i64 3,.sl 6 (uS [⟨1,0,0,0,0,0⟩]),.sl 6 (uS (fK 0))] (.sl 6 (uS [⟨1,0,0,0,0,0⟩,⟨3,0,0,0,0,0⟩,⟨13,0,0,3,0,1⟩])):=wK 40 (by kernel_rfl)
namespace Md
def TU : vI:=⟨2,1,1,[⟨[[4,4]],[0#64]⟩,⟨[[5,4]],[1#64]⟩]⟩
def TV : vI:=⟨2,1,2,[⟨[[4,4],[16,16]],[0#64,0#64]⟩,⟨[[5,4],[20,17]],[1#64,1#64]⟩,⟨[[5,4],[20,16]],[1#64,1#64]⟩]⟩
def TW : vI:=⟨2,1,3,[⟨[[4,4],[16,16],[64,64]],[0#64,0#64,0#64]⟩,⟨[[5,4],[20,17],[81,68]],[1#64,1#64,1#64]⟩,⟨[[5,4],[20,17],[80,68]],[1#64,1#64,1#64]⟩,⟨[[5,4],[20,16],[80,64]],[1#64,1#64,1#64]⟩]⟩
def TZ : vI:=⟨2,1,4,[⟨[[4,4],[16,16],[64,64],[256,256]],[0#64,0#64,0#64,0#64]⟩,⟨[[5,4],[20,17],[81,68],[324,273]],[1#64,1#64,1#64,1#64]⟩,⟨[[5,4],[20,17],[81,68],[324,272]],[1#64,1#64,1#64,1#64]⟩,⟨[[5,4],[20,17],[80,68],[320,272]],[1#64,1#64,1#64,1#64]⟩,⟨[[5,4],[20,16],[80,64],[320,256]],[1#64,1#64,1#64,1#64]⟩]⟩
def TY : vI:=⟨2,1,5,[⟨[[4,4],[16,16],[64,64],[256,256],[1024,1024]],[0#64,0#64,0#64,0#64,0#64]⟩,⟨[[5,4],[20,17],[81,68],[324,273],[1297,1092]],[1#64,1#64,1#64,1#64,1#64]⟩,⟨[[5,4],[20,17],[81,68],[324,273],[1296,1092]],[1#64,1#64,1#64,1#64,1#64]⟩,⟨[[5,4],[20,17],[81,68],[324,272],[1296,1088]],[1#64,1#64,1#64,1#64,1#64]⟩,⟨[[5,4],[20,17],[80,68],[320,272],[1280,1088]],[1#64,1#64,1#64,1#64,1#64]⟩,⟨[[5,4],[20,16],[80,64],[320,256],[1280,1024]],[1#64,1#64,1#64,1#64,1#64]⟩]⟩
end Md
end Go.Pd

/- Part L0. -/
namespace Go.Pd
open Go Go.Proofs
theorem SN : xK prog 7 [.agg [.int .i64 0,.xU]] (.xI [.agg [.int .i64 2,.int .i64 1,.int .i64 1,.sl 2 [[.sl 1 [[.sl 1 [[.int .i64 4],[.int .i64 4]]]],.sl 1 [[.int .u64 0]]],[.sl 1 [[.sl 1 [[.int .i64 5],[.int .i64 4]]]],.sl 1 [[.int .u64 1]]]]],.int .i64 0]):=wK 40 (by kernel_rfl)
def Rm : D:=.agg [.int .i64 2,.int .i64 1,.int .i64 1,.sl 2 [[.sl 1 [[.sl 1 [[.int .i64 4],[.int .i64 4]]]],.sl 1 [[.int .u64 0]]],[.sl 1 [[.sl 1 [[.int .i64 5],[.int .i64 4]]]],.sl 1 [[.int .u64 1]]]]]
def cA : FuncId × List D × D × St:=(35,[Rm],.int (.i64) 0,{ nx:=5,xY:=[] })
theorem Xu : xW prog cA.1 cA.2.1 tQ cA.2.2.1 cA.2.2.2:=yU xQ 60 (by kernel_rfl)
def cB : FuncId × List D × D × St:=(97,[Rm],.ref 2 6 0 0,{ nx:=15,xY:=[(14,{ sz:=2,xZ:=[[.int (.i64) 0,.int (.i64) 0],[.int (.i64) 1,.int (.i64) 0]] }),(13,{ sz:=1,xZ:=[[.int (.i64) 0],[.int (.i64) 1]] }),(11,{ sz:=1,xZ:=[[.int (.i64) 1]] }),(5,{ sz:=1,xZ:=[[.int (.i64) 0]] }),(2,{ sz:=6,xZ:=[[.int (.i64) 2,.int (.i64) 1,.int (.i64) 1,.sl 2 [[.sl 1 [[.sl 1 [[.int (.i64) 4],[.int (.i64) 4]]]],.sl 1 [[.int (.u64) 0]]],[.sl 1 [[.sl 1 [[.int (.i64) 5],[.int (.i64) 4]]]],.sl 1 [[.int (.u64) 1]]]],.xP 14 2 2,.xG 1]] }),(1,{ sz:=0,xZ:=[[.agg [.int (.i64) 0,.int (.i64) 4],.xP 5 1 1],[.agg [.int (.i64) 1,.int (.i64) 4],.xP 13 1 2],[.agg [.int (.i64) 0,.int (.i64) 5],.xP 11 1 1]] })] })
theorem Xv : xW prog cB.1 cB.2.1 tQ cB.2.2.1 cB.2.2.2:=yU xQ 60 (by kernel_rfl)
def Qv : eC:=[cA,cB]
theorem bh : qM Qv:=λm h=>by
 simp only [Qv,δ,γ,or_false] at h
 rcases h with rfl | rfl
 ·exact Xu
 ·exact Xv
theorem ka : xK prog 12 [Rm,.agg [.int .i64 0,.int .i64 0]] (.xI [.int .i64 0,.int .i64 0]):=xO (xR bh xQ) 60 (by kernel_rfl)
theorem kb : xK prog 12 [Rm,.agg [.int .i64 1,.int .i64 0]] (.xI [.int .i64 0,.int .i64 0]):=xO (xR bh xQ) 60 (by kernel_rfl)
theorem SO : xK prog 7 [.agg [.int .i64 1,.sl 3 [[.int .i64 0,.int .i64 5,.int .i64 1]]]] (.xI [.agg [.int .i64 2,.int .i64 1,.int .i64 2,.sl 2 [[.sl 1 [[.sl 1 [[.int .i64 4],[.int .i64 4]]],[.sl 1 [[.int .i64 16],[.int .i64 16]]]],.sl 1 [[.int .u64 0],[.int .u64 0]]],[.sl 1 [[.sl 1 [[.int .i64 5],[.int .i64 4]]],[.sl 1 [[.int .i64 20],[.int .i64 17]]]],.sl 1 [[.int .u64 1],[.int .u64 1]]],[.sl 1 [[.sl 1 [[.int .i64 5],[.int .i64 4]]],[.sl 1 [[.int .i64 20],[.int .i64 16]]]],.sl 1 [[.int .u64 1],[.int .u64 1]]]]],.int .i64 0]):=wK 40 (by kernel_rfl)
def Wc : D:=.agg [.int .i64 2,.int .i64 1,.int .i64 2,.sl 2 [[.sl 1 [[.sl 1 [[.int .i64 4],[.int .i64 4]]],[.sl 1 [[.int .i64 16],[.int .i64 16]]]],.sl 1 [[.int .u64 0],[.int .u64 0]]],[.sl 1 [[.sl 1 [[.int .i64 5],[.int .i64 4]]],[.sl 1 [[.int .i64 20],[.int .i64 17]]]],.sl 1 [[.int .u64 1],[.int .u64 1]]],[.sl 1 [[.sl 1 [[.int .i64 5],[.int .i64 4]]],[.sl 1 [[.int .i64 20],[.int .i64 16]]]],.sl 1 [[.int .u64 1],[.int .u64 1]]]]]
def cC : FuncId × List D × D × St:=(35,[Wc],.int (.i64) 0,{ nx:=7,xY:=[] })
theorem Xw : xW prog cC.1 cC.2.1 tQ cC.2.2.1 cC.2.2.2:=yU xQ 60 (by kernel_rfl)
def cD : FuncId × List D × D × St:=(97,[Wc],.ref 2 6 0 0,{ nx:=36,xY:=[(35,{ sz:=2,xZ:=[[.int (.i64) 0,.int (.i64) 0],[.int (.i64) 0,.int (.i64) 1],[.int (.i64) 1,.int (.i64) 0],[.int (.i64) 1,.int (.i64) 1],[.int (.i64) 2,.int (.i64) 0],[.int (.i64) 2,.int (.i64) 1]] }),(34,{ sz:=1,xZ:=[[.int (.i64) 1],[.int (.i64) 5]] }),(32,{ sz:=1,xZ:=[[.int (.i64) 3],[.int (.i64) 5]] }),(29,{ sz:=1,xZ:=[[.int (.i64) 0],[.int (.i64) 2],[.int (.i64) 4]] }),(27,{ sz:=1,xZ:=[[.int (.i64) 2],[.int (.i64) 4]] }),(23,{ sz:=1,xZ:=[[.int (.i64) 3]] }),(10,{ sz:=1,xZ:=[[.int (.i64) 1]] }),(5,{ sz:=1,xZ:=[[.int (.i64) 0]] }),(2,{ sz:=6,xZ:=[[.int (.i64) 2,.int (.i64) 1,.int (.i64) 2,.sl 2 [[.sl 1 [[.sl 1 [[.int (.i64) 4],[.int (.i64) 4]]],[.sl 1 [[.int (.i64) 16],[.int (.i64) 16]]]],.sl 1 [[.int (.u64) 0],[.int (.u64) 0]]],[.sl 1 [[.sl 1 [[.int (.i64) 5],[.int (.i64) 4]]],[.sl 1 [[.int (.i64) 20],[.int (.i64) 17]]]],.sl 1 [[.int (.u64) 1],[.int (.u64) 1]]],[.sl 1 [[.sl 1 [[.int (.i64) 5],[.int (.i64) 4]]],[.sl 1 [[.int (.i64) 20],[.int (.i64) 16]]]],.sl 1 [[.int (.u64) 1],[.int (.u64) 1]]]],.xP 35 2 6,.xG 1]] }),(1,{ sz:=0,xZ:=[[.agg [.int (.i64) 0,.int (.i64) 4],.xP 5 1 1],[.agg [.int (.i64) 1,.int (.i64) 4],.xP 29 1 3],[.agg [.int (.i64) 0,.int (.i64) 16],.xP 10 1 1],[.agg [.int (.i64) 1,.int (.i64) 16],.xP 34 1 2],[.agg [.int (.i64) 0,.int (.i64) 5],.xP 27 1 2],[.agg [.int (.i64) 0,.int (.i64) 20],.xP 32 1 2],[.agg [.int (.i64) 1,.int (.i64) 17],.xP 23 1 1]] })] })
theorem Xz : xW prog cD.1 cD.2.1 tQ cD.2.2.1 cD.2.2.2:=yU xQ 60 (by kernel_rfl)
def Qw : eC:=[cC,cD]
theorem lE : qM Qw:=λm h=>by
 simp only [Qw,δ,γ,or_false] at h
 rcases h with rfl | rfl
 ·exact Xw
 ·exact Xz
theorem kd : xK prog 12 [Wc,.agg [.int .i64 0,.int .i64 0]] (.xI [.int .i64 0,.int .i64 0]):=xO (xR lE xQ) 60 (by kernel_rfl)
theorem ke : xK prog 12 [Wc,.agg [.int .i64 0,.int .i64 1]] (.xI [.int .i64 0,.int .i64 0]):=xO (xR lE xQ) 60 (by kernel_rfl)
theorem kf : xK prog 12 [Wc,.agg [.int .i64 1,.int .i64 0]] (.xI [.int .i64 0,.int .i64 0]):=xO (xR lE xQ) 60 (by kernel_rfl)
theorem kg : xK prog 12 [Wc,.agg [.int .i64 1,.int .i64 1]] (.xI [.int .i64 1,.int .i64 0]):=xO (xR lE xQ) 60 (by kernel_rfl)
theorem kh : xK prog 12 [Wc,.agg [.int .i64 2,.int .i64 0]] (.xI [.int .i64 0,.int .i64 0]):=xO (xR lE xQ) 60 (by kernel_rfl)
theorem ki : xK prog 12 [Wc,.agg [.int .i64 2,.int .i64 1]] (.xI [.int .i64 0,.int .i64 0]):=xO (xR lE xQ) 60 (by kernel_rfl)
theorem SP : xK prog 7 [.agg [.int .i64 2,.sl 3 [[.int .i64 0,.int .i64 5,.int .i64 1],[.int .i64 1,.int .i64 17,.int .i64 1]]]] (.xI [.agg [.int .i64 2,.int .i64 1,.int .i64 3,.sl 2 [[.sl 1 [[.sl 1 [[.int .i64 4],[.int .i64 4]]],[.sl 1 [[.int .i64 16],[.int .i64 16]]],[.sl 1 [[.int .i64 64],[.int .i64 64]]]],.sl 1 [[.int .u64 0],[.int .u64 0],[.int .u64 0]]],[.sl 1 [[.sl 1 [[.int .i64 5],[.int .i64 4]]],[.sl 1 [[.int .i64 20],[.int .i64 17]]],[.sl 1 [[.int .i64 81],[.int .i64 68]]]],.sl 1 [[.int .u64 1],[.int .u64 1],[.int .u64 1]]],[.sl 1 [[.sl 1 [[.int .i64 5],[.int .i64 4]]],[.sl 1 [[.int .i64 20],[.int .i64 17]]],[.sl 1 [[.int .i64 80],[.int .i64 68]]]],.sl 1 [[.int .u64 1],[.int .u64 1],[.int .u64 1]]],[.sl 1 [[.sl 1 [[.int .i64 5],[.int .i64 4]]],[.sl 1 [[.int .i64 20],[.int .i64 16]]],[.sl 1 [[.int .i64 80],[.int .i64 64]]]],.sl 1 [[.int .u64 1],[.int .u64 1],[.int .u64 1]]]]],.int .i64 0]):=wK 40 (by kernel_rfl)
def ju : D:=.agg [.int .i64 2,.int .i64 1,.int .i64 3,.sl 2 [[.sl 1 [[.sl 1 [[.int .i64 4],[.int .i64 4]]],[.sl 1 [[.int .i64 16],[.int .i64 16]]],[.sl 1 [[.int .i64 64],[.int .i64 64]]]],.sl 1 [[.int .u64 0],[.int .u64 0],[.int .u64 0]]],[.sl 1 [[.sl 1 [[.int .i64 5],[.int .i64 4]]],[.sl 1 [[.int .i64 20],[.int .i64 17]]],[.sl 1 [[.int .i64 81],[.int .i64 68]]]],.sl 1 [[.int .u64 1],[.int .u64 1],[.int .u64 1]]],[.sl 1 [[.sl 1 [[.int .i64 5],[.int .i64 4]]],[.sl 1 [[.int .i64 20],[.int .i64 17]]],[.sl 1 [[.int .i64 80],[.int .i64 68]]]],.sl 1 [[.int .u64 1],[.int .u64 1],[.int .u64 1]]],[.sl 1 [[.sl 1 [[.int .i64 5],[.int .i64 4]]],[.sl 1 [[.int .i64 20],[.int .i64 16]]],[.sl 1 [[.int .i64 80],[.int .i64 64]]]],.sl 1 [[.int .u64 1],[.int .u64 1],[.int .u64 1]]]]]
def cE : FuncId × List D × D × St:=(35,[ju],.int (.i64) 0,{ nx:=9,xY:=[] })
theorem Xy : xW prog cE.1 cE.2.1 tQ cE.2.2.1 cE.2.2.2:=yU xQ 60 (by kernel_rfl)
def cF : FuncId × List D × D × St:=(97,[ju],.ref 2 6 0 0,{ nx:=67,xY:=[(66,{ sz:=2,xZ:=[[.int (.i64) 0,.int (.i64) 0],[.int (.i64) 0,.int (.i64) 1],[.int (.i64) 0,.int (.i64) 2],[.int (.i64) 1,.int (.i64) 0],[.int (.i64) 1,.int (.i64) 1],[.int (.i64) 1,.int (.i64) 2],[.int (.i64) 2,.int (.i64) 0],[.int (.i64) 2,.int (.i64) 1],[.int (.i64) 2,.int (.i64) 2],[.int (.i64) 3,.int (.i64) 0],[.int (.i64) 3,.int (.i64) 1],[.int (.i64) 3,.int (.i64) 2]] }),(65,{ sz:=1,xZ:=[[.int (.i64) 2],[.int (.i64) 11]] }),(63,{ sz:=1,xZ:=[[.int (.i64) 8],[.int (.i64) 11]] }),(60,{ sz:=1,xZ:=[[.int (.i64) 1],[.int (.i64) 10]] }),(58,{ sz:=1,xZ:=[[.int (.i64) 4],[.int (.i64) 7],[.int (.i64) 10]] }),(55,{ sz:=1,xZ:=[[.int (.i64) 0],[.int (.i64) 3],[.int (.i64) 6],[.int (.i64) 9]] }),(53,{ sz:=1,xZ:=[[.int (.i64) 3],[.int (.i64) 6],[.int (.i64) 9]] }),(49,{ sz:=1,xZ:=[[.int (.i64) 5],[.int (.i64) 8]] }),(44,{ sz:=1,xZ:=[[.int (.i64) 4],[.int (.i64) 7]] }),(31,{ sz:=1,xZ:=[[.int (.i64) 5]] }),(15,{ sz:=1,xZ:=[[.int (.i64) 2]] }),(10,{ sz:=1,xZ:=[[.int (.i64) 1]] }),(5,{ sz:=1,xZ:=[[.int (.i64) 0]] }),(2,{ sz:=6,xZ:=[[.int (.i64) 2,.int (.i64) 1,.int (.i64) 3,.sl 2 [[.sl 1 [[.sl 1 [[.int (.i64) 4],[.int (.i64) 4]]],[.sl 1 [[.int (.i64) 16],[.int (.i64) 16]]],[.sl 1 [[.int (.i64) 64],[.int (.i64) 64]]]],.sl 1 [[.int (.u64) 0],[.int (.u64) 0],[.int (.u64) 0]]],[.sl 1 [[.sl 1 [[.int (.i64) 5],[.int (.i64) 4]]],[.sl 1 [[.int (.i64) 20],[.int (.i64) 17]]],[.sl 1 [[.int (.i64) 81],[.int (.i64) 68]]]],.sl 1 [[.int (.u64) 1],[.int (.u64) 1],[.int (.u64) 1]]],[.sl 1 [[.sl 1 [[.int (.i64) 5],[.int (.i64) 4]]],[.sl 1 [[.int (.i64) 20],[.int (.i64) 17]]],[.sl 1 [[.int (.i64) 80],[.int (.i64) 68]]]],.sl 1 [[.int (.u64) 1],[.int (.u64) 1],[.int (.u64) 1]]],[.sl 1 [[.sl 1 [[.int (.i64) 5],[.int (.i64) 4]]],[.sl 1 [[.int (.i64) 20],[.int (.i64) 16]]],[.sl 1 [[.int (.i64) 80],[.int (.i64) 64]]]],.sl 1 [[.int (.u64) 1],[.int (.u64) 1],[.int (.u64) 1]]]],.xP 66 2 12,.xG 1]] }),(1,{ sz:=0,xZ:=[[.agg [.int (.i64) 0,.int (.i64) 4],.xP 5 1 1],[.agg [.int (.i64) 1,.int (.i64) 4],.xP 55 1 4],[.agg [.int (.i64) 0,.int (.i64) 16],.xP 10 1 1],[.agg [.int (.i64) 1,.int (.i64) 16],.xP 60 1 2],[.agg [.int (.i64) 0,.int (.i64) 64],.xP 15 1 1],[.agg [.int (.i64) 1,.int (.i64) 64],.xP 65 1 2],[.agg [.int (.i64) 0,.int (.i64) 5],.xP 53 1 3],[.agg [.int (.i64) 0,.int (.i64) 20],.xP 58 1 3],[.agg [.int (.i64) 1,.int (.i64) 17],.xP 44 1 2],[.agg [.int (.i64) 0,.int (.i64) 81],.xP 31 1 1],[.agg [.int (.i64) 1,.int (.i64) 68],.xP 49 1 2],[.agg [.int (.i64) 0,.int (.i64) 80],.xP 63 1 2]] })] })
theorem Xx : xW prog cF.1 cF.2.1 tQ cF.2.2.1 cF.2.2.2:=yU xQ 60 (by kernel_rfl)
def Qz : eC:=[cE,cF]
theorem tH : qM Qz:=λm h=>by
 simp only [Qz,δ,γ,or_false] at h
 rcases h with rfl | rfl
 ·exact Xy
 ·exact Xx
theorem kj : xK prog 12 [ju,.agg [.int .i64 0,.int .i64 0]] (.xI [.int .i64 0,.int .i64 0]):=xO (xR tH xQ) 60 (by kernel_rfl)
theorem kl : xK prog 12 [ju,.agg [.int .i64 0,.int .i64 1]] (.xI [.int .i64 0,.int .i64 0]):=xO (xR tH xQ) 60 (by kernel_rfl)
theorem kn : xK prog 12 [ju,.agg [.int .i64 0,.int .i64 2]] (.xI [.int .i64 0,.int .i64 0]):=xO (xR tH xQ) 60 (by kernel_rfl)
theorem ko : xK prog 12 [ju,.agg [.int .i64 1,.int .i64 0]] (.xI [.int .i64 0,.int .i64 0]):=xO (xR tH xQ) 60 (by kernel_rfl)
theorem kp : xK prog 12 [ju,.agg [.int .i64 1,.int .i64 1]] (.xI [.int .i64 1,.int .i64 0]):=xO (xR tH xQ) 60 (by kernel_rfl)
theorem ku : xK prog 12 [ju,.agg [.int .i64 1,.int .i64 2]] (.xI [.int .i64 2,.int .i64 0]):=xO (xR tH xQ) 60 (by kernel_rfl)
theorem la : xK prog 12 [ju,.agg [.int .i64 2,.int .i64 0]] (.xI [.int .i64 0,.int .i64 0]):=xO (xR tH xQ) 60 (by kernel_rfl)
theorem lb : xK prog 12 [ju,.agg [.int .i64 2,.int .i64 1]] (.xI [.int .i64 1,.int .i64 0]):=xO (xR tH xQ) 60 (by kernel_rfl)
theorem ld : xK prog 12 [ju,.agg [.int .i64 2,.int .i64 2]] (.xI [.int .i64 1,.int .i64 0]):=xO (xR tH xQ) 60 (by kernel_rfl)
theorem lf : xK prog 12 [ju,.agg [.int .i64 3,.int .i64 0]] (.xI [.int .i64 0,.int .i64 0]):=xO (xR tH xQ) 60 (by kernel_rfl)
theorem lg : xK prog 12 [ju,.agg [.int .i64 3,.int .i64 1]] (.xI [.int .i64 0,.int .i64 0]):=xO (xR tH xQ) 60 (by kernel_rfl)
theorem lh : xK prog 12 [ju,.agg [.int .i64 3,.int .i64 2]] (.xI [.int .i64 0,.int .i64 0]):=xO (xR tH xQ) 60 (by kernel_rfl)
def si : FuncId × List D × D × St:=(32,[.agg [.int .i64 3,.sl 3 [[.int .i64 0,.int .i64 5,.int .i64 1],[.int .i64 0,.int .i64 81,.int .i64 1],[.int .i64 1,.int .i64 17,.int .i64 1]]],.int .i64 0,.sl 1 [[.int .i64 0]]],.xI [.agg [.xP 13 1 2,.xP 14 1 2],.xP 9 1 1],{ nx:=15,xY:=[(14,{ sz:=1,xZ:=[[.int (.u64) 0],[.int (.u64) 0]] }),(13,{ sz:=1,xZ:=[[.xP 7 1 2],[.xP 11 1 2]] }),(11,{ sz:=1,xZ:=[[.int (.i64) 16],[.int (.i64) 16]] }),(9,{ sz:=1,xZ:=[[.int (.i64) 0]] }),(7,{ sz:=1,xZ:=[[.int (.i64) 4],[.int (.i64) 4]] })] })
theorem Zr : xW prog si.1 si.2.1 tQ si.2.2.1 si.2.2.2:=yU xQ 40 (by kernel_rfl)
def sj : FuncId × List D × D × St:=(32,[.agg [.int .i64 3,.sl 3 [[.int .i64 0,.int .i64 5,.int .i64 1],[.int .i64 0,.int .i64 81,.int .i64 1],[.int .i64 1,.int .i64 17,.int .i64 1]]],.int .i64 0,.sl 1 [[.int .i64 0],[.int .i64 0]]],.xI [.agg [.xP 20 1 3,.xP 21 1 3],.xP 16 1 2],{ nx:=22,xY:=[(21,{ sz:=1,xZ:=[[.int (.u64) 0],[.int (.u64) 0],[.int (.u64) 0]] }),(20,{ sz:=1,xZ:=[[.xP 7 1 2],[.xP 11 1 2],[.xP 18 1 2]] }),(18,{ sz:=1,xZ:=[[.int (.i64) 64],[.int (.i64) 64]] }),(16,{ sz:=1,xZ:=[[.int (.i64) 0],[.int (.i64) 0]] }),(11,{ sz:=1,xZ:=[[.int (.i64) 16],[.int (.i64) 16]] }),(7,{ sz:=1,xZ:=[[.int (.i64) 4],[.int (.i64) 4]] })] })
theorem Zs : xW prog sj.1 sj.2.1 tQ sj.2.2.1 sj.2.2.2:=yU xQ 40 (by kernel_rfl)
def sm : FuncId × List D × D × St:=(32,[.agg [.int .i64 3,.sl 3 [[.int .i64 0,.int .i64 5,.int .i64 1],[.int .i64 0,.int .i64 81,.int .i64 1],[.int .i64 1,.int .i64 17,.int .i64 1]]],.int .i64 0,.sl 1 [[.int .i64 0],[.int .i64 0],[.int .i64 0]]],.xI [.agg [.xP 27 1 4,.xP 28 1 4],.xP 23 1 3],{ nx:=29,xY:=[(28,{ sz:=1,xZ:=[[.int (.u64) 0],[.int (.u64) 0],[.int (.u64) 0],[.int (.u64) 0]] }),(27,{ sz:=1,xZ:=[[.xP 7 1 2],[.xP 11 1 2],[.xP 18 1 2],[.xP 25 1 2]] }),(25,{ sz:=1,xZ:=[[.int (.i64) 256],[.int (.i64) 256]] }),(23,{ sz:=1,xZ:=[[.int (.i64) 0],[.int (.i64) 0],[.int (.i64) 0]] }),(18,{ sz:=1,xZ:=[[.int (.i64) 64],[.int (.i64) 64]] }),(11,{ sz:=1,xZ:=[[.int (.i64) 16],[.int (.i64) 16]] }),(7,{ sz:=1,xZ:=[[.int (.i64) 4],[.int (.i64) 4]] })] })
theorem Zt : xW prog sm.1 sm.2.1 tQ sm.2.2.1 sm.2.2.2:=yU xQ 40 (by kernel_rfl)
def sn : FuncId × List D × D × St:=(32,[.agg [.int .i64 3,.sl 3 [[.int .i64 0,.int .i64 5,.int .i64 1],[.int .i64 0,.int .i64 81,.int .i64 1],[.int .i64 1,.int .i64 17,.int .i64 1]]],.int .i64 1,.sl 1 [[.int .i64 0]]],.xI [.agg [.xP 13 1 2,.xP 14 1 2],.xP 9 1 1],{ nx:=15,xY:=[(14,{ sz:=1,xZ:=[[.int (.u64) 1],[.int (.u64) 1]] }),(13,{ sz:=1,xZ:=[[.xP 7 1 2],[.xP 11 1 2]] }),(11,{ sz:=1,xZ:=[[.int (.i64) 20],[.int (.i64) 17]] }),(9,{ sz:=1,xZ:=[[.int (.i64) 1]] }),(7,{ sz:=1,xZ:=[[.int (.i64) 5],[.int (.i64) 4]] })] })
theorem Zu : xW prog sn.1 sn.2.1 tQ sn.2.2.1 sn.2.2.2:=yU xQ 40 (by kernel_rfl)
def sq : FuncId × List D × D × St:=(32,[.agg [.int .i64 3,.sl 3 [[.int .i64 0,.int .i64 5,.int .i64 1],[.int .i64 0,.int .i64 81,.int .i64 1],[.int .i64 1,.int .i64 17,.int .i64 1]]],.int .i64 1,.sl 1 [[.int .i64 0],[.int .i64 0]]],.xI [.agg [.xP 20 1 3,.xP 21 1 3],.xP 16 1 2],{ nx:=22,xY:=[(21,{ sz:=1,xZ:=[[.int (.u64) 1],[.int (.u64) 1],[.int (.u64) 1]] }),(20,{ sz:=1,xZ:=[[.xP 7 1 2],[.xP 11 1 2],[.xP 18 1 2]] }),(18,{ sz:=1,xZ:=[[.int (.i64) 81],[.int (.i64) 68]] }),(16,{ sz:=1,xZ:=[[.int (.i64) 1],[.int (.i64) 2]] }),(11,{ sz:=1,xZ:=[[.int (.i64) 20],[.int (.i64) 17]] }),(7,{ sz:=1,xZ:=[[.int (.i64) 5],[.int (.i64) 4]] })] })
theorem Zv : xW prog sq.1 sq.2.1 tQ sq.2.2.1 sq.2.2.2:=yU xQ 40 (by kernel_rfl)
def sr : FuncId × List D × D × St:=(32,[.agg [.int .i64 3,.sl 3 [[.int .i64 0,.int .i64 5,.int .i64 1],[.int .i64 0,.int .i64 81,.int .i64 1],[.int .i64 1,.int .i64 17,.int .i64 1]]],.int .i64 1,.sl 1 [[.int .i64 0],[.int .i64 0],[.int .i64 0]]],.xI [.agg [.xP 27 1 4,.xP 28 1 4],.xP 23 1 3],{ nx:=29,xY:=[(28,{ sz:=1,xZ:=[[.int (.u64) 1],[.int (.u64) 1],[.int (.u64) 1],[.int (.u64) 1]] }),(27,{ sz:=1,xZ:=[[.xP 7 1 2],[.xP 11 1 2],[.xP 18 1 2],[.xP 25 1 2]] }),(25,{ sz:=1,xZ:=[[.int (.i64) 324],[.int (.i64) 273]] }),(23,{ sz:=1,xZ:=[[.int (.i64) 1],[.int (.i64) 2],[.int (.i64) 1]] }),(18,{ sz:=1,xZ:=[[.int (.i64) 81],[.int (.i64) 68]] }),(11,{ sz:=1,xZ:=[[.int (.i64) 20],[.int (.i64) 17]] }),(7,{ sz:=1,xZ:=[[.int (.i64) 5],[.int (.i64) 4]] })] })
theorem Zw : xW prog sr.1 sr.2.1 tQ sr.2.2.1 sr.2.2.2:=yU xQ 40 (by kernel_rfl)
def ss : FuncId × List D × D × St:=(32,[.agg [.int .i64 3,.sl 3 [[.int .i64 0,.int .i64 5,.int .i64 1],[.int .i64 0,.int .i64 81,.int .i64 1],[.int .i64 1,.int .i64 17,.int .i64 1]]],.int .i64 1,.sl 1 [[.int .i64 0],[.int .i64 0],[.int .i64 1]]],.xI [.agg [.xP 27 1 4,.xP 28 1 4],.xP 23 1 3],{ nx:=29,xY:=[(28,{ sz:=1,xZ:=[[.int (.u64) 1],[.int (.u64) 1],[.int (.u64) 1],[.int (.u64) 1]] }),(27,{ sz:=1,xZ:=[[.xP 7 1 2],[.xP 11 1 2],[.xP 18 1 2],[.xP 25 1 2]] }),(25,{ sz:=1,xZ:=[[.int (.i64) 324],[.int (.i64) 272]] }),(23,{ sz:=1,xZ:=[[.int (.i64) 1],[.int (.i64) 2],[.int (.i64) 1]] }),(18,{ sz:=1,xZ:=[[.int (.i64) 81],[.int (.i64) 68]] }),(11,{ sz:=1,xZ:=[[.int (.i64) 20],[.int (.i64) 17]] }),(7,{ sz:=1,xZ:=[[.int (.i64) 5],[.int (.i64) 4]] })] })
theorem Zz : xW prog ss.1 ss.2.1 tQ ss.2.2.1 ss.2.2.2:=yU xQ 40 (by kernel_rfl)
def su : FuncId × List D × D × St:=(32,[.agg [.int .i64 3,.sl 3 [[.int .i64 0,.int .i64 5,.int .i64 1],[.int .i64 0,.int .i64 81,.int .i64 1],[.int .i64 1,.int .i64 17,.int .i64 1]]],.int .i64 1,.sl 1 [[.int .i64 0],[.int .i64 2],[.int .i64 0]]],.xI [.agg [.xP 27 1 4,.xP 28 1 4],.xP 23 1 3],{ nx:=29,xY:=[(28,{ sz:=1,xZ:=[[.int (.u64) 1],[.int (.u64) 1],[.int (.u64) 1],[.int (.u64) 1]] }),(27,{ sz:=1,xZ:=[[.xP 7 1 2],[.xP 11 1 2],[.xP 18 1 2],[.xP 25 1 2]] }),(25,{ sz:=1,xZ:=[[.int (.i64) 320],[.int (.i64) 272]] }),(23,{ sz:=1,xZ:=[[.int (.i64) 1],[.int (.i64) 2],[.int (.i64) 0]] }),(18,{ sz:=1,xZ:=[[.int (.i64) 80],[.int (.i64) 68]] }),(11,{ sz:=1,xZ:=[[.int (.i64) 20],[.int (.i64) 17]] }),(7,{ sz:=1,xZ:=[[.int (.i64) 5],[.int (.i64) 4]] })] })
theorem Zy : xW prog su.1 su.2.1 tQ su.2.2.1 su.2.2.2:=yU xQ 40 (by kernel_rfl)
def sy : FuncId × List D × D × St:=(32,[.agg [.int .i64 3,.sl 3 [[.int .i64 0,.int .i64 5,.int .i64 1],[.int .i64 0,.int .i64 81,.int .i64 1],[.int .i64 1,.int .i64 17,.int .i64 1]]],.int .i64 1,.sl 1 [[.int .i64 1],[.int .i64 0]]],.xI [.agg [.xP 20 1 3,.xP 21 1 3],.xP 16 1 2],{ nx:=22,xY:=[(21,{ sz:=1,xZ:=[[.int (.u64) 1],[.int (.u64) 1],[.int (.u64) 1]] }),(20,{ sz:=1,xZ:=[[.xP 7 1 2],[.xP 11 1 2],[.xP 18 1 2]] }),(18,{ sz:=1,xZ:=[[.int (.i64) 80],[.int (.i64) 64]] }),(16,{ sz:=1,xZ:=[[.int (.i64) 1],[.int (.i64) 0]] }),(11,{ sz:=1,xZ:=[[.int (.i64) 20],[.int (.i64) 16]] }),(7,{ sz:=1,xZ:=[[.int (.i64) 5],[.int (.i64) 4]] })] })
theorem Zx : xW prog sy.1 sy.2.1 tQ sy.2.2.1 sy.2.2.2:=yU xQ 40 (by kernel_rfl)
def tf : FuncId × List D × D × St:=(32,[.agg [.int .i64 3,.sl 3 [[.int .i64 0,.int .i64 5,.int .i64 1],[.int .i64 0,.int .i64 81,.int .i64 1],[.int .i64 1,.int .i64 17,.int .i64 1]]],.int .i64 1,.sl 1 [[.int .i64 1],[.int .i64 0],[.int .i64 0]]],.xI [.agg [.xP 27 1 4,.xP 28 1 4],.xP 23 1 3],{ nx:=29,xY:=[(28,{ sz:=1,xZ:=[[.int (.u64) 1],[.int (.u64) 1],[.int (.u64) 1],[.int (.u64) 1]] }),(27,{ sz:=1,xZ:=[[.xP 7 1 2],[.xP 11 1 2],[.xP 18 1 2],[.xP 25 1 2]] }),(25,{ sz:=1,xZ:=[[.int (.i64) 320],[.int (.i64) 256]] }),(23,{ sz:=1,xZ:=[[.int (.i64) 1],[.int (.i64) 0],[.int (.i64) 0]] }),(18,{ sz:=1,xZ:=[[.int (.i64) 80],[.int (.i64) 64]] }),(11,{ sz:=1,xZ:=[[.int (.i64) 20],[.int (.i64) 16]] }),(7,{ sz:=1,xZ:=[[.int (.i64) 5],[.int (.i64) 4]] })] })
theorem Y0 : xW prog tf.1 tf.2.1 tQ tf.2.2.1 tf.2.2.2:=yU xQ 40 (by kernel_rfl)
def RN : eC:=[si,sj,sm,sn,sq,sr,ss,su,sy,tf]
theorem Uz : qM RN:=λm h=>by
 simp only [RN,δ,γ,or_false] at h
 rcases h with rfl | rfl | rfl | rfl | rfl | rfl | rfl | rfl | rfl | rfl
 ·exact Zr
 ·exact Zs
 ·exact Zt
 ·exact Zu
 ·exact Zv
 ·exact Zw
 ·exact Zz
 ·exact Zy
 ·exact Zx
 ·exact Y0
theorem SQ : xK prog 7 [.agg [.int .i64 3,.sl 3 [[.int .i64 0,.int .i64 5,.int .i64 1],[.int .i64 0,.int .i64 81,.int .i64 1],[.int .i64 1,.int .i64 17,.int .i64 1]]]] (.xI [.agg [.int .i64 2,.int .i64 1,.int .i64 4,.sl 2 [[.sl 1 [[.sl 1 [[.int .i64 4],[.int .i64 4]]],[.sl 1 [[.int .i64 16],[.int .i64 16]]],[.sl 1 [[.int .i64 64],[.int .i64 64]]],[.sl 1 [[.int .i64 256],[.int .i64 256]]]],.sl 1 [[.int .u64 0],[.int .u64 0],[.int .u64 0],[.int .u64 0]]],[.sl 1 [[.sl 1 [[.int .i64 5],[.int .i64 4]]],[.sl 1 [[.int .i64 20],[.int .i64 17]]],[.sl 1 [[.int .i64 81],[.int .i64 68]]],[.sl 1 [[.int .i64 324],[.int .i64 273]]]],.sl 1 [[.int .u64 1],[.int .u64 1],[.int .u64 1],[.int .u64 1]]],[.sl 1 [[.sl 1 [[.int .i64 5],[.int .i64 4]]],[.sl 1 [[.int .i64 20],[.int .i64 17]]],[.sl 1 [[.int .i64 81],[.int .i64 68]]],[.sl 1 [[.int .i64 324],[.int .i64 272]]]],.sl 1 [[.int .u64 1],[.int .u64 1],[.int .u64 1],[.int .u64 1]]],[.sl 1 [[.sl 1 [[.int .i64 5],[.int .i64 4]]],[.sl 1 [[.int .i64 20],[.int .i64 17]]],[.sl 1 [[.int .i64 80],[.int .i64 68]]],[.sl 1 [[.int .i64 320],[.int .i64 272]]]],.sl 1 [[.int .u64 1],[.int .u64 1],[.int .u64 1],[.int .u64 1]]],[.sl 1 [[.sl 1 [[.int .i64 5],[.int .i64 4]]],[.sl 1 [[.int .i64 20],[.int .i64 16]]],[.sl 1 [[.int .i64 80],[.int .i64 64]]],[.sl 1 [[.int .i64 320],[.int .i64 256]]]],.sl 1 [[.int .u64 1],[.int .u64 1],[.int .u64 1],[.int .u64 1]]]]],.int .i64 0]):=xO (xR Uz xQ) 40 (by kernel_rfl)
def eS : D:=.agg [.int .i64 2,.int .i64 1,.int .i64 4,.sl 2 [[.sl 1 [[.sl 1 [[.int .i64 4],[.int .i64 4]]],[.sl 1 [[.int .i64 16],[.int .i64 16]]],[.sl 1 [[.int .i64 64],[.int .i64 64]]],[.sl 1 [[.int .i64 256],[.int .i64 256]]]],.sl 1 [[.int .u64 0],[.int .u64 0],[.int .u64 0],[.int .u64 0]]],[.sl 1 [[.sl 1 [[.int .i64 5],[.int .i64 4]]],[.sl 1 [[.int .i64 20],[.int .i64 17]]],[.sl 1 [[.int .i64 81],[.int .i64 68]]],[.sl 1 [[.int .i64 324],[.int .i64 273]]]],.sl 1 [[.int .u64 1],[.int .u64 1],[.int .u64 1],[.int .u64 1]]],[.sl 1 [[.sl 1 [[.int .i64 5],[.int .i64 4]]],[.sl 1 [[.int .i64 20],[.int .i64 17]]],[.sl 1 [[.int .i64 81],[.int .i64 68]]],[.sl 1 [[.int .i64 324],[.int .i64 272]]]],.sl 1 [[.int .u64 1],[.int .u64 1],[.int .u64 1],[.int .u64 1]]],[.sl 1 [[.sl 1 [[.int .i64 5],[.int .i64 4]]],[.sl 1 [[.int .i64 20],[.int .i64 17]]],[.sl 1 [[.int .i64 80],[.int .i64 68]]],[.sl 1 [[.int .i64 320],[.int .i64 272]]]],.sl 1 [[.int .u64 1],[.int .u64 1],[.int .u64 1],[.int .u64 1]]],[.sl 1 [[.sl 1 [[.int .i64 5],[.int .i64 4]]],[.sl 1 [[.int .i64 20],[.int .i64 16]]],[.sl 1 [[.int .i64 80],[.int .i64 64]]],[.sl 1 [[.int .i64 320],[.int .i64 256]]]],.sl 1 [[.int .u64 1],[.int .u64 1],[.int .u64 1],[.int .u64 1]]]]]
def cG : FuncId × List D × D × St:=(35,[eS],.int (.i64) 0,{ nx:=11,xY:=[] })
theorem b7 : xW prog cG.1 cG.2.1 tQ cG.2.2.1 cG.2.2.2:=yU xQ 60 (by kernel_rfl)
def cH : FuncId × List D × D × St:=(97,[eS],.ref 2 6 0 0,{ nx:=108,xY:=[(107,{ sz:=2,xZ:=[[.int (.i64) 0,.int (.i64) 0],[.int (.i64) 0,.int (.i64) 1],[.int (.i64) 0,.int (.i64) 2],[.int (.i64) 0,.int (.i64) 3],[.int (.i64) 1,.int (.i64) 0],[.int (.i64) 1,.int (.i64) 1],[.int (.i64) 1,.int (.i64) 2],[.int (.i64) 1,.int (.i64) 3],[.int (.i64) 2,.int (.i64) 0],[.int (.i64) 2,.int (.i64) 1],[.int (.i64) 2,.int (.i64) 2],[.int (.i64) 2,.int (.i64) 3],[.int (.i64) 3,.int (.i64) 0],[.int (.i64) 3,.int (.i64) 1],[.int (.i64) 3,.int (.i64) 2],[.int (.i64) 3,.int (.i64) 3],[.int (.i64) 4,.int (.i64) 0],[.int (.i64) 4,.int (.i64) 1],[.int (.i64) 4,.int (.i64) 2],[.int (.i64) 4,.int (.i64) 3]] }),(106,{ sz:=1,xZ:=[[.int (.i64) 3],[.int (.i64) 19]] }),(104,{ sz:=1,xZ:=[[.int (.i64) 15],[.int (.i64) 19]] }),(101,{ sz:=1,xZ:=[[.int (.i64) 2],[.int (.i64) 18]] }),(99,{ sz:=1,xZ:=[[.int (.i64) 14],[.int (.i64) 18]] }),(96,{ sz:=1,xZ:=[[.int (.i64) 1],[.int (.i64) 17]] }),(94,{ sz:=1,xZ:=[[.int (.i64) 5],[.int (.i64) 9],[.int (.i64) 13],[.int (.i64) 17]] }),(91,{ sz:=1,xZ:=[[.int (.i64) 0],[.int (.i64) 4],[.int (.i64) 8],[.int (.i64) 12],[.int (.i64) 16]] }),(89,{ sz:=1,xZ:=[[.int (.i64) 4],[.int (.i64) 8],[.int (.i64) 12],[.int (.i64) 16]] }),(85,{ sz:=1,xZ:=[[.int (.i64) 11],[.int (.i64) 15]] }),(80,{ sz:=1,xZ:=[[.int (.i64) 6],[.int (.i64) 10],[.int (.i64) 14]] }),(75,{ sz:=1,xZ:=[[.int (.i64) 5],[.int (.i64) 9],[.int (.i64) 13]] }),(62,{ sz:=1,xZ:=[[.int (.i64) 7],[.int (.i64) 11]] }),(57,{ sz:=1,xZ:=[[.int (.i64) 6],[.int (.i64) 10]] }),(43,{ sz:=1,xZ:=[[.int (.i64) 7]] }),(20,{ sz:=1,xZ:=[[.int (.i64) 3]] }),(15,{ sz:=1,xZ:=[[.int (.i64) 2]] }),(10,{ sz:=1,xZ:=[[.int (.i64) 1]] }),(5,{ sz:=1,xZ:=[[.int (.i64) 0]] }),(2,{ sz:=6,xZ:=[[.int (.i64) 2,.int (.i64) 1,.int (.i64) 4,.sl 2 [[.sl 1 [[.sl 1 [[.int (.i64) 4],[.int (.i64) 4]]],[.sl 1 [[.int (.i64) 16],[.int (.i64) 16]]],[.sl 1 [[.int (.i64) 64],[.int (.i64) 64]]],[.sl 1 [[.int (.i64) 256],[.int (.i64) 256]]]],.sl 1 [[.int (.u64) 0],[.int (.u64) 0],[.int (.u64) 0],[.int (.u64) 0]]],[.sl 1 [[.sl 1 [[.int (.i64) 5],[.int (.i64) 4]]],[.sl 1 [[.int (.i64) 20],[.int (.i64) 17]]],[.sl 1 [[.int (.i64) 81],[.int (.i64) 68]]],[.sl 1 [[.int (.i64) 324],[.int (.i64) 273]]]],.sl 1 [[.int (.u64) 1],[.int (.u64) 1],[.int (.u64) 1],[.int (.u64) 1]]],[.sl 1 [[.sl 1 [[.int (.i64) 5],[.int (.i64) 4]]],[.sl 1 [[.int (.i64) 20],[.int (.i64) 17]]],[.sl 1 [[.int (.i64) 81],[.int (.i64) 68]]],[.sl 1 [[.int (.i64) 324],[.int (.i64) 272]]]],.sl 1 [[.int (.u64) 1],[.int (.u64) 1],[.int (.u64) 1],[.int (.u64) 1]]],[.sl 1 [[.sl 1 [[.int (.i64) 5],[.int (.i64) 4]]],[.sl 1 [[.int (.i64) 20],[.int (.i64) 17]]],[.sl 1 [[.int (.i64) 80],[.int (.i64) 68]]],[.sl 1 [[.int (.i64) 320],[.int (.i64) 272]]]],.sl 1 [[.int (.u64) 1],[.int (.u64) 1],[.int (.u64) 1],[.int (.u64) 1]]],[.sl 1 [[.sl 1 [[.int (.i64) 5],[.int (.i64) 4]]],[.sl 1 [[.int (.i64) 20],[.int (.i64) 16]]],[.sl 1 [[.int (.i64) 80],[.int (.i64) 64]]],[.sl 1 [[.int (.i64) 320],[.int (.i64) 256]]]],.sl 1 [[.int (.u64) 1],[.int (.u64) 1],[.int (.u64) 1],[.int (.u64) 1]]]],.xP 107 2 20,.xG 1]] }),(1,{ sz:=0,xZ:=[[.agg [.int (.i64) 0,.int (.i64) 4],.xP 5 1 1],[.agg [.int (.i64) 1,.int (.i64) 4],.xP 91 1 5],[.agg [.int (.i64) 0,.int (.i64) 16],.xP 10 1 1],[.agg [.int (.i64) 1,.int (.i64) 16],.xP 96 1 2],[.agg [.int (.i64) 0,.int (.i64) 64],.xP 15 1 1],[.agg [.int (.i64) 1,.int (.i64) 64],.xP 101 1 2],[.agg [.int (.i64) 0,.int (.i64) 256],.xP 20 1 1],[.agg [.int (.i64) 1,.int (.i64) 256],.xP 106 1 2],[.agg [.int (.i64) 0,.int (.i64) 5],.xP 89 1 4],[.agg [.int (.i64) 0,.int (.i64) 20],.xP 94 1 4],[.agg [.int (.i64) 1,.int (.i64) 17],.xP 75 1 3],[.agg [.int (.i64) 0,.int (.i64) 81],.xP 57 1 2],[.agg [.int (.i64) 1,.int (.i64) 68],.xP 80 1 3],[.agg [.int (.i64) 0,.int (.i64) 324],.xP 62 1 2],[.agg [.int (.i64) 1,.int (.i64) 273],.xP 43 1 1],[.agg [.int (.i64) 1,.int (.i64) 272],.xP 85 1 2],[.agg [.int (.i64) 0,.int (.i64) 80],.xP 99 1 2],[.agg [.int (.i64) 0,.int (.i64) 320],.xP 104 1 2]] })] })
theorem b8 : xW prog cH.1 cH.2.1 tQ cH.2.2.1 cH.2.2.2:=yU xQ 60 (by kernel_rfl)
def Qy : eC:=[cG,cH]
theorem wG : qM Qy:=λm h=>by
 simp only [Qy,δ,γ,or_false] at h
 rcases h with rfl | rfl
 ·exact b7
 ·exact b8
theorem lj : xK prog 12 [eS,.agg [.int .i64 0,.int .i64 0]] (.xI [.int .i64 0,.int .i64 0]):=xO (xR wG xQ) 60 (by kernel_rfl)
theorem lp : xK prog 12 [eS,.agg [.int .i64 0,.int .i64 1]] (.xI [.int .i64 0,.int .i64 0]):=xO (xR wG xQ) 60 (by kernel_rfl)
theorem lu : xK prog 12 [eS,.agg [.int .i64 0,.int .i64 2]] (.xI [.int .i64 0,.int .i64 0]):=xO (xR wG xQ) 60 (by kernel_rfl)
theorem lz : xK prog 12 [eS,.agg [.int .i64 0,.int .i64 3]] (.xI [.int .i64 0,.int .i64 0]):=xO (xR wG xQ) 60 (by kernel_rfl)
theorem ma : xK prog 12 [eS,.agg [.int .i64 1,.int .i64 0]] (.xI [.int .i64 0,.int .i64 0]):=xO (xR wG xQ) 60 (by kernel_rfl)
theorem mb : xK prog 12 [eS,.agg [.int .i64 1,.int .i64 1]] (.xI [.int .i64 1,.int .i64 0]):=xO (xR wG xQ) 60 (by kernel_rfl)
theorem mc : xK prog 12 [eS,.agg [.int .i64 1,.int .i64 2]] (.xI [.int .i64 2,.int .i64 0]):=xO (xR wG xQ) 60 (by kernel_rfl)
theorem mf : xK prog 12 [eS,.agg [.int .i64 1,.int .i64 3]] (.xI [.int .i64 3,.int .i64 0]):=xO (xR wG xQ) 60 (by kernel_rfl)
theorem mg : xK prog 12 [eS,.agg [.int .i64 2,.int .i64 0]] (.xI [.int .i64 0,.int .i64 0]):=xO (xR wG xQ) 60 (by kernel_rfl)
theorem mh : xK prog 12 [eS,.agg [.int .i64 2,.int .i64 1]] (.xI [.int .i64 1,.int .i64 0]):=xO (xR wG xQ) 60 (by kernel_rfl)
theorem mi : xK prog 12 [eS,.agg [.int .i64 2,.int .i64 2]] (.xI [.int .i64 2,.int .i64 0]):=xO (xR wG xQ) 60 (by kernel_rfl)
theorem mj : xK prog 12 [eS,.agg [.int .i64 2,.int .i64 3]] (.xI [.int .i64 2,.int .i64 0]):=xO (xR wG xQ) 60 (by kernel_rfl)
theorem ml : xK prog 12 [eS,.agg [.int .i64 3,.int .i64 0]] (.xI [.int .i64 0,.int .i64 0]):=xO (xR wG xQ) 60 (by kernel_rfl)
theorem mq : xK prog 12 [eS,.agg [.int .i64 3,.int .i64 1]] (.xI [.int .i64 1,.int .i64 0]):=xO (xR wG xQ) 60 (by kernel_rfl)
theorem mr : xK prog 12 [eS,.agg [.int .i64 3,.int .i64 2]] (.xI [.int .i64 1,.int .i64 0]):=xO (xR wG xQ) 60 (by kernel_rfl)
theorem mw : xK prog 12 [eS,.agg [.int .i64 3,.int .i64 3]] (.xI [.int .i64 1,.int .i64 0]):=xO (xR wG xQ) 60 (by kernel_rfl)
theorem mz : xK prog 12 [eS,.agg [.int .i64 4,.int .i64 0]] (.xI [.int .i64 0,.int .i64 0]):=xO (xR wG xQ) 60 (by kernel_rfl)
theorem na : xK prog 12 [eS,.agg [.int .i64 4,.int .i64 1]] (.xI [.int .i64 0,.int .i64 0]):=xO (xR wG xQ) 60 (by kernel_rfl)
theorem nc : xK prog 12 [eS,.agg [.int .i64 4,.int .i64 2]] (.xI [.int .i64 0,.int .i64 0]):=xO (xR wG xQ) 60 (by kernel_rfl)
theorem nf : xK prog 12 [eS,.agg [.int .i64 4,.int .i64 3]] (.xI [.int .i64 0,.int .i64 0]):=xO (xR wG xQ) 60 (by kernel_rfl)
end Go.Pd
