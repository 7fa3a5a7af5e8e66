/- Part B0. -/
import Derived.Test.YtccobgpcnfjbhaaZcXF
import Derived.Test.YtccobgpcnfjbhaaZcX9
import Derived.Shelf.Small.Bits
import Derived.Test.YtccobgpcnfjbhaaZcCode
import Derived.Test.YtccobgpcnfjbhaaZcCF
import Derived.Test.YtccobgpcnfjbhaaZcCC
import Derived.Test.YtccobgpcnfjbhaaZcSQ
set_option linter.unusedSectionVars false
set_option linter.unusedVariables false
set_option linter.unusedSimpArgs false
set_option linter.defProp false
set_option maxRecDepth 20000
set_option maxHeartbeats 1000000
open Go.Proofs.Try
open List renaming mem_map->γ,mem_of_mem_take->δ,length_take->ε
namespace Go.Pd
open Go Go.Proofs
open Go.Shelf
def Wx : Go.Shelf.Ren where
 f:=λx=>match x with | 125=>134 | 128=>151 | 129=>152 | n=>n
 t:=λx=>match x with | 46=>172 | 51=>184 | 53=>99 | n=>n
 g:=λx=>x
theorem YU : Lays.n125 prog Wx:= { mixed:=Eq.refl true,f125:=Eq.trans func134 (congrArg some (by kernel_rfl)),f128:=Eq.trans func151 (congrArg some (by kernel_rfl)),f129:=Eq.trans func152 (congrArg some (by kernel_rfl)),t3:=Try.underlying3,a3:=Try.isAgg3,z3:=Try.sizeOf3,v3:=Try.zeroValue3,t4:=Try.underlying4,a4:=Try.isAgg4,z4:=Try.sizeOf4,v4:=Try.zeroValue4,t5:=Try.underlying5,a5:=Try.isAgg5,z5:=Try.sizeOf5,v5:=Try.zeroValue5,t9:=Try.underlying9,a9:=Try.isAgg9,z9:=Try.sizeOf9,v9:=Try.zeroValue9,t46:=Try.underlying172,a46:=Try.isAgg172,z46:=Try.sizeOf172,v46:=Try.zeroValue172,t51:=Try.underlying184,a51:=Try.isAgg184,z51:=Try.sizeOf184,v51:=Try.zeroValue184,t53:=Try.underlying99,a53:=Try.isAgg99,z53:=Try.sizeOf99,v53:=Try.zeroValue99 }
theorem Wr {n:Int} (h:0<=n/\n<=18446744073709551615) (hb:(Lib.bitLen n.toNat:Int)<=9223372036854775807):yA prog 134 [.int .u64 n] (.int .i64 (Lib.bitLen n.toNat)):=by
 refine⟨⟨_,func134,by kernel_rfl,by kernel_rfl⟩,λM0 w ι vals hS hl hv=>?_⟩;have h0:=hv 0 (by simp);simp only [List.getD_cons_zero] at h0
 have e0:vals = #[.int .u64 n]:=by
  have:vals.getD 0 undef = .int .u64 n:=h0.yS.1;obtain⟨l⟩:=vals
  match l,hl with
  | [v],_=>simp at this; rw [this]
 subst e0;refine(Any.bits_Len YU n w h.1 h.2).mono λe w' hh=>?_;obtain⟨rfl,rfl⟩:=hh;refine⟨_,ι,rfl,Kept.refl _ _,hS,Nat.le_refl _,λ_ _=>rfl,(λk o hk=>by cases hk),R.pure (RP.int ?_)⟩;have e1:IntKind.i64.min = -9223372036854775808:=rfl;have e2:IntKind.i64.max=9223372036854775807:=rfl;omega
def SO : jY:=λg args=>match g,args with
 | 134,[.int .u64 n]=>if (0<=n/\n<=18446744073709551615)/\ (Lib.bitLen n.toNat:Int)<=9223372036854775807 then some (.int .i64 (Lib.bitLen n.toNat)) else none
 | _,_=>none
theorem ez : kR prog SO:=λg args d h σ=>by
 unfold SO at h
 split at h
 ·split at h
  ·rename_i hc;simp only [Option.some.injEq] at h;subst h;exact xS.vV (Wr hc.1 hc.2) rfl
  ·cases h
 ·cases h
def Tb : Table:=[(3,⟨c3.1,c3.2.1,c3.2.2,[]⟩),(4,⟨c4.1,c4.2.1,c4.2.2,[]⟩),(5,⟨c5.1,c5.2.1,c5.2.2,[]⟩),(6,⟨c6.1,c6.2.1,c6.2.2,[]⟩),(7,⟨c7.1,c7.2.1,c7.2.2,[]⟩),(8,⟨c8.1,c8.2.1,c8.2.2,[]⟩),(9,⟨c9.1,c9.2.1,c9.2.2,[]⟩),(10,⟨Ty.1,Ty.2.1,Ty.2.2,[]⟩),(11,⟨Tx.1,Tx.2.1,Tx.2.2,[]⟩),(12,⟨U1.1,U1.2.1,U1.2.2,[]⟩),(13,⟨U3.1,U3.2.1,U3.2.2,[]⟩),(14,⟨U4.1,U4.2.1,U4.2.2,[]⟩),(15,⟨U5.1,U5.2.1,U5.2.2,[]⟩),(16,⟨U6.1,U6.2.1,U6.2.2,[]⟩),(17,⟨U7.1,U7.2.1,U7.2.2,[]⟩),(18,⟨U8.1,U8.2.1,U8.2.2,[]⟩),(19,⟨U9.1,U9.2.1,U9.2.2,[60,67,1000059,1000060]⟩),(20,⟨UA.1,UA.2.1,UA.2.2,[]⟩),(21,⟨UB.1,UB.2.1,UB.2.2,[]⟩),(24,⟨UC.1,UC.2.1,UC.2.2,[]⟩),(25,⟨UD.1,UD.2.1,UD.2.2,[]⟩),(26,⟨UE.1,UE.2.1,UE.2.2,[]⟩),(27,⟨UF.1,UF.2.1,UF.2.2,[]⟩),(28,⟨UG.1,UG.2.1,UG.2.2,[]⟩),(29,⟨UH.1,UH.2.1,UH.2.2,[]⟩),(30,⟨UI.1,UI.2.1,UI.2.2,[]⟩),(33,⟨UJ.1,UJ.2.1,UJ.2.2,[5]⟩),(34,⟨UK.1,UK.2.1,UK.2.2,[]⟩),(35,⟨UL.1,UL.2.1,UL.2.2,[]⟩),(36,⟨UM.1,UM.2.1,UM.2.2,[]⟩),(37,⟨UN.1,UN.2.1,UN.2.2,[]⟩),(38,⟨UO.1,UO.2.1,UO.2.2,[]⟩),(39,⟨UP.1,UP.2.1,UP.2.2,[58]⟩),(40,⟨UQ.1,UQ.2.1,UQ.2.2,[]⟩),(41,⟨UR.1,UR.2.1,UR.2.2,[]⟩),(42,⟨US.1,US.2.1,US.2.2,[]⟩),(43,⟨UT.1,UT.2.1,UT.2.2,[]⟩),(44,⟨UU.1,UU.2.1,UU.2.2,[]⟩),(45,⟨UV.1,UV.2.1,UV.2.2,[]⟩),(46,⟨UW.1,UW.2.1,UW.2.2,[]⟩),(47,⟨UZ.1,UZ.2.1,UZ.2.2,[]⟩),(48,⟨UY.1,UY.2.1,UY.2.2,[]⟩),(49,⟨UX.1,UX.2.1,UX.2.2,[]⟩),(50,⟨Ua.1,Ua.2.1,Ua.2.2,[]⟩),(51,⟨Ub.1,Ub.2.1,Ub.2.2,[]⟩),(52,⟨Uc.1,Uc.2.1,Uc.2.2,[1000031]⟩),(53,⟨Ud.1,Ud.2.1,Ud.2.2,[51,58,80,1000050,1000051,1000110]⟩),(54,⟨Ue.1,Ue.2.1,Ue.2.2,[]⟩),(55,⟨Uf.1,Uf.2.1,Uf.2.2,[]⟩),(56,⟨Ug.1,Ug.2.1,Ug.2.2,[]⟩),(57,⟨Uh.1,Uh.2.1,Uh.2.2,[1000013,1000005]⟩),(58,⟨Ui.1,Ui.2.1,Ui.2.2,[]⟩),(59,⟨Uj.1,Uj.2.1,Uj.2.2,[]⟩),(60,⟨Uk.1,Uk.2.1,Uk.2.2,[5]⟩),(61,⟨Ul.1,Ul.2.1,Ul.2.2,[93,99]⟩),(62,⟨Um.1,Um.2.1,Um.2.2,[]⟩),(63,⟨Un.1,Un.2.1,Un.2.2,[]⟩),(64,⟨Uo.1,Uo.2.1,Uo.2.2,[]⟩),(65,⟨Up.1,Up.2.1,Up.2.2,[]⟩),(66,⟨Uq.1,Uq.2.1,Uq.2.2,[]⟩),(67,⟨Ur.1,Ur.2.1,Ur.2.2,[]⟩),(68,⟨Us.1,Us.2.1,Us.2.2,[]⟩),(69,⟨Ut.1,Ut.2.1,Ut.2.2,[]⟩),(70,⟨Uu.1,Uu.2.1,Uu.2.2,[]⟩),(71,⟨Uv.1,Uv.2.1,Uv.2.2,[]⟩),(72,⟨Uw.1,Uw.2.1,Uw.2.2,[]⟩),(73,⟨Uz.1,Uz.2.1,Uz.2.2,[]⟩),(74,⟨Uy.1,Uy.2.1,Uy.2.2,[]⟩),(75,⟨Ux.1,Ux.2.1,Ux.2.2,[]⟩),(76,⟨V0.1,V0.2.1,V0.2.2,[]⟩),(77,⟨V1.1,V1.2.1,V1.2.2,[]⟩),(78,⟨V2.1,V2.2.1,V2.2.2,[]⟩),(79,⟨V3.1,V3.2.1,V3.2.2,[]⟩),(80,⟨V4.1,V4.2.1,V4.2.2,[1000009]⟩),(81,⟨V5.1,V5.2.1,V5.2.2,[]⟩),(82,⟨V6.1,V6.2.1,V6.2.2,[]⟩),(83,⟨V7.1,V7.2.1,V7.2.2,[]⟩),(84,⟨V8.1,V8.2.1,V8.2.2,[]⟩),(85,⟨V9.1,V9.2.1,V9.2.2,[]⟩),(86,⟨VA.1,VA.2.1,VA.2.2,[]⟩),(87,⟨VB.1,VB.2.1,VB.2.2,[]⟩),(88,⟨VC.1,VC.2.1,VC.2.2,[]⟩),(89,⟨VD.1,VD.2.1,VD.2.2,[]⟩),(90,⟨VE.1,VE.2.1,VE.2.2,[]⟩),(91,⟨VF.1,VF.2.1,VF.2.2,[]⟩),(92,⟨VG.1,VG.2.1,VG.2.2,[]⟩),(93,⟨VH.1,VH.2.1,VH.2.2,[]⟩),(94,⟨VI.1,VI.2.1,VI.2.2,[]⟩),(95,⟨VJ.1,VJ.2.1,VJ.2.2,[]⟩),(96,⟨VK.1,VK.2.1,VK.2.2,[]⟩),(98,⟨VL.1,VL.2.1,VL.2.2,[]⟩),(99,⟨VM.1,VM.2.1,VM.2.2,[102]⟩),(100,⟨XK.1,XK.2.1,XK.2.2,[]⟩),(101,⟨XL.1,XL.2.1,XL.2.2,[]⟩),(102,⟨XM.1,XM.2.1,XM.2.2,[]⟩),(103,⟨XN.1,XN.2.1,XN.2.2,[]⟩),(104,⟨XO.1,XO.2.1,XO.2.2,[]⟩),(105,⟨XP.1,XP.2.1,XP.2.2,[]⟩),(106,⟨XQ.1,XQ.2.1,XQ.2.2,[]⟩),(107,⟨XT.1,XT.2.1,XT.2.2,[]⟩),(108,⟨XU.1,XU.2.1,XU.2.2,[]⟩),(109,⟨XV.1,XV.2.1,XV.2.2,[]⟩),(110,⟨XW.1,XW.2.1,XW.2.2,[]⟩),(111,⟨XZ.1,XZ.2.1,XZ.2.2,[55]⟩),(112,⟨XY.1,XY.2.1,XY.2.2,[]⟩),(113,⟨XX.1,XX.2.1,XX.2.2,[]⟩),(114,⟨Xa.1,Xa.2.1,Xa.2.2,[]⟩),(115,⟨Xb.1,Xb.2.1,Xb.2.2,[]⟩),(116,⟨Xc.1,Xc.2.1,Xc.2.2,[]⟩),(117,⟨Xd.1,Xd.2.1,Xd.2.2,[]⟩),(118,⟨Xe.1,Xe.2.1,Xe.2.2,[]⟩),(119,⟨Xf.1,Xf.2.1,Xf.2.2,[]⟩),(120,⟨Xg.1,Xg.2.1,Xg.2.2,[]⟩),(121,⟨Xh.1,Xh.2.1,Xh.2.2,[]⟩),(122,⟨Xi.1,Xi.2.1,Xi.2.2,[]⟩),(123,⟨Xj.1,Xj.2.1,Xj.2.2,[]⟩),(124,⟨Xk.1,Xk.2.1,Xk.2.2,[]⟩),(125,⟨Xl.1,Xl.2.1,Xl.2.2,[]⟩),(126,⟨Xm.1,Xm.2.1,Xm.2.2,[]⟩),(127,⟨Xn.1,Xn.2.1,Xn.2.2,[]⟩),(128,⟨Xo.1,Xo.2.1,Xo.2.2,[]⟩),(129,⟨Xp.1,Xp.2.1,Xp.2.2,[]⟩),(130,⟨Xq.1,Xq.2.1,Xq.2.2,[]⟩),(131,⟨Xr.1,Xr.2.1,Xr.2.2,[]⟩),(132,⟨Xs.1,Xs.2.1,Xs.2.2,[]⟩),(133,⟨Xt.1,Xt.2.1,Xt.2.2,[]⟩),(134,⟨Xu.1,Xu.2.1,Xu.2.2,[]⟩),(135,⟨Xv.1,Xv.2.1,Xv.2.2,[]⟩),(136,⟨Xw.1,Xw.2.1,Xw.2.2,[]⟩),(137,⟨Xz.1,Xz.2.1,Xz.2.2,[]⟩),(138,⟨Xy.1,Xy.2.1,Xy.2.2,[]⟩),(139,⟨Xx.1,Xx.2.1,Xx.2.2,[]⟩),(140,⟨b6.1,b6.2.1,b6.2.2,[]⟩),(141,⟨b7.1,b7.2.1,b7.2.2,[]⟩),(142,⟨b8.1,b8.2.1,b8.2.2,[]⟩),(143,⟨b9.1,b9.2.1,b9.2.2,[]⟩),(144,⟨e7.1,e7.2.1,e7.2.2,[]⟩),(145,⟨e8.1,e8.2.1,e8.2.2,[]⟩),(146,⟨e9.1,e9.2.1,e9.2.2,[]⟩),(147,⟨j0.1,j0.2.1,j0.2.2,[]⟩),(148,⟨j4.1,j4.2.1,j4.2.2,[]⟩),(149,⟨j5.1,j5.2.1,j5.2.2,[]⟩),(150,⟨j6.1,j6.2.1,j6.2.2,[]⟩),(153,⟨j7.1,j7.2.1,j7.2.2,[]⟩),(154,⟨j8.1,j8.2.1,j8.2.2,[]⟩),(155,⟨j9.1,j9.2.1,j9.2.2,[]⟩),(156,⟨l5.1,l5.2.1,l5.2.2,[]⟩),(157,⟨l6.1,l6.2.1,l6.2.2,[]⟩),(158,⟨l7.1,l7.2.1,l7.2.2,[]⟩),(159,⟨l8.1,l8.2.1,l8.2.2,[]⟩),(160,⟨l9.1,l9.2.1,l9.2.2,[]⟩)]
theorem Zo : rN prog Tb:=
 .cons func3 k3 <|
 .cons func4 k4 <|
 .cons func5 k5 <|
 .cons func6 k6 <|
 .cons func7 k7 <|
 .cons func8 k8 <|
 .cons func9 k9 <|
 .cons func10 RA <|
 .cons func11 RB <|
 .cons func12 RC <|
 .cons func13 RD <|
 .cons func14 SR <|
 .cons func15 Tp <|
 .cons func16 Tq <|
 .cons func17 Tr <|
 .cons func18 Ts <|
 .cons func19 VR <|
 .cons func20 VS <|
 .cons func21 SS <|
 .cons func24 RE <|
 .cons func25 RF <|
 .cons func26 RG <|
 .cons func27 RH <|
 .cons func28 RI <|
 .cons func29 RJ <|
 .cons func30 RL <|
 .cons func33 VT <|
 .cons func34 RM <|
 .cons func35 SU <|
 .cons func36 RN <|
 .cons func37 RO <|
 .cons func38 RQ <|
 .cons func39 RR <|
 .cons func40 RS <|
 .cons func41 RT <|
 .cons func42 RU <|
 .cons func43 RV <|
 .cons func44 RW <|
 .cons func45 RZ <|
 .cons func46 RY <|
 .cons func47 RX <|
 .cons func48 SZ <|
 .cons func49 Ra <|
 .cons func50 Rb <|
 .cons func51 Rc <|
 .cons func52 Re <|
 .cons func53 Tt <|
 .cons func54 SY <|
 .cons func55 SX <|
 .cons func56 Sa <|
 .cons func57 Tu <|
 .cons func58 Sb <|
 .cons func59 Sc <|
 .cons func60 Sd <|
 .cons func61 Tv <|
 .cons func62 Se <|
 .cons func63 Rf <|
 .cons func64 Rg <|
 .cons func65 Rh <|
 .cons func66 Ri <|
 .cons func67 Rj <|
 .cons func68 Sf <|
 .cons func69 Sg <|
 .cons func70 Sh <|
 .cons func71 Si <|
 .cons func72 Rk <|
 .cons func73 Rl <|
 .cons func74 Rm <|
 .cons func75 Rn <|
 .cons func76 Ro <|
 .cons func77 Rq <|
 .cons func78 Rr <|
 .cons func79 Rt <|
 .cons func80 Rv <|
 .cons func81 Rw <|
 .cons func82 Rz <|
 .cons func83 Ry <|
 .cons func84 Rx <|
 .cons func85 S3 <|
 .cons func86 S4 <|
 .cons func87 S5 <|
 .cons func88 S6 <|
 .cons func89 S7 <|
 .cons func90 S8 <|
 .cons func91 S9 <|
 .cons func92 SA <|
 .cons func93 SB <|
 .cons func94 SC <|
 .cons func95 SF <|
 .cons func96 SG <|
 .cons func98 SI <|
 .cons func99 SJ <|
 .cons func100 Ss <|
 .cons func101 Su <|
 .cons func102 W5 <|
 .cons func103 Sv <|
 .cons func104 W6 <|
 .cons func105 W7 <|
 .cons func106 W8 <|
 .cons func107 W9 <|
 .cons func108 WA <|
 .cons func109 WB <|
 .cons func110 WC <|
 .cons func111 WD <|
 .cons func112 WE <|
 .cons func113 Sw <|
 .cons func114 Sz <|
 .cons func115 Sy <|
 .cons func116 Sx <|
 .cons func117 T4 <|
 .cons func118 WG <|
 .cons func119 WH <|
 .cons func120 T5 <|
 .cons func121 T6 <|
 .cons func122 T7 <|
 .cons func123 T8 <|
 .cons func124 T9 <|
 .cons func125 TA <|
 .cons func126 TB <|
 .cons func127 TC <|
 .cons func128 TD <|
 .cons func129 TE <|
 .cons func130 TF <|
 .cons func131 TG <|
 .cons func132 TH <|
 .cons func133 TI <|
 .cons func134 TJ <|
 .cons func135 WI <|
 .cons func136 WJ <|
 .cons func137 WK <|
 .cons func138 WL <|
 .cons func139 TK <|
 .cons func140 TL <|
 .cons func141 TM <|
 .cons func142 TN <|
 .cons func143 TO <|
 .cons func144 TP <|
 .cons func145 TQ <|
 .cons func146 TR <|
 .cons func147 TS <|
 .cons func148 TT <|
 .cons func149 TU <|
 .cons func150 TV <|
 .cons func153 WM <|
 .cons func154 TW <|
 .cons func155 TZ <|
 .cons func156 TY <|
 .cons func157 TX <|
 .cons func158 Ta <|
 .cons func159 Tc <|
 .cons func160 Td <|
 .nil
theorem YB : yA prog 13 [] (.bool true):=reckon mixed Zo ez 40 rfl (by kernel_rfl)
end Go.Pd

/- Part CH. -/
namespace Go.Pd
open Go Go.Proofs
open BitVec renaming isValue -> ZA
open Ru
namespace Ru
theorem YI {rs:List xN} {A F T n:Nat} (ok:lS rs A F T) (h1:1<=n) (hn:n<=T):lS (oY rs n) A F n where
 hA:=ok.hA
 hF:=ok.hF
 hT:=⟨h1,by have:=ok.hT; omega⟩
 hR:=by rw [uE]; exact ok.hR
 hP:=by rw [uE]; exact Nat.le_trans (Nat.mul_le_mul_left _ hn) ok.hP
 loc:=λr hr=>by simp only [oY,γ] at hr;obtain⟨r0,h0,rfl⟩:=hr;have:=ok.loc r0 h0;simp only [ε]; omega
 zM:=λr hr=>by simp only [oY,γ] at hr;obtain⟨r0,h0,rfl⟩:=hr;have:=ok.zM r0 h0;simp only [ε]; omega
 row:=λr hr l hl=>by simp only [oY,γ] at hr;obtain⟨r0,h0,rfl⟩:=hr;exact ok.row r0 h0 l (δ hl)
 val:=λr hr f hf=>by simp only [oY,γ] at hr;obtain⟨r0,h0,rfl⟩:=hr;exact ok.val r0 h0 f (δ hf)
end Ru
def Twin (f g:FuncId) (args:List D):Prop:=∃ (a b c:Int) (x:D) (e:Int),x.one=true/\x.xJ=true/\yA prog f args (.yE [.agg [.int .i64 a,.int .i64 b,.int .i64 c,x],.int .i64 e])/\ yA prog g args (.yE [.agg [.int .i64 a,.int .i64 b,.int .i64 c,x],.int .i64 e])/\
 yA prog 21 [.agg [.int .i64 a,.int .i64 b,.int .i64 c,x],.agg [.int .i64 a,.int .i64 b,.int .i64 c,x]] (.bool true)
theorem Z2 : yA prog 21 [.agg [.int .i64 0,.int .i64 0,.int .i64 0,.xZ],.agg [.int .i64 0,.int .i64 0,.int .i64 0,.xZ]] (.bool true):=reckon mixed Zo ez 40 rfl (by kernel_rfl)
theorem qj {f g:FuncId} {args:List D} {e:Int} (hf:yA prog f args (.yE [.agg [.int .i64 0,.int .i64 0,.int .i64 0,.xZ],.int .i64 e])) (hg:yA prog g args (.yE [.agg [.int .i64 0,.int .i64 0,.int .i64 0,.xZ],.int .i64 e])):Twin f g args:=⟨0,0,0,.xZ,e,rfl,rfl,hf,hg,Z2⟩
theorem gy {f g:FuncId} {args:List D} {rs:List xN} {A F T:Nat} (ok:lS rs A F T) (hf:yA prog f args (.yE [sD A F T rs,.int .i64 0])) (hg:yA prog g args (.yE [sD A F T rs,.int .i64 0])):Twin f g args:=⟨A,F,T,.sl 2 (xK rs),0,rfl,by simp [D.xJ],hf,hg,mh ok⟩
theorem tn (s:wQ):Twin 15 16 [s.d]:=by
 by_cases h:uJ s=0
 ·obtain⟨A,F,T,rs,rfl,ok⟩:=xv h;exact gy (pq ok) (YG ok) (cj ok)
 ·exact qj (v7 h) (mf h)
theorem cW (s:wQ):Twin 17 18 [s.d]:=by
 by_cases h:uJ s=0
 ·obtain⟨A,F,T,rs,rfl,ok⟩:=xv h;exact gy (pq ok) (sq ok) (vt ok)
 ·exact qj (vu h) (xi h)
theorem dg (s:wQ) (n:Int):Twin 19 20 [s.d,.int .i64 n]:=by
 by_cases h:uJ s=0
 ·by_cases hn:n<1\/s.ln<n
  ·exact qj (Sq h hn) (Yo h hn)
  ·obtain⟨A,F,T,rs,rfl,ok⟩:=xv h;simp only at hn;obtain⟨m,rfl⟩:∃ m:Nat,n=m:=⟨n.toNat,by omega⟩;exact gy (YI ok (by omega) (by omega)) (VW ok (by omega) (by omega)) (Wy ok (by omega) (by omega))
 ·exact qj (Sp h n) (Yn h n)
theorem u9 (s:wQ) (n:Int):yA prog 4 [s.d,.int .i64 n] (.bool true):=by
 have hA:=YB;have hF:=Sl s;obtain⟨a1,b1,c1,x1,e1,o1,p1,f1,g1,s1⟩:=tn s;obtain⟨a2,b2,c2,x2,e2,o2,p2,f2,g2,s2⟩:=cW s;obtain⟨a3,b3,c3,x3,e3,o3,p3,f3,g3,s3⟩:=dg s n;have hD:s.d = .agg [.int .i64 s.ag,.int .i64 s.fa,.int .i64 s.ln,.sl 2 (xK s.rs)]:=rfl;have q1:(e1==e1)= true:=by simp
 have q2:(e2==e2)= true:=by simp
 have q3:(e3==e3)= true:=by simp
 rw [hD] at hF f1 g1 f2 g2 f3 g3 ⊢;refine zL func4 k4 λhf=>?_;refine uB ?_;refine .go (cq hA) ?_;refine uB ?_;refine .go (cq hF) ?_
 cases hb:n9 s with
 | false=> refine uB ?_;refine .go (cq hA) ?_;refine wU ?_;exact .drop (by simp) (by simp [vw,tV])
 | true=> refine uB ?_;refine .go (cq f1) ?_;refine pZ o1 ?_;refine .go (cq g1) ?_;refine pZ o1 ?_;refine .go (cq f2) ?_;refine pZ o2 ?_;refine .go (cq g2) ?_;refine pZ o2 ?_;refine .go (cq f3) ?_;refine pZ o3 ?_;refine .go (cq g3) ?_;refine uv o3 q1 q2 q3 ?_;refine .go (xS.vV s1 (by simp [D.xT,D.xJ,p1])) ?_;refine uB ?_;refine .go (xS.vV s2 (by simp [D.xT,D.xJ,p2])) ?_;refine uB ?_;refine .go (xS.vV s3 (by simp [D.xT,D.xJ,p3])) ?_;refine wU ?_;exact .drop (by simp) (by simp [vw,tV])
end Go.Pd
