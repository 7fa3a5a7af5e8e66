/- Part B0. -/
import Derived.Test.YtccobgpcnfjbhaaZtXF
import Derived.Test.YtccobgpcnfjbhaaZtX9
import Derived.Shelf.Small.Bits
import Derived.Test.YtccobgpcnfjbhaaZtCode
set_option linter.unusedSectionVars false
set_option linter.unusedVariables false
set_option linter.unusedSimpArgs false
set_option linter.defProp false
set_option maxRecDepth 20000
set_option maxHeartbeats 1000000
open Go.Proofs.Try
open Option renaming map_some->γ,map_eq_some_iff->δ,map_none->ε,bind_eq_some_iff->ζ
open Bool renaming and_eq_true->η
namespace Go.Pd
open Go Go.Proofs
open Go.Shelf
def Sc : Go.Shelf.Ren where
 f:=λx=>match x with | 125=>134 | 128=>151 | 129=>152 | n=>n
 t:=λx=>match x with | 46=>172 | 51=>184 | 53=>99 | n=>n
 g:=λx=>x
theorem Ud : Lays.n125 prog Sc:= { mixed:=Eq.refl true,f125:=Eq.trans func134 (congrArg some (by kernel_rfl)),f128:=Eq.trans func151 (congrArg some (by kernel_rfl)),f129:=Eq.trans func152 (congrArg some (by kernel_rfl)),t3:=Try.underlying3,a3:=Try.isAgg3,z3:=Try.sizeOf3,v3:=Try.zeroValue3,t4:=Try.underlying4,a4:=Try.isAgg4,z4:=Try.sizeOf4,v4:=Try.zeroValue4,t5:=Try.underlying5,a5:=Try.isAgg5,z5:=Try.sizeOf5,v5:=Try.zeroValue5,t9:=Try.underlying9,a9:=Try.isAgg9,z9:=Try.sizeOf9,v9:=Try.zeroValue9,t46:=Try.underlying172,a46:=Try.isAgg172,z46:=Try.sizeOf172,v46:=Try.zeroValue172,t51:=Try.underlying184,a51:=Try.isAgg184,z51:=Try.sizeOf184,v51:=Try.zeroValue184,t53:=Try.underlying99,a53:=Try.isAgg99,z53:=Try.sizeOf99,v53:=Try.zeroValue99 }
theorem SK {n:Int} (h:0<=n/\n<=18446744073709551615) (hb:(Lib.bitLen n.toNat:Int)<=9223372036854775807):xK prog 134 [.int .u64 n] (.int .i64 (Lib.bitLen n.toNat)):=by
 refine⟨⟨_,func134,by kernel_rfl,by kernel_rfl⟩,λM0 w ι vals hS hl hv=>?_⟩;have h0:=hv 0 (by simp);simp only [List.getD_cons_zero] at h0
 have e0:vals = #[.int .u64 n]:=by
  have:vals.getD 0 undef = .int .u64 n:=h0.yS.1;obtain⟨l⟩:=vals
  match l,hl with
  | [v],_=>simp at this; rw [this]
 subst e0;refine(Any.bits_Len Ud n w h.1 h.2).mono λe w' hh=>?_;obtain⟨rfl,rfl⟩:=hh;refine⟨_,ι,rfl,Kept.refl _ _,hS,Nat.le_refl _,λ_ _=>rfl,(λk o hk=>by cases hk),R.pure (RP.int ?_)⟩;have e1:IntKind.i64.min = -9223372036854775808:=rfl;have e2:IntKind.i64.max=9223372036854775807:=rfl;omega
def OE : nV:=λg args σ=>match g,args with
 | 134,[.int .u64 n]=>if (0<=n/\n<=18446744073709551615)/\ (Lib.bitLen n.toNat:Int)<=9223372036854775807 then some (.int .i64 (Lib.bitLen n.toNat),σ) else none
 | _,_=>none
theorem xQ : oH prog OE:=λg args σ d σ' h=>by
 unfold OE at h
 split at h
 ·split at h
  ·rename_i hc;simp only [Option.some.injEq,Prod.mk.injEq] at h;obtain⟨rfl,rfl⟩:=h;exact xW.vZ (SK hc.1 hc.2) rfl
  ·cases h
 ·cases h
def TM (σ τ:St):Bool:=decide (σ.nx=τ.nx)&& iF (λp q=>decide (p.1=q.1)&& (decide (p.2.sz=q.2.sz)&& iF (iF (xk 30)) p.2.xZ q.2.xZ)) σ.xY τ.xY
theorem UO {σ τ:St} (h:TM σ τ=true):σ=τ:=by
 unfold TM at h;simp only [η,decide_eq_true_eq] at h;obtain⟨n,o⟩:=σ;obtain⟨n',o'⟩:=τ;obtain⟨rfl,h2⟩:=h
 have:o=o':=pA (λa b h=>by simp only [η,decide_eq_true_eq] at h;obtain⟨h1,h2,h3⟩:=h;obtain⟨k,sz,xZ⟩:=a;obtain⟨k',sz',els'⟩:=b;simp only at h1 h2 h3;rw [h1,h2,pA (λ_ _ h=>pA (λ_ _ h=>rJ 30 _ _ h) h) h3]) h2
 rw [this]
abbrev eC :=List (FuncId × List D × D × St)
def qM (M:eC):Prop:=∀ m ∈ M,xW prog m.1 m.2.1 tQ m.2.2.1 m.2.2.2
def Tr (M:eC) (O:nV):nV:=λg args σ=>match O g args σ with
 | some r=>some r
 | none=>if (decide (σ.nx=0)&& σ.xY.isEmpty)= true then(M.find? λm=>decide (m.1=g)&& iF (xk 30) m.2.1 args).map λm=>m.2.2 else none
theorem xR {M:eC} (hM:qM M) {O:nV} (hO:oH prog O):oH prog (Tr M O):=λg args σ d σ' h=>by
 unfold Tr at h
 split at h
 ·rename_i r h1;cases h;exact hO _ _ _ _ _ h1
 ·split at h
  ·rename_i hs;simp only [η,decide_eq_true_eq,List.isEmpty_iff] at hs;obtain⟨n,o⟩:=σ;obtain⟨rfl,rfl⟩:=hs;rw [δ] at h;obtain⟨⟨g',args',d',τ⟩,h1,h2⟩:=h;have h3:=List.find?_some h1;have h4:=List.mem_of_find?_eq_some h1;simp only [η,decide_eq_true_eq] at h3;obtain⟨rfl,h5⟩:=h3;have:=pA (λ_ _ h=>rJ 30 _ _ h) h5;subst this;simp only [Prod.mk.injEq] at h2;obtain⟨rfl,rfl⟩:=h2;exact hM _ h4
  ·cases h
def Tb : Table:=[(3,⟨c3.1,c3.2.1,c3.2.2,[]⟩),(4,⟨c4.1,c4.2.1,c4.2.2,[]⟩),(5,⟨c5.1,c5.2.1,c5.2.2,[]⟩),(6,⟨c6.1,c6.2.1,c6.2.2,[]⟩),(7,⟨c7.1,c7.2.1,c7.2.2,[]⟩),(8,⟨c8.1,c8.2.1,c8.2.2,[]⟩),(9,⟨c9.1,c9.2.1,c9.2.2,[]⟩),(10,⟨OP.1,OP.2.1,OP.2.2,[]⟩),(11,⟨OQ.1,OQ.2.1,OQ.2.2,[]⟩),(12,⟨OR.1,OR.2.1,OR.2.2,[]⟩),(13,⟨OS.1,OS.2.1,OS.2.2,[]⟩),(14,⟨OT.1,OT.2.1,OT.2.2,[]⟩),(15,⟨OU.1,OU.2.1,OU.2.2,[]⟩),(16,⟨OV.1,OV.2.1,OV.2.2,[]⟩),(17,⟨OW.1,OW.2.1,OW.2.2,[]⟩),(18,⟨OZ.1,OZ.2.1,OZ.2.2,[]⟩),(19,⟨OY.1,OY.2.1,OY.2.2,[60,67,1000059,1000060]⟩),(20,⟨OX.1,OX.2.1,OX.2.2,[]⟩),(21,⟨Oa.1,Oa.2.1,Oa.2.2,[]⟩),(22,⟨Oc.1,Oc.2.1,Oc.2.2,[]⟩),(23,⟨Od.1,Od.2.1,Od.2.2,[1000027,1000007]⟩),(24,⟨Oe.1,Oe.2.1,Oe.2.2,[]⟩),(25,⟨Of.1,Of.2.1,Of.2.2,[]⟩),(26,⟨Og.1,Og.2.1,Og.2.2,[]⟩),(27,⟨Oh.1,Oh.2.1,Oh.2.2,[]⟩),(28,⟨Oi.1,Oi.2.1,Oi.2.2,[]⟩),(29,⟨Oj.1,Oj.2.1,Oj.2.2,[]⟩),(30,⟨Ol.1,Ol.2.1,Ol.2.2,[]⟩),(31,⟨Om.1,Om.2.1,Om.2.2,[32,1000032,1000039,1000041,1000009,1000062,1000065,1000066]⟩),(32,⟨On.1,On.2.1,On.2.2,[23,26,79,1000023,1000026,1000078,1000079,1000031]⟩),(33,⟨Oo.1,Oo.2.1,Oo.2.2,[5]⟩),(34,⟨Oq.1,Oq.2.1,Oq.2.2,[]⟩),(35,⟨Ot.1,Ot.2.1,Ot.2.2,[]⟩),(36,⟨Ou.1,Ou.2.1,Ou.2.2,[]⟩),(37,⟨Ov.1,Ov.2.1,Ov.2.2,[]⟩),(38,⟨Ow.1,Ow.2.1,Ow.2.2,[]⟩),(39,⟨Oz.1,Oz.2.1,Oz.2.2,[58]⟩),(40,⟨Oy.1,Oy.2.1,Oy.2.2,[]⟩),(41,⟨Ox.1,Ox.2.1,Ox.2.2,[]⟩),(42,⟨P0.1,P0.2.1,P0.2.2,[]⟩),(43,⟨P1.1,P1.2.1,P1.2.2,[]⟩),(44,⟨P2.1,P2.2.1,P2.2.2,[]⟩),(45,⟨P3.1,P3.2.1,P3.2.2,[]⟩),(46,⟨P4.1,P4.2.1,P4.2.2,[]⟩),(47,⟨P5.1,P5.2.1,P5.2.2,[]⟩),(48,⟨P6.1,P6.2.1,P6.2.2,[]⟩),(49,⟨P7.1,P7.2.1,P7.2.2,[]⟩),(50,⟨P8.1,P8.2.1,P8.2.2,[]⟩),(51,⟨P9.1,P9.2.1,P9.2.2,[]⟩),(52,⟨PA.1,PA.2.1,PA.2.2,[1000031]⟩),(53,⟨PB.1,PB.2.1,PB.2.2,[51,58,80,1000050,1000051,1000110]⟩),(54,⟨PC.1,PC.2.1,PC.2.2,[]⟩),(55,⟨PD.1,PD.2.1,PD.2.2,[]⟩),(56,⟨PE.1,PE.2.1,PE.2.2,[]⟩),(57,⟨PF.1,PF.2.1,PF.2.2,[1000013,1000005]⟩),(58,⟨PG.1,PG.2.1,PG.2.2,[]⟩),(59,⟨PH.1,PH.2.1,PH.2.2,[]⟩),(60,⟨PI.1,PI.2.1,PI.2.2,[5]⟩),(61,⟨PJ.1,PJ.2.1,PJ.2.2,[93,99]⟩),(62,⟨PK.1,PK.2.1,PK.2.2,[]⟩),(63,⟨PL.1,PL.2.1,PL.2.2,[]⟩),(64,⟨PM.1,PM.2.1,PM.2.2,[]⟩),(65,⟨PN.1,PN.2.1,PN.2.2,[]⟩),(66,⟨PO.1,PO.2.1,PO.2.2,[]⟩),(67,⟨PP.1,PP.2.1,PP.2.2,[]⟩),(68,⟨PQ.1,PQ.2.1,PQ.2.2,[]⟩),(69,⟨PR.1,PR.2.1,PR.2.2,[]⟩),(70,⟨PS.1,PS.2.1,PS.2.2,[]⟩),(71,⟨PT.1,PT.2.1,PT.2.2,[]⟩),(72,⟨PU.1,PU.2.1,PU.2.2,[]⟩),(73,⟨PV.1,PV.2.1,PV.2.2,[]⟩),(74,⟨PW.1,PW.2.1,PW.2.2,[]⟩),(75,⟨PZ.1,PZ.2.1,PZ.2.2,[]⟩),(76,⟨PY.1,PY.2.1,PY.2.2,[]⟩),(77,⟨PX.1,PX.2.1,PX.2.2,[]⟩),(78,⟨Pa.1,Pa.2.1,Pa.2.2,[]⟩),(79,⟨Pb.1,Pb.2.1,Pb.2.2,[]⟩),(80,⟨Pc.1,Pc.2.1,Pc.2.2,[1000009]⟩),(81,⟨Pe.1,Pe.2.1,Pe.2.2,[]⟩),(82,⟨Pf.1,Pf.2.1,Pf.2.2,[]⟩),(83,⟨Pg.1,Pg.2.1,Pg.2.2,[]⟩),(84,⟨Ph.1,Ph.2.1,Ph.2.2,[]⟩),(85,⟨Pi.1,Pi.2.1,Pi.2.2,[]⟩),(86,⟨Pj.1,Pj.2.1,Pj.2.2,[]⟩),(87,⟨Pk.1,Pk.2.1,Pk.2.2,[]⟩),(88,⟨Pm.1,Pm.2.1,Pm.2.2,[]⟩),(89,⟨Pn.1,Pn.2.1,Pn.2.2,[]⟩),(90,⟨Po.1,Po.2.1,Po.2.2,[]⟩),(91,⟨Pp.1,Pp.2.1,Pp.2.2,[]⟩),(92,⟨Pq.1,Pq.2.1,Pq.2.2,[]⟩),(93,⟨Pr.1,Pr.2.1,Pr.2.2,[]⟩),(94,⟨Ps.1,Ps.2.1,Ps.2.2,[]⟩),(95,⟨Pu.1,Pu.2.1,Pu.2.2,[]⟩),(96,⟨Pv.1,Pv.2.1,Pv.2.2,[]⟩),(97,⟨Pw.1,Pw.2.1,Pw.2.2,[]⟩),(98,⟨Pz.1,Pz.2.1,Pz.2.2,[]⟩),(99,⟨Py.1,Py.2.1,Py.2.2,[102]⟩),(100,⟨VL.1,VL.2.1,VL.2.2,[]⟩),(101,⟨VM.1,VM.2.1,VM.2.2,[]⟩),(102,⟨VN.1,VN.2.1,VN.2.2,[]⟩),(103,⟨VO.1,VO.2.1,VO.2.2,[]⟩),(104,⟨VP.1,VP.2.1,VP.2.2,[]⟩),(105,⟨VQ.1,VQ.2.1,VQ.2.2,[]⟩),(106,⟨VR.1,VR.2.1,VR.2.2,[]⟩),(107,⟨VS.1,VS.2.1,VS.2.2,[]⟩),(108,⟨VT.1,VT.2.1,VT.2.2,[]⟩),(109,⟨VU.1,VU.2.1,VU.2.2,[]⟩),(110,⟨VV.1,VV.2.1,VV.2.2,[]⟩),(111,⟨VW.1,VW.2.1,VW.2.2,[55]⟩),(112,⟨VZ.1,VZ.2.1,VZ.2.2,[]⟩),(113,⟨VY.1,VY.2.1,VY.2.2,[]⟩),(114,⟨VX.1,VX.2.1,VX.2.2,[]⟩),(115,⟨Va.1,Va.2.1,Va.2.2,[]⟩),(116,⟨Vb.1,Vb.2.1,Vb.2.2,[]⟩),(117,⟨Vc.1,Vc.2.1,Vc.2.2,[]⟩),(118,⟨Vd.1,Vd.2.1,Vd.2.2,[]⟩),(119,⟨Ve.1,Ve.2.1,Ve.2.2,[]⟩),(120,⟨Vf.1,Vf.2.1,Vf.2.2,[]⟩),(121,⟨Vg.1,Vg.2.1,Vg.2.2,[]⟩),(122,⟨Vh.1,Vh.2.1,Vh.2.2,[]⟩),(123,⟨Vi.1,Vi.2.1,Vi.2.2,[]⟩),(124,⟨Vj.1,Vj.2.1,Vj.2.2,[]⟩),(125,⟨Vk.1,Vk.2.1,Vk.2.2,[]⟩),(126,⟨Vl.1,Vl.2.1,Vl.2.2,[]⟩),(127,⟨Vm.1,Vm.2.1,Vm.2.2,[]⟩),(128,⟨Vn.1,Vn.2.1,Vn.2.2,[]⟩),(129,⟨Vo.1,Vo.2.1,Vo.2.2,[]⟩),(130,⟨Vp.1,Vp.2.1,Vp.2.2,[]⟩),(131,⟨Vq.1,Vq.2.1,Vq.2.2,[]⟩),(132,⟨Vr.1,Vr.2.1,Vr.2.2,[]⟩),(133,⟨Vs.1,Vs.2.1,Vs.2.2,[]⟩),(134,⟨Vt.1,Vt.2.1,Vt.2.2,[]⟩),(135,⟨Vu.1,Vu.2.1,Vu.2.2,[]⟩),(136,⟨Vv.1,Vv.2.1,Vv.2.2,[]⟩),(137,⟨Vw.1,Vw.2.1,Vw.2.2,[]⟩),(138,⟨Vz.1,Vz.2.1,Vz.2.2,[]⟩),(139,⟨Vy.1,Vy.2.1,Vy.2.2,[]⟩),(140,⟨Vx.1,Vx.2.1,Vx.2.2,[]⟩),(141,⟨W0.1,W0.2.1,W0.2.2,[]⟩),(142,⟨W2.1,W2.2.1,W2.2.2,[]⟩),(143,⟨W3.1,W3.2.1,W3.2.2,[]⟩),(144,⟨W4.1,W4.2.1,W4.2.2,[]⟩),(145,⟨W5.1,W5.2.1,W5.2.2,[]⟩),(146,⟨W6.1,W6.2.1,W6.2.2,[]⟩),(147,⟨W7.1,W7.2.1,W7.2.2,[]⟩),(148,⟨W8.1,W8.2.1,W8.2.2,[]⟩),(149,⟨W9.1,W9.2.1,W9.2.2,[]⟩),(150,⟨WA.1,WA.2.1,WA.2.2,[]⟩),(153,⟨WB.1,WB.2.1,WB.2.2,[]⟩),(154,⟨WC.1,WC.2.1,WC.2.2,[]⟩),(155,⟨WD.1,WD.2.1,WD.2.2,[]⟩),(156,⟨WE.1,WE.2.1,WE.2.2,[]⟩),(157,⟨WG.1,WG.2.1,WG.2.2,[]⟩),(158,⟨WH.1,WH.2.1,WH.2.2,[]⟩),(159,⟨WI.1,WI.2.1,WI.2.2,[]⟩),(160,⟨WJ.1,WJ.2.1,WJ.2.2,[]⟩)]
theorem Yr : nS prog Tb:=
 .cons func3 k3 <|
 .cons func4 k4 <|
 .cons func5 k5 <|
 .cons func6 k6 <|
 .cons func7 k7 <|
 .cons func8 k8 <|
 .cons func9 k9 <|
 .cons func10 Rl <|
 .cons func11 MO <|
 .cons func12 LM <|
 .cons func13 LN <|
 .cons func14 LO <|
 .cons func15 LP <|
 .cons func16 LR <|
 .cons func17 LS <|
 .cons func18 LU <|
 .cons func19 LW <|
 .cons func20 LZ <|
 .cons func21 LY <|
 .cons func22 LX <|
 .cons func23 La <|
 .cons func24 Lb <|
 .cons func25 Lc <|
 .cons func26 Ld <|
 .cons func27 Le <|
 .cons func28 Lf <|
 .cons func29 Lg <|
 .cons func30 Lh <|
 .cons func31 Li <|
 .cons func32 Lj <|
 .cons func33 Lk <|
 .cons func34 Ll <|
 .cons func35 MP <|
 .cons func36 MQ <|
 .cons func37 MR <|
 .cons func38 MS <|
 .cons func39 MT <|
 .cons func40 MU <|
 .cons func41 MV <|
 .cons func42 MW <|
 .cons func43 Lm <|
 .cons func44 Ln <|
 .cons func45 Lo <|
 .cons func46 Lp <|
 .cons func47 Lq <|
 .cons func48 MZ <|
 .cons func49 Lr <|
 .cons func50 Ls <|
 .cons func51 Lt <|
 .cons func52 Lu <|
 .cons func53 Lv <|
 .cons func54 Lw <|
 .cons func55 Lz <|
 .cons func56 Ly <|
 .cons func57 Lx <|
 .cons func58 M3 <|
 .cons func59 M4 <|
 .cons func60 M5 <|
 .cons func61 M6 <|
 .cons func62 M7 <|
 .cons func63 M8 <|
 .cons func64 M9 <|
 .cons func65 OM <|
 .cons func66 MY <|
 .cons func67 MX <|
 .cons func68 Ma <|
 .cons func69 Mb <|
 .cons func70 Mc <|
 .cons func71 Me <|
 .cons func72 Mf <|
 .cons func73 Mg <|
 .cons func74 Mh <|
 .cons func75 Mi <|
 .cons func76 Mj <|
 .cons func77 Ml <|
 .cons func78 Mm <|
 .cons func79 Mo <|
 .cons func80 Mp <|
 .cons func81 Mq <|
 .cons func82 Mr <|
 .cons func83 Ms <|
 .cons func84 Mt <|
 .cons func85 Mu <|
 .cons func86 Mv <|
 .cons func87 Mw <|
 .cons func88 Mz <|
 .cons func89 My <|
 .cons func90 Mx <|
 .cons func91 N0 <|
 .cons func92 N1 <|
 .cons func93 N2 <|
 .cons func94 N3 <|
 .cons func95 N4 <|
 .cons func96 N5 <|
 .cons func97 MA <|
 .cons func98 MB <|
 .cons func99 MC <|
 .cons func100 NA <|
 .cons func101 NB <|
 .cons func102 NC <|
 .cons func103 ND <|
 .cons func104 NF <|
 .cons func105 NG <|
 .cons func106 NH <|
 .cons func107 NI <|
 .cons func108 NJ <|
 .cons func109 NK <|
 .cons func110 NL <|
 .cons func111 NM <|
 .cons func112 NN <|
 .cons func113 NO <|
 .cons func114 NP <|
 .cons func115 R3 <|
 .cons func116 R5 <|
 .cons func117 XO <|
 .cons func118 R6 <|
 .cons func119 R7 <|
 .cons func120 R8 <|
 .cons func121 R9 <|
 .cons func122 RA <|
 .cons func123 RB <|
 .cons func124 RC <|
 .cons func125 RD <|
 .cons func126 RE <|
 .cons func127 RF <|
 .cons func128 RG <|
 .cons func129 NQ <|
 .cons func130 NR <|
 .cons func131 NS <|
 .cons func132 NT <|
 .cons func133 NU <|
 .cons func134 NV <|
 .cons func135 NW <|
 .cons func136 NZ <|
 .cons func137 NY <|
 .cons func138 NX <|
 .cons func139 Na <|
 .cons func140 Nb <|
 .cons func141 Nc <|
 .cons func142 Nf <|
 .cons func143 Ng <|
 .cons func144 Nh <|
 .cons func145 Ni <|
 .cons func146 Nj <|
 .cons func147 Nk <|
 .cons func148 Nl <|
 .cons func149 Nm <|
 .cons func150 Nn <|
 .cons func153 No <|
 .cons func154 Np <|
 .cons func155 Nq <|
 .cons func156 Nr <|
 .cons func157 Ns <|
 .cons func158 Nt <|
 .cons func159 Nu <|
 .cons func160 Nv <|
 .nil
theorem xO {O:nV} (hO:oH prog O) {g:FuncId} {args:List D} {d':D} (n:Nat) (h:(U1 (λ_=>false) (λ_=>false) Tb O n g args tQ).bind (λr=>(fz r.2 30 r.1).map λd=>xk 30 d d')= some true):xK prog g args d':=by obtain⟨⟨d,σ⟩,h1,h2⟩:=ζ.1 h;obtain⟨d1,h3,h4⟩:=δ.1 h2;have e:=rJ _ _ _ h4;subst e;exact(wk mixed (λ_ h=>by cases h) Yr hO n _ _ _ _ _ h1).eO (jD 30 _ _ h3)
theorem yU {O:nV} (hO:oH prog O) {g:FuncId} {args:List D} {d':D} {σ':St} (n:Nat) (h:(U1 (λ_=>false) (λ_=>false) Tb O n g args tQ).map (λr=>xk 30 r.1 d'&&TM r.2 σ')= some true):xW prog g args tQ d' σ':=by obtain⟨⟨d,σ⟩,h1,h2⟩:=δ.1 h;rw [η] at h2;rw [<- rJ _ _ _ h2.1,<- UO h2.2];exact wk mixed (λ_ h=>by cases h) Yr hO n _ _ _ _ _ h1
theorem wK {g:FuncId} {args:List D} {d':D} (n:Nat) (h:(U1 (λ_=>false) (λ_=>false) Tb OE n g args tQ).bind (λr=>(fz r.2 30 r.1).map λd=>xk 30 d d')= some true):xK prog g args d':=by obtain⟨⟨d,σ⟩,h1,h2⟩:=ζ.1 h;obtain⟨d1,h3,h4⟩:=δ.1 h2;have e:=rJ _ _ _ h4;subst e;exact(wk mixed (λ_ h=>by cases h) Yr xQ n _ _ _ _ _ h1).eO (jD 30 _ _ h3)
theorem So : xK prog 22 [.int .i64 1] (.xI [.agg [.int .i64 1,.sl 3 [[.int .i64 0,.int .i64 4,.int .i64 1],[.int .i64 0,.int .i64 5,.int .i64 2]]],.int .i64 0]):=wK 40 (by kernel_rfl)
theorem QT : xK prog 23 [.agg [.int .i64 1,.sl 3 [[.int .i64 0,.int .i64 4,.int .i64 1],[.int .i64 0,.int .i64 5,.int .i64 2]]]] (.xI [.agg [.int .i64 2,.int .i64 1,.int .i64 2,.sl 2 [[.sl 1 [[.sl 1 [[.int .i64 4],[.int .i64 4]]],[.sl 1 [[.int .i64 16],[.int .i64 17]]]],.sl 1 [[.int .u64 0],[.int .u64 0]]],[.sl 1 [[.sl 1 [[.int .i64 5],[.int .i64 4]]],[.sl 1 [[.int .i64 20],[.int .i64 18]]]],.sl 1 [[.int .u64 1],[.int .u64 1]]]]],.int .i64 0]):=wK 40 (by kernel_rfl)
theorem QN : xK prog 7 [.agg [.int .i64 1,.sl 3 [[.int .i64 0,.int .i64 4,.int .i64 1],[.int .i64 0,.int .i64 5,.int .i64 2]]]] (.xI [.agg [.int .i64 2,.int .i64 1,.int .i64 2,.sl 2 [[.sl 1 [[.sl 1 [[.int .i64 4],[.int .i64 4]]],[.sl 1 [[.int .i64 16],[.int .i64 17]]]],.sl 1 [[.int .u64 0],[.int .u64 0]]],[.sl 1 [[.sl 1 [[.int .i64 4],[.int .i64 4]]],[.sl 1 [[.int .i64 16],[.int .i64 16]]]],.sl 1 [[.int .u64 0],[.int .u64 0]]],[.sl 1 [[.sl 1 [[.int .i64 5],[.int .i64 4]]],[.sl 1 [[.int .i64 20],[.int .i64 18]]]],.sl 1 [[.int .u64 1],[.int .u64 1]]],[.sl 1 [[.sl 1 [[.int .i64 5],[.int .i64 4]]],[.sl 1 [[.int .i64 20],[.int .i64 16]]]],.sl 1 [[.int .u64 1],[.int .u64 1]]]]],.int .i64 0]):=wK 40 (by kernel_rfl)
theorem S0 : xK prog 6 [.int .i64 0] (.xI [.agg [.int .i64 0,.xU],.int .i64 0]):=wK 40 (by kernel_rfl)
theorem S3 : xK prog 6 [.int .i64 1] (.xI [.agg [.int .i64 1,.sl 3 [[.int .i64 0,.int .i64 5,.int .i64 1]]],.int .i64 0]):=wK 40 (by kernel_rfl)
theorem S4 : xK prog 6 [.int .i64 2] (.xI [.agg [.int .i64 2,.sl 3 [[.int .i64 0,.int .i64 5,.int .i64 1],[.int .i64 1,.int .i64 17,.int .i64 1]]],.int .i64 0]):=wK 40 (by kernel_rfl)
theorem S5 : xK prog 6 [.int .i64 3] (.xI [.agg [.int .i64 3,.sl 3 [[.int .i64 0,.int .i64 5,.int .i64 1],[.int .i64 0,.int .i64 81,.int .i64 1],[.int .i64 1,.int .i64 17,.int .i64 1]]],.int .i64 0]):=wK 40 (by kernel_rfl)
theorem S6 : xK prog 6 [.int .i64 4] (.xI [.agg [.int .i64 4,.sl 3 [[.int .i64 0,.int .i64 5,.int .i64 1],[.int .i64 0,.int .i64 81,.int .i64 1],[.int .i64 1,.int .i64 17,.int .i64 1],[.int .i64 1,.int .i64 273,.int .i64 1]]],.int .i64 0]):=wK 40 (by kernel_rfl)
end Go.Pd

/- Part F4. -/
namespace Go.Pd
open Go Go.Proofs
open BitVec renaming isValue -> ZA
open Rs
namespace Fm
structure aE where
 x:Bool
 y:Bool
 fa:Bool
 ag:Bool
 gr:Bool
 ev:Bool
 fr:Int
def aE.row (u:aE):List D:=[.bool u.x,.bool u.y,.bool u.fa,.bool u.ag,.bool u.gr,.bool u.ev,.int .i64 u.fr]
def mT : aE:=⟨false,false,false,false,false,false,0⟩
def xS (op:Int):aE × Bool:=
 if op<1\/21<op then(mT,false) else if op<=2 then(mT,true) else if op=3 then(⟨false,false,true,false,false,false,0⟩,true) else if op=4 then(⟨true,false,false,false,false,false,0⟩,true)
 else if op<=8 then(⟨true,true,false,false,false,false,0⟩,true) else if op<=10 then(⟨true,false,false,true,false,false,1⟩,true) else if op=11 then(⟨true,false,false,false,true,false,2⟩,true)
 else if op=12 then(⟨true,false,false,false,true,false,4⟩,true) else if op=13 then(⟨true,true,false,false,true,false,8⟩,true) else if op=14 then(⟨true,true,false,true,false,false,16⟩,true)
 else if op=15 then(⟨true,false,false,true,false,false,32⟩,true) else if op=16 then(⟨true,true,false,false,false,false,64⟩,true) else if op=17 then(⟨true,false,false,false,false,true,128⟩,true)
 else if op=18\/op=20 then(⟨true,false,false,false,false,false,256⟩,true) else(⟨true,true,false,false,false,false,256⟩,true)
end Fm
open Fm
theorem dC (op:Int):xK prog 65 [.int .i64 op] (.xI [.agg (xS op).1.row,.bool (xS op).2]):=by
 have hc:op=1\/op=2\/op=3\/op=4\/op=5\/op=6\/op=7\/op=8\/op=9\/op=10\/op=11\/op=12\/op=13\/op=14\/op=15\/op=16\/op=17\/op=18\/op=19\/op=20\/op=21\/(op<1\/21<op):=by omega
 rcases hc with rfl | rfl | rfl | rfl | rfl | rfl | rfl | rfl | rfl | rfl | rfl | rfl | rfl | rfl | rfl | rfl | rfl | rfl | rfl | rfl | rfl | hc
 rotate_right
 ·have e:∀ i:Int,1<=i->i<=21->(op==i)= false:=λi h1 h2=>by simp; omega
  refine zJ func65 OM λhf=>?_;simp only [simprocAttr,-ZA,↓zU,↓zD,zV,zT,zW,e 1 (by omega) (by omega),e 2 (by omega) (by omega),e 3 (by omega) (by omega),e 4 (by omega) (by omega),e 5 (by omega) (by omega),e 6 (by omega) (by omega),e 7 (by omega) (by omega),e 8 (by omega) (by omega),e 9 (by omega) (by omega),e 10 (by omega) (by omega),e 11 (by omega) (by omega),e 12 (by omega) (by omega),e 13 (by omega) (by omega),e 14 (by omega) (by omega),e 15 (by omega) (by omega),e 16 (by omega) (by omega),e 17 (by omega) (by omega),e 18 (by omega) (by omega),e 19 (by omega) (by omega),e 20 (by omega) (by omega),e 21 (by omega) (by omega)];rw [show xS op=(mT,false) from if_pos hc];exact .drop (by simp) (by simp [vw,rN,aE.row,mT])
 all_goals
  refine zJ func65 OM λhf=>?_;refine yQ ?_;exact .drop (by simp) (by simp [vw,rN,xS,aE.row,mT])
open Rs Fm
namespace Fm
structure Nd where
 op:Int
 i:Int
 e:Int
 g:Int
 x:Int
 y:Int
 deriving DecidableEq
def Nd.row (p:Nd):List D:=[.int .i64 p.op,.int .i64 p.i,.int .i64 p.e,.int .i64 p.g,.int .i64 p.x,.int .i64 p.y]
def yE (u:Bool) (f at_:Int):Bool:=if u=true then decide (0<=f)&& decide (f<at_) else decide (f=0)
def xA (u:Bool) (v lo hi:Int):Bool:=u&&(decide (v<lo) || decide (hi<v))
def wL (p:Nd) (k:Int):Int:=
 if (xS p.op).2=false then 10 else
 if (yE (xS p.op).1.x p.x k&&yE (xS p.op).1.y p.y k)= false then 3 else
 if ((!((xS p.op).1.fa || (xS p.op).1.ag || (xS p.op).1.ev)&& decide (p.i≠0)) || (!(xS p.op).1.ev&&decide (p.e≠0)) || (!(xS p.op).1.gr&&decide (p.g≠0)))= true then 3 else
 if (xA (xS p.op).1.fa p.i 0 7 || xA (xS p.op).1.ag p.i 0 3 || xA (xS p.op).1.ev p.i 0 7 || xA (xS p.op).1.ev p.e 0 7 || xA (xS p.op).1.gr p.g 1 15)= true then 2 else 0
theorem ig (op:Int):((xS op).1.fa=false/\(xS op).1.ag=false/\(xS op).1.gr=false/\(xS op).1.ev=false)\/((xS op).1.fa=true/\(xS op).1.ag=false/\(xS op).1.gr=false/\(xS op).1.ev=false) \/
  ((xS op).1.fa=false/\(xS op).1.ag=true/\(xS op).1.gr=false/\(xS op).1.ev=false)\/((xS op).1.fa=false/\(xS op).1.ag=false/\(xS op).1.gr=true/\(xS op).1.ev=false)\/((xS op).1.fa=false/\(xS op).1.ag=false/\(xS op).1.gr=false/\(xS op).1.ev=true):=by
 have hc:op=1\/op=2\/op=3\/op=4\/op=5\/op=6\/op=7\/op=8\/op=9\/op=10\/op=11\/op=12\/op=13\/op=14\/op=15\/op=16\/op=17\/op=18\/op=19\/op=20\/op=21\/(op<1\/21<op):=by omega
 rcases hc with rfl | rfl | rfl | rfl | rfl | rfl | rfl | rfl | rfl | rfl | rfl | rfl | rfl | rfl | rfl | rfl | rfl | rfl | rfl | rfl | rfl | hc
 rotate_right
 ·rw [show xS op=(mT,false) from if_pos hc]; exact .inl ⟨rfl,rfl,rfl,rfl⟩
 all_goals simp [xS,mT]
end Fm
theorem yh (u:Bool) (f k:Int):xK prog 115 [.bool u,.int .i64 f,.int .i64 k] (.bool (yE u f k)):=by
 refine zJ func115 R3 λhf=>?_
 cases u
 ·refine yQ ?_
  by_cases h:f=0
  ·have e:(f==0)= true:=by simpa using h
   exact .drop (by simp) (by simp [vw,yE,e,h])
  ·have e:(f==0)= false:=by simpa using h
   exact .drop (by simp) (by simp [vw,yE,e,h])
 ·by_cases h1:0<=f
  ·by_cases h2:f<k
   ·refine mX h1 h2 ?_;exact .drop (by simp) (by simp [vw,yE,h1,h2])
   ·refine mX h1 h2 ?_;exact .drop (by simp) (by simp [vw,yE,h1,h2])
  ·refine yF h1 ?_;exact .drop (by simp) (by simp [vw,yE,h1])
theorem yW (u:Bool) (v lo hi:Int):xK prog 116 [.bool u,.int .i64 v,.int .i64 lo,.int .i64 hi] (.bool (xA u v lo hi)):=by
 refine zJ func116 R5 λhf=>?_
 cases u
 ·refine yQ ?_;exact .drop (by simp) (by simp [vw,xA])
 ·by_cases h1:v<lo
  ·refine yF h1 ?_;exact .drop (by simp) (by simp [vw,xA,h1])
  ·by_cases h2:hi<v
   ·refine mX h1 h2 ?_;exact .drop (by simp) (by simp [vw,xA,h1,h2])
   ·refine mX h1 h2 ?_;exact .drop (by simp) (by simp [vw,xA,h1,h2])
theorem pw (p:Nd) (k:Int):xK prog 66 [.agg p.row,.int .i64 k] (.int .i64 (wL p k)):=by
 have hk:=ig p.op;have hu:=dC p.op
 have en:wL p k=if (xS p.op).2=false then 10 else
  if (yE (xS p.op).1.x p.x k&&yE (xS p.op).1.y p.y k)= false then 3 else
  if ((!((xS p.op).1.fa || (xS p.op).1.ag || (xS p.op).1.ev)&& decide (p.i≠0)) || (!(xS p.op).1.ev&&decide (p.e≠0)) || (!(xS p.op).1.gr&&decide (p.g≠0)))= true then 3 else
  if (xA (xS p.op).1.fa p.i 0 7 || xA (xS p.op).1.ag p.i 0 3 || xA (xS p.op).1.ev p.i 0 7 || xA (xS p.op).1.ev p.e 0 7 || xA (xS p.op).1.gr p.g 1 15)= true then 2 else 0:=rfl
 rw [en];generalize xS p.op=q at hk hu;obtain⟨⟨ux,uy,fa,ag,gr,ev,fr⟩,ok⟩:=q;simp only [aE.row] at hk hu ⊢;refine zJ func66 MY λhf=>?_;simp only [simprocAttr,-ZA,↓zU,↓zD,zV,zT,zW,Nd.row]
 (repeat refine sd ?_)
 refine .go (cq hu) ?_
 cases ok
 ·refine yQ ?_;exact .dv
 refine yQ ?_;refine .go (cq (yh ux p.x k)) ?_
 cases hx:yE ux p.x k
 ·refine yQ ?_;exact .dv
 refine yQ ?_;refine .go (cq (yh uy p.y k)) ?_
 cases hy:yE uy p.y k
 ·refine yQ ?_;exact .dv
 have ob:∀ v lo hi,xA false v lo hi=false:=λ_ _ _=>rfl
 rcases hk with ⟨rfl,rfl,rfl,rfl⟩ | ⟨rfl,rfl,rfl,rfl⟩ | ⟨rfl,rfl,rfl,rfl⟩ | ⟨rfl,rfl,rfl,rfl⟩ | ⟨rfl,rfl,rfl,rfl⟩
 ·skip;by_cases hi:p.i=0
  case neg=> have ei:(p.i != 0)= true:=bne_iff_ne.2 hi;refine yF ei ?_;exact .drop (by simp) (by simp [vw,hi])
  have ei:(p.i != 0)= false:=by simpa using hi
  by_cases he:p.e=0
  case neg=> have ee:(p.e != 0)= true:=bne_iff_ne.2 he;refine mX ei ee ?_;exact .drop (by simp) (by simp [vw,he,hi])
  have ee:(p.e != 0)= false:=by simpa using he
  by_cases hg:p.g=0
  case neg=> have eg:(p.g != 0)= true:=bne_iff_ne.2 hg;refine jl ei ee eg ?_;exact .drop (by simp) (by simp [vw,hg,hi,he])
  have eg:(p.g != 0)= false:=by simpa using hg
  refine jl ei ee eg ?_;refine .go (cq (yW false p.i 0 7)) ?_;refine yF ob ?_;refine .go (cq (yW false p.i 0 3)) ?_;refine yF ob ?_;refine .go (cq (yW false p.i 0 7)) ?_;refine yF ob ?_;refine .go (cq (yW false p.e 0 7)) ?_;refine yF ob ?_;refine .go (cq (yW false p.g 1 15)) ?_;refine yF ob ?_;exact .drop (by simp) (by simp [vw,ob,hi,he,hg])
 ·skip;by_cases he:p.e=0
  case neg=> have ee:(p.e != 0)= true:=bne_iff_ne.2 he;refine yF ee ?_;exact .drop (by simp) (by simp [vw,he])
  have ee:(p.e != 0)= false:=by simpa using he
  by_cases hg:p.g=0
  case neg=> have eg:(p.g != 0)= true:=bne_iff_ne.2 hg;refine mX ee eg ?_;exact .drop (by simp) (by simp [vw,hg,he])
  have eg:(p.g != 0)= false:=by simpa using hg
  refine mX ee eg ?_;refine .go (cq (yW true p.i 0 7)) ?_;cases oi:xA true p.i 0 7
  case true=> refine yQ ?_;exact .drop (by simp) (by simp [vw,ob,he,hg,oi])
  refine yQ ?_;refine .go (cq (yW false p.i 0 3)) ?_;refine yF ob ?_;refine .go (cq (yW false p.i 0 7)) ?_;refine yF ob ?_;refine .go (cq (yW false p.e 0 7)) ?_;refine yF ob ?_;refine .go (cq (yW false p.g 1 15)) ?_;refine yF ob ?_;exact .drop (by simp) (by simp [vw,ob,he,hg,oi])
 ·skip;by_cases he:p.e=0
  case neg=> have ee:(p.e != 0)= true:=bne_iff_ne.2 he;refine yF ee ?_;exact .drop (by simp) (by simp [vw,he])
  have ee:(p.e != 0)= false:=by simpa using he
  by_cases hg:p.g=0
  case neg=> have eg:(p.g != 0)= true:=bne_iff_ne.2 hg;refine mX ee eg ?_;exact .drop (by simp) (by simp [vw,hg,he])
  have eg:(p.g != 0)= false:=by simpa using hg
  refine mX ee eg ?_;refine .go (cq (yW false p.i 0 7)) ?_;refine yF ob ?_;refine .go (cq (yW true p.i 0 3)) ?_;cases oi:xA true p.i 0 3
  case true=> refine yQ ?_;exact .drop (by simp) (by simp [vw,ob,he,hg,oi])
  refine yQ ?_;refine .go (cq (yW false p.i 0 7)) ?_;refine yF ob ?_;refine .go (cq (yW false p.e 0 7)) ?_;refine yF ob ?_;refine .go (cq (yW false p.g 1 15)) ?_;refine yF ob ?_;exact .drop (by simp) (by simp [vw,ob,he,hg,oi])
 ·skip;by_cases hi:p.i=0
  case neg=> have ei:(p.i != 0)= true:=bne_iff_ne.2 hi;refine yF ei ?_;exact .drop (by simp) (by simp [vw,hi])
  have ei:(p.i != 0)= false:=by simpa using hi
  by_cases he:p.e=0
  case neg=> have ee:(p.e != 0)= true:=bne_iff_ne.2 he;refine mX ei ee ?_;exact .drop (by simp) (by simp [vw,he,hi])
  have ee:(p.e != 0)= false:=by simpa using he
  refine mX ei ee ?_;refine .go (cq (yW false p.i 0 7)) ?_;refine yF ob ?_;refine .go (cq (yW false p.i 0 3)) ?_;refine yF ob ?_;refine .go (cq (yW false p.i 0 7)) ?_;refine yF ob ?_;refine .go (cq (yW false p.e 0 7)) ?_;refine yF ob ?_;refine .go (cq (yW true p.g 1 15)) ?_;cases og:xA true p.g 1 15
  case true=> refine yQ ?_;exact .drop (by simp) (by simp [vw,ob,hi,he,og])
  refine yQ ?_;exact .drop (by simp) (by simp [vw,ob,hi,he,og])
 ·skip;by_cases hg:p.g=0
  case neg=> have eg:(p.g != 0)= true:=bne_iff_ne.2 hg;refine yF eg ?_;exact .drop (by simp) (by simp [vw,hg])
  have eg:(p.g != 0)= false:=by simpa using hg
  refine yF eg ?_;refine .go (cq (yW false p.i 0 7)) ?_;refine yF ob ?_;refine .go (cq (yW false p.i 0 3)) ?_;refine yF ob ?_;refine .go (cq (yW true p.i 0 7)) ?_;cases oi:xA true p.i 0 7
  case true=> refine yQ ?_;exact .drop (by simp) (by simp [vw,ob,hg,oi])
  refine yQ ?_;refine .go (cq (yW true p.e 0 7)) ?_;cases oe:xA true p.e 0 7
  case true=> refine yQ ?_;exact .drop (by simp) (by simp [vw,ob,hg,oi,oe])
  refine yQ ?_;refine .go (cq (yW false p.g 1 15)) ?_;refine yF ob ?_;exact .drop (by simp) (by simp [vw,ob,hg,oi,oe])
open Rs Fm
namespace Fm
def nG : Nd:=⟨0,0,0,0,0,0⟩
def uS (l:List Nd):List (List D):=l.map Nd.row
theorem wI (l:List Nd):(uS l).length=l.length:=by simp [uS]
theorem lI (l:List Nd) {i:Nat} (h:i<l.length):(uS l).getD i []=(l.getD i nG).row:=by simp [uS,List.getD,h]
theorem ZO (l:List Nd):∀ e ∈ uS l,D.xJ e=true:=by intro e he;simp only [uS,List.mem_map] at he;obtain⟨p,_,rfl⟩:=he;simp [Nd.row,D.xJ,D.xH]
def wx : List Nd->Int->Int
 | [],_=>0
 | p :: r,i=>if wL p i≠0 then wL p i else wx r (i+1)
def wS (f:List Nd):Int:=if f = [] then 3 else if 200<f.length then 8 else wx f 0
theorem j0 {f:List Nd}:∀ {i:Int},wx f i=0->∀ k,k<f.length->wL (f.getD k nG) (i+k)= 0:=by
 induction f with
 | nil=>intro i _ k hk; simp at hk
 | cons p r ih=>
  intro i h k hk;unfold wx at h
  by_cases hp:wL p i≠0
  ·rw [if_pos hp] at h; exact absurd h hp
  ·rw [if_neg hp] at h
   cases k with
   | zero=>simpa using hp
   | succ k=> have:=ih h k (by simpa using hk);rw [List.getD_cons_succ,show i+((k+1:Nat):Int)= i+1+k by omega];exact this
end Fm
theorem bA (f:List Nd):xK prog 36 [.sl 6 (uS f)] (.int .i64 (wS f)):=by
 refine zJ func36 MQ λhf=>?_;simp only [D.nE,D.fact,wI] at hf;have hlen:=hf.1.1
 by_cases h1:f.length=0
 ·have e1:((f.length:Int)== 0)= true:=by simpa using h1
  refine mX wI e1 ?_;rw [show wS f=3 from if_pos (List.length_eq_zero_iff.1 h1)];exact .same
 have e1:((f.length:Int)== 0)= false:=by simpa using h1
 have hne:f ≠ []:=λe=>h1 (by rw [e]; rfl)
 by_cases h2:200<f.length
 ·have h2':(200:Int)<(f.length:Int):=by omega
  refine jl wI e1 h2' ?_;rw [show wS f=8 by rw [wS,if_neg hne,if_pos h2]];exact .same
 have h2':¬ (200:Int)<(f.length:Int):=by omega
 rw [show wS f=wx f 0 by rw [wS,if_neg hne,if_neg h2]];refine jl wI e1 h2' ?_
 refine zC (λk:Nat=>[(14,.int .i64 k),(13,.int .i64 f.length),(12,.sl 6 (uS f))]) (λ_=>⟨0,[]⟩) (λk=>k<=f.length/\wx f 0=wx (f.drop k) k) (λk=>f.length-k) 0 ⟨Nat.zero_le _,rfl⟩ ?_ ?_
 ·exact sV
 intro k ⟨hk,hi⟩;refine wZ mixed ?_;by_cases h:k<f.length
 case neg=>
  have hd:¬ ((k:Int)<(f.length:Int)):=by omega
  rw [List.drop_eq_nil_of_le (by omega),wx] at hi;refine yF hd ?_;rw [hi];exact .same
 have hd:((k:Int)<(f.length:Int)):=by omega
 rw [drop_cons (d:=nG) h,wx] at hi;have hg:=lI f h;generalize f.getD k nG=p at hg hi;simp only [simprocAttr,-ZA,↓zU,↓zD,zV,zT,zW,hd,wI,hg,Nd.row]
 (repeat refine sd ?_)
 refine .go (xW.vZ (pw p k) (by simp [D.xJ,D.xH,Nd.row])) ?_
 by_cases he:wL p k=0
 ·have e:(wL p k != 0)= false:=by simpa using he
  rw [if_neg (by simpa using he)] at hi;refine yF e ?_;refine⟨k+1,⟨by omega,hi⟩,?_,by omega⟩
  (refine yV.view (λk=>k) (by simp) (by simp) ?_ (by simp [stays]) (by simp [rU]); simp [uk,vw,rN,Fr.get])
  exact wrap_i64 (by omega)
 ·have e:(wL p k != 0)= true:=bne_iff_ne.2 he;rw [if_pos he] at hi;refine yF e ?_;rw [hi];exact .dv
open Rs Fm
namespace Fm
end Fm
theorem UQ (p:Nd) (u:aE):xK prog 73 [.agg p.row,.agg u.row] (.int .i64 u.fr):=by
 refine zJ func73 Mg λhf=>?_;simp only [simprocAttr,-ZA,↓zU,↓zD,zV,zT,zW,Nd.row,aE.row]
 (repeat refine sd ?_)
 exact .dv
theorem UP (p:Nd) (u:aE) (h:u.fa=true->0<=p.i/\p.i<=7):xK prog 121 [.agg p.row,.agg u.row] (.int .i64 (if u.fa=true then((2 ^ p.i.toNat:Nat):Int) else 0)):=by
 refine zJ func121 R9 λhf=>?_
 cases hu:u.fa
 ·simp only [simprocAttr,-ZA,↓zU,↓zD,zV,zT,zW,Nd.row,aE.row,hu]
  (repeat refine sd ?_)
  exact .dv
 ·obtain⟨i,hi⟩:=Int.eq_ofNat_of_zero_le (h hu).1;have hi7:=(h hu).2;simp only [simprocAttr,-ZA,↓zU,↓zD,zV,zT,zW,Nd.row,aE.row,hu,hi,RQ (show i<=61 by omega)]
  (repeat refine sd ?_)
  exact .dv
theorem Wf (p:Nd) (u:aE) (h:u.ag=true->0<=p.i/\p.i<=7):xK prog 120 [.agg p.row,.agg u.row] (.int .i64 (if u.ag=true then((2 ^ p.i.toNat:Nat):Int) else p.g)):=by
 refine zJ func120 R8 λhf=>?_
 cases hu:u.ag
 ·simp only [simprocAttr,-ZA,↓zU,↓zD,zV,zT,zW,Nd.row,aE.row,hu]
  (repeat refine sd ?_)
  exact .dv
 ·obtain⟨i,hi⟩:=Int.eq_ofNat_of_zero_le (h hu).1;have hi7:=(h hu).2;simp only [simprocAttr,-ZA,↓zU,↓zD,zV,zT,zW,Nd.row,aE.row,hu,hi,RQ (show i<=61 by omega)]
  (repeat refine sd ?_)
  exact .dv
open Rs Fm
namespace Fm
def Nd.key (p:Nd):List Int:=[p.op,p.i,p.e,p.g,p.x,p.y]
theorem key_inj {p q:Nd} (h:p.key=q.key):p=q:=by cases p; cases q;simp only [Nd.key,List.cons.injEq,and_true] at h;simp only [Nd.mk.injEq];exact h
def pG : List Nd->Nat->List (List Int × D)
 | [],_=>[]
 | q :: r,k=>(q.key,.int .i64 k) :: pG r (k+1)
def kF (q:Nd):List Nd->Nat->Option Nat
 | [],_=>none
 | p :: r,k=>if q=p then some k else kF q r (k+1)
theorem sC (q:Nd):∀ (l:List Nd) (k:Nat),sR q.key (pG l k) k=(kF q l k).map λ(j:Nat)=>(j,D.int .i64 (j:Int))
 | [],k=>rfl
 | p :: r,k=>by
  unfold pG sR kF
  by_cases h:q=p
  ·rw [if_pos (by rw [h]),if_pos h]; rfl
  ·rw [if_neg (λe=>h (key_inj e)),if_neg h]; exact sC q r (k+1)
theorem kW (q:Nd):∀ (l:List Nd) (k:Nat),pG (l ++ [q]) k=pG l k ++ [(q.key,.int .i64 (k+l.length:Nat))]
 | [],k=>rfl
 | p :: r,k=>by show _ :: pG (r ++ [q]) (k+1)= _;rw [kW q r (k+1)];simp [pG,Nat.add_assoc,Nat.add_comm 1]
theorem oL (l:List Nd):∀ (k:Nat),∀ p ∈ pG l k,p.1.length=6:=by
 induction l with
 | nil=>intro k p hp; cases hp
 | cons q r ih=>
  intro k p hp
  rcases List.mem_cons.1 hp with rfl | hp
  ·rfl
  ·exact ih _ p hp
def nB (x y:Int):List (Int × Int)->List (Int × Int)
 | []=>[(x,y)]
 | (k,z) :: r=>if x=k then(x,y) :: r else(k,z) :: nB x y r
theorem uP (x:Int) (l:List (Int × D)):∀ i,wD x l (i+1)= (wD x l i).map λp=>(p.1+1,p.2):=by
 induction l with
 | nil=>intro i; rfl
 | cons p r ih=>
  intro i;obtain⟨k,d⟩:=p;unfold wD
  by_cases h:x=k
  ·rw [if_pos h,if_pos h]; rfl
  ·rw [if_neg h,if_neg h]; exact ih (i+1)
theorem qJ (x y:Int):∀ (u:List (Int × Int)),hZ (mo u) x (.int .i64 y)= mo (nB x y u)
 | []=>rfl
 | (k,z) :: r=>by
  have ih:=qJ x y r;unfold hZ at ih ⊢
  show (match wD x ((k,D.int .i64 z) :: mo r) 0 with
   | some (i,_)=>((k,D.int .i64 z) :: mo r).set i (x,D.int .i64 y)
   | none=>((k,D.int .i64 z) :: mo r)++ [(x,D.int .i64 y)])= _
  unfold wD nB
  by_cases h:x=k
  ·rw [if_pos h,if_pos h]; rfl
  ·rw [if_neg h,if_neg h,uP]
   cases ha:wD x (mo r) 0 with
   | none=>rw [ha] at ih; simp only [ε]; show _=(k,D.int .i64 z) :: mo (nB x y r); rw [<- ih]; rfl
   | some p=>rw [ha] at ih; obtain⟨i,d⟩:=p; simp only [γ]; show _=(k,D.int .i64 z) :: mo (nB x y r); rw [<- ih]; rfl
theorem qI (x y z:Int):∀ (u:List (Int × Int)),wM z (nB x y u)= if z=x then some y else wM z u
 | []=>by simp [nB,wM]
 | (k,w) :: r=>by
  unfold nB
  by_cases h:x=k
  ·rw [if_pos h];subst h;unfold wM
   by_cases e:z=x
   ·rw [if_pos e,if_pos e]
   ·rw [if_neg e,if_neg e,if_neg e]
  ·rw [if_neg h];unfold wM;rw [qI x y z r]
   by_cases e:z=k
   ·rw [if_pos e,if_neg (by omega),if_pos e]
   ·rw [if_neg e,if_neg e]
structure CS where
 out:List Nd
 done:List (Int × Int)
def xE (f:List Nd):Nat->Nat->CS->Int × CS
 | 0,_,s=>(0,s)
 | n+1,i,s=>match wM i s.done with
  | some k=>(k,s)
  | none=>
   let p:=f.getD i nG
   let a:=if (xS p.op).1.x=true then xE f n p.x.toNat s else(p.x,s)
   let b:=if (xS p.op).1.y=true then xE f n p.y.toNat a.2 else(p.y,a.2)
   let q:Nd:=⟨p.op,p.i,p.e,p.g,a.1,b.1⟩
   match kF q b.2.out 0 with
   | some k=>(k,⟨b.2.out,nB i k b.2.done⟩)
   | none=>(b.2.out.length,⟨b.2.out ++ [q],nB i b.2.out.length b.2.done⟩)
def oJ (f:List Nd) (i:Nat):List Nd:=(xE f (i+1) i ⟨[],[]⟩).2.out
end Fm
open Rs Fm
namespace Fm
structure pD (f : List Nd) (nx : Nat) (xY : List (Nat × Ob)) (key : Nat) (s : CS) : Prop where
 hn:7<=nx
 h0:St.look xY 0=some ⟨1,[[.sl 6 (uS f)]]⟩
 h1:St.look xY 1=some ⟨1,[[yH key 6 (uS s.out)]]⟩
 hk:7<=key/\key≠nx/\key≠nx+1/\St.look xY key=vF 6 (uS s.out)
 fr:∀ k,nx<=k->St.look xY k=none
 h2:St.look xY 2=some ⟨0,vD (pG s.out 0)⟩
 h3:St.look xY 3=some ⟨1,[[.xG 2]]⟩
 h4:St.look xY 4=some ⟨0,tX .i64 (mo s.done)⟩
 h5:St.look xY 5=some ⟨1,[[.xG 4]]⟩
 h6:St.look xY 6=some ⟨1,[[.fn 117 [.ref 5 1 0 0,.ref 0 1 0 0,.ref 6 1 0 0,.ref 3 1 0 0,.ref 1 1 0 0]]]⟩
def rF (op i e g x y:Int):Ob:=⟨6,[[.int .i64 op,.int .i64 i,.int .i64 e,.int .i64 g,.int .i64 x,.int .i64 y]]⟩
def jN (u:aE):Ob:=⟨7,[[.bool u.x,.bool u.y,.bool u.fa,.bool u.ag,.bool u.gr,.bool u.ev,.int .i64 u.fr]]⟩
def VH (i:Nat) (nx nx2:Nat) (objs2:List (Nat × Ob)) (key2:Nat) (s2:CS) (q:Nd) (d:D) (σ':St):Prop:=
 (∃ k,kF q s2.out 0=some k/\d = .int .i64 k/\σ'=⟨nx2,vK (vK objs2 nx (rF q.op q.i q.e q.g q.x q.y)) 4 ⟨0,tX .i64 (mo (nB i k s2.done))⟩⟩) \/
 (kF q s2.out 0=none/\s2.out.length<=1000/\d = .int .i64 s2.out.length/\σ'=⟨nx2+1,yD nx2 6 (uS (s2.out ++ [q]))++ vK (vK (vK (zI (vK objs2 nx (rF q.op q.i q.e q.g q.x q.y)) key2) 1 ⟨1,[[yH nx2 6 (uS (s2.out ++ [q]))]]⟩) 2 ⟨0,vD (pG (s2.out ++ [q]) 0)⟩) 4 ⟨0,tX .i64 (mo (nB i s2.out.length s2.done))⟩⟩)
end Fm
theorem VD {f:List Nd} {nx:Nat} {xY:List (Nat × Ob)} {key:Nat} {s:CS} {i:Nat} {d:D} {σ':St} (hI:pD f nx xY key s) (hi:i<f.length) (hlen:f.length<=1000) {p:Nd} (hp:f.getD i nG=p) (hno:wM i s.done=none) (hux:(xS p.op).1.x=false) (huy:(xS p.op).1.y=false)
  (h:VH i nx (nx+1+1) ((nx+1,jN (xS p.op).1) :: (nx,rF p.op p.i p.e p.g p.x p.y) :: xY) key s p d σ') :
  xW prog 117 [.int .i64 i,.ref 5 1 0 0,.ref 0 1 0 0,.ref 6 1 0 0,.ref 3 1 0 0,.ref 1 1 0 0] ⟨nx,xY⟩ d σ':=by
 obtain⟨hn,h0,h1,⟨k1,k2,k3,hkk⟩,hfr,h2,h3,h4,h5,h6⟩:=hI;rcases mA (i:Int) s.done 0 with ⟨q1,q2⟩ | ⟨y,j,q1,q2⟩
 rotate_left
 ·rw [hno] at q1; cases q1
 have hg:=lI f hi;rw [hp] at hg;have hx1:∀ k:Nat,k<7->¬ nx=k:=λk h=>by omega
 have hx2:∀ k:Nat,k<7->¬ nx+1=k:=λk h=>by omega
 have hx3:¬ nx+1=nx:=by omega
 have hmg:∀ {nx':Nat} {objs':List (Nat × Ob)} {zero:D} {ok:Bool} {K:D->Prop},St.look objs' 2=some ⟨0,vD (pG s.out 0)⟩->mP ⟨nx',objs'⟩ 6 zero ok (.xG 2) (.agg [.int .i64 p.op,.int .i64 p.i,.int .i64 p.e,.int .i64 p.g,.int .i64 p.x,.int .i64 p.y]) K=K (sZ ok zero ((kF p s.out 0).map λ(j:Nat)=>(j,D.int .i64 (j:Int)))):=λ{nx' objs' zero ok K} hl=>by rw [<- sC p s.out 0];exact gF hl (x:=p.key) rfl rfl (oL _ _)
 refine zJ func117 XO λhf=>?_;simp only [simprocAttr,-ZA,↓zU,↓zD,zV,zT,zW,h5,h4,q2,h0,wI,hg,Nd.row]
 (repeat refine sd ?_)
 refine .go (cq (dC p.op)) ?_
 have hl2:St.look ((nx+1,jN (xS p.op).1) :: (nx,rF p.op p.i p.e p.g p.x p.y) :: xY) 2=some ⟨0,vD (pG s.out 0)⟩:=by rw [xX,if_neg (by omega),xX,if_neg (by omega)]; exact h2
 simp only [jN,rF,hux,huy] at hl2
 rcases h with ⟨k,e1,rfl,rfl⟩ | ⟨e1,e2,rfl,rfl⟩
 ·have hmg2:=@hmg;rw [e1] at hmg2;simp only [simprocAttr,-ZA,↓zU,↓zD,zV,zT,zW,aE.row,hux,huy,h3,hx1 3 (by omega),hx2 3 (by omega),hx1 5 (by omega),hx2 5 (by omega),hx1 4 (by omega),hx2 4 (by omega),hx1 2 (by omega),hx2 2 (by omega),hx3,h2,hmg2,γ,h5,h4]
  (repeat refine sd ?_)
  rw [qJ];simp only [jN,rF,hux,huy];exact .same
 ·have hmg2:=@hmg;rw [e1] at hmg2;have hx4:¬ nx=key:=by omega
  have hx5:¬ nx+1=key:=by omega
  have hx6:∀ k:Nat,k<7->¬ nx+1+1=k:=λk h=>by omega
  have hx7:¬ nx+1+1=nx:=by omega
  have hx8:¬ nx+1+1=nx+1:=by omega
  have he:∀ k:Nat,k<7->St.look (zI xY key) k=St.look xY k:=λk h=>by rw [yO,if_neg (by omega)]
  have he1:=he 1 (by omega);have he2:=he 2 (by omega);have he3:=he 3 (by omega);have he4:=he 4 (by omega);have he5:=he 5 (by omega);rw [h1] at he1;rw [h2] at he2;rw [h3] at he3;rw [h4] at he4;rw [h5] at he5;have hpz:D.xJ [.int .i64 p.op,.int .i64 p.i,.int .i64 p.e,.int .i64 p.g,.int .i64 p.x,.int .i64 p.y]=true:=by simp [D.xJ,D.xH]
  have hms:∀ {nx':Nat} {objs':List (Nat × Ob)} {x:D} {K:D->St->Prop},St.look objs' 2=some ⟨0,vD (pG s.out 0)⟩->nX ⟨nx',objs'⟩ 6 (.xG 2) (.agg [.int .i64 p.op,.int .i64 p.i,.int .i64 p.e,.int .i64 p.g,.int .i64 p.x,.int .i64 p.y]) x K=K .vP ⟨nx',vK objs' 2 ⟨0,vD (pG s.out 0 ++ [(p.key,x)])⟩⟩:=λ{nx' objs' x K} hl=> gH hl (y:=p.key) rfl rfl (oL _ _) (by rw [sC,e1]; rfl)
  simp only [simprocAttr,-ZA,↓zU,↓zD,zV,zT,zW,aE.row,hux,huy,h3,hx1 3 (by omega),hx2 3 (by omega),hx1 5 (by omega),hx2 5 (by omega),hx1 4 (by omega),hx2 4 (by omega),hx1 2 (by omega),hx2 2 (by omega),hx1 1 (by omega),hx2 1 (by omega),hx6 1 (by omega),hx6 2 (by omega),hx6 3 (by omega),hx6 4 (by omega),hx6 5 (by omega),he1,he2,he3,he4,he5,hx3,hx7,hx8,h1,h2,hmg2,hms,hpz,xT,ε,h5,h4,hkk,wI,hx4,hx5]
  (repeat refine sd ?_)
  have er:uS (s.out ++ [p])= uS s.out ++ [[.int .i64 p.op,.int .i64 p.i,.int .i64 p.e,.int .i64 p.g,.int .i64 p.x,.int .i64 p.y]]:=by simp [uS,Nd.row]
  rw [qJ,er,kW,Nat.zero_add];simp only [jN,rF,hux,huy];exact .same
open Rs Fm
theorem YM {f:List Nd} {nx:Nat} {xY:List (Nat × Ob)} {key:Nat} {s:CS} {i:Nat} {d:D} {σ':St} (hI:pD f nx xY key s) (hi:i<f.length) (hlen:f.length<=1000) {p:Nd} (hp:f.getD i nG=p) (hno:wM i s.done=none) (hux:(xS p.op).1.x=true) (huy:(xS p.op).1.y=false)
  {a:Int} {nx1:Nat} {objs1:List (Nat × Ob)} {key1:Nat} {s1:CS}
  (hcall:xW prog 117 [.int .i64 p.x,.ref 5 1 0 0,.ref 0 1 0 0,.ref 6 1 0 0,.ref 3 1 0 0,.ref 1 1 0 0] ⟨nx+1+1,(nx+1,jN (xS p.op).1) :: (nx,rF p.op p.i p.e p.g p.x p.y) :: xY⟩ (.int .i64 a) ⟨nx1,objs1⟩)
  (hI1:pD f nx1 objs1 key1 s1) (hN:St.look objs1 nx=some (rF p.op p.i p.e p.g p.x p.y)) (hU:St.look objs1 (nx+1)= some (jN (xS p.op).1)) (hle:nx+1+1<=nx1) (hke:key1≠nx)
  (h:VH i nx nx1 objs1 key1 s1 ⟨p.op,p.i,p.e,p.g,a,p.y⟩ d σ') :
  xW prog 117 [.int .i64 i,.ref 5 1 0 0,.ref 0 1 0 0,.ref 6 1 0 0,.ref 3 1 0 0,.ref 1 1 0 0] ⟨nx,xY⟩ d σ':=by
 obtain⟨hn,h0,h1,⟨k1,k2,k3,hkk⟩,hfr,h2,h3,h4,h5,h6⟩:=hI;obtain⟨hn',h0',h1',⟨k1',k2',k3',hkk'⟩,hfr',h2',h3',h4',h5',h6'⟩:=hI1;rcases mA (i:Int) s.done 0 with ⟨q1,q2⟩ | ⟨y,j,q1,q2⟩
 rotate_left
 ·rw [hno] at q1; cases q1
 have hg:=lI f hi;rw [hp] at hg;have hx1:∀ k:Nat,k<7->¬ nx=k:=λk h=>by omega
 have hx2:∀ k:Nat,k<7->¬ nx+1=k:=λk h=>by omega
 have hx3:¬ nx+1=nx:=by omega
 have hx9:¬ nx=nx+1:=by omega
 have hmg:∀ {nx':Nat} {objs':List (Nat × Ob)} {zero:D} {ok:Bool} {K:D->Prop},St.look objs' 2=some ⟨0,vD (pG s1.out 0)⟩->mP ⟨nx',objs'⟩ 6 zero ok (.xG 2) (.agg [.int .i64 p.op,.int .i64 p.i,.int .i64 p.e,.int .i64 p.g,.int .i64 a,.int .i64 p.y]) K=K (sZ ok zero ((kF ⟨p.op,p.i,p.e,p.g,a,p.y⟩ s1.out 0).map λ(j:Nat)=>(j,D.int .i64 (j:Int)))):=λ{nx' objs' zero ok K} hl=>by rw [<- sC ⟨p.op,p.i,p.e,p.g,a,p.y⟩ s1.out 0];exact gF hl (x:=Nd.key ⟨p.op,p.i,p.e,p.g,a,p.y⟩) rfl rfl (oL _ _)
 simp only [rF] at hN hcall;simp only [jN] at hU hcall;rw [hux,huy] at hU hcall;refine zJ func117 XO λhf=>?_;simp only [simprocAttr,-ZA,↓zU,↓zD,zV,zT,zW,h5,h4,q2,h0,wI,hg,Nd.row]
 (repeat refine sd ?_)
 refine .go (cq (dC p.op)) ?_;simp only [simprocAttr,-ZA,↓zU,↓zD,zV,zT,zW,aE.row,hux,huy,h6,hx1 6 (by omega),hx2 6 (by omega),hx3]
 (repeat refine sd ?_)
 refine .go hcall ?_
 rcases h with ⟨k,e1,rfl,rfl⟩ | ⟨e1,e2,rfl,rfl⟩
 ·have hmg2:=@hmg;rw [e1] at hmg2;simp only [simprocAttr,-ZA,↓zU,↓zD,zV,zT,zW,hN,hU,h3',h2',hmg2,γ,h5',h4',xT,hx1 3 (by omega),hx1 5 (by omega),hx1 4 (by omega),hx1 2 (by omega),hx1 1 (by omega),hx3,hx9]
  (repeat refine sd ?_)
  rw [qJ];simp only [rF];exact .same
 ·have hmg2:=@hmg;rw [e1] at hmg2;have y1:∀ k:Nat,k<7->¬ key1=k:=λk h=>by omega
  have y2:¬ nx=key1:=λe=>hke e.symm;have y3:∀ k:Nat,k<7->¬ nx1=k:=λk h=>by omega
  have y4:¬ nx1=nx:=by omega
  have z1:∀ k:Nat,k<7->¬ k=nx:=λk h=>by omega
  have z2:∀ k:Nat,k<7->¬ k=nx1:=λk h=>by omega
  have hpz:D.xJ [.int .i64 p.op,.int .i64 p.i,.int .i64 p.e,.int .i64 p.g,.int .i64 a,.int .i64 p.y]=true:=by simp [D.xJ,D.xH]
  have hms:∀ {nx':Nat} {objs':List (Nat × Ob)} {x:D} {K:D->St->Prop},St.look objs' 2=some ⟨0,vD (pG s1.out 0)⟩->nX ⟨nx',objs'⟩ 6 (.xG 2) (.agg [.int .i64 p.op,.int .i64 p.i,.int .i64 p.e,.int .i64 p.g,.int .i64 a,.int .i64 p.y]) x K=K .vP ⟨nx',vK objs' 2 ⟨0,vD (pG s1.out 0 ++ [(Nd.key ⟨p.op,p.i,p.e,p.g,a,p.y⟩,x)])⟩⟩:=λ{nx' objs' x K} hl=> gH hl (y:=Nd.key ⟨p.op,p.i,p.e,p.g,a,p.y⟩) rfl rfl (oL _ _) (by rw [sC,e1]; rfl)
  simp only [simprocAttr,-ZA,↓zU,↓zD,zV,zT,zW,hN,hU,h1',h3',h2',hmg2,hms,hpz,ε,γ,h5',h4',hkk',wI,xT,yO,hx1 3 (by omega),hx1 5 (by omega),hx1 4 (by omega),hx1 2 (by omega),hx1 1 (by omega),hx3,hx9,y1 1 (by omega),y1 2 (by omega),y1 3 (by omega),y1 4 (by omega),y1 5 (by omega),y2,hke,y3 1 (by omega),y3 2 (by omega),y3 3 (by omega),y3 4 (by omega),y3 5 (by omega),y4,z1 1 (by omega),z1 2 (by omega),z1 4 (by omega),z2 1 (by omega),z2 2 (by omega),z2 4 (by omega)]
  (repeat refine sd ?_)
  have er:uS (s1.out ++ [⟨p.op,p.i,p.e,p.g,a,p.y⟩])= uS s1.out ++ [[.int .i64 p.op,.int .i64 p.i,.int .i64 p.e,.int .i64 p.g,.int .i64 a,.int .i64 p.y]]:=by simp [uS,Nd.row]
  rw [qJ,er,kW,Nat.zero_add];simp only [rF];exact .same
open Rs Fm
theorem z6 {f:List Nd} {nx:Nat} {xY:List (Nat × Ob)} {key:Nat} {s:CS} {i:Nat} {d:D} {σ':St} (hI:pD f nx xY key s) (hi:i<f.length) (hlen:f.length<=1000) {p:Nd} (hp:f.getD i nG=p) (hno:wM i s.done=none) (hux:(xS p.op).1.x=true) (huy:(xS p.op).1.y=true)
  {a:Int} {nx1:Nat} {objs1:List (Nat × Ob)} {key1:Nat} {s1:CS}
  (hcall:xW prog 117 [.int .i64 p.x,.ref 5 1 0 0,.ref 0 1 0 0,.ref 6 1 0 0,.ref 3 1 0 0,.ref 1 1 0 0] ⟨nx+1+1,(nx+1,jN (xS p.op).1) :: (nx,rF p.op p.i p.e p.g p.x p.y) :: xY⟩ (.int .i64 a) ⟨nx1,objs1⟩)
  (hI1:pD f nx1 objs1 key1 s1) (hN:St.look objs1 nx=some (rF p.op p.i p.e p.g p.x p.y)) (hU:St.look objs1 (nx+1)= some (jN (xS p.op).1))
  {b:Int} {nx2:Nat} {objs2:List (Nat × Ob)} {key2:Nat} {s2:CS}
  (hcall2:xW prog 117 [.int .i64 p.y,.ref 5 1 0 0,.ref 0 1 0 0,.ref 6 1 0 0,.ref 3 1 0 0,.ref 1 1 0 0] ⟨nx1,vK objs1 nx (rF p.op p.i p.e p.g a p.y)⟩ (.int .i64 b) ⟨nx2,objs2⟩)
  (hI2:pD f nx2 objs2 key2 s2) (hN2:St.look objs2 nx=some (rF p.op p.i p.e p.g a p.y)) (hle:nx+1+1<=nx2) (hke:key2≠nx)
  (h:VH i nx nx2 objs2 key2 s2 ⟨p.op,p.i,p.e,p.g,a,b⟩ d σ') :
  xW prog 117 [.int .i64 i,.ref 5 1 0 0,.ref 0 1 0 0,.ref 6 1 0 0,.ref 3 1 0 0,.ref 1 1 0 0] ⟨nx,xY⟩ d σ':=by
 obtain⟨hn,h0,h1,⟨k1,k2,k3,hkk⟩,hfr,h2,h3,h4,h5,h6⟩:=hI;have h61:=hI1.h6;obtain⟨hn',h0',h1',⟨k1',k2',k3',hkk'⟩,hfr',h2',h3',h4',h5',h6'⟩:=hI2;rcases mA (i:Int) s.done 0 with ⟨q1,q2⟩ | ⟨y,j,q1,q2⟩
 rotate_left
 ·rw [hno] at q1; cases q1
 have hg:=lI f hi;rw [hp] at hg;have hx1:∀ k:Nat,k<7->¬ nx=k:=λk h=>by omega
 have hx2:∀ k:Nat,k<7->¬ nx+1=k:=λk h=>by omega
 have hx3:¬ nx+1=nx:=by omega
 have hx9:¬ nx=nx+1:=by omega
 have hmg:∀ {nx':Nat} {objs':List (Nat × Ob)} {zero:D} {ok:Bool} {K:D->Prop},St.look objs' 2=some ⟨0,vD (pG s2.out 0)⟩->mP ⟨nx',objs'⟩ 6 zero ok (.xG 2) (.agg [.int .i64 p.op,.int .i64 p.i,.int .i64 p.e,.int .i64 p.g,.int .i64 a,.int .i64 b]) K=K (sZ ok zero ((kF ⟨p.op,p.i,p.e,p.g,a,b⟩ s2.out 0).map λ(j:Nat)=>(j,D.int .i64 (j:Int)))):=λ{nx' objs' zero ok K} hl=>by rw [<- sC ⟨p.op,p.i,p.e,p.g,a,b⟩ s2.out 0];exact gF hl (x:=Nd.key ⟨p.op,p.i,p.e,p.g,a,b⟩) rfl rfl (oL _ _)
 simp only [rF] at hN hcall hcall2 hN2;simp only [jN] at hU hcall;rw [hux,huy] at hU hcall;refine zJ func117 XO λhf=>?_;simp only [simprocAttr,-ZA,↓zU,↓zD,zV,zT,zW,h5,h4,q2,h0,wI,hg,Nd.row]
 (repeat refine sd ?_)
 refine .go (cq (dC p.op)) ?_;simp only [simprocAttr,-ZA,↓zU,↓zD,zV,zT,zW,aE.row,hux,huy,h6,hx1 6 (by omega),hx2 6 (by omega),hx3]
 (repeat refine sd ?_)
 refine .go hcall ?_;simp only [simprocAttr,-ZA,↓zU,↓zD,zV,zT,zW,hN,hU,h61,xT,hx1 6 (by omega),hx3,hx9,γ]
 (repeat refine sd ?_)
 refine .go hcall2 ?_
 rcases h with ⟨k,e1,rfl,rfl⟩ | ⟨e1,e2,rfl,rfl⟩
 ·have hmg2:=@hmg;rw [e1] at hmg2;simp only [simprocAttr,-ZA,↓zU,↓zD,zV,zT,zW,hN2,h3',h2',hmg2,γ,h5',h4',xT,hx1 3 (by omega),hx1 5 (by omega),hx1 4 (by omega),hx1 2 (by omega),hx1 1 (by omega),hx3,hx9]
  (repeat refine sd ?_)
  rw [qJ];simp only [rF];exact .same
 ·have hmg2:=@hmg;rw [e1] at hmg2;have y1:∀ k:Nat,k<7->¬ key2=k:=λk h=>by omega
  have y2:¬ nx=key2:=λe=>hke e.symm;have y3:∀ k:Nat,k<7->¬ nx2=k:=λk h=>by omega
  have y4:¬ nx2=nx:=by omega
  have z1:∀ k:Nat,k<7->¬ k=nx:=λk h=>by omega
  have z2:∀ k:Nat,k<7->¬ k=nx2:=λk h=>by omega
  have hpz:D.xJ [.int .i64 p.op,.int .i64 p.i,.int .i64 p.e,.int .i64 p.g,.int .i64 a,.int .i64 b]=true:=by simp [D.xJ,D.xH]
  have hms:∀ {nx':Nat} {objs':List (Nat × Ob)} {x:D} {K:D->St->Prop},St.look objs' 2=some ⟨0,vD (pG s2.out 0)⟩->nX ⟨nx',objs'⟩ 6 (.xG 2) (.agg [.int .i64 p.op,.int .i64 p.i,.int .i64 p.e,.int .i64 p.g,.int .i64 a,.int .i64 b]) x K=K .vP ⟨nx',vK objs' 2 ⟨0,vD (pG s2.out 0 ++ [(Nd.key ⟨p.op,p.i,p.e,p.g,a,b⟩,x)])⟩⟩:=λ{nx' objs' x K} hl=> gH hl (y:=Nd.key ⟨p.op,p.i,p.e,p.g,a,b⟩) rfl rfl (oL _ _) (by rw [sC,e1]; rfl)
  simp only [simprocAttr,-ZA,↓zU,↓zD,zV,zT,zW,hN2,h1',h3',h2',hmg2,hms,hpz,ε,γ,h5',h4',hkk',wI,xT,yO,hx1 3 (by omega),hx1 5 (by omega),hx1 4 (by omega),hx1 2 (by omega),hx1 1 (by omega),hx3,hx9,y1 1 (by omega),y1 2 (by omega),y1 3 (by omega),y1 4 (by omega),y1 5 (by omega),y2,hke,y3 1 (by omega),y3 2 (by omega),y3 3 (by omega),y3 4 (by omega),y3 5 (by omega),y4,z1 1 (by omega),z1 2 (by omega),z1 4 (by omega),z2 1 (by omega),z2 2 (by omega),z2 4 (by omega)]
  (repeat refine sd ?_)
  have er:uS (s2.out ++ [⟨p.op,p.i,p.e,p.g,a,b⟩])= uS s2.out ++ [[.int .i64 p.op,.int .i64 p.i,.int .i64 p.e,.int .i64 p.g,.int .i64 a,.int .i64 b]]:=by simp [uS,Nd.row]
  rw [qJ,er,kW,Nat.zero_add];simp only [rF];exact .same
end Go.Pd
