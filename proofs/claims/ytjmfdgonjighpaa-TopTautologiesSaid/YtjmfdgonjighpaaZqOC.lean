/- Part OC. -/
import Derived.Test.YtjmfdgonjighpaaZqXF
import Derived.Test.YtjmfdgonjighpaaZqX9
import Derived.Test.YtjmfdgonjighpaaZqCode
import Derived.Test.YtjmfdgonjighpaaZqD3
import Derived.Test.YtjmfdgonjighpaaZqF18
import Derived.Test.YtjmfdgonjighpaaZqG5
set_option linter.unusedSectionVars false
set_option linter.unusedVariables false
set_option linter.unusedSimpArgs false
set_option linter.defProp false
set_option maxRecDepth 20000
set_option maxHeartbeats 1000000
open Go.Proofs.Try
open List renaming mem_append->γ,length_append->δ,length_singleton->ε,all_eq_true->ζ,mem_singleton->η,getD_cons_succ->θ,append_assoc->κ,any_eq_true->μ
open Int renaming toNat_natCast->ν,eq_ofNat_of_zero_le->ξ
open Nat renaming le_refl->ο,testBit_lt_two_pow->π,pow_le_pow_right->υ,lt_of_lt_of_le->χ,pow_succ->ψ,zero_le->ω
open Bool renaming and_eq_true->Aa,eq_iff_iff->Ab,true_and->Ac
namespace Go.Pd
open Go Go.Proofs
def KW : iQ:=λ_ _ _=>none
theorem Pt : iD prog KW:=λg args σ d σ' h=>by cases h
abbrev Sy :=List (FuncId × List D × D × St)
def ju (M:Sy):Prop:=∀ m ∈ M,xU prog m.1 m.2.1 kT m.2.2.1 m.2.2.2
def RK (M:Sy) (O:iQ):iQ:=λg args σ=>match O g args σ with
 | some r=>some r
 | none=>if (decide (σ.nx=0)&& σ.xX.isEmpty)= true then(M.find? λm=>decide (m.1=g)&& yt (ft 30) m.2.1 args).map λm=>m.2.2 else none
theorem Ty {M:Sy} (hM:ju M) {O:iQ} (hO:iD prog O):iD prog (RK M O):=λg args σ d σ' h=>by
 unfold RK at h
 split at h
 ·rename_i r h1;cases h;exact hO _ _ _ _ _ h1
 ·split at h
  ·rename_i hs;simp only [Aa,decide_eq_true_eq,List.isEmpty_iff] at hs;obtain⟨n,o⟩:=σ;obtain⟨rfl,rfl⟩:=hs;rw [Option.map_eq_some_iff] at h;obtain⟨⟨g',args',d',τ⟩,h1,h2⟩:=h;have h3:=List.find?_some h1;have h4:=List.mem_of_find?_eq_some h1;simp only [Aa,decide_eq_true_eq] at h3;obtain⟨rfl,h5⟩:=h3;have:=eZ (λ_ _ h=>kL 30 _ _ h) h5;subst this;simp only [Prod.mk.injEq] at h2;obtain⟨rfl,rfl⟩:=h2;exact hM _ h4
  ·cases h
theorem kY {g:FuncId} {args:List D} {d:D} {M:Sy} (h:zX prog g args d) (hp:D.xT args=true) (hM:ju M):ju ((g,args,d,kT) :: M):=λm hm=>by
 rcases List.mem_cons.1 hm with rfl | hm
 ·exact xU.yU h hp
 ·exact hM m hm
theorem Tx : ju []:=λ_ h=>by cases h
def Tb : Table:=[(3,⟨c3.1,c3.2.1,c3.2.2,[]⟩),(4,⟨c4.1,c4.2.1,c4.2.2,[]⟩),(5,⟨c5.1,c5.2.1,c5.2.2,[]⟩),(6,⟨c6.1,c6.2.1,c6.2.2,[]⟩),(7,⟨c7.1,c7.2.1,c7.2.2,[]⟩),(8,⟨c8.1,c8.2.1,c8.2.2,[32]⟩),(9,⟨c9.1,c9.2.1,c9.2.2,[]⟩),(10,⟨Mc.1,Mc.2.1,Mc.2.2,[]⟩),(11,⟨Md.1,Md.2.1,Md.2.2,[]⟩),(12,⟨Me.1,Me.2.1,Me.2.2,[]⟩),(13,⟨Mf.1,Mf.2.1,Mf.2.2,[]⟩),(14,⟨Mg.1,Mg.2.1,Mg.2.2,[13]⟩),(15,⟨Mh.1,Mh.2.1,Mh.2.2,[]⟩),(16,⟨Mi.1,Mi.2.1,Mi.2.2,[]⟩),(17,⟨Mj.1,Mj.2.1,Mj.2.2,[]⟩),(18,⟨Ml.1,Ml.2.1,Ml.2.2,[]⟩),(19,⟨Mm.1,Mm.2.1,Mm.2.2,[]⟩),(20,⟨Mo.1,Mo.2.1,Mo.2.2,[]⟩),(21,⟨Mp.1,Mp.2.1,Mp.2.2,[]⟩),(22,⟨Mq.1,Mq.2.1,Mq.2.2,[]⟩),(23,⟨Mr.1,Mr.2.1,Mr.2.2,[]⟩),(24,⟨Ms.1,Ms.2.1,Ms.2.2,[]⟩),(25,⟨Mt.1,Mt.2.1,Mt.2.2,[]⟩),(26,⟨Mu.1,Mu.2.1,Mu.2.2,[]⟩),(27,⟨Mv.1,Mv.2.1,Mv.2.2,[]⟩),(28,⟨Mw.1,Mw.2.1,Mw.2.2,[]⟩),(29,⟨Mz.1,Mz.2.1,Mz.2.2,[]⟩),(30,⟨My.1,My.2.1,My.2.2,[]⟩),(31,⟨Mx.1,Mx.2.1,Mx.2.2,[]⟩),(32,⟨N0.1,N0.2.1,N0.2.2,[]⟩),(33,⟨N1.1,N1.2.1,N1.2.2,[]⟩),(34,⟨N2.1,N2.2.1,N2.2.2,[]⟩),(35,⟨N3.1,N3.2.1,N3.2.2,[1000069,1000070,1000009]⟩),(36,⟨N4.1,N4.2.1,N4.2.2,[]⟩),(37,⟨N5.1,N5.2.1,N5.2.2,[]⟩),(38,⟨N6.1,N6.2.1,N6.2.2,[]⟩),(39,⟨N7.1,N7.2.1,N7.2.2,[]⟩),(40,⟨N8.1,N8.2.1,N8.2.2,[]⟩),(41,⟨N9.1,N9.2.1,N9.2.2,[]⟩),(42,⟨NA.1,NA.2.1,NA.2.2,[]⟩),(43,⟨NB.1,NB.2.1,NB.2.2,[]⟩),(44,⟨NC.1,NC.2.1,NC.2.2,[]⟩),(45,⟨ND.1,ND.2.1,ND.2.2,[]⟩),(46,⟨NF.1,NF.2.1,NF.2.2,[1000056,1000057]⟩),(47,⟨NG.1,NG.2.1,NG.2.2,[]⟩),(48,⟨NH.1,NH.2.1,NH.2.2,[]⟩),(49,⟨NI.1,NI.2.1,NI.2.2,[1000012]⟩),(50,⟨NJ.1,NJ.2.1,NJ.2.2,[1000012]⟩),(51,⟨NK.1,NK.2.1,NK.2.2,[1000013,1000017]⟩),(52,⟨NL.1,NL.2.1,NL.2.2,[]⟩),(53,⟨NM.1,NM.2.1,NM.2.2,[]⟩),(54,⟨NN.1,NN.2.1,NN.2.2,[]⟩),(55,⟨NO.1,NO.2.1,NO.2.2,[]⟩),(56,⟨NP.1,NP.2.1,NP.2.2,[]⟩),(57,⟨NQ.1,NQ.2.1,NQ.2.2,[]⟩),(58,⟨NR.1,NR.2.1,NR.2.2,[]⟩),(59,⟨NS.1,NS.2.1,NS.2.2,[]⟩),(60,⟨NT.1,NT.2.1,NT.2.2,[]⟩),(61,⟨NU.1,NU.2.1,NU.2.2,[]⟩),(62,⟨NV.1,NV.2.1,NV.2.2,[8,1000030]⟩),(63,⟨NW.1,NW.2.1,NW.2.2,[]⟩),(64,⟨NZ.1,NZ.2.1,NZ.2.2,[]⟩),(65,⟨NY.1,NY.2.1,NY.2.2,[]⟩),(66,⟨NX.1,NX.2.1,NX.2.2,[]⟩),(67,⟨Na.1,Na.2.1,Na.2.2,[]⟩),(68,⟨Nb.1,Nb.2.1,Nb.2.2,[]⟩),(69,⟨Nc.1,Nc.2.1,Nc.2.2,[]⟩),(70,⟨Nf.1,Nf.2.1,Nf.2.2,[]⟩),(71,⟨Ng.1,Ng.2.1,Ng.2.2,[]⟩),(72,⟨Nh.1,Nh.2.1,Nh.2.2,[5]⟩),(73,⟨Ni.1,Ni.2.1,Ni.2.2,[]⟩),(74,⟨Nj.1,Nj.2.1,Nj.2.2,[]⟩),(75,⟨Nk.1,Nk.2.1,Nk.2.2,[]⟩),(76,⟨Nl.1,Nl.2.1,Nl.2.2,[]⟩),(77,⟨Nm.1,Nm.2.1,Nm.2.2,[]⟩),(78,⟨Nn.1,Nn.2.1,Nn.2.2,[]⟩),(79,⟨No.1,No.2.1,No.2.2,[]⟩),(80,⟨Np.1,Np.2.1,Np.2.2,[]⟩),(81,⟨Nq.1,Nq.2.1,Nq.2.2,[]⟩),(82,⟨Nr.1,Nr.2.1,Nr.2.2,[]⟩),(83,⟨Ns.1,Ns.2.1,Ns.2.2,[]⟩),(84,⟨Nt.1,Nt.2.1,Nt.2.2,[]⟩),(85,⟨Nu.1,Nu.2.1,Nu.2.2,[]⟩),(86,⟨Nv.1,Nv.2.1,Nv.2.2,[]⟩),(87,⟨Nw.1,Nw.2.1,Nw.2.2,[]⟩),(88,⟨Nz.1,Nz.2.1,Nz.2.2,[]⟩),(91,⟨Ny.1,Ny.2.1,Ny.2.2,[]⟩),(92,⟨Nx.1,Nx.2.1,Nx.2.2,[]⟩),(93,⟨O0.1,O0.2.1,O0.2.2,[]⟩),(94,⟨O3.1,O3.2.1,O3.2.2,[]⟩),(95,⟨O4.1,O4.2.1,O4.2.2,[]⟩),(96,⟨O5.1,O5.2.1,O5.2.2,[]⟩)]
theorem OQ : kG prog Tb:=
 .cons func3 k3 <|
 .cons func4 k4 <|
 .cons func5 k5 <|
 .cons func6 k6 <|
 .cons func7 k7 <|
 .cons func8 k8 <|
 .cons func9 k9 <|
 .cons func10 MT <|
 .cons func11 L4 <|
 .cons func12 L5 <|
 .cons func13 L6 <|
 .cons func14 Kb <|
 .cons func15 Kc <|
 .cons func16 L7 <|
 .cons func17 L8 <|
 .cons func18 L9 <|
 .cons func19 LA <|
 .cons func20 LB <|
 .cons func21 LC <|
 .cons func22 Pg <|
 .cons func23 LD <|
 .cons func24 MU <|
 .cons func25 LF <|
 .cons func26 LG <|
 .cons func27 LH <|
 .cons func28 LI <|
 .cons func29 LJ <|
 .cons func30 LK <|
 .cons func31 LL <|
 .cons func32 LM <|
 .cons func33 LN <|
 .cons func34 LO <|
 .cons func35 LP <|
 .cons func36 Kd <|
 .cons func37 LR <|
 .cons func38 LS <|
 .cons func39 LU <|
 .cons func40 LW <|
 .cons func41 LZ <|
 .cons func42 LY <|
 .cons func43 LX <|
 .cons func44 La <|
 .cons func45 MV <|
 .cons func46 Lb <|
 .cons func47 Lc <|
 .cons func48 Ph <|
 .cons func49 Ld <|
 .cons func50 Le <|
 .cons func51 Lf <|
 .cons func52 MW <|
 .cons func53 Lg <|
 .cons func54 Lh <|
 .cons func55 Li <|
 .cons func56 MZ <|
 .cons func57 Lj <|
 .cons func58 Lk <|
 .cons func59 Ll <|
 .cons func60 Lm <|
 .cons func61 Lo <|
 .cons func62 Lp <|
 .cons func63 Lq <|
 .cons func64 Lr <|
 .cons func65 Ls <|
 .cons func66 Lt <|
 .cons func67 Lu <|
 .cons func68 MY <|
 .cons func69 O9 <|
 .cons func70 OA <|
 .cons func71 PZ <|
 .cons func72 OB <|
 .cons func73 Lv <|
 .cons func74 MX <|
 .cons func75 OD <|
 .cons func76 Ke <|
 .cons func77 Lw <|
 .cons func78 Ma <|
 .cons func79 Kf <|
 .cons func80 Kg <|
 .cons func81 Kh <|
 .cons func82 Ki <|
 .cons func83 Kj <|
 .cons func84 Kk <|
 .cons func85 Kl <|
 .cons func86 Km <|
 .cons func87 Kn <|
 .cons func88 Ko <|
 .cons func91 Kp <|
 .cons func92 Kq <|
 .cons func93 Kr <|
 .cons func94 Ks <|
 .cons func95 Kt <|
 .cons func96 Ku <|
 .nil
end Go.Pd

/- Part D6. -/
namespace Go.Pd
open Go Go.Proofs
open BitVec renaming isValue -> ZA
open Rs
namespace Rs
def oV (s:RS) (a y:Int):Prop:=a<0\/y ∉ (s.ls.getD a.toNat tV).cl
instance (s : RS) (a y : Int) : Decidable (oV s a y) := by unfold oV; infer_instance
structure Qn (n : Int) (l : List (List Int)) (nx : Nat) (xX : List (Nat × Ob)) (key : Nat) (s : RS) : Prop where
 hn:2<=nx
 hk:2<=key
 hb:St.look xX 1=some ⟨4,[[.int .i64 n,.sl 1 (rl l),xJ key 4 (mC s.ls),.yV 0]]⟩
 hl:St.look xX key=wW 4 (mC s.ls)
 hm:St.look xX 0=some ⟨0,oX .i64 (mo s.us)⟩
def OP (P:Program) (n:Nat) (l:List (List Int)) (idx v:Nat) (σ:St) (d:D) (σ':St):Prop:=
 (idx=n/\d = .int .i64 (-1)/\ σ'=σ)\/(idx<n/\∃ a nx1 objs1 key1 s1,xU P 32 [.ref 1 4 0 0,.int .i64 (idx+1:Nat),.int .i64 v] σ (.int .i64 a) ⟨nx1,objs1⟩/\ Qn n l nx1 objs1 key1 s1/\a<s1.ls.length /\
  ((oV s1 a (idx+1:Nat)/\ d = .int .i64 a/\σ'=⟨nx1,objs1⟩)\/(¬ oV s1 a (idx+1:Nat)/\ ∃ b nx2 objs2 key2 s2,xU P 32 [.ref 1 4 0 0,.int .i64 (idx+1:Nat),.int .i64 (v+2 ^ idx:Nat)] ⟨nx1,objs1⟩ (.int .i64 b) ⟨nx2,objs2⟩/\ Qn n l nx2 objs2 key2 s2/\b<s2.ls.length/\s1.ls.length<=s2.ls.length /\
   ((oV s2 b (-idx-1)/\ d = .int .i64 b/\σ'=⟨nx2,objs2⟩)\/(¬ oV s2 b (-idx-1)/\ s2.ls.length<=90000/\d = .int .i64 s2.ls.length/\σ'=VZ n l nx2 objs2 key2 (s2.ls ++ [⟨(zF (s2.ls.getD a.toNat tV).cl (s2.ls.getD b.toNat tV).cl idx).1,a,b,idx⟩]))))))
theorem TT {f:Int->Bool} {c:List Int} {j:Nat} (h:j<c.length):(c.take (j+1)).all f=((c.take j).all f&&f (c.getD j 0)):=by rw [qY (d:=0) h,List.all_append]; simp
theorem nv {key:Nat} {ls:List Ln} (h:ls ≠ []):xJ key 4 (mC ls)= .wZ key 4 ls.length:=by rw [Tl (by simpa [mC] using h),wJ]
theorem tt {ls:List Ln} (h:ls ≠ []):wW 4 (mC ls)= some ⟨4,mC ls⟩:=by
 cases hh:mC ls with
 | nil=>simp [mC] at hh; exact absurd hh h
 | cons e r=>rfl
end Rs
theorem wz {n:Nat} {l:List (List Int)} (hc:vY n l=0) {idx v:Nat} {nx:Nat} {xX:List (Nat × Ob)} {key:Nat} {s:RS} {d:D} {σ':St} (hidx:idx<=n) (hv:v<2 ^ idx) (hI:Qn n l nx xX key s)
  (h:(∃ i,uK idx v l 0=some i/\xU prog 56 [.ref 1 4 0 0,.int .i64 i] ⟨nx,xX⟩ d σ')\/(uK idx v l 0=none/\OP prog n l idx v ⟨nx,xX⟩ d σ')) :
  xU prog 32 [.ref 1 4 0 0,.int .i64 idx,.int .i64 v] ⟨nx,xX⟩ d σ':=by
 have hok:=ti hc;obtain⟨c1,c2,c3,c4⟩:=qZ hc;have hlit:∀ c ∈ l,∀ x ∈ c,wL n x=true:=λc hcl x hx=>((wY.1 (c4 c hcl)).1 x hx).1;have hv12:v<4096:=χ hv (RO (by omega));obtain⟨hn,hk,hb,hkk,hm⟩:=hI;refine yS func32 LM λhf=>?_;refine yK hb ?_
 refine yM (λk:Nat=>[(23,.int .i64 k),(22,.int .i64 l.length),(21,.sl 1 (rl l)),(2,.int .i64 v),(1,.int .i64 idx),(0,.ref 1 4 0 0)]) (λ_=>⟨nx,xX⟩) (λk=>k<=l.length/\uK idx v l 0=uK idx v (l.drop k) k) (λk=>l.length-k) 0 ⟨ω _,rfl⟩ ?_ ?_
 ·(refine yJ.same ?_; simp [vI,Fr.get,tI])
 intro k ⟨hk1,hi⟩;refine wH mixed ?_;by_cases hh:k<l.length
 case neg=>
  have hd:¬ ((k:Int)<(l.length:Int)):=by omega
  rw [List.drop_eq_nil_of_le (by omega),uK] at hi
  rcases h with ⟨i,h1,_⟩ | ⟨_,ht⟩
  ·rw [h1] at hi; cases hi
  have ei:IntKind.i64.wrap ((idx:Int)+ 1)= ((idx+1:Nat):Int):=by rw [wrap_i64 (by omega)]; omega
  have ei2:IntKind.i64.wrap (0-(idx:Int))= -(idx:Int):=Vz (by omega);have ei3:IntKind.i64.wrap (-(idx:Int)-1)= -(idx:Int)-1:=wrap_i64 (by omega)
  rcases ht with ⟨e1,e2,e3⟩ | ⟨e1,a,nx1,objs1,key1,s1,hcall1,⟨hn1,hk1',hb1,hl1,hm1⟩,ha,hrest⟩
  ·subst e1 e2 e3;have en:((idx:Int)== (idx:Int))= true:=by simp
   refine zl hd hb en ?_;exact .same
  have en:((idx:Int)== (n:Int))= false:=by
   have:(idx:Int)≠ n:=by omega
   simpa using this
  by_cases ha0:a<0
  ·rcases hrest with ⟨_,e2,e3⟩ | ⟨hs,_⟩
   ·subst e2 e3;refine se hd hb en ei ?_;refine .go hcall1 ?_;refine yK ha0 ?_;exact .same
   ·exact absurd (.inl ha0) hs
  obtain⟨x,rfl⟩:=ξ (show 0<=a by omega);have hx:x<s1.ls.length:=by omega
  have hne1:s1.ls ≠ []:=aT (by omega);have hb1':=hb1;have hl1':=hl1;rw [nv hne1] at hb1';rw [tt hne1] at hl1';have hg1:=mS s1.ls hx;by_cases hin:((idx+1:Nat):Int)∈ (s1.ls.getD x tV).cl
  case neg=>
   rcases hrest with ⟨_,e2,e3⟩ | ⟨hs,_⟩
   ·subst e2 e3;refine se hd hb en ei ?_;refine .go hcall1 ?_;simp only [simprocAttr,-ZA,↓zU,↓zD,zV,zT,zW,ha0,hb1',hl1',wJ,hg1,rW,ei]
    (repeat refine sd ?_)
    refine .go (xU.yU (pQ (s1.ls.getD x tV).cl ((idx+1:Nat):Int)) (by simp [D.xT,D.xO])) ?_;simp only [simprocAttr,-ZA,↓zU,↓zD,zV,zT,zW,decide_eq_false hin];exact .same
   ·exact absurd (.inr (by rw [ν]; exact hin)) hs
  rcases hrest with ⟨hs,_⟩ | ⟨_,b,nx2,objs2,key2,s2,hcall2,⟨hn2,hk2,hb2,hl2,hm2⟩,hbl,hle,hrest⟩
  ·rcases hs with hs | hs
   ·exact absurd hs ha0
   ·rw [ν] at hs; exact absurd hin hs
  refine se hd hb en ei ?_;refine .go hcall1 ?_;simp only [simprocAttr,-ZA,↓zU,↓zD,zV,zT,zW,ha0,hb1',hl1',wJ,hg1,rW,ei]
  (repeat refine sd ?_)
  refine .go (xU.yU (pQ (s1.ls.getD x tV).cl ((idx+1:Nat):Int)) (by simp [D.xT,D.xO])) ?_;simp only [simprocAttr,-ZA,↓zU,↓zD,zV,zT,zW,decide_eq_true hin,ei,QK hv (show idx<62 by omega)]
  (repeat refine sd ?_)
  refine .go hcall2 ?_
  by_cases hb0:b<0
  ·rcases hrest with ⟨_,e2,e3⟩ | ⟨hs,_⟩
   ·subst e2 e3;refine yK hb0 ?_;exact .same
   ·exact absurd (.inl hb0) hs
  obtain⟨y,rfl⟩:=ξ (show 0<=b by omega);have hy:y<s2.ls.length:=by omega
  have hx2:x<s2.ls.length:=by omega
  have hne2:s2.ls ≠ []:=aT (by omega);have hb2':=hb2;have hl2':=hl2;rw [nv hne2] at hb2';rw [tt hne2] at hl2';have hg2:=mS s2.ls hy;have hg3:=mS s2.ls hx2;by_cases hin2:-(idx:Int)-1 ∈ (s2.ls.getD y tV).cl
  case neg=>
   rcases hrest with ⟨_,e2,e3⟩ | ⟨hs,_⟩
   ·subst e2 e3;simp only [simprocAttr,-ZA,↓zU,↓zD,zV,zT,zW,hb0,hb2',hl2',wJ,hg2,rW,ei2,ei3]
    (repeat refine sd ?_)
    refine .go (xU.yU (pQ (s2.ls.getD y tV).cl (-(idx:Int)-1)) (by simp [D.xT,D.xO])) ?_;simp only [simprocAttr,-ZA,↓zU,↓zD,zV,zT,zW,decide_eq_false hin2];exact .same
   ·exact absurd (.inr (by rw [ν]; exact hin2)) hs
  rcases hrest with ⟨hs,_⟩ | ⟨_,hlen2,e2,e3⟩
  ·rcases hs with hs | hs
   ·exact absurd hs hb0
   ·rw [ν] at hs; exact absurd hin2 hs
  rw [ν,ν] at e3;subst e2 e3;simp only [simprocAttr,-ZA,↓zU,↓zD,zV,zT,zW,hb0,hb2',hl2',wJ,hg2,rW,ei2,ei3]
  (repeat refine sd ?_)
  refine .go (xU.yU (pQ (s2.ls.getD y tV).cl (-(idx:Int)-1)) (by simp [D.xT,D.xO])) ?_;simp only [simprocAttr,-ZA,↓zU,↓zD,zV,zT,zW,decide_eq_true hin2,hb2',hl2',wJ,hg2,hg3,rW]
  (repeat refine sd ?_)
  refine .go (xU.yU (mj (s2.ls.getD x tV).cl (s2.ls.getD y tV).cl idx) (by simp [D.xT,D.xO])) ?_;generalize zF (s2.ls.getD x tV).cl (s2.ls.getD y tV).cl idx=q;have he1:St.look (yE objs2 key2) 1=some ⟨4,[[.int .i64 n,.sl 1 (rl l),xJ key2 4 (mC s2.ls),.yV 0]]⟩:=by rw [xK,if_neg (by omega)]; exact hb2
  have hx1:¬ nx2=1:=by omega
  have hpz:D.xT [.sl 1 (rows .i64 q.1),.int .i64 (x:Int),.int .i64 (y:Int),.int .i64 (idx:Int)]=true:=by simp [D.xT,D.xO,rows]
  have el:IntKind.i64.wrap (((s2.ls.length+1:Nat):Int)-1)= (s2.ls.length:Int):=by rw [wrap_i64 (by omega)]; omega
  refine PQ hb2 hl2 he1 hx1 hpz wJ xV ?_;rw [el,az];exact .same
 have hd:((k:Int)<(l.length:Int)):=by omega
 rw [drop_cons (d:=[]) hh,uK] at hi;have hcl:=hok _ (wR (d:=[]) hh);have hcn:=hlit _ (wR (d:=[]) hh);have hget:=kl l hh;generalize l.getD k []=c at hcl hcn hget hi;refine eG hd hget tI ?_
 refine yM (λj:Nat=>[(30,.int .i64 j),(29,.int .i64 c.length),(28,.sl 1 (rows .i64 c)),(23,.int .i64 k),(22,.int .i64 l.length),(21,.sl 1 (rl l)),(9,.bool ((c.take j).all (nR idx v))),(7,.int .i64 k),(2,.int .i64 v),(1,.int .i64 idx),(0,.ref 1 4 0 0)]) (λ_=>⟨nx,xX⟩) (λj=>j<=c.length) (λj=>c.length-j) 0 (ω _) ?_ ?_
 ·exact lQ
 intro j hj;refine wH mixed ?_;by_cases h2:j<c.length
 case neg=>
  have hd2:¬ ((j:Int)<(c.length:Int)):=by omega
  rw [iN (show j=c.length by omega)]
  cases ha:c.all (nR idx v)
  ·rw [if_neg (by rw [ha]; simp)] at hi;refine yK hd2 ?_;refine⟨k+1,⟨by omega,hi⟩,?_,by omega⟩;exact jG
  ·rw [if_pos ha] at hi
   rcases h with ⟨i,h1,h3⟩ | ⟨h1,_⟩
   ·rw [h1] at hi;cases hi;refine yK hd2 ?_;refine .go h3 ?_;refine xB ?_;exact .same
   ·rw [h1] at hi; cases hi
 have hd2:((j:Int)<(c.length:Int)):=by omega
 have hx:=hcn _ (wR (d:=0) h2);have hsn:=TT (f:=nR idx v) h2;have hr:=vM hx;have hvar:=fe (n:=n) (c.getD j 0) ⟨c1,c2⟩;rw [if_pos hx,hx] at hvar;obtain⟨w,hw⟩:=ξ hr.1;have hmk:sf v (c.getD j 0)= (v.testBit w==decide (0<c.getD j 0)):=by rw [sf,hw,ν]
 cases ha:(c.take j).all (nR idx v)
 ·rw [ha,Bool.false_and] at hsn;simp only [simprocAttr,-ZA,↓zU,↓zD,zV,zT,zW,hd2,yL .i64 c h2,hb]
  (repeat refine sd ?_)
  refine .go (cq hvar) ?_;refine xB ?_;refine⟨j+1,by omega,?_,by omega⟩;rw [hsn];exact jG
 ·rw [ha,Ac,nR,hw,hmk] at hsn
  by_cases h4:w<idx
  ·have h4':((w:Int)<(idx:Int)):=by omega
   rw [decide_eq_true h4',Ac] at hsn;simp only [simprocAttr,-ZA,↓zU,↓zD,zV,zT,zW,hd2,yL .i64 c h2,hb]
   (repeat refine sd ?_)
   refine .go (cq hvar) ?_;rw [hw];simp only [simprocAttr,-ZA,↓zU,↓zD,zV,zT,zW,h4',bP v w (by omega),cV (iH (show v<2 ^ 62 by omega) w),wg]
   (repeat refine sd ?_)
   refine⟨j+1,by omega,?_,by omega⟩;rw [hsn]
   (refine yJ.same ?_; simp only [vI,Fr.get,simprocAttr,-ZA,zS])
   exact⟨wrap_i64 (by omega),rfl⟩
  ·have h4':¬ ((w:Int)<(idx:Int)):=by omega
   rw [decide_eq_false h4',Bool.false_and] at hsn;simp only [simprocAttr,-ZA,↓zU,↓zD,zV,zT,zW,hd2,yL .i64 c h2,hb]
   (repeat refine sd ?_)
   refine .go (cq hvar) ?_;rw [hw];refine yK h4' ?_;refine⟨j+1,by omega,?_,by omega⟩;rw [hsn];exact jG
theorem UZ {n:Nat} {l:List (List Int)} (hc:vY n l=0):∀ (m:Nat) {idx v:Nat} {s:RS} {σ:St},idx+m=n->v<2 ^ idx->PY s->s.ls.length+2 ^ (m+1)<=90000->lj n l σ s ->
  ∃ σ',lj n l σ' (xS l m idx v s).2/\xU prog 32 [.ref 1 4 0 0,.int .i64 idx,.int .i64 v] σ (.int .i64 (xS l m idx v s).1) σ':=by
 have hok:=ti hc
 have found:∀ {idx v:Nat} {s:RS} {σ:St} {i:Nat},idx<=n->v<2 ^ idx->s.ls.length+2<=90000->lj n l σ s->uK idx v l 0=some i ->
   ∃ σ',lj n l σ' (uL l i s).2/\xU prog 32 [.ref 1 4 0 0,.int .i64 idx,.int .i64 v] σ (.int .i64 (uL l i s).1) σ':=λ{idx v s σ i} h1 h2 h3 hI hf=>by
  have hi:=fX hf;obtain⟨σ',a1,_,a3⟩:=S8 (i:=i) (by omega) (by omega) hI hok;refine⟨σ',a1,?_⟩;obtain⟨nx,xX⟩:=σ;obtain⟨hn,key,hk,hb,hkk,hm⟩:=hI;exact wz hc h1 h2 ⟨hn,hk,hb,hkk,hm⟩ (.inl ⟨i,hf,a3⟩)
 intro m
 induction m with
 | zero=>
  intro idx v s σ hidx hv hs hlen hI
  cases hf:uK idx v l 0 with
  | some i=> rw [show xS l 0 idx v s=uL l i s by rw [xS,hf]];exact found (by omega) hv hlen hI hf
  | none=> rw [show xS l 0 idx v s=(-1,s) by rw [xS,hf]];refine⟨σ,hI,?_⟩;obtain⟨nx,xX⟩:=σ;obtain⟨hn,key,hk,hb,hkk,hm⟩:=hI;exact wz hc (by omega) hv ⟨hn,hk,hb,hkk,hm⟩ (.inr ⟨hf,.inl ⟨by omega,rfl,rfl⟩⟩)
 | succ m ih=>
  intro idx v s σ hidx hv hs hlen hI;have hp2:2 ^ (m+1+1)= 2 ^ (m+1)+ 2 ^ (m+1):=by rw [ψ 2 (m+1)]; omega
  have hp0:0<2 ^ (m+1):=Nat.two_pow_pos _;have hpi:2 ^ (idx+1)= 2 ^ idx+2 ^ idx:=by rw [ψ]; omega
  cases hf:uK idx v l 0 with
  | some i=> rw [show xS l (m+1) idx v s=uL l i s by rw [xS,hf]];exact found (by omega) hv (by omega) hI hf
  | none=>
   obtain⟨σ1,I1,call1⟩:=ih (idx:=idx+1) (v:=v) (s:=s) (σ:=σ) (by omega) (by omega) hs (by omega) hI;obtain⟨a1,a2,a3,a4,a5⟩:=ph (l:=l) (m:=m) (idx:=idx+1) (v:=v) hs
   have er:xS l (m+1) idx v s=if oV (xS l m (idx+1) v s).2 (xS l m (idx+1) v s).1 (idx+1:Nat) then xS l m (idx+1) v s else
     if oV (xS l m (idx+1) (v+2 ^ idx) (xS l m (idx+1) v s).2).2 (xS l m (idx+1) (v+2 ^ idx) (xS l m (idx+1) v s).2).1 (-idx-1) then xS l m (idx+1) (v+2 ^ idx) (xS l m (idx+1) v s).2 else
     ((xS l m (idx+1) (v+2 ^ idx) (xS l m (idx+1) v s).2).2.ls.length,⟨(xS l m (idx+1) (v+2 ^ idx) (xS l m (idx+1) v s).2).2.ls ++ [⟨(zF ((xS l m (idx+1) (v+2 ^ idx) (xS l m (idx+1) v s).2).2.ls.getD (xS l m (idx+1) v s).1.toNat tV).cl ((xS l m (idx+1) (v+2 ^ idx) (xS l m (idx+1) v s).2).2.ls.getD (xS l m (idx+1) (v+2 ^ idx) (xS l m (idx+1) v s).2).1.toNat tV).cl idx).1,(xS l m (idx+1) v s).1,(xS l m (idx+1) (v+2 ^ idx) (xS l m (idx+1) v s).2).1,idx⟩],(xS l m (idx+1) (v+2 ^ idx) (xS l m (idx+1) v s).2).2.us⟩):=by
    rw [xS,hf]; rfl
   rw [er]; clear er;generalize xS l m (idx+1) v s=p at I1 call1 a1 a2 a3 a4 a5;obtain⟨a,s1⟩:=p;simp only at I1 call1 a1 a2 a3 a4 a5;obtain⟨nx1,objs1⟩:=σ1;obtain⟨hn1,key1,hk1,hb1,hkk1,hm1⟩:=id I1
   by_cases hst:oV s1 a (idx+1:Nat)
   ·rw [if_pos hst];refine⟨⟨nx1,objs1⟩,I1,?_⟩;obtain⟨nx,xX⟩:=σ;obtain⟨hn,key,hk,hb,hkk,hm⟩:=hI;exact wz hc (by omega) hv ⟨hn,hk,hb,hkk,hm⟩ (.inr ⟨hf,.inr ⟨by omega,a,nx1,objs1,key1,s1,call1,⟨hn1,hk1,hb1,hkk1,hm1⟩,a3,.inl ⟨hst,rfl,rfl⟩⟩⟩)
   rw [if_neg hst];obtain⟨σ2,I2,call2⟩:=ih (idx:=idx+1) (v:=v+2 ^ idx) (s:=s1) (σ:=⟨nx1,objs1⟩) (by omega) (by omega) a1 (by omega) I1;obtain⟨b1,b2,b3,b4,b5⟩:=ph (l:=l) (m:=m) (idx:=idx+1) (v:=v+2 ^ idx) a1;simp only;generalize xS l m (idx+1) (v+2 ^ idx) s1=q at I2 call2 b1 b2 b3 b4 b5;obtain⟨b,s2⟩:=q;simp only at I2 call2 b1 b2 b3 b4 b5;obtain⟨nx2,objs2⟩:=σ2;obtain⟨hn2,key2,hk2,hb2,hkk2,hm2⟩:=id I2
   by_cases hst2:oV s2 b (-idx-1)
   ·rw [if_pos hst2];refine⟨⟨nx2,objs2⟩,I2,?_⟩;obtain⟨nx,xX⟩:=σ;obtain⟨hn,key,hk,hb,hkk,hm⟩:=hI;exact wz hc (by omega) hv ⟨hn,hk,hb,hkk,hm⟩ (.inr ⟨hf,.inr ⟨by omega,a,nx1,objs1,key1,s1,call1,⟨hn1,hk1,hb1,hkk1,hm1⟩,a3,.inr ⟨hst,b,nx2,objs2,key2,s2,call2,⟨hn2,hk2,hb2,hkk2,hm2⟩,b3,b4,.inl ⟨hst2,rfl,rfl⟩⟩⟩⟩)
   rw [if_neg hst2];refine⟨VZ n l nx2 objs2 key2 _,WD hn2 hk2 hb2 hm2,?_⟩;obtain⟨nx,xX⟩:=σ;obtain⟨hn,key,hk,hb,hkk,hm⟩:=hI;exact wz hc (by omega) hv ⟨hn,hk,hb,hkk,hm⟩ (.inr ⟨hf,.inr ⟨by omega,a,nx1,objs1,key1,s1,call1,⟨hn1,hk1,hb1,hkk1,hm1⟩,a3,.inr ⟨hst,b,nx2,objs2,key2,s2,call2,⟨hn2,hk2,hb2,hkk2,hm2⟩,b3,b4,.inr ⟨hst2,by omega,rfl,rfl⟩⟩⟩⟩)
open Rs
namespace Rs
def rf : RS:=⟨[],[]⟩
def tF (n:Int) (l:List (List Int)):List Ln × Int:=if vY n l≠0 then([],vY n l) else if (xS l n.toNat 0 0 rf).1<0 then([],15) else((xS l n.toNat 0 0 rf).2.ls,0)
end Rs
theorem TQ (n:Int) (l:List (List Int)):zX prog 10 [.int .i64 n,.sl 1 (rl l)] (.yD [.sl 4 (mC (tF n l).1),.int .i64 (tF n l).2]):=by
 by_cases hc:vY n l=0
 case neg=>
  have e:(vY n l != 0)= true:=by simpa using hc
  refine yS func10 MT λhf=>?_;refine xB ?_;refine .go (cr (ir n l)) ?_;refine yK e ?_;rw [show tF n l=([],vY n l) from if_pos hc];exact .drop (by simp) (by simp [vw,sV,mC])
 have e:(vY n l != 0)= false:=by simpa using hc
 obtain⟨c1,c2,c3,c4⟩:=qZ hc;obtain⟨m,rfl⟩:=ξ c1;have hm12:m<=12:=by omega
 have hI0:lj m l ⟨2,[(1,⟨4,[[.int .i64 m,.sl 1 (rl l),.xI,.yV 0]]⟩),(0,⟨0,[]⟩)]⟩ rf:=⟨ο _,2,ο _,by simp [St.look,rf,mC,xJ],by simp [St.look,rf,mC,wW],by simp [St.look,rf,mo,oX]⟩;have hp:=RO (n:=m) hm12;obtain⟨σ',hI,hcall⟩:=UZ hc m (idx:=0) (v:=0) (s:=rf) (by omega) (by simp) (λx y h=>by cases h) (by rw [ψ]; simp [rf]; omega) hI0;have er:tF m l=if (xS l m 0 0 rf).1<0 then([],15) else((xS l m 0 0 rf).2.ls,0):=by rw [tF,if_neg (by omega),ν]
 rw [er];generalize xS l m 0 0 rf=p at hI hcall;obtain⟨a,s⟩:=p;obtain⟨nx,xX⟩:=σ';obtain⟨hn,key,hk,hb,hl,hm⟩:=hI;simp only at hn hb hl hm hcall;refine yS func10 MT λhf=>?_;refine xB ?_;refine .go (cr (ir m l)) ?_;refine yK e ?_;refine .go hcall ?_
 by_cases ha:a<0
 ·refine yK ha ?_;exact .drop (by simp) (by simp [vw,sV,mC])
 ·refine sC ha hb ?_;exact .drop (by simp) ⟨rfl,eN (by simp) (Tv _) hl,by simp [vw],trivial⟩
namespace Rs
end Rs
section
variable [vA]
end
open Rs
namespace Rs
end Rs
namespace Rs
end Rs
open Rs
namespace Rs
theorem SE {v:Nat} {x:Int} (hx:x≠0):sf v (-x)= !sf v x:=by
 unfold sf;rw [Uo hx]
 by_cases h:0<x
 ·rw [decide_eq_true h,decide_eq_false (by omega)]; cases v.testBit (wU x).toNat <;> rfl
 ·rw [decide_eq_false h,decide_eq_true (by omega)]; cases v.testBit (wU x).toNat <;> rfl
theorem o7 {c:List Int} {k:Nat} {x:Int} (h:x ∈ qQ c k):wU x=k:=by
 unfold qQ at h
 rcases γ.1 h with h | h
 ·split at h
  ·rw [η] at h; subst h; unfold wU; rw [if_pos (by omega)]; omega
  ·cases h
 ·split at h
  ·rw [η] at h; subst h; unfold wU; rw [if_neg (by omega)]; omega
  ·cases h
theorem tg {c:List Int}:∀ {k:Nat},qE c k=false->(vV c k).Pairwise λa b=>wU a<wU b
 | 0,_=>.nil
 | k+1,h=>by
  rw [o6,Bool.or_eq_false_iff] at h;unfold vV;rw [List.pairwise_append]
  refine⟨tg h.1,?_,λa ha b hb=>?_⟩
  ·unfold qQ;have h2:=h.2;simp only [dS,Bool.and_eq_false_iff,decide_eq_false_iff_not] at h2
   rcases h2 with h2 | h2
   ·rw [if_neg h2,List.append_nil]; split <;> simp
   ·rw [if_neg h2,List.nil_append]; split <;> simp
  ·have h1:=(tX.1 ha).2.2;rw [o7 hb]; exact h1
theorem ur {c:List Int} {x:Int} (h:x ∈ canon c):x ∈ c:=(tX.1 h).1
theorem ot {c:List Int} {x:Int} (h:wL 12 x=true) (hx:x ∈ c):x ∈ canon c:=tX.2 ⟨hx,(wB.1 h).1,(vM h).2⟩
end Rs
open Rs
namespace Rs
end Rs
open Rs
namespace Rs
theorem gk {a b c:List Int} {on:Int} (h:zF a b on=(c,0)):wD 12 (-1) a=0/\wD 12 (-1) b=0/\0<=on/\on<12/\on+1 ∈ a /\ -on-1 ∈ b/\qE (wG a b on) 12=false/\c=canon (wG a b on):=by
 unfold zF at h
 by_cases h1:wD 12 (-1) a≠0\/wD 12 (-1) b≠0
 ·rw [if_pos h1] at h; cases h
 rw [if_neg h1] at h
 by_cases h2:on<0\/12<=on\/on+1 ∉ a \/ -on-1 ∉ b
 ·rw [if_pos h2] at h; cases h
 rw [if_neg h2] at h
 by_cases h3:(wF (wG a b on)).2=true
 ·rw [if_pos h3] at h; cases h
 rw [if_neg h3] at h
 have hb:qE (wG a b on) 12=false:=by
  cases hb:qE (wG a b on) 12
  ·rfl
  ·exact absurd (by unfold wF; rw [if_pos hb]) h3
 have hc:(wF (wG a b on)).1=canon (wG a b on):=by unfold wF; rw [if_neg (by rw [hb]; simp)]
 rw [hc] at h;simp only [not_or,Decidable.not_not,Prod.mk.injEq,and_true] at h1 h2 h;exact⟨h1.1,h1.2,by omega,by omega,h2.2.2.1,h2.2.2.2,hb,h.symm⟩
theorem rq {a b c:List Int} {on:Int} {v:Nat} (h:zF a b on=(c,0)) (ha:eF v a=true) (hb:eF v b=true):eF v c=true:=by
 obtain⟨n1,n2,o1,o2,i1,i2,hbt,rfl⟩:=gk h;simp only [eF,μ] at ha hb ⊢;obtain⟨y,hy,my⟩:=ha;obtain⟨z,hz,mz⟩:=hb;have ly:=((wY.1 n1).1 y hy).1;have lz:=((wY.1 n2).1 z hz).1
 by_cases ey:y=on+1
 ·by_cases ez:z = -on-1
  ·have:=SE (v:=v) (x:=on+1) (by omega);rw [show -(on+1)= z by omega,mz,<- ey,my] at this;cases this
  ·exact⟨z,ot lz (γ.2 (.inr (pF.2 ⟨hz,ez⟩))),mz⟩
 ·exact⟨y,ot ly (γ.2 (.inl (pF.2 ⟨hy,ey⟩))),my⟩
theorem v7 {n:Int} {l:List (List Int)} {ls:List Ln} (h:oN n l ls=0):vY n l=0/\wE l.length ls 0=true/\ls.all (uE l ls)= true/\ls ≠ []/\(ls.getD (ls.length-1) tV).cl = []:=by
 unfold oN at h
 by_cases h1:vY n l≠0
 ·rw [if_pos h1] at h; exact absurd h h1
 rw [if_neg h1] at h
 by_cases h2:wE l.length ls 0=false
 ·rw [if_pos h2] at h; cases h
 rw [if_neg h2] at h
 by_cases h3:ls.all (uE l ls)= false
 ·rw [if_pos h3] at h; cases h
 rw [if_neg h3] at h
 by_cases h4:ls = []\/(ls.getD (ls.length-1) tV).cl ≠ []
 ·rw [if_pos h4] at h; cases h
 exact⟨by omega,by simpa using h2,by simpa using h3,λe=>h4 (.inl e),Decidable.not_not.1 λe=>h4 (.inr e)⟩
theorem r7 {l:List (List Int)} {ls:List Ln} {v:Nat} (hf:wE l.length ls 0=true) (hr:ls.all (uE l ls)= true) (hs:sc v l=true):∀ k,k<ls.length->eF v (ls.getD k tV).cl=true:=by
 intro k
 induction k using Nat.strongRecOn with
 | ind k ih=>
  intro hk;have hfk:=nD hf k hk;rw [Int.zero_add] at hfk;have hrk:=ζ.1 hr _ (wR (d:=tV) hk);generalize ls.getD k tV=p at hfk hrk;unfold uE at hrk
  by_cases h1:p.lf = -1
  ·rw [if_pos h1,decide_eq_true_eq] at hrk;obtain⟨i1,i2⟩:=nr hfk h1;rw [hrk];exact ζ.1 hs _ (wR (by omega))
  ·rw [if_neg h1,Aa,decide_eq_true_eq,decide_eq_true_eq] at hrk;obtain⟨⟨i1,i2⟩,i3,i4⟩:=aQ hfk h1;have ha:=ih p.lf.toNat (by omega) (by omega);have hb:=ih p.rt.toNat (by omega) (by omega);rw [hrk.2];refine rq (a:=(ls.getD p.lf.toNat tV).cl) (b:=(ls.getD p.rt.toNat tV).cl) (on:=p.on) ?_ ha hb;rw [<- hrk.1]
theorem gz {n:Int} {l:List (List Int)} {ls:List Ln} (h:oN n l ls=0) (v:Nat):sc v l=false:=by
 obtain⟨h1,h2,h3,h4,h5⟩:=v7 h
 cases hs:sc v l
 ·rfl
 ·have:=r7 h2 h3 hs (ls.length-1) (by have:=List.length_pos_iff.2 h4; omega);rw [h5] at this;cases this
end Rs
open Rs
namespace Rs
theorem fO {m:Int}:∀ {ls:List Ln} {i:Int},(∀ k,k<ls.length->uU (i+k) m (ls.getD k tV)= true)->wE m ls i=true
 | [],_,_=>rfl
 | p :: r,i,h=>by rw [wE,Aa];refine⟨by simpa using h 0 (by simp),fO λk hk=>?_⟩;have:=h (k+1) (by simp; omega);rw [θ] at this;rw [show i+1+(k:Int)= i+((k+1:Nat):Int) by omega];exact this
theorem zJ {α:Type} {a b:List α} {d:α} {k:Nat} (h:k<a.length):(a++b).getD k d=a.getD k d:=by simp [List.getD,List.getElem?_append_left h]
theorem uP {α:Type} {a:List α} {x d:α}:(a ++ [x]).getD a.length d=x:=by simp [List.getD]
theorem pj {l:List (List Int)} {ls t:List Ln} {p:Ln} {k:Nat} (hf:uU k l.length p=true) (hk:k<=ls.length):uE l (ls++t) p=uE l ls p:=by
 unfold uE
 by_cases h1:p.lf = -1
 ·rw [if_pos h1,if_pos h1]
 ·obtain⟨⟨i1,i2⟩,i3,i4⟩:=aQ hf h1;rw [if_neg h1,if_neg h1,zJ (show p.lf.toNat<ls.length by omega),zJ (show p.rt.toNat<ls.length by omega)]
structure WF (l : List (List Int)) (s : RS) : Prop where
 fo:∀ k,k<s.ls.length->uU k l.length (s.ls.getD k tV)= true
 ri:∀ k,k<s.ls.length->uE l s.ls (s.ls.getD k tV)= true
 no:∀ k,k<s.ls.length->wD 12 (-1) (s.ls.getD k tV).cl=0
 us:∀ (i:Nat) y,zZ i s.us=some y->0<=y/\y<s.ls.length/\(s.ls.getD y.toNat tV).cl=l.getD i []
def full (s:RS):Prop:=∀ k,k<s.ls.length->(s.ls.getD k tV).cl ≠ []
theorem WF.add {l:List (List Int)} {s:RS} {p:Ln} {u:List (Int × Int)} (h:WF l s) (hf:uU s.ls.length l.length p=true) (hr:uE l s.ls p=true) (hn:wD 12 (-1) p.cl=0)
  (hu:∀ (i:Nat) y,zZ i u=some y->0<=y/\y<s.ls.length+1/\((s.ls ++ [p]).getD y.toNat tV).cl=l.getD i []):WF l ⟨s.ls ++ [p],u⟩:=by
 have hk:∀ k,k<(s.ls ++ [p]).length->(k<s.ls.length/\(s.ls ++ [p]).getD k tV=s.ls.getD k tV)\/(k=s.ls.length/\(s.ls ++ [p]).getD k tV=p):=by
  intro k hk;simp only [δ,ε] at hk
  by_cases e:k=s.ls.length
  ·subst e; exact .inr ⟨rfl,uP⟩
  ·exact .inl ⟨by omega,zJ (by omega)⟩
 refine⟨λk h1=>?_,λk h1=>?_,λk h1=>?_,λi y h1=>?_⟩
 ·rcases hk k h1 with ⟨h2,e⟩ | ⟨rfl,e⟩
  ·show uU k l.length ((s.ls ++ [p]).getD k tV)= true;rw [e]; exact h.fo k h2
  ·show uU s.ls.length l.length ((s.ls ++ [p]).getD s.ls.length tV)= true;rw [e]; exact hf
 ·rcases hk k h1 with ⟨h2,e⟩ | ⟨rfl,e⟩
  ·show uE l (s.ls ++ [p]) ((s.ls ++ [p]).getD k tV)= true;rw [e,pj (h.fo k h2) (by omega)]; exact h.ri k h2
  ·show uE l (s.ls ++ [p]) ((s.ls ++ [p]).getD s.ls.length tV)= true;rw [e,pj hf (ο _)]; exact hr
 ·rcases hk k h1 with ⟨h2,e⟩ | ⟨rfl,e⟩
  ·show wD 12 (-1) ((s.ls ++ [p]).getD k tV).cl=0;rw [e]; exact h.no k h2
  ·show wD 12 (-1) ((s.ls ++ [p]).getD s.ls.length tV).cl=0;rw [e]; exact hn
 ·have:=hu i y h1;refine⟨this.1,?_,this.2.2⟩;show y<((s.ls ++ [p]).length:Int);simp only [δ,ε]; omega
theorem aj {s:RS} {p:Ln} {u:List (Int × Int)} (h:full s) (hp:p.cl ≠ []):full ⟨s.ls ++ [p],u⟩:=by
 intro k hk;show ((s.ls ++ [p]).getD k tV).cl ≠ [];have hk':k<s.ls.length+1:=by simpa using hk
 by_cases e:k=s.ls.length
 ·subst e; rw [uP]; exact hp
 ·rw [zJ (by omega)]; exact h k (by omega)
def xw (idx:Int) (v:Nat) (c:List Int):Prop:=∀ x ∈ c,wU x<idx/\sf v x=false
theorem nk {idx:Int} {v:Nat} {c:List Int}:c.all (nR idx v)= true ↔ xw idx v c:=by simp only [ζ,nR,Aa,decide_eq_true_eq,Bool.not_eq_true',xw]
theorem UI {n:Int} {c:List Int} (hn:n<=12) (h:wD n (-1) c=0):wD 12 (-1) c=0:= wY.2 ⟨λx hx=>⟨eP hn ((wY.1 h).1 x hx).1,((wY.1 h).1 x hx).2⟩,(wY.1 h).2⟩
theorem Yk {c:List Int} (h:∀ x ∈ c,wL 12 x=true) (hb:qE c 12=false):wD 12 (-1) (canon c)= 0:= wY.2 ⟨λx hx=>⟨h x (ur hx),by have:=vM (h x (ur hx)); omega⟩,tg hb⟩
theorem VA {idx v:Nat} (hv:v<2 ^ idx):v.testBit idx=false:=π hv
theorem Rm {idx v:Nat} (hv:v<2 ^ idx):(v+2 ^ idx).testBit idx=true:=by rw [Nat.add_comm,Nat.testBit_two_pow_add_eq,VA hv]; rfl
theorem Pw {idx v w:Nat} (h:w<idx):(v+2 ^ idx).testBit w=v.testBit w:=by rw [Nat.add_comm,Nat.testBit_two_pow_add_gt h]
theorem Y2 (v idx:Nat):sf v ((idx:Int)+ 1)= v.testBit idx:=by unfold sf wU;rw [if_neg (by omega),decide_eq_true (by omega),show ((idx:Int)+ 1-1).toNat=idx by omega]; simp
theorem bf (v idx:Nat):sf v (-(idx:Int)-1)= !v.testBit idx:=by unfold sf wU;rw [if_pos (by omega),decide_eq_false (by omega),show (-(-(idx:Int)-1)-1).toNat=idx by omega]; simp
theorem VS {x:Int} {idx:Nat} (hx:x≠0) (h:wU x=idx):x=idx+1\/x = -(idx:Int)-1:=by unfold wU at h; split at h <;> omega
theorem tn {idx v:Nat} {c:List Int} (hv:v<2 ^ idx) (hz:∀ x ∈ c,x≠0) (h:xw (idx+1:Nat) v c):∀ x ∈ c,x≠idx+1->wU x<idx/\sf v x=false:=λx hx zL=>by
 obtain⟨h1,h2⟩:=h x hx;refine⟨?_,h2⟩
 by_cases e:wU x=idx
 ·rcases VS (hz x hx) e with e | e
  ·exact absurd e zL
  ·rw [e,bf,VA hv] at h2; cases h2
 ·omega
theorem tp {idx v:Nat} {c:List Int} (hv:v<2 ^ idx) (hz:∀ x ∈ c,wL 12 x=true) (h:xw (idx+1:Nat) (v+2 ^ idx) c):∀ x ∈ c,x ≠ -(idx:Int)-1->wU x<idx/\sf v x=false:=λx hx zL=>by
 obtain⟨h1,h2⟩:=h x hx;have hr:=vM (hz x hx)
 have hlt:wU x<idx:=by
  by_cases e:wU x=idx
  ·rcases VS (wB.1 (hz x hx)).1 e with e | e
   ·rw [e,Y2,Rm hv] at h2; cases h2
   ·exact absurd e zL
  ·omega
 refine⟨hlt,?_⟩;unfold sf at h2 ⊢;rw [Pw (by omega)] at h2; exact h2
theorem xc {idx:Int} {v:Nat}:∀ {l:List (List Int)} {i:Nat},uK idx v l i=none->∀ c ∈ l,¬ xw idx v c
 | [],_,_,c,hc=>by cases hc
 | d :: r,i,h,c,hc=>by
  unfold uK at h
  by_cases hd:d.all (nR idx v)= true
  ·rw [if_pos hd] at h; cases h
  ·rw [if_neg hd] at h
   rcases List.mem_cons.1 hc with rfl | hc
   ·exact λhf=>hd (nk.2 hf)
   ·exact xc h c hc
theorem xd {idx:Int} {v:Nat}:∀ {l:List (List Int)} {i j:Nat},uK idx v l i=some j->xw idx v (l.getD (j-i) [])
 | [],_,_,h=>by cases h
 | d :: r,i,j,h=>by
  unfold uK at h
  by_cases hd:d.all (nR idx v)= true
  ·rw [if_pos hd] at h; cases h;rw [Nat.sub_self]; exact nk.1 hd
  ·rw [if_neg hd] at h;have h1:=fX h;have h2:=xd h;rw [show j-i=(j-(i+1))+ 1 by omega,θ];exact h2
structure Good (n : Nat) (l : List (List Int)) (idx v : Nat) (s : RS) (r : Int) (s' : RS) : Prop where
 wf:WF l s'
 ext:∃ t,s'.ls=s.ls++t
 no:r<0->full s'/\∃ w,w<2 ^ n/\sc w l=true
 yes:0<=r->r<s'.ls.length/\xw idx v (s'.ls.getD r.toNat tV).cl/\(full s'\/(r+1=s'.ls.length/\(s'.ls.getD r.toNat tV).cl = []))
theorem tu {n:Nat} {l:List (List Int)} (hc:vY n l=0) {idx v i:Nat} {s:RS} (hw:WF l s) (hfu:full s) (hf:uK idx v l 0=some i):Good n l idx v s (uL l i s).1 (uL l i s).2:=by
 obtain⟨c1,c2,c3,c4⟩:=qZ hc;have hi:=fX hf;have hfal:=xd hf;rw [Nat.sub_zero] at hfal;have hil:i<l.length:=by omega
 unfold uL
 cases hu:zZ i s.us with
 | some y=> obtain⟨h1,h2,h3⟩:=hw.us i y hu;exact⟨hw,⟨[],by simp⟩,λh=>by simp only at h; omega,λ_=>⟨h2,by simp only; rw [h3]; exact hfal,.inl hfu⟩⟩
 | none=>
  have hlast:((s.ls ++ [⟨l.getD i [],-1,i,0⟩]:List Ln).getD s.ls.length tV)= ⟨l.getD i [],-1,i,0⟩:=uP
  refine⟨hw.add ?_ ?_ ?_ ?_,⟨_,rfl⟩,λh=>by simp only at h; omega,λ_=>⟨by simp; omega,?_,?_⟩⟩
  ·simp [uU]; omega
  ·simp [uE]
  ·exact UI c2 (c4 _ (wR hil))
  ·intro x y hxy;rw [kA] at hxy
   cases hx:zZ x s.us with
   | some z=> rw [hx] at hxy; simp at hxy; subst hxy;obtain⟨h1,h2,h3⟩:=hw.us x z hx;exact⟨h1,by omega,by rw [zJ (by omega)]; exact h3⟩
   | none=>
    rw [hx] at hxy;simp at hxy;obtain⟨e1,e2⟩:=hxy;have e1':x=i:=by omega
    subst e1' e2;exact⟨by omega,by omega,by rw [ν,hlast]⟩
  ·simp only [ν]; rw [hlast]; exact hfal
  ·by_cases he:l.getD i [] = []
   ·exact .inr ⟨by simp,by simp only [ν]; rw [hlast]; exact he⟩
   ·exact .inl (aj hfu he)
end Rs
open Rs
namespace Rs
theorem Tq {n v:Nat} {l:List (List Int)} (hl:∀ c ∈ l,∀ x ∈ c,wL n x=true) (h:uK n v l 0=none):sc v l=true:=by
 refine ζ.2 λc hc=>?_;have hnf:=xc h c hc
 cases hs:eF v c
 ·exfalso;refine hnf λx hx=>⟨(vM (hl c hc x hx)).2,?_⟩
  cases hm:sf v x
  ·rfl
  ·have:eF v c=true:=μ.2 ⟨x,hx,hm⟩;rw [hs] at this; cases this
 ·rfl
theorem Ky (l:List (List Int)):WF l rf:=⟨λk h=>by simp [rf] at h,λk h=>by simp [rf] at h,λk h=>by simp [rf] at h,λi y h=>by cases h⟩
theorem bn {s:RS} {a y:Int} (h:¬ oV s a y):0<=a/\y ∈ (s.ls.getD a.toNat tV).cl:=by unfold oV at h;simp only [not_or,Decidable.not_not] at h;exact⟨by omega,h.2⟩
theorem s9 {n:Nat} {l:List (List Int)} (hc:vY n l=0):∀ (m:Nat) {idx v:Nat} {s:RS},idx+m=n->v<2 ^ idx->WF l s->full s->Good n l idx v s (xS l m idx v s).1 (xS l m idx v s).2:=by
 obtain⟨c1,c2,c3,c4⟩:=qZ hc;have hlit:∀ c ∈ l,∀ x ∈ c,wL n x=true:=λc hcl x hx=>((wY.1 (c4 c hcl)).1 x hx).1;intro m
 induction m with
 | zero=>
  intro idx v s hidx hv hw hfu
  cases hf:uK idx v l 0 with
  | some i=> rw [show xS l 0 idx v s=uL l i s by rw [xS,hf]];exact tu hc hw hfu hf
  | none=>
   rw [show xS l 0 idx v s=(-1,s) by rw [xS,hf]];have e:idx=n:=by omega
   subst e;exact⟨hw,⟨[],by simp⟩,λ_=>⟨hfu,v,hv,Tq hlit hf⟩,λh=>by simp only at h; omega⟩
 | succ m ih=>
  intro idx v s hidx hv hw hfu;have hpi:2 ^ (idx+1)= 2 ^ idx+2 ^ idx:=by rw [ψ]; omega
  cases hf:uK idx v l 0 with
  | some i=> rw [show xS l (m+1) idx v s=uL l i s by rw [xS,hf]];exact tu hc hw hfu hf
  | none=>
   have g1:=ih (idx:=idx+1) (v:=v) (s:=s) (by omega) (by omega) hw hfu
   have er:xS l (m+1) idx v s=if oV (xS l m (idx+1) v s).2 (xS l m (idx+1) v s).1 (idx+1:Nat) then xS l m (idx+1) v s else
     if oV (xS l m (idx+1) (v+2 ^ idx) (xS l m (idx+1) v s).2).2 (xS l m (idx+1) (v+2 ^ idx) (xS l m (idx+1) v s).2).1 (-idx-1) then xS l m (idx+1) (v+2 ^ idx) (xS l m (idx+1) v s).2 else
     ((xS l m (idx+1) (v+2 ^ idx) (xS l m (idx+1) v s).2).2.ls.length,⟨(xS l m (idx+1) (v+2 ^ idx) (xS l m (idx+1) v s).2).2.ls ++ [⟨(zF ((xS l m (idx+1) (v+2 ^ idx) (xS l m (idx+1) v s).2).2.ls.getD (xS l m (idx+1) v s).1.toNat tV).cl ((xS l m (idx+1) (v+2 ^ idx) (xS l m (idx+1) v s).2).2.ls.getD (xS l m (idx+1) (v+2 ^ idx) (xS l m (idx+1) v s).2).1.toNat tV).cl idx).1,(xS l m (idx+1) v s).1,(xS l m (idx+1) (v+2 ^ idx) (xS l m (idx+1) v s).2).1,idx⟩],(xS l m (idx+1) (v+2 ^ idx) (xS l m (idx+1) v s).2).2.us⟩):=by
    rw [xS,hf]; rfl
   rw [er]; clear er;generalize xS l m (idx+1) v s=p at g1;obtain⟨a,s1⟩:=p;simp only at g1 ⊢
   by_cases hst:oV s1 a (idx+1:Nat)
   ·rw [if_pos hst];refine⟨g1.wf,g1.ext,g1.no,λha=>?_⟩;obtain⟨y1,y2,y3⟩:=g1.yes ha;simp only at ha y1 y2 y3 ⊢;refine⟨y1,?_,y3⟩;have hno:=g1.wf.no a.toNat (by omega)
    have hni:((idx+1:Nat):Int) ∉ (s1.ls.getD a.toNat tV).cl:=by
     rcases hst with h | h
     ·omega
     ·exact h
    exact λx hx=>tn hv (λx hx=>(wB.1 ((wY.1 hno).1 x hx).1).1) y2 x hx λe=>hni (by rw [show ((idx+1:Nat):Int)= x by omega]; exact hx)
   rw [if_neg hst];obtain⟨ha,hain⟩:=bn hst;obtain⟨y1,y2,y3⟩:=g1.yes ha
   have hfu1:full s1:=by
    rcases y3 with h | ⟨_,h⟩
    ·exact h
    ·rw [h] at hain; cases hain
   have g2:=ih (idx:=idx+1) (v:=v+2 ^ idx) (s:=s1) (by omega) (by omega) g1.wf hfu1;generalize xS l m (idx+1) (v+2 ^ idx) s1=q at g2;obtain⟨b,s2⟩:=q;simp only at g2 ⊢;obtain⟨t1,ht1⟩:=g1.ext;obtain⟨t2,ht2⟩:=g2.ext;have hext:∃ t,s2.ls=s.ls++t:=⟨t1++t2,by rw [ht2,ht1,κ]⟩
   by_cases hst2:oV s2 b (-idx-1)
   ·rw [if_pos hst2];refine⟨g2.wf,hext,g2.no,λhb=>?_⟩;obtain⟨z1,z2,z3⟩:=g2.yes hb;simp only at hb z1 z2 z3 ⊢;refine⟨z1,?_,z3⟩;have hno:=g2.wf.no b.toNat (by omega)
    have hni:-(idx:Int)-1 ∉ (s2.ls.getD b.toNat tV).cl:=by
     rcases hst2 with h | h
     ·omega
     ·exact h
    exact λx hx=>tp hv (λx hx=>((wY.1 hno).1 x hx).1) z2 x hx λe=>hni (by rw [<- e]; exact hx)
   rw [if_neg hst2];obtain⟨hb,hbin⟩:=bn hst2;obtain⟨z1,z2,z3⟩:=g2.yes hb
   have hfu2:full s2:=by
    rcases z3 with h | ⟨_,h⟩
    ·exact h
    ·rw [h] at hbin; cases hbin
   have hag:s2.ls.getD a.toNat tV=s1.ls.getD a.toNat tV:=by rw [ht2,zJ (by omega)]
   have hl12:s1.ls.length<=s2.ls.length:=by rw [ht2,δ]; omega
   have na:=g1.wf.no a.toNat (by omega);have nb:=g2.wf.no b.toNat (by omega);rw [hag];generalize hca:(s1.ls.getD a.toNat tV).cl=ca at y2 hain na;generalize hcb:(s2.ls.getD b.toNat tV).cl=cb at z2 hbin nb;have la:∀ x ∈ ca,wL 12 x=true:=λx hx=>((wY.1 na).1 x hx).1;have lb:∀ x ∈ cb,wL 12 x=true:=λx hx=>((wY.1 nb).1 x hx).1
   have mfal:xw idx v (wG ca cb idx):=λx hx=>by
    rcases γ.1 hx with hx | hx
    ·obtain⟨h1,h2⟩:=pF.1 hx;exact tn hv (λx hx=>(wB.1 (la x hx)).1) y2 x h1 h2
    ·obtain⟨h1,h2⟩:=pF.1 hx;exact tp hv lb z2 x h1 h2
   have mlit:∀ x ∈ wG ca cb idx,wL 12 x=true:=λx hx=>by
    rcases γ.1 hx with hx | hx
    ·exact la x (pF.1 hx).1
    ·exact lb x (pF.1 hx).1
   have hnb:qE (wG ca cb idx) 12=false:=by rw [<- Bool.not_eq_true,eJ];rintro ⟨w,_,hbo⟩;simp only [dS,Aa,decide_eq_true_eq] at hbo;have h1:=(mfal _ hbo.1).2;have h2:=(mfal _ hbo.2).2;rw [Y2] at h1;rw [bf,h1] at h2;cases h2
   have hres:zF ca cb idx=(canon (wG ca cb idx),0):=by
    have hco:wF (wG ca cb idx)= (canon (wG ca cb idx),false):=by unfold wF; rw [if_neg (by rw [hnb]; simp)]
    unfold zF;rw [if_neg (by omega),if_neg,hco,if_neg (by simp)]
    rintro (h | h | h | h)
    ·omega
    ·omega
    ·exact h (by rw [show (idx:Int)+ 1=((idx+1:Nat):Int) by omega]; exact hain)
    ·exact h hbin
   rw [hres];have hlast:((s2.ls ++ [⟨canon (wG ca cb idx),a,b,idx⟩]:List Ln).getD s2.ls.length tV)= ⟨canon (wG ca cb idx),a,b,idx⟩:=uP
   refine⟨g2.wf.add ?_ ?_ ?_ ?_,?_,λh=>by simp only at h; omega,λ_=>⟨by simp; omega,?_,?_⟩⟩
   ·simp only [uU,if_neg (show ¬ a = -1 by omega),Aa,decide_eq_true_eq];omega
   ·simp only [uE,if_neg (show ¬ a = -1 by omega)];rw [hag,hca,hcb,hres];simp
   ·exact Yk mlit hnb
   ·intro i y hy;obtain⟨h1,h2,h3⟩:=g2.wf.us i y hy;exact⟨h1,by omega,by rw [zJ (by omega)]; exact h3⟩
   ·obtain⟨t,ht⟩:=hext;exact⟨t ++ [⟨canon (wG ca cb idx),a,b,idx⟩],by simp only; rw [ht,κ]⟩
   ·simp only [ν]; rw [hlast];exact λx hx=>mfal x (ur hx)
   ·by_cases he:canon (wG ca cb idx)= []
    ·exact .inr ⟨by simp,by simp only [ν]; rw [hlast]; exact he⟩
    ·exact .inl (aj hfu2 he)
theorem sm {n:Nat} {l:List (List Int)} (hc:vY n l=0):((tF n l).2=15/\(tF n l).1 = []/\∃ w,w<2 ^ n/\sc w l=true)\/((tF n l).2=0/\oN n l (tF n l).1=0):=by
 have g:=s9 hc n (idx:=0) (v:=0) (s:=rf) (by omega) (by simp) (Ky l) (λk h=>by simp [rf] at h);have er:tF n l=if (xS l n 0 0 rf).1<0 then([],15) else((xS l n 0 0 rf).2.ls,0):=by rw [tF,if_neg (by omega),ν]
 rw [er];generalize xS l n 0 0 rf=p at g;obtain⟨r,s⟩:=p;simp only at g ⊢
 by_cases hr:r<0
 ·rw [if_pos hr];exact .inl ⟨rfl,rfl,(g.no hr).2⟩
 ·rw [if_neg hr];obtain⟨y1,y2,y3⟩:=g.yes (by omega)
  have he:(s.ls.getD r.toNat tV).cl = []:=by
   cases hcl:(s.ls.getD r.toNat tV).cl with
   | nil=>rfl
   | cons x t=>
    have hx:x ∈ (s.ls.getD r.toNat tV).cl:=by rw [hcl]; simp
    have h1:=(y2 x hx).1;have h2:=vM ((wY.1 (g.wf.no r.toNat (by omega))).1 x hx).1;omega
  have hlast:r+1=s.ls.length:=by
   rcases y3 with h | ⟨h,_⟩
   ·exact absurd he (h r.toNat (by omega))
   ·exact h
  have zL:s.ls ≠ []:=λe=>by rw [e] at y1; simp at y1; omega
  refine .inr ⟨rfl,?_⟩;unfold oN;have hform:wE l.length s.ls 0=true:=fO λk hk=>by rw [Int.zero_add]; exact g.wf.fo k hk
  have hright:s.ls.all (uE l s.ls)= true:=ζ.2 λp hp=>by obtain⟨k,hk,rfl⟩:=List.mem_iff_getElem.1 hp;have:=g.wf.ri k hk;simpa [List.getD,hk] using this
  rw [if_neg (by omega),if_neg (by rw [hform]; simp),if_neg (by rw [hright]; simp),if_neg]
  rintro (h | h)
  ·exact zL h
  ·rw [show s.ls.length-1=r.toNat by omega] at h;exact h he
end Rs
open Rs Fm
namespace Fm
theorem Xd {f:List Nd} {n:Int} (h:(xE f n).2=0):∃ m:Nat,n=m/\m<=6:=by
 unfold xE at h
 by_cases h1:yQ f≠0
 ·rw [if_pos h1] at h; exact absurd h h1
 rw [if_neg h1] at h
 by_cases h2:rF f≠0
 ·rw [if_pos h2] at h; cases h
 rw [if_neg h2] at h
 by_cases h3:n<0\/6<n\/jJ f 0 n=false
 ·rw [if_pos h3] at h; cases h
 exact⟨n.toNat,by omega,by omega⟩
def aH (v:Nat):Nat->List Int
 | 0=>[]
 | k+1=>aH v k ++ [if v.testBit k=true then -((k:Int)+ 1) else(k:Int)+ 1]
theorem Zo (v:Nat):∀ k,(aH v k).length=k
 | 0=>rfl
 | k+1=>by simp [aH,Zo v k]
def yY (t:BitVec 64) (n:Nat):Nat->List (List Int)
 | 0=>[]
 | k+1=>if t.getLsbD k=true then yY t n k else yY t n k ++ [aH k n]
theorem jP (t:BitVec 64) (n:Nat):∀ k,(yY t n k).length<=k
 | 0=>ο _
 | k+1=>by
  have:=jP t n k;unfold yY
  split
  ·omega
  ·rw [δ,ε]; omega
def pD (f:List Nd) (n:Int):List (List Int) × Int:=if (xE f n).2≠0 then([],(xE f n).2) else(yY (xE f n).1 n.toNat (2 ^ n.toNat),0)
theorem iM (l:List (List Int)):rP (rl l)= True:=eq_true (ji l)
theorem We {k sz:Nat} {xZ:List (List D)}:∀ p ∈ yX k sz xZ,p.1=k:=by cases xZ <;> simp [yX]
theorem YE (l:List (List Int)) (c:List Int):rl l ++ [[.sl 1 (rows .i64 c)]]=rl (l ++ [c]):=by simp [rl]
end Fm
theorem mh (f:List Nd) (n:Int):zX prog 8 [.sl 6 (vW f),.int .i64 n] (.yD [.sl 1 (rl (pD f n).1),.int .i64 (pD f n).2]):=by
 refine yS func8 k8 λhf=>?_;refine xB ?_;refine .go (cr (ik f n)) ?_;by_cases hc:(xE f n).2=0
 case neg=>
  have e:((xE f n).2 != 0)= true:=by simpa using hc
  refine yK e ?_;rw [show pD f n=([],(xE f n).2) from if_pos hc];exact .drop (by simp) (by simp [vw,sV,rl])
 have e:((xE f n).2 != 0)= false:=by simpa using hc
 obtain⟨m,rfl,hm⟩:=Xd hc;rw [show pD f m=(yY (xE f m).1 m (2 ^ m),0) by rw [pD,if_neg (by simpa using hc),ν]];have h64:2 ^ m<=2 ^ 6:=υ (by decide) hm;simp only [simprocAttr,-ZA,↓zU,↓zD,zV,zT,zW,e,W0 (show m<=61 by omega)]
 (repeat refine sd ?_)
 generalize (xE f m).1=t
 refine yM (λk:Nat=>[(24,.int .i64 k),(23,.int .i64 ((2 ^ m:Nat):Int)),(8,xJ 0 1 (rl (yY t m k))),(6,.int .u64 (ui t)),(1,.int .i64 m)]) (λk=>⟨1,yX 0 1 (rl (yY t m k))⟩) (λk=>k<=2 ^ m) (λk=>2 ^ m-k) 0 (ω _) ?_ ?_
 ·exact yJ.view (λk=>k) (by simp) (by simp) (by simp [aK,vw,Fr.get,rl,xJ,yY]) (by simp [stays,rl,yX,yY]) (by simp [wQ,rl,yX,yY])
 intro k hk;refine wH mixed ?_;have hw:IntKind.i64.wrap ((k:Int)+ 1)= ((k+1:Nat):Int):=wrap_i64 (by omega);have hcl:=jP t m k;by_cases h:k<2 ^ m
 case neg=>
  have ek:k=2 ^ m:=by omega
  have hd:¬ (k:Int)<((2 ^ m:Nat):Int):=by omega
  refine yK hd ?_;rw [<- ek];exact .drop (by simp) ⟨rfl,eN (by simp) (ji _) (by cases rl (yY t m k) <;> simp [yX,wW,St.look]),by simp [vw],trivial⟩
 have hd:((k:Int)<((2 ^ m:Nat):Int)):=by omega
 cases hb:t.getLsbD k
 case true=>
  refine eG hd yw hb ?_;refine⟨k+1,by omega,?_,by omega⟩;rw [show yY t m (k+1)= yY t m k by rw [yY,if_pos hb]]
  (refine yJ.same ?_; simp only [vI,Fr.get,simprocAttr,-ZA,zS])
  exact hw
 refine eG hd yw hb ?_
 refine qf (λj:Nat=>[(34,.int .i64 j),(33,.int .i64 m),(24,.int .i64 k),(23,.int .i64 ((2 ^ m:Nat):Int)),(10,.wZ 1 1 (aH k j).length),(9,.int .i64 k),(8,xJ 0 1 (rl (yY t m k))),(6,.int .u64 (ui t)),(1,.int .i64 m)]) (λj=>⟨2,(1,⟨1,rows .i64 (aH k j)⟩) :: yX 0 1 (rl (yY t m k))⟩) (λj=>j<=m) (λj=>m-j) 0 (ω _) ?_ ?_
 ·(refine yJ.same ?_; simp [vI,Fr.get,aH])
 intro j hj;refine wH mixed ?_;have hjl:=Zo k j
 by_cases h2:j<m
 ·have hd2:((j:Int)<(m:Int)):=by omega
  have hw1:IntKind.i64.wrap ((j:Int)+ 1)= (j:Int)+ 1:=wrap_i64 (by omega);have hw2:IntKind.i64.wrap (0-((j:Int)+ 1))= -((j:Int)+ 1):=wrap_i64 (by omega)
  cases hb2:k.testBit j
  ·simp only [simprocAttr,-ZA,↓zU,↓zD,zV,zT,zW,hd2,hw1,bP k j (by omega),cV (iH (show k<2 ^ 62 by omega) j),wg,hb2]
   (repeat refine sd ?_)
   refine⟨j+1,by omega,?_,by omega⟩;rw [show aH k (j+1)= aH k j ++ [(j:Int)+ 1] by rw [aH,hb2,if_neg (by simp)]]
   (refine fm [(1,2)] [1,0] ?_; simp only [lS,zQ,simprocAttr,-ZA,exists_eq_left',ne_eq,zR,iM])
   simp
  ·simp only [simprocAttr,-ZA,↓zU,↓zD,zV,zT,zW,hd2,hw1,hw2,bP k j (by omega),cV (iH (show k<2 ^ 62 by omega) j),wg,hb2]
   (repeat refine sd ?_)
   refine⟨j+1,by omega,?_,by omega⟩;rw [show aH k (j+1)= aH k j ++ [-((j:Int)+ 1)] by rw [aH,hb2,if_pos rfl]]
   (refine fm [(1,2)] [1,0] ?_; simp only [lS,zQ,simprocAttr,-ZA,exists_eq_left',ne_eq,zR,iM])
   simp
 ·have hd2:¬ ((j:Int)<(m:Int)):=by omega
  obtain rfl:j=m:=by omega
  refine yK hd2 ?_
  refine .go [(24,.int .i64 k),(23,.int .i64 ((2 ^ j:Nat):Int)),(10,.sl 1 (rows .i64 (aH k j))),(8,xJ 0 1 (rl (yY t j k))),(6,.int .u64 (ui t)),(1,.int .i64 j)] ⟨1,yX 0 1 (rl (yY t j k))⟩ ?_ ?_
  ·(refine fm [] [0] ?_; simp only [lS,zQ,simprocAttr,-ZA,exists_eq_left',ne_eq,zR,iM])
   exact⟨λp hp h1=>absurd ((We p hp).symm.trans h1) (by decide),by rw [wS]; omega,by rw [<- wS .i64 (aH k j),List.take_length],sX _ _⟩
  refine j4 tI ?_;refine⟨k+1,by omega,?_,by omega⟩;rw [show yY t j (k+1)= yY t j k ++ [aH k j] by rw [yY,if_neg (by simp [hb])]];exact TA [(0,1)] [0] iM YE hw
open Rs Fm
namespace Fm
theorem Oj (v idx:Nat):sf v ((idx:Int)+ 1)= v.testBit idx:=by unfold sf wU;rw [if_neg (by omega),decide_eq_true (by omega),show ((idx:Int)+ 1-1).toNat=idx by omega]; simp
theorem Oi (v idx:Nat):sf v (-((idx:Int)+ 1))= !v.testBit idx:=by unfold sf wU;rw [if_pos (by omega),decide_eq_false (by omega),show (-(-((idx:Int)+ 1))-1).toNat=idx by omega]; simp
theorem cn (u v:Nat):∀ k,eF v (aH u k)= true ↔ ∃ i,i<k/\v.testBit i≠u.testBit i
 | 0=>by simp [aH,eF]
 | k+1=>by
  have ih:=cn u v k
  have e:eF v (aH u (k+1))= (eF v (aH u k) || (v.testBit k != u.testBit k)):=by
   show (aH u k ++ [_]).any (sf v)= _;rw [List.any_append,List.any_cons,List.any_nil,Bool.or_false];congr 1
   cases hb:u.testBit k
   ·rw [if_neg (by simp),Oj]; simp
   ·rw [if_pos rfl,Oi]; simp
  rw [e,Bool.or_eq_true,ih]
  constructor
  ·rintro (⟨i,h1,h2⟩ | h)
   ·exact⟨i,by omega,h2⟩
   ·exact⟨k,by omega,by simpa using h⟩
  ·rintro ⟨i,h1,h2⟩
   by_cases hi:i=k
   ·subst hi; exact .inr (by simpa using h2)
   ·exact .inl ⟨i,by omega,h2⟩
theorem Sg {u v m:Nat} (hu:u<2 ^ m) (hv:v<2 ^ m):eF v (aH u m)= decide (v≠u):=by
 rw [Ab,cn,decide_eq_true_iff]
 constructor
 ·rintro ⟨i,_,h⟩ rfl;exact h rfl
 ·intro h;refine Classical.byContradiction λhn=>h (Nat.eq_of_testBit_eq λi=>?_)
  by_cases hi:i<m
  ·exact Classical.byContradiction λhb=>hn ⟨i,hi,hb⟩
  ·have:2 ^ m<=2 ^ i:=υ (by decide) (by omega);rw [π (χ hu this),π (χ hv this)]
theorem xk {t:BitVec 64} {m v:Nat} (hv:v<2 ^ m):∀ K,K<=2 ^ m->sc v (yY t m K)= !(decide (v<K)&& !t.getLsbD v)
 | 0,_=>by simp [yY,sc]
 | K+1,hK=>by
  have ih:=xk (t:=t) hv K (by omega);unfold yY
  cases hb:t.getLsbD K
  ·rw [if_neg (by simp)];show (yY t m K ++ [aH K m]).all (eF v)= _;rw [List.all_append];show (sc v (yY t m K)&& _)= _;rw [ih,List.all_cons,List.all_nil,Bool.and_true,Sg (by omega) hv]
   by_cases h:v=K
   ·subst h; simp [hb]
   ·have e:decide (v<K+1)= decide (v<K):=by rw [Ab]; simp; omega
    rw [e]; simp [h]
  ·rw [if_pos rfl,ih]
   by_cases h:v=K
   ·subst h; simp [hb]
   ·have e:decide (v<K+1)= decide (v<K):=by rw [Ab]; simp; omega
    rw [e]
theorem gW {t:BitVec 64} {m:Nat}:∀ {K:Nat} {c:List Int},c ∈ yY t m K->∃ u,c=aH u m
 | 0,c,h=>by cases h
 | K+1,c,h=>by
  unfold yY at h
  split at h
  ·exact gW h
  ·rcases γ.1 h with h | h
   ·exact gW h
   ·exact⟨K,by simpa using h⟩
end Fm
open Rs Fm
namespace Bd
def PV : List Nd:=[⟨3,0,0,0,0,0⟩]
def PW : List Nd:=[⟨3,1,0,0,0,0⟩]
def fi : List Nd:=[⟨3,0,0,0,0,0⟩,⟨3,1,0,0,0,0⟩,⟨7,0,0,0,0,1⟩]
theorem M6 : Va 0=PV:=by kernel_rfl
theorem M7 : Va 1=PW:=by kernel_rfl
theorem Od : PK PV PW=fi:=by kernel_rfl
theorem Oc : pD fi 2=([[-1,2]],0):=by kernel_rfl
theorem Q2 : xE fi 2=(13#64,0):=by kernel_rfl
theorem Kw : zX prog 13 [.int .i64 0] (.sl 6 (vW PV)):=by rw [<- M6]; exact V6 0
theorem Kz : zX prog 13 [.int .i64 1] (.sl 6 (vW PW)):=by rw [<- M7]; exact V6 1
theorem MG : zX prog 12 [.sl 6 (vW PV),.sl 6 (vW PW)] (.sl 6 (vW fi)):=by rw [<- Od]; exact OI PV PW
theorem KY : zX prog 8 [.sl 6 (vW fi),.int .i64 2] (.yD [.sl 1 (rl [[-1,2]]),.int .i64 0]):=by have:=mh fi 2;rw [Oc] at this;exact this
theorem t5 : zX prog 5 [.sl 6 (vW fi),.int .i64 2] (.yD [.int .u64 (ui 13#64),.int .i64 0]):=by have:=ik fi 2;rw [Q2] at this;exact this
end Bd
theorem Sc {O:iQ} (hO:iD prog O) {g:FuncId} {args:List D} {d':D} (n:Nat) (h:(Pe (λ_=>false) (λ_=>false) Tb O n g args kT).bind (λr=>(fz r.2 30 r.1).map λd=>ft 30 d d')= some true):zX prog g args d':=by obtain⟨⟨d,σ⟩,h1,h2⟩:=Option.bind_eq_some_iff.1 h;obtain⟨d1,h3,h4⟩:=Option.map_eq_some_iff.1 h2;have e:=kL _ _ _ h4;subst e;exact(VF mixed (λ_ h=>by cases h) OQ hO n _ _ _ _ _ h1).jm (xy 30 _ _ h3)
theorem jy : zX prog 4 [] (.bool true):= Sc (Ty (kY Bd.Kw rfl <| kY Bd.Kz rfl <| kY Bd.MG rfl <| kY Bd.KY rfl <| kY Bd.t5 rfl Tx) Pt) 60 (by kernel_rfl)
open Rs Fm Bd
namespace Fm
theorem Wy {f:List Nd} {n:Nat} (h40:f.length<=40) (hz:(xE f n).2=0):(xE (qW f) n).2=0/\∀ v,v<2 ^ n->(xE (qW f) n).1.getLsbD v=!vO (xQ f) (rA (xQ f) v):=by
 obtain⟨hc,hf,hn6,h6,ht⟩:=cQ (n:=n) hz;have hv:=mF f;have hn:=pP hc;obtain⟨htr,hd⟩:=jQ hc;have hp:=pR.1 hf;have hw4:TG (.nd 4 0 0 0 (oW f) .nil):=⟨by decide,by simp only [show (xW 4).1.x=true from rfl,↓reduceIte]; exact vt hc,by simp only [show (xW 4).1.y=false from rfl,↓reduceIte,Bool.false_eq_true]⟩;have hcf:=mM hc;have hcl:=y9 hc;rw [show tree f (f.length-1)= oW f from rfl] at hcf;have hno:=mw (oW f)
 have hlen:(canon (.nd 4 0 0 0 (oW f) .nil)).length<=41:=by
  rcases hno with h | ⟨k,h⟩
  ·rw [h]; omega
  ·rw [h,δ,ε]; omega
 have hnot:qW f=canon (.nd 4 0 0 0 (oW f) .nil):=by unfold qW;rw [mr hc rfl rfl (by decide) rfl,if_neg (by simp only; omega)]
 have hcc:=yx hw4 (by omega);obtain⟨sv,sn,sl,st⟩:=jV hw4;have h6':=h6;unfold rR at h6';rw [hcf] at hp h6' hv hn htr
 have hfrag:rF (qW f)= 0:=by
  rw [pR,hnot,hcc.2];intro p hq
  rcases hno with h | ⟨k,h⟩
  ·rw [h] at hq; exact hp p hq
  ·rw [h] at hq
   rcases γ.1 hq with hq | hq
   ·exact hp p hq
   ·rw [η] at hq; rw [hq]; show (4:Int)<=8; decide
 have hfac:rR (qW f)= rR f:=by
  unfold rR;rw [hnot,hcc.2,hcf]
  rcases hno with h | ⟨k,h⟩
  ·rw [h]
  ·rw [h]; exact qd _ _ _ rfl
 have htn:=vr (f:=qW f) (n:=n) (by rw [hnot]; exact hcc.1) hfrag hn6 (by rw [hfac]; exact h6);rw [show xE (qW f) n=_ from htn];refine⟨rfl,λv hv2=>?_⟩;have e64:2 ^ n<=2 ^ 6:=υ (by decide) hn6;have e64':(2:Nat)^ 6=64:=rfl;simp only;rw [hnot,hcc.2,hcf,pH _ (2 ^ n) (by omega) v (by omega),kB sv sl,kB hv hn,st,htr];simp only [hv2,decide_true,Ac];conv=>lhs; unfold R3
 rw [if_neg (by decide)];rfl
theorem UJ (u:Nat):wD 4 (-1) (aH u 4)= 0:=by simp only [aH,List.nil_append,List.cons_append];cases u.testBit 0 <;> cases u.testBit 1 <;> cases u.testBit 2 <;> cases u.testBit 3 <;> decide
theorem rh (t:BitVec 64):vY 4 (yY t 4 16)= 0:=by have hl:=jP t 4 16;unfold vY;rw [if_neg (by omega),if_neg (by omega),gV];intro c hc;obtain⟨u,rfl⟩:=gW hc;exact UJ u
end Fm
namespace Bd
theorem Wb {n:Nat} {S:List yH} (hI:sU n S) {w w':Nat->Bool} (h:∀ u,u<n->w u=w' u):∀ (m i:Nat),i<S.length+2->den S m i w=den S m i w':=by
 intro m
 induction m with
 | zero=>intro i _; rfl
 | succ m ih=>
  intro i hi
  by_cases c:i<2
  ·rw [xA c,xA c]
  obtain⟨a1,a2,a3,a4,a5,a6⟩:=hI.mb (i:=i) (by omega) hi;unfold den;rw [if_neg c,if_neg c,<- rG (by omega),<- h _ a1]
  split
  ·exact ih _ (by omega)
  ·exact ih _ (by omega)
theorem Te {n r:Nat} {E:List yH} (hn:n<=24) (h:eI n E r) (ht:∀ w,den E n r w=true):E = []/\r=1:=by
 have hr:r=1:=Ru hn h.inv (r+2) r 1 (by omega) (by omega) h.lt (by omega) λw=>by rw [ht w,xA (by omega)]; rfl
 subst hr;refine⟨?_,rfl⟩;rw [<- h.self.2]
 cases n with
 | zero=>rfl
 | succ m=> unfold zP;rw [if_pos (by omega)]; rfl
theorem Xe {f:List Nd} (h30:f.length<=30) (hz:(xE f 4).2=0) {E:List yH} {r:Nat} (hD:eI 4 E r) (hden:∀ w,den E 4 r w=vO (xQ f) (aC (xQ f) w)) :
  (jN f).2=0/\(xE (qW f) 4).2=0 /\
   (((jN f).1=true/\(xE f 4).1=65535#64/\E = []/\r=1/\(tF 4 (yY (xE (qW f) 4).1 4 16)).2=0/\oN 4 (yY (xE (qW f) 4).1 4 16) (tF 4 (yY (xE (qW f) 4).1 4 16)).1=0) \/
    ((jN f).1=false/\(xE f 4).1≠65535#64/\r≠1/\(tF 4 (yY (xE (qW f) 4).1 4 16)).2=15)):=by
 obtain⟨hc,hf,_,h4,ht⟩:=cQ (n:=4) hz;have e16:(2:Nat)^ 4=16:=rfl;rw [e16] at ht
 have h6:rR f / 2 ^ 6=0:=by
  have:rR f<16:=by
   rcases Nat.div_eq_zero_iff.1 h4 with h | h
   ·omega
   ·exact h
  exact Nat.div_eq_of_lt (by omega)
 have ht6:=vr hc hf (ο 6) h6;have e64:(2:Nat)^ 6=64:=rfl;rw [e64] at ht6;obtain⟨g1,g2,_,_⟩:=Ti (f:=f) (by omega) (by rw [show xE f 6=_ from ht6]);obtain⟨n1,n2⟩:=Wy (n:=4) (show f.length<=40 by omega) hz;rw [e16] at n2;have n2:∀ v,v<16->(xE (qW f) 4).1.getLsbD v=!vO (xQ f) (rA (xQ f) v):=n2;have ck:=rh (xE (qW f) 4).1;have dec:=sm (n:=4) ck
 have hsat:∀ v,v<16->sc v (yY (xE (qW f) 4).1 4 16)= !vO (xQ f) (rA (xQ f) v):=λv hv=>by rw [xk (m:=4) hv 16 (ο _),n2 v hv];simp [hv]
 have ht4:∀ v,v<16->(xE f 4).1.getLsbD v=vO (xQ f) (rA (xQ f) v):=λv hv=>by rw [show xE f 4=_ from ht];simp only;rw [pH _ 16 (by omega) v (by omega)];simp [hv]
 have ht4':∀ v,16<=v->v<64->(xE f 4).1.getLsbD v=false:=λv hv hv2=>by rw [show xE f 4=_ from ht];simp only;rw [pH _ 16 (by omega) v hv2];simp [show ¬ v<16 by omega]
 rw [show xE f 6=_ from ht6] at g2;simp only at g2;refine⟨g1,n1,?_⟩
 by_cases hA:∀ v,v<16->vO (xQ f) (rA (xQ f) v)= true
 ·refine .inl ?_
  have hT:∀ w,den E 4 r w=true:=λw=>by rw [Wb hD.inv (w':=(xu w 4).testBit) (λu hu=>(fW w 4 u hu).symm) _ _ hD.lt,hden];exact hA _ (iF w 4)
  obtain⟨hE,hr⟩:=Te (by omega) hD hT
  have h64:lX (xQ f) 64=BitVec.allOnes 64:=(bG _).2 λv _=>by have:=hden v.testBit;rw [hT] at this;exact this.symm
  refine⟨by rw [g2,decide_eq_true h64],?_,hE,hr,?_⟩
  ·refine BitVec.eq_of_getLsbD_eq λj hj=>?_
   by_cases c:j<16
   ·rw [ht4 j c,hA j c];have:∀ j:Nat,j<16->(65535#64).getLsbD j=true:=by decide
    exact(this j c).symm
   ·rw [ht4' j (by omega) hj];have:∀ j:Nat,j<64->16<=j->(65535#64).getLsbD j=false:=by decide
    exact(this j hj (by omega)).symm
  ·rcases dec with ⟨_,_,w,hw,hs⟩ | ⟨d1,d2⟩
   ·rw [hsat w hw,hA w hw] at hs; cases hs
   ·exact⟨d1,d2⟩
 ·refine .inr ?_;obtain⟨v,hv⟩:∃ v,¬ (v<16->vO (xQ f) (rA (xQ f) v)= true):=Classical.not_forall.1 hA
  obtain⟨hv1,hv2⟩:v<16/\vO (xQ f) (rA (xQ f) v)= false:=by
   by_cases c:v<16
   ·refine⟨c,?_⟩
    cases h:vO (xQ f) (rA (xQ f) v)
    ·rfl
    ·exact absurd (λ_=>h) hv
   ·exact absurd (λh=>absurd h c) hv
  refine⟨?_,λe=>?_,λe=>?_,?_⟩
  ·rw [g2];refine decide_eq_false λh=>?_;rw [(bG _).1 h v (by omega)] at hv2; cases hv2
  ·have:=ht4 v hv1;rw [hv2,e] at this;have h2:∀ j:Nat,j<16->(65535#64).getLsbD j=true:=by decide
   rw [h2 v hv1] at this; cases this
  ·have:=hden v.testBit;rw [e,xA (by omega)] at this;rw [show aC (xQ f) v.testBit=rA (xQ f) v from rfl,hv2] at this;cases this
  ·rcases dec with ⟨d1,_⟩ | ⟨_,d2⟩
   ·exact d1
   ·have:=gz d2 v;rw [hsat v hv1,hv2] at this; cases this
end Bd
theorem gw (f:List Nd):zX prog 3 [.sl 6 (vW f)] (.bool true):=by
 have hT:=ik f 4;by_cases h30:f.length<=30
 case neg=>
  have hd:(30:Int)<(f.length:Int):=by omega
  refine yS func3 k3 λhf=>?_;refine sC xF hd ?_;refine .go (cq jy) ?_;refine xB ?_;exact .same
 have hd:¬ (30:Int)<(f.length:Int):=by omega
 by_cases hz:(xE f 4).2=0
 case neg=>
  have e:((xE f 4).2 != 0)= true:=by simpa using hz
  refine yS func3 k3 λhf=>?_;refine sC xF hd ?_;refine .go (cq hT) ?_;refine yK e ?_;refine .go (cq jy) ?_;refine xB ?_;exact .same
 obtain⟨hc,hf,_,h4,ht⟩:=cQ (n:=4) hz;have hv:=mF f;obtain⟨E,r,hD,hden,hrun⟩:=Wa (f:=f) (n:=4) (by omega) hc (pR.1 hf) (λp hp h3=>ai hv h4 p hp h3);have hTa:=l5 f;have hN:=OL f;have hC:=mh (qW f) 4;obtain⟨p1,p2,p3⟩:=Xe h30 hz hD hden;rw [show pD (qW f) 4=(yY (xE (qW f) 4).1 4 16,0) by unfold pD; rw [if_neg (by simpa using p2)]; rfl] at hC;rw [p1] at hTa;rw [hz] at hT;generalize (xE (qW f) 4).1=t' at hC p3;generalize hl:yY t' 4 16=l at hC p3;have hR:=TQ 4 l;generalize (xE f 4).1=t at hT p3
 rcases p3 with ⟨b1,b2,b3,b4,b5,b6⟩ | ⟨b1,b2,b3,b4⟩
 ·subst b2 b3 b4;have hV:=TR 4 l (tF 4 l).1;rw [b6] at hV;rw [b5] at hR;rw [b1] at hTa;have hu:(ui 65535#64==65535)= true:=rfl;refine yS func3 k3 λhf=>?_;refine sC xF hd ?_;refine .go (cq hT) ?_;refine xB ?_;refine .go (cq hTa) ?_;refine xB ?_;refine .go (cq hrun) ?_;simp only [simprocAttr,-ZA,↓zU,↓zD,zV,zT,zW,yA,xD];refine .go (cq hN) ?_;refine xB ?_;refine .go (cq hC) ?_;refine xB ?_;refine .go (cq hR) ?_;simp only [simprocAttr,-ZA,↓zU,↓zD,zV,zT,zW,hu,vJ,List.map_nil]
  (repeat refine sd ?_)
  refine .go (cq hV) ?_;refine xB ?_;refine .go (cq jy) ?_;refine xB ?_;exact .dv
 ·rw [b4] at hR;rw [b1] at hTa
  have hu:(ui t==65535)= false:=by have:(65535:Int)= ui 65535#64:=rfl;rw [this,Xt,beq_eq_false_iff_ne]; exact b2
  have hr1:((r:Int)== 1)= false:=by rw [beq_eq_false_iff_ne]; omega
  refine yS func3 k3 λhf=>?_;refine sC xF hd ?_;refine .go (cq hT) ?_;refine xB ?_;refine .go (cq hTa) ?_;refine xB ?_;refine .go (cq hrun) ?_;simp only [simprocAttr,-ZA,↓zU,↓zD,zV,zT,zW,yA,xD];refine .go (cq hN) ?_;refine xB ?_;refine .go (cq hC) ?_;refine xB ?_;refine .go (cq hR) ?_;simp only [simprocAttr,-ZA,↓zU,↓zD,zV,zT,zW,hu,hr1,xD]
  (repeat refine sd ?_)
  refine .go (cq jy) ?_;refine xB ?_;exact .dv
end Go.Pd
