/- Part KV. -/
import Derived.Test.YtndfaefmmcoapaaGreatGeXA
import Derived.Test.YtndfaefmmcoapaaGreatGeX9
import Derived.RangeFuncIn
import Derived.RangeFuncRecord
import Derived.RangeFuncSeq
import Derived.Test.YtndfaefmmcoapaaGreatGeCode
import Derived.RangeFuncBox
import Derived.RangeFuncLeaves
import Derived.WalkKit
import Derived.OwnWalkIn
import Derived.TacticsInMore
import Derived.LoopNIn
import Derived.LoopIn
set_option linter.unusedSectionVars false
set_option linter.unusedVariables false
set_option linter.unusedSimpArgs false
set_option linter.defProp false
set_option maxRecDepth 20000
set_option maxHeartbeats 1000000
open Go.Proofs.Tryz
open List renaming mem_map->γ,mem_singleton->δ,range'->ε,take_of_length_le->ζ,mem_cons->η,mem_range->θ,length_map->κ,eq_nil_of_length_eq_zero->μ,mem_append->ν,getElem?_append_left->ξ,ext_getElem->ο,map_append->π,map_map->τ,map_congr_left->υ,nodup_append->χ,mem_range'_1->ψ,foldl_append->ω,getElem_set->Aa
open Nat renaming le_refl->Ab,zero_le->Ac
open Array renaming getElem?_eq_some_iff->Ad
open And renaming intro->Ae
namespace Go.Pd
open Go Go.Proofs
open BitVec renaming isValue -> ZA
open Rs Fm Ru Te Kb
theorem oo {p:yT} {F:Nat} (h:p.F=(F:Int)) {a:fP} (he:mV p a=0):0<=a.fact/\a.fact<F/\vq p a.to 0=0:=by
 unfold mV at he
 split at he
 ·cases he
 ·rename_i q; exact⟨by omega,by omega,he⟩
theorem Uf {p:yT} {F:Nat} (h:zz p F) {s:BitVec 64} (hs:s >>> F=0#64) {f:List Nd} (hE:vq p f 0=0) :
  xA prog 54 [kd (vE p.xV.length s) (wS 1 0) p.xV.length F,.sl 6 (wN f)] (.wF [.int .u64 (ui (sZ 1 1 (bt (vE p.xV.length s) p.xV.length 1 (mZ f)))),.int .i64 0]):=by
 obtain⟨h1,h2,h3⟩:=sj hE;rw [h.fe] at h3;have h0:zX f=0:=NM ⟨zX f,nG f⟩ h2;have h2':(sW .andNot .i64 (zX f:Int) 15 != 0)= false:=by rw [h0]; decide
 have ok:=P8 (s:=s) h.hA.2 h.hF hs;have hh:=Yb ok (by show 1*1<=64; omega) h1 h2' h3
 have e1:rR (vE p.xV.length s) 1=wS 1 0:=by simp [rR,iS,wS,vE,List.range_succ]
 have e2:(vE p.xV.length s).length*1=1:=rfl;unfold zu at hh;rw [if_pos (iv ok h1 h2' h3),e1,e2] at hh;exact hh
theorem OX {p:yT} {F:Nat} (h:zz p F) (sts:List (List (BitVec 64))) {s:BitVec 64} (hs:s >>> F=0#64) {mv:List Int} (hl:mv.length<=1000) (hmv:∀ k ∈ mv,k<p.xO.length) :
  xA prog 183 [nD p sts,.int .u64 (ui s),.sl 1 (rows .i64 mv)] (.int .u64 (ui (j7 p s mv))):=by
 have hF:=h.hF;have hA:=h.hA;have hrep:=Z1 (n:=p.xV.length) ⟨by omega,by omega⟩;have hH:=λf hE=>Uf h hs (f:=f) hE;have hmod:=Z7 p.xV.length F s;rw [hmod] at hH;unfold nD bu at *;rw [h.fe];refine xI func183 Iz λhf=>?_;simp only [simprocAttr,-ZA,↓zU,↓zD,zV,zT,zW,xT,↓Xw]
 (refine iw mixed ?_; unfold c7; simp only [simprocAttr,-ZA,↓zU,↓zD,zV,zT,zW,↓V2,↓V3,↓LZ,↓LY,↓LX,↓La,↓Lb,↓Lc,↓rq,kQ,gR,xT])
 have hpp:D.xR [D.sl 1 [[D.sl 1 (us [1#64])]],D.int .i64 p.xV.length]=true:=by simp [D.xR,D.xF]
 have q1:D.xR [D.int IntKind.u64 (ui 1#64)]=true:=rfl;have q2:D.xR [D.sl 1 [[D.int IntKind.u64 (ui 1#64)]]]=true:=rfl;have q3:(0:Int)<=(F:Int):=by omega
 have q4:8*(F:Int)<=281474976710656:=by omega
 have hrep':∀ σ:St,xQ prog 224 [.sl 1 [[.sl 1 [[.int .u64 (ui 1#64)]]]],.int .i64 (p.xV.length:Int)] σ (.sl 1 (rr (List.replicate p.xV.length [1#64]))) σ:=λσ=>xQ.yP hrep hpp;repeat (first | (refine Ae ⟨q1,q2,aD.go (hrep' _) ?_⟩ ?_; focus ((simp only [simprocAttr,-ZA,↓zU,↓zD,zV,zT,zW,↓V2,↓V3,↓LZ,↓LY,↓LX,↓La,↓Lb,↓Lc,↓rq,kQ,gR,xT]))) | refine Ae q1 ?_ | refine Ae q2 ?_ | refine Ae q3 ?_ | refine Ae q4 ?_ | (refine aD.go (hrep' _) ?_; (simp only [simprocAttr,-ZA,↓zU,↓zD,zV,zT,zW,↓V2,↓V3,↓LZ,↓LY,↓LX,↓La,↓Lb,↓Lc,↓rq,kQ,gR,xT])))
 have hz:List.replicate F [D.int .u64 (ui 0#64)]=us (fU F (λi=>s >>> i &&& 1#64) (λ_=>0#64) 0):=by rw [gg,yo];congr 1;refine ο (by simp) λi h1 h2=>by simp
 refine Ae ?_ ?_
 ·rw [hz];exact qN [(0,1),(1,0)] [1,0] yC nK
 refine sP (λi:Nat=>[(35,.int .i64 i),(34,.int .i64 F),(7,.ref 1 3 0 0),(2,.sl 1 (rows .i64 mv)),(1,.int .u64 (ui s)),(0,.ptr [.int .i64 F,.sl 1 (us p.init),.sl 1 (us p.xV),.sl 1 (uK p.xO),.sl 1 (uJ p.code),.sl 1 (rr sts)])])
  (λi=>⟨2,[(1,⟨3,[[.int .i64 1,.yD 0 1 F,.sl 1 (rr (List.replicate p.xV.length [1#64]))]]⟩),(0,⟨1,us (fU F (λi=>s >>> i &&& 1#64) (λ_=>0#64) i)⟩)]⟩)
  (λi=>i<=F) (λi=>F-i) 0 (Ac _) ?_ ?_
 ·rw [hz];exact wO
 intro i hi;refine xN mixed ?_;have hml:=pk F (λi=>s >>> i &&& 1#64) (λ_=>0#64) i
 by_cases hil:i<F
 ·have hd:((i:Int)<(F:Int)):=by omega
  have hmg:=yF (fU F (λi=>s >>> i &&& 1#64) (λ_=>0#64) i) (show i<_ by rw [hml]; exact hil);rw [XC _ _ hil] at hmg;have hms:=XD F (λi=>s >>> i &&& 1#64) (λ_=>0#64) i;generalize fU F (λi=>s >>> i &&& 1#64) (λ_=>0#64) i=M at hmg hms hml;refine pH hd xT hml hmg iO hms ?_;refine⟨i+1,by omega,?_,by omega⟩;exact yL
 have hd:¬ ((i:Int)<(F:Int)):=by omega
 have hvl:(us ((List.range F).map λi=>s >>> i &&& 1#64)).length=F:=by simp [us]
 rw [XB _ _ _ (by omega:F<=i)];generalize hV:((List.range F).map λi=>s >>> i &&& 1#64)= V at *;refine xH hd ?_
 refine .go [(7,.ref 1 3 0 0),(2,.sl 1 (rows .i64 mv)),(1,.int .u64 (ui s)),(0,.ptr [.int .i64 F,.sl 1 (us p.init),.sl 1 (us p.xV),.sl 1 (uK p.xO),.sl 1 (uJ p.code),.sl 1 (rr sts)])]
  ⟨2,[(1,⟨3,[[.int .i64 1,.sl 1 (us V),.sl 1 (rr (List.replicate p.xV.length [1#64]))]]⟩)]⟩ ?_ ?_
 ·(refine rZ [] [1] ?_; simp only [wR,zQ,simprocAttr,-ZA,exists_eq_left',ne_eq,zR,yC,nK])
  refine⟨?_,by omega,(ζ (by omega)).symm,vT _⟩
  rintro q (rfl | h)
  ·exact Nat.one_ne_zero
  ·exact h.elim
 refine xH yU ?_
 refine xU (λk:Nat=>[(50,.int .i64 k),(49,.int .i64 mv.length),(48,.sl 1 (rows .i64 mv)),(9,.int .u64 (ui ((mv.take k).foldl (kC p s) s))),(7,.ref 1 3 0 0),(0,.ptr [.int .i64 F,.sl 1 (us p.init),.sl 1 (us p.xV),.sl 1 (uK p.xO),.sl 1 (uJ p.code),.sl 1 (rr sts)])])
  (λ_=>⟨2,[(1,⟨3,[[.int .i64 1,.sl 1 (us V),.sl 1 (rr (List.replicate p.xV.length [1#64]))]]⟩)]⟩)
  (λk=>k<=mv.length) (λk=>mv.length-k) 0 (Ac _) ?_ ?_
 ·(refine yR.same ?_; simp only [yS,Fr.get,simprocAttr,-ZA,zS,List.take_zero,List.foldl_nil])
  all_goals rfl
 intro k hk;refine xN mixed ?_;by_cases hkl:k<mv.length
 case neg=>
  have hd2:¬ ((k:Int)<(mv.length:Int)):=by omega
  rw [ζ (by omega)];refine xH hd2 ?_;exact .drop (by simp) (by simp [vw,j7])
 have hd2:((k:Int)<(mv.length:Int)):=by omega
 have hg:=wU .i64 mv hkl;have hlt:=hmv _ (xK (d:=0) hkl)
 have hfo:(mv.take (k+1)).foldl (kC p s) s=kC p s ((mv.take k).foldl (kC p s) s) (mv.getD k 0):=by rw [yE (d:=0) hkl,ω]; rfl
 generalize (mv.take k).foldl (kC p s) s=out0 at hfo ⊢;generalize mv.getD k 0=q at hg hlt hfo
 by_cases hq:q<0
 ·have hm0:kC p s out0 q=out0:=by unfold kC; rw [if_pos hq]
  rw [hm0] at hfo;refine uC hd2 yU hg hq ?_;refine⟨k+1,by omega,?_,by omega⟩
  (refine yR.same ?_; simp only [yS,Fr.get,simprocAttr,-ZA,zS,hfo])
  exact wrap_i64 (by omega)
 have hqn:q.toNat<p.xO.length:=by omega
 have hq0:0<=q:=by omega
 have hgm:=iE p.xO hqn;have hm0:kC p s out0 q=(p.xO.getD q.toNat []).foldl (fR p.xV.length s) out0:=by unfold kC; rw [if_neg hq]
 have hmem:=xK (d:=[]) hqn;generalize p.xO.getD q.toNat []=m at hgm hm0 hmem;have hml8:=YZ h hmem;rw [hm0] at hfo;refine mU hd2 yU hg hq yJ hlt hgm vS ?_
 refine xU (λj:Nat=>[(66,.int .i64 j),(65,.int .i64 m.length),(64,.sl 2 (k9 m)),(50,.int .i64 k),(49,.int .i64 mv.length),(48,.sl 1 (rows .i64 mv)),(9,.int .u64 (ui ((m.take j).foldl (fR p.xV.length s) out0))),(7,.ref 1 3 0 0),(0,.ptr [.int .i64 F,.sl 1 (us p.init),.sl 1 (us p.xV),.sl 1 (uK p.xO),.sl 1 (uJ p.code),.sl 1 (rr sts)])])
  (λ_=>⟨2,[(1,⟨3,[[.int .i64 1,.sl 1 (us V),.sl 1 (rr (List.replicate p.xV.length [1#64]))]]⟩)]⟩)
  (λj=>j<=m.length) (λj=>m.length-j) 0 (Ac _) ?_ ?_
 ·(refine yR.same ?_; simp only [yS,Fr.get,simprocAttr,-ZA,zS,List.take_zero,List.foldl_nil])
  all_goals rfl
 intro j hj;refine xN mixed ?_;by_cases hjl:j<m.length
 case neg=>
  have hd3:¬ ((j:Int)<(m.length:Int)):=by omega
  rw [ζ (by omega)];refine xH hd3 ?_;refine⟨k+1,by omega,?_,by omega⟩
  (refine yR.same ?_; simp only [yS,Fr.get,simprocAttr,-ZA,zS,hfo])
  exact wrap_i64 (by omega)
 have hd3:((j:Int)<(m.length:Int)):=by omega
 have hg2:=kV m hjl
 have hfo2:(m.take (j+1)).foldl (fR p.xV.length s) out0=fR p.xV.length s ((m.take j).foldl (fR p.xV.length s) out0) (m.getD j aN):=by rw [yE (d:=aN) hjl,ω]; rfl
 obtain⟨a1,a2,a3⟩:=oo h.fe (h.mv m hmem _ (xK (d:=aN) hjl));unfold fP.row at hg2;generalize (m.take j).foldl (fR p.xV.length s) out0=out1 at hfo2 ⊢;generalize m.getD j aN=a at hg2 hfo2 a1 a2 a3;have hh:=hH a.to a3;have hsol:=Rc p.xV.length a.to s a.fact.toNat;refine rF hd3 vS hg2 ?_;refine .go (cr hh) ?_;refine zI ?_;refine⟨j+1,by omega,?_,by omega⟩;rw [hfo2];unfold fR;rw [<- hsol];exact mD [] [1]
open Rs Fm Ru Te Kb
section
variable [tP]
theorem xQ.deep {P:Program} {g:FuncId} {args:List D} {σ:St} {d1 d:D} {n1:Nat} {objs1 objs':List (Nat × Ob)} (K:Nat->Prop) (hc:xQ P g args σ d1 ⟨n1,objs1⟩) (hd:Seen ⟨n1,objs1⟩ K d1 d)
  (hs:∀ k o,St.look objs' k=some o->K k/\St.look objs1 k=some o):xQ P g args σ d ⟨n1,objs'⟩:=by
 refine⟨hc.ord,λM0 w ι vals hS hl hv=>(hc.run M0 w ι vals hS hl hv).mono λe w' hh=>?_⟩;obtain⟨v,ι1,he,kept,mL,nx,stay,qK,hR⟩:=hh;refine⟨v,ι1,he,kept,mL.sub (objs':=objs') λk o hk=>(hs k o hk).2,nx,stay,λk o hk=>qK k o (hs k o hk).2,.pure ((hd M0 w' ι1 v mL hR).zN (λ_ _ _=>rfl) λb _ hb=>?_)⟩;exact hb.imp id λ⟨k,o,h1,h2⟩=>⟨k,o,(hs k o h1).1,(hs k o h1).2,h2⟩
theorem bO (c:Nat) {l:List (Nat × Ob)} {k:Nat} (h:k<c):St.look (yH c l) k=none:=by
 cases e:St.look (yH c l) k with
 | none=>rfl
 | some o=> obtain⟨k0,_,h1,_⟩:=gS c l k o e;omega
theorem xQ.yx {P:Program} {g:FuncId} {args args':List D} {d0 d:D} {nx m:Nat} {xZ ob:List (Nat × Ob)} (hc:xQ P g args' jR d0 ⟨m,xZ⟩) (hl:mW ⟨nx,ob⟩ (λ_=>False) args args') (hf:d0.fl=true) (ho:∀ p ∈ xZ,∀ e ∈ p.2.xW,D.Zn e=true)
  (hd:Seen ⟨nx+m,yH nx xZ++ob⟩ (λk=>k<nx) (d0.shift nx) d):xQ P g args ⟨nx,ob⟩ d ⟨nx+m,ob⟩:=
 xQ.aw hc.ord λhu=>xQ.deep (λk=>k<nx) (xQ.MF hc hl hf ho) hd λk o hk=>by have h1:=(hu k o hk).1;exact⟨h1,by rw [sX,bO nx h1]; exact hk⟩
end
namespace Kb
def vQ (ks:List Nat) (ess:List (List (List D))):List (List D):=List.zipWith (λk e=>[D.yD k 1 e.length]) ks ess
def Pm (ess:List (List (List D))):List (List D):=ess.map λe=>[.sl 1 e]
structure fQ (xZ : List (Nat × Ob)) (kO : Nat) (ks : List Nat) (ess : List (List (List D))) : Prop where
 out:St.look xZ kO=some ⟨1,vQ ks ess⟩
 len:ks.length=ess.length
 each:∀ i,i<ess.length->St.look xZ (ks.getD i 0)= some ⟨1,ess.getD i []⟩
theorem uY {ks:List Nat} {ess:List (List (List D))} (h:ks.length=ess.length):(vQ ks ess).length=ess.length:=by simp [vQ]; omega
theorem oT {ks:List Nat} {ess:List (List (List D))} (h:ks.length=ess.length) {i:Nat} (hi:i<ess.length):(vQ ks ess).getD i [] = [.yD (ks.getD i 0) 1 (ess.getD i []).length]:=by
 have h1:i<ks.length:=by omega
 simp [vQ,List.getD,hi,h1,List.getElem?_zipWith]
theorem iX {ks:List Nat} {ess:List (List (List D))} (h:ks.length=ess.length) (k:Nat) (e:List (List D)):vQ ks ess ++ [[.yD k 1 e.length]]=vQ (ks ++ [k]) (ess ++ [e]):=by unfold vQ;rw [List.zipWith_append h]; rfl
theorem XN {ks:List Nat} {ess:List (List (List D))} (h:ks.length=ess.length) {i:Nat} (hi:i<ess.length) (k:Nat) (e:List (List D)):(vQ ks ess).set i [.yD k 1 e.length]=vQ (ks.set i k) (ess.set i e):=by refine ο (by simp [vQ]) λj h1 h2=>?_;simp only [vQ,Aa,List.getElem_zipWith];split <;> rfl
theorem Oc (ess:List (List (List D))):(Pm ess).length=ess.length:=by simp [Pm]
theorem ZO (sts:List (List (BitVec 64))):Pm (sts.map us)= rr sts:=by simp only [Pm,rr,τ];rfl
theorem ZN (mv:List (List Int)):Pm (mv.map (rows .i64))= rl mv:=by simp only [Pm,rl,τ];rfl
theorem uZ {l:List Nat} {i:Nat} (h:i<l.length):l.getD i 0 ∈ l:=by simp [List.getD,h]
end Kb
theorem fQ.seen {nx:Nat} {xZ:List (Nat × Ob)} {K:Nat->Prop} {kO n:Nat} {ks:List Nat} {ess:List (List (List D))} (h:fQ xZ kO ks ess) (hn:n=ess.length) (hK:¬ K kO) (hKs:∀ k ∈ ks,¬ K k) (hp:∀ e ∈ ess,∀ r ∈ e,r.length=1/\D.xR r=true) :
  Seen ⟨nx,xZ⟩ K (.yD kO 1 n) (.sl 1 (Pm ess)):=by
 refine Seen.yD (ob:=⟨1,vQ ks ess⟩) h.out hK (by decide) rfl (by show n<=(vQ ks ess).length; rw [uY h.len]; omega) (by rw [Oc]; omega) (λe he=>?_) λi hi j hj=>?_
 ·simp only [Pm,γ] at he;obtain⟨x,_,rfl⟩:=he;rfl
 ·obtain rfl:j=0:=by omega
  have hi':i<ess.length:=by omega
  show Seen _ _ (((vQ ks ess).getD i []).getD 0 .top) _;rw [oT h.len hi'];have e2:(Pm ess).getD i [] = [.sl 1 (ess.getD i [])]:=by simp [Pm,List.getD,hi']
  rw [e2];have hm:=xK (d:=[]) hi';exact Seen.rows (h.each i hi') (hKs _ (uZ (by rw [h.len]; exact hi'))) (by decide) rfl (λr hr=>(hp _ hm r hr).1) λr hr=>(hp _ hm r hr).2
theorem fQ.shift {xZ r:List (Nat × Ob)} {kO c:Nat} {ks:List Nat} {ess:List (List (List D))} (h:fQ xZ kO ks ess) (hp:∀ e ∈ ess,∀ r ∈ e,D.xR r=true):fQ (yH c xZ++r) (c+kO) (ks.map (c + ·)) ess where
 out:=by rw [sX,pM c h.out];show some (Ob.shift c _)= _;unfold Ob.shift vQ;simp only;congr 2;refine ο (by simp) λi h1 h2=>?_;simp [D.vN,D.shift]
 len:=by rw [κ]; exact h.len
 each:=λi hi=>by
  have hk:(ks.map (c + ·)).getD i 0=c+ks.getD i 0:=by simp [List.getD,show i<ks.length by rw [h.len]; exact hi]
  rw [hk,sX,pM c (h.each i hi)];show some (Ob.shift c _)= _;unfold Ob.shift;rw [nF c λe he=>hp _ (xK hi) e he]
namespace Kb
def lE (ess:List (List (List D))):List (Nat × Ob):=(0,⟨1,vQ (ε 1 ess.length) ess⟩) :: (List.range ess.length).map λi=>(1+i,⟨1,ess.getD i []⟩)
theorem ft {f:Nat->Ob}:∀ {l:List Nat} {i:Nat},i ∈ l->St.look (l.map λi=>(1+i,f i)) (1+i)= some (f i)
 | [],i,h=>by cases h
 | j :: r,i,h=>by
  show St.look ((1+j,f j) :: _) _=_;rw [xX]
  by_cases e:i=j
  ·subst e; rw [if_pos rfl]
  ·rw [if_neg (by omega)];exact ft ((η.1 h).resolve_left e)
theorem lO (ess:List (List (List D))):fQ (lE ess) 0 (ε 1 ess.length) ess where
 out:=by unfold lE; rw [xX,if_pos rfl]
 len:=by simp
 each:=λi hi=>by
  have e:(ε 1 ess.length).getD i 0=1+i:=by simp [List.getD,hi]
  unfold lE;rw [e,xX,if_neg (by omega)];exact ft (θ.2 hi)
theorem v8 {ess:List (List (List D))} (hp:∀ e ∈ ess,∀ r ∈ e,D.Zn r=true):∀ p ∈ lE ess,∀ e ∈ p.2.xW,D.Zn e=true:=by
 intro p hm e he;unfold lE at hm
 rcases η.1 hm with rfl | hm
 ·simp only [vQ] at he;obtain⟨i,hi,rfl⟩:=List.getElem_of_mem he;simp [D.Zn,D.fl]
 ·simp only [γ,θ] at hm;obtain⟨i,hi,rfl⟩:=hm;exact hp _ (xK hi) e he
end Kb
theorem az {σ σ':St} {ρ:Nat->Nat}:∀ {xs bs:List (List D)},xs.length=bs.length->(∀ i,i<bs.length->(xs.getD i []).length=(bs.getD i []).length/\vC σ σ' ρ (xs.getD i []) (bs.getD i []))->TK σ σ' ρ xs bs
 | [],[],_,_=>.nil
 | [],_ :: _,h,_=>by cases h
 | _ :: _,[],h,_=>by cases h
 | a :: xs,b :: bs,h,hh=>by have h0:=hh 0 (by simp);refine .cons h0.1 h0.2 (az (by simpa using h) λi hi=>?_);simpa using hh (i+1) (by simp; omega)
theorem xp {ks:List Nat} (hd:ks.Nodup) {i j:Nat} (hi:i<ks.length) (hj:j<ks.length) (e:ks.getD i 0=ks.getD j 0):i=j:=by
 simp only [List.getD,hi,hj,List.getElem?_eq_getElem,Option.getD_some] at e;have hp:=List.pairwise_iff_getElem.1 hd
 rcases Nat.lt_trichotomy i j with h | h | h
 ·exact absurd e (hp i j hi hj h)
 ·exact h
 ·exact absurd e.symm (hp j i hj hi h)
theorem sH.jT {nx n:Nat} {xZ:List (Nat × Ob)} {kO:Nat} {ks:List Nat} {ess:List (List (List D))} (h:fQ xZ kO ks ess) (hn:n=ess.length) (hd:ks.Nodup) (hk:kO ∉ ks) (hp:∀ e ∈ ess,∀ r ∈ e,D.xR r=true) :
  sH 0 ⟨nx,xZ⟩ (.yD kO 1 n) ⟨1+ess.length,lE ess⟩ (.yD 0 1 n):=by
 subst hn;have hlen:=h.len;have hr:(ε 1 ess.length).length=ess.length:=by simp
 have key:∀ q ∈ lE ess,q.1=0\/∃ i,i<ess.length/\q.1=1+i:=λq hq=>by
  unfold lE at hq
  rcases η.1 hq with rfl | hq
  ·exact .inl rfl
  ·simp only [γ,θ] at hq;obtain⟨i,hi,rfl⟩:=hq;exact .inr ⟨i,hi,rfl⟩
 refine .inr ⟨λk=>if k=0 then kO else ks.getD (k-1) 0,Ac _,λk hk=>absurd hk (Nat.not_lt_zero _),?_,?_,?_⟩
 ·simp only [vw,↓reduceIte,and_true];omega
 ·intro q hq;unfold lE at hq
  rcases η.1 hq with rfl | hq
  ·refine⟨by show 0<1+ess.length; omega,_,h.out,rfl,az (by rw [uY hlen,uY hr]) λi hi=>?_⟩;rw [uY hr] at hi;rw [oT hlen hi,oT hr hi];refine⟨rfl,?_⟩;have e:(ε 1 ess.length).getD i 0=1+i:=by simp [List.getD,hi]
   simp only [vC,vw,e,and_true];rw [if_neg (by omega),show 1+i-1=i by omega];exact⟨by omega,rfl⟩
  ·simp only [γ,θ] at hq;obtain⟨i,hi,rfl⟩:=hq;refine⟨by show 1+i<1+ess.length; omega,⟨1,ess.getD i []⟩,?_,rfl,.same λr hr=>hp _ (xK hi) r hr⟩;show St.look xZ (if 1+i=0 then kO else ks.getD (1+i-1) 0)= _;rw [if_neg (by omega),show 1+i-1=i by omega];exact h.each i hi
 ·intro a ha b hb e;simp only at e
  rcases key a ha with h1 | ⟨i,hi,h1⟩ <;> rcases key b hb with h2 | ⟨j,hj,h2⟩ <;> rw [h1,h2] at e ⊢
  ·rw [if_pos rfl,if_neg (by omega)] at e;exact absurd (e ▸ uZ (by omega)) hk
  ·rw [if_pos rfl,if_neg (by omega)] at e;exact absurd (e ▸ uZ (by omega)) hk
  ·rw [if_neg (by omega),if_neg (by omega),show 1+i-1=i by omega,show 1+j-1=j by omega] at e;rw [xp hd (by omega) (by omega) e]
end Go.Pd

/- Part XR. -/
namespace Go.Pd
open Go
section
variable [tP]
def NI (P:Program) (gi:FuncId):Prop:=oR P gi/\∀ (l Bs o b off n cap:Nat) (sa:Option Addr) (va vb:Nat->Value) (J:Nat->World->Prop),n<=maxLen->(0<n->sa=some ⟨b,off,none⟩) ->
 (∀ k W,J k W->W.cell? ⟨Bs,o,none⟩= some (.slice sa n cap)/\ ∀ i,i<n->W.cell? ⟨b,off+i*2,none⟩= some (va i)/\ W.cell? ⟨b,off+i*2+1,none⟩= some (vb i))->(∀ k W,J k W->J k W.drew) ->
 (∀ k W,k<n->J k W->YieldAt Fence.wide 0 P l #[.int .i64 ((n-1-k:Nat):Int),.agg #[va (n-1-k),vb (n-1-k)]] W λe W'=>e = .returned (.bool true)/\ J (k+1) W') ->
 ∀ W,J 0 W->CallsIn Fence.wide 0 P gi #[.func (.yield l) #[] #[],.pointer (some ⟨Bs,o,none⟩)] W λe W'=>(∃ v,e = .returned v)/\ J n W'
variable {C : Cx} {E : Env} {a : Act} {w : World} {f : Fr} {σ : St} {ι : Nat -> Nat}
theorem yI.lay (G:yI C E a w f σ ι) (o:Obj):yI C E a (w.alloc o) f σ ι:=by have hk:=Kept.alloc w o λ_=>False;exact⟨G.size,G.defers.zN rfl hk.size (λD hD=>hk.mark id hD),G.nx,G.kept.trans hk (λ_ _ h=>h) (λ_ _ h=>h.elim),G.mL.ext hk,G.oJ,G.qK,G.stay,λt=>(G.fr t).zN (λb hb _=>hk.block b hb id) (λ_ _ h=>h) hk.shape (λ_ _=>rfl) (Ab _)⟩
abbrev e8 (E:Env) (w:World) (σ:St) (ι:Nat->Nat) (o:Obj):Env:=⟨w.alloc o,λb=>E.M0 b\/b=w.heap.size,λb=>Own ι σ b\/b=w.heap.size,ι,E.B⟩
theorem yI.SJ (G:yI C E a w f σ ι) (o:Obj):yI { C with n0:=σ.nx } (e8 E w σ ι o) a (w.alloc o) f σ ι:=by
 have hk:=Kept.alloc w o λ_=>False;have hS:=G.mL.Kx o;refine⟨G.size,G.defers.zN rfl hk.size (λD hD=>hk.mark id hD),Ab _,Kept.refl _ _,hS,hS.oJ,λk o hk=>.inr (.inl ⟨k,o,hk,rfl⟩),λ_ _=>rfl,λt=>(G.fr t).zN (λb hb _=>hk.block b hb id) (λb hb hx=>?_) hk.shape (λ_ _=>rfl) (Ab _)⟩
 rcases hx with (hx | hx) | hx
 ·exact .inl hx
 ·omega
 ·exact .inr hx
theorem yI.end_ {a0:Act} {w0:World} {f0:Fr} {σ0:St} {ι0:Nat->Nat} {q0:Obj} (G0:yI C E a0 w0 f0 σ0 ι0) (G:yI { C with n0:=σ0.nx } (e8 E w0 σ0 ι0 q0) a w f σ ι):yI C E a w f σ ι:=by
 have hsz:E.w0.heap.size<=w0.heap.size:=G0.kept.size
 have hown:∀ b,Own ι0 σ0 b->E.w0.heap.size<=b\/E.K0 b:=by rintro b ⟨k,o,hk,rfl⟩;exact G0.qK k o hk
 have h1:Kept w0 (w0.alloc q0) λ_=>False:=Kept.alloc w0 q0 _;have hs1:(w0.alloc q0).heap.size=w0.heap.size+1:=by show (w0.heap.push q0).size=_; simp
 have hnx:σ0.nx<=σ.nx:=G.nx;have hnx0:=G0.nx
 refine⟨G.size,G.defers,by omega,?_,G.mL.less λb hb=>.inl hb,G0.oJ,λk o hk=>?_,λk hk=>?_,λt=>(G.fr t).zN (λ_ _ _=>rfl) (λb _ hb=>hb.imp .inl id) (λb cur e h=>⟨cur,h,rfl⟩) (λ_ _=>rfl) (Ab _)⟩
 ·refine G0.kept.trans (h1.trans G.kept (K'':=λb=>Own ι0 σ0 b\/b=w0.heap.size) (λ_ _ h=>h.elim) λ_ _ h=>h) (λ_ _ h=>h) λb hb hx=>?_
  rcases hx with hx | hx
  ·rcases hown b hx with h | h
   ·omega
   ·exact h
  ·omega
 ·rcases G.qK k o hk with h | h | h
  ·have h':(w0.alloc q0).heap.size<=ι k:=h;left; omega
  ·exact hown _ h
  ·left; rw [h]; exact hsz
 ·have:=G.stay k (show k<σ0.nx by omega);exact this.trans (G0.stay k hk)
theorem yI.back {a2:Act} {w2:World} {f2:Fr} {σ2:St} {ι2:Nat->Nat} {q:Obj} {rd:Option Nat} (hq:∀ x,q≠Obj.deferred x) (G1:yI C E a w f σ ι) (G2:yI { C with n0:=σ.nx,rd:=rd } (e8 E w σ ι q) a2 w2 f2 σ2 ι2):yI { C with n0:=σ.nx } (e8 E w σ ι q) a w2 f σ2 ι2:=by
 have G:=G1.SJ q;have hl:(w.alloc q).heap[w.heap.size]?=some q:=World.alloc_heap_new w q
 refine⟨G.size,G.defers.zN rfl G2.kept.size (λD hD=>G2.kept.mark (λh=>?_) hD),G2.nx,G2.kept,G2.mL,G2.oJ,G2.qK,G2.stay,λt=>?_⟩
 ·rcases h with h | h
  ·exact G.mL.xt hD h
  ·rw [h,hl] at hD;exact hq _ (Option.some.inj hD)
 ·refine(G.fr t).zN (λb hb hM=>G2.kept.block b hb λh=>hM (h.elim (λh=>.inr h) λh=>.inl (.inr h))) (λb hb hM=>?_) G2.kept.shape (λk hk=>G2.stay k hk) G2.nx
  rcases hM with hM | ⟨k,o,hk,rfl⟩
  ·exact .inl hM
  ·rcases G2.qK k o hk with h | h | h
   ·have:(w.alloc q).heap.size<=ι2 k:=h;omega
   ·exact .inr h
   ·exact .inl (.inr h)
theorem yI.L8 {rd:Option Nat} (G:yI C E a w f σ ι):yI { C with rd:=rd } E a w f σ ι:=⟨G.size,G.defers,G.nx,G.kept,G.mL,G.oJ,G.qK,G.stay,G.fr⟩
theorem yI.KK (G:yI C E a w f σ ι):yI C E a w.drew f σ ι:=by have hk:Kept w w.drew λ_=>False:=(Kept.refl _ _).drew;exact⟨G.size,G.defers.zN rfl (Ab _) λD hD=>hD,G.nx,G.kept.drew,G.mL.ext hk,G.oJ,G.qK,G.stay,G.fr.zN (λb hb _=>rfl) (λ_ _ h=>h) hk.shape (λ_ _=>rfl) (Ab _)⟩
theorem yI.bare (G:yI C E a w f σ ι):yI C E { tmps:=a.tmps,defers:=[] } w f σ ι:=⟨G.size,.none rfl G.defers.1,G.nx,G.kept,G.mL,G.oJ,G.qK,G.stay,G.fr⟩
theorem yI.T4 {b0:Nat} {w':World} (G:yI C E a w f σ ι) (hk:Kept w w' λb=>b=b0) (hM:E.M0 b0) (hK:E.K0 b0) (hd:∀ x,w.heap[b0]?≠some (Obj.deferred x)):yI C E a w' f σ ι:=G.tick hk hM hK hd
theorem wI.Vf {M0:Nat->Prop} (hS:wI M0 w σ ι) {D:Nat} {x:Loop} (h:w.heap[D]?=some (Obj.loop x)):¬ Own ι σ D:=by
 rintro ⟨k,o,hk,rfl⟩
 rcases(hS.holds k o hk).2 with ⟨_,cur,e,h1,_⟩ | ⟨_,es,h1,_⟩
 ·rw [h] at h1; cases h1
 ·rw [h] at h1; cases h1
theorem Qk {P:Program} {N:Nat} {own:List Nat} {code:Code} {g:tR} {ps:List Nat} {x y:DC} (h:sJ P N own code=some (.uc g ps x y)):∃ g0 ps0 a c,code = .rangeFunc g0 ps0 a c/\yV N g0=some g/\ps0.toList=ps/\sJ P N own a=some x/\sJ P N own c=some y:=by
 cases code with
 | region id ops draw=>rcases tT h with ⟨_,_,e⟩ | ⟨_,⟨_,_,_,_,e⟩ | ⟨_,_,_,_,e⟩ | ⟨_,_,_,_,e⟩⟩ | ⟨_,_,⟨_,_,_,e⟩,_⟩ <;> cases e
 | rangeFunc g0 ps0 a c=> simp only [sJ,zO,DC.uc.injEq] at h;obtain⟨g',hg,dx,hx,dy,hy,rfl,rfl,rfl,rfl⟩:=h;exact⟨g0,ps0,a,c,rfl,hg,rfl,hx,hy⟩
 | seq a b=> simp only [sJ,zO] at h;obtain⟨dx,hx,dy,hy,h⟩:=h;rcases vF dx dy with e | ⟨_,_,_,_,_,_,_,_,_,_,_,_,e,_⟩ <;> rw [e] at h <;> cases h
 | _=>simp [sJ,Option.bind_eq_some_iff] at h
theorem Rw (hrd:C.rd=none) {g:tR} {p0 p1:Nat} {dx dy:DC} {Q:Exit->Fr->St->Prop} {gi:FuncId} {xW:List (List D)} {els0:D} (hB:NI C.P gi) (hg:pI f g = .fn gi [.ptr [els0]]) (he:els0 = .sl 2 xW\/(els0 = .xL/\xW = [])) (hp:p0<C.N/\p1<C.N)
  (J:Nat->St->Prop) (h0:J 0 σ)
  (round:∀ l k σk,k<xW.length->J k σk->wpS { C with n0:=σ.nx,rd:=some l } dx ((f.put (some p0) (.int .i64 ((xW.length-1-k:Nat):Int))).put (some p1) (.agg (xW.getD (xW.length-1-k) []))) σk
   (jM (λf1 σ1=>wpS { C with n0:=σ.nx,rd:=some l } dy f1 σ1 λe f2 σ2=>e = .normal/\∃ f3 σ3,yR { C with n0:=σ.nx,rd:=some l } f2 σ2 f3 σ3/\J (k+1) σ3) λ_ _ _=>False))
  (done:∀ σ',J xW.length σ'->Q .normal f σ'):wpS C (.uc g [p0,p1] dx dy) f σ Q:=by
 intro code hc E a w ⟨ι,G⟩;obtain⟨g0,ps0,x,y,rfl,hg0,hps,hx,hy⟩:=Qk hc;obtain rfl:ps0 = #[p0,p1]:=by rw [<- hps]
 obtain⟨vs,hv,hv1,hv2⟩:=(hg ▸ mG G.fr hg0).bB;have hv1':vs.size=1:=hv1;have hvp:=hv2 0 (by show 0<1; omega);obtain⟨Bs,o,vs0,hvB,_,hMB,hcB,hrB⟩:=R.oY (cs:=[els0]) hvp
 have hlb:vs = #[.pointer (some ⟨Bs,o,none⟩)]:=by
  refine Array.ext (by rw [hv1']; rfl) λi h1 h2=>?_;have hi0:i=0:=by rw [hv1'] at h1; omega
  subst hi0;have:vs.getD 0 undef=vs[0]:=by simp [Array.getD,h1]
  rw [this] at hvB;rw [hvB]; rfl
 have hcB0:=hcB 0 (by show 0<1; omega);have hrB0:=hrB 0 (by show 0<1; omega);generalize vs0 0=sv at hcB0 hrB0
 obtain⟨sa,b,off,cap,va,vb,hsv,hnm,hsa,hcel⟩:∃ (sa:Option Addr) (b off cap:Nat) (va vb:Nat->Value),sv = .slice sa xW.length cap/\xW.length<=maxLen/\(0<xW.length->sa=some ⟨b,off,none⟩/\ ¬ zY E.M0 ι σ b)/\
   ∀ i,i<xW.length->w.cell? ⟨b,off+i*2,none⟩= some (va i)/\ w.cell? ⟨b,off+i*2+1,none⟩= some (vb i)/\ (xW.getD i []).length=2/\RP (zY E.M0 ι σ) w (va i) ((xW.getD i []).getD 0 .top)/\ RP (zY E.M0 ι σ) w (vb i) ((xW.getD i []).getD 1 .top):=by
  rcases he with rfl | ⟨rfl,rfl⟩
  ·rcases(R.pure (ι:=ι) (n:=σ.nx) hrB0).bC with ⟨ad,cap,e1,rfl,hcap⟩ | ⟨b,off,cap,vs,e1,g1,g2,g3,g4,g5,g6,g7⟩
   ·exact⟨ad,0,0,cap,λ_=>undef,λ_=>undef,e1,by simp,λh=>absurd h (by simp),λi hi=>absurd hi (by simp)⟩
   ·refine⟨_,b,off,cap,λi=>vs i 0,λi=>vs i 1,e1,by omega,λ_=>⟨rfl,g2⟩,λi hi=>?_⟩;have hm:xW.getD i [] ∈ xW:=by simp [List.getD,hi]
    have q0:=g6 i hi 0 (by omega);rw [Nat.add_zero] at q0;exact⟨q0,g6 i hi 1 (by omega),g5 _ hm,g7 i hi 0 (by omega),g7 i hi 1 (by omega)⟩
  ·have:=(R.pure (ι:=ι) (n:=σ.nx) hrB0).tD;exact⟨none,0,0,0,λ_=>undef,λ_=>undef,this,by simp,λh=>absurd h (by simp),λi hi=>absurd hi (by simp)⟩
 subst hsv;have hF:C.F=Fence.wide:=by unfold Cx.F; rw [hrd]; rfl
 rw [hF];obtain⟨w',hw'⟩:∃ w',w'=w.alloc (.deferred (some [])):=⟨_,rfl⟩;have G':yI C E a w' f σ ι:=by rw [hw']; exact G.lay _
 have hws:w'.heap.size=w.heap.size+1:=by rw [hw']; show (w.heap.push _).size=_; simp
 have hkw:Kept w w' λ_=>False:=by rw [hw']; exact Kept.alloc w _ _
 have hD':w'.heap[w.heap.size]?=some (Obj.deferred (some [])):=by rw [hw']; exact World.alloc_heap_new w _
 refine wpIn_rangeFunc λfn _=>?_;obtain⟨rec,hrec⟩:∃ rec:LoopState->Option Code->Loop,rec=λst pe=>{ state:=st,pending:=pe,fn,tmps:=a.tmps,params:=#[p0,p1],assign:=x,body:=y,defers:=w.heap.size }:=⟨_,rfl⟩;obtain⟨W1,hW1⟩:∃ W1,W1=w'.alloc (.loop (rec .ready none)):=⟨_,rfl⟩;have hk1:Kept w' W1 λ_=>False:=by rw [hW1]; exact Kept.alloc w' _ _
 have hl1:W1.heap[w.heap.size+1]?=some (Obj.loop (rec .ready none)):=by rw [hW1,<- hws]; exact World.alloc_heap_new w' _
 have hD1:W1.heap[w.heap.size]?=some (Obj.deferred (some [])):=hk1.mark id hD';have hs1:W1.heap.size=w.heap.size+2:=by rw [hW1]; show (w'.heap.push _).size=_; simp; omega
 refine⟨w.heap.size+1,[{ target:=.collected w.heap.size,args:=#[] }],W1,{ target:=.fn (.func gi) vs,args:=#[.func (.yield (w.heap.size+1)) #[] #[]] },W1,gi,#[.func (.yield (w.heap.size+1)) #[] #[]]++vs,W1,?_,?_,λ_ _=>trivial,?_,λh=>absurd (show false=true from h) (by decide),?_⟩
 ·have:=run_enterLoop_outer (P:=C.P) (w:=w) fn a.tmps #[p0,p1] x y;rw [hW1,hw',hrec];exact this
 ·simp only [resolve,hv];simp [go_sem]
 ·have:=mN hB.1 (#[.func (.yield (w.heap.size+1)) #[] #[]]++vs) W1;simpa [invoke,go_sem] using this
 rw [hlb]
 have hblk:∀ {W:World} {σk:St} {ιk:Nat->Nat},yI { C with n0:=σ.nx } (e8 E w' σ ι (.loop (rec .ready none))) a W f σk ιk->∀ b',b'<w.heap.size->¬ zY E.M0 ι σ b'->W.heap[b']?=w.heap[b']?:=λ{W σk ιk} Gk b' hb hM=>by
  have e1:=Gk.kept.block b' (by show b'<(w'.alloc _).heap.size; rw [<- hW1]; omega) λh=>h.elim (λh=>hM (.inr h)) λh=>by omega
  have e2:(w'.alloc (.loop (rec .ready none))).heap[b']?=w'.heap[b']?:=by rw [<- hW1]; exact hk1.block b' (by omega) id
  exact e1.trans (e2.trans (hkw.block b' hb id))
 refine(hB.2 (w.heap.size+1) Bs o b off xW.length cap sa va vb (λk W=>∃ σk ιk,J k σk/\yI { C with n0:=σ.nx } (e8 E w' σ ι (.loop (rec .ready none))) a W f σk ιk/\W.heap[w.heap.size+1]?=some (Obj.loop (rec .ready none))/\ W.heap[w.heap.size]?=some (Obj.deferred (some []))) hnm (λh=>(hsa h).1) ?_ ?_ ?_ W1 ⟨σ,ι,h0,by rw [hW1]; exact G'.SJ _,hl1,hD1⟩).mono ?_
 ·rintro k W ⟨σk,ιk,_,Gk,_,_⟩;have hB1:=hblk Gk Bs (si hcB0) hMB;refine⟨by rw [World.cell?_of_block (w:=w) hB1]; rw [Nat.add_zero] at hcB0; exact hcB0,λi hi=>?_⟩;obtain⟨q1,q2,_⟩:=hcel i hi;have hb1:=hblk Gk b (si q1) (hsa (by omega)).2;exact⟨by rw [World.cell?_of_block (w:=w) hb1]; exact q1,by rw [World.cell?_of_block (w:=w) hb1]; exact q2⟩
 ·rintro k W ⟨σk,ιk,hJ,Gk,hl,hD⟩;exact⟨σk,ιk,hJ,Gk.KK,hl,hD⟩
 ·rintro k W hk ⟨σk,ιk,hJ,Gk,hl,hD⟩;obtain⟨_,_,q3,q4,q5⟩:=hcel (xW.length-1-k) (by omega);have hy0:=run_yield (P:=C.P) (args:=#[.int .i64 ((xW.length-1-k:Nat):Int),.agg #[va (xW.length-1-k),vb (xW.length-1-k)]]) hl (by rw [hrec]; rfl);rw [hrec] at hy0;refine⟨fn,_,x,y,hy0,roundIn_of_wpIn trivial ?_⟩
  have hMk:∀ b',b'<w.heap.size->zY (e8 E w' σ ι (.loop (rec .ready none))).M0 ιk σk b'->zY E.M0 ι σ b':=λb' hb' hM=>by
   rcases hM with (hM | hM) | ⟨k',o',hk',rfl⟩
   ·exact .inl hM
   ·have:b'=w'.heap.size:=hM;omega
   ·rcases Gk.qK k' o' hk' with h | h | h
    ·have:W1.heap.size<=ιk k':=by rw [hW1]; exact h
     omega
    ·exact .inr h
    ·have:ιk k'=w'.heap.size:=h;omega
  have hRk:∀ {v:Value} {d:D},RP (zY E.M0 ι σ) w v d->RP (zY (e8 E w' σ ι (.loop (rec .ready none))).M0 ιk σk) W v d:=λh=>h.zN (hblk Gk) hMk;have hmin:IntKind.i64.min = -9223372036854775808:=rfl;have hmax:IntKind.i64.max=9223372036854775807:=rfl;have hml:xW.length<=9223372036854775807:=by simp only [maxLen] at hnm; omega
  have G1:=((Gk.open_.L8 (rd:=some (w.heap.size+1))).bare.set (dst:=some p0) (v:=.int .i64 ((xW.length-1-k:Nat):Int)) (d:=.int .i64 ((xW.length-1-k:Nat):Int)) (.pure (.int (by omega))) (λt ht=>by cases ht; exact hp.1)).set (dst:=some p1)
   (v:=.agg #[va (xW.length-1-k),vb (xW.length-1-k)]) (d:=.agg (xW.getD (xW.length-1-k) [])) (.pure (.agg (by rw [q3]; rfl) λj hj=>by
    rw [q3] at hj;have:j=0\/j=1:=by omega
    rcases this with rfl | rfl
    ·exact hRk q4
    ·exact hRk q5)) (λt ht=>by cases ht; exact hp.2)
  have hr:=round (w.heap.size+1) k σk hk hJ x hx _ _ _ ⟨ιk,G1⟩
  have hact:({ tmps:=(#[p0,p1].zip #[Value.int .i64 ((xW.length-1-k:Nat):Int),Value.agg #[va (xW.length-1-k),vb (xW.length-1-k)]]).foldl (λtmps (t,a)=>tmps.setIfInBounds t a) a.tmps,defers:=[] }:Act)=
    (({ tmps:=a.tmps,defers:=[] }:Act).put (some p0) (.int .i64 ((xW.length-1-k:Nat):Int))).put (some p1) (.agg #[va (xW.length-1-k),vb (xW.length-1-k)]):=by simp [Act.put]
  rw [<- hact] at hr;refine wpIn_mono hr λe a1 w1 hq=>?_;obtain⟨f1,σ1,⟨ι1,G1'⟩,hq⟩:=hq
  cases e with
  | normal=>
   have hl1':=G1'.kept.mark (Gk.mL.Vf hl) hl;have hD1':=G1'.kept.mark (Gk.mL.xt hD) hD;have Gc:=(Gk.L8 (rd:=some (w.heap.size+1))).close_ G1';have hlt1:=(Ad.1 hl1').1;obtain⟨r6,hr6⟩:∃ r6,r6 = { rec .ready none with state:=.busy }:=⟨_,rfl⟩;have hbr:=run_beginRound (P:=C.P) hl1' (by rw [hrec]);rw [<- hr6] at hbr;have G2:=Gc.T4 (w':=w1.putObj (w.heap.size+1) (.loop r6)) (kR hl1' λ_ _ e=>by cases e) (.inr hws.symm) (.inr hws.symm) λx e=>by rw [hl1'] at e; cases e
   have hl2:(w1.putObj (w.heap.size+1) (.loop r6)).heap[w.heap.size+1]?=some (Obj.loop r6):=World.putObj_heap_same hlt1;have hD2:(w1.putObj (w.heap.size+1) (.loop r6)).heap[w.heap.size]?=some (Obj.deferred (some [])):=(World.putObj_heap_other (by omega)).trans hD1';refine⟨_,hbr,?_⟩;have hr2:=hq y hy _ _ _ ⟨ι1,G2.open_⟩;refine wpIn_mono hr2 λe a2 w2 hq2=>?_;obtain⟨f2,σ2,⟨ι2,G3⟩,rfl,f3,σ3,hwk,hJ3⟩:=hq2;have hl3:=G3.kept.mark (G2.mL.Vf hl2) hl2;have hD3:=G3.kept.mark (G2.mL.xt hD2) hD2;obtain⟨ι3,G5⟩:=hwk _ a2 w2 ⟨ι2,G2.close_ G3⟩;have hend:=run_endRound (P:=C.P) none hl3;have hr7:({ r6 with state:=if (none:Option Code).isNone then .ready else .done,pending:=none }:Loop)= rec .ready none:=by rw [hr6,hrec]; rfl
   rw [hr7] at hend;have hlt2:=(Ad.1 hl3).1;have G6:=G5.T4 (w':=w2.putObj (w.heap.size+1) (.loop (rec .ready none))) (kR hl3 λ_ _ e=>by cases e) (.inr hws.symm) (.inr hws.symm) λx e=>by rw [hl3] at e; cases e
   exact⟨_,_,hend,rfl,σ3,ι3,hJ3,G'.back (rd:=some (w.heap.size+1)) (λ_ e=>by cases e) G6,World.putObj_heap_same hlt2,(World.putObj_heap_other (by omega)).trans hD3⟩
  | exit id=>exact hq.elim
  | goto t=>exact hq.elim
  | ret=>exact hq.elim
  | panic ch=>exact hq.elim
  | outgrown=>exact hq.elim
 ·rintro e W' ⟨⟨v,rfl⟩,σ',ι',hJ',Ge,hl,hD⟩
  obtain⟨r5,hend⟩:∃ r5,(Instr.endLoop (w.heap.size+1)).run C.P W' = .ok none (W'.putObj (w.heap.size+1) (.loop r5)):=by
   have hend:=run_endLoop (P:=C.P) hl (by rw [hrec]; simp);have hpe:(rec .ready none).pending=none:=by rw [hrec]
   rw [hpe] at hend;exact⟨_,hend⟩
  refine⟨none,_,hend,f,σ',⟨ι',?_⟩,done σ' hJ'⟩;have hlt:w.heap.size+1<W'.heap.size:=(Ad.1 hl).1;have G3:=Ge.T4 (w':=W'.putObj (w.heap.size+1) (.loop r5)) (kR hl λ_ _ e=>by cases e) (.inr hws.symm) (.inr hws.symm) λx e=>by rw [hl] at e; cases e
  have G4:=G'.end_ G3;have hD4:(W'.putObj (w.heap.size+1) (.loop r5)).heap[w.heap.size]?=some (Obj.deferred (some [])):=(World.putObj_heap_other (by omega)).trans hD;obtain⟨hB0,l0,hd1,hd2,hd3⟩:=G4.defers;obtain⟨_,l1,he1,_,he3⟩:=G.defers
  refine⟨G4.size,⟨hB0,w.heap.size :: l0,?_,?_,?_⟩,G4.nx,G4.kept,G4.mL,G4.oJ,G4.qK,G4.stay,G4.fr⟩
  ·show [_]++a.defers=_;rw [hd1]; rfl
  ·refine List.nodup_cons.2 ⟨λhm=>?_,hd2⟩;have hmem:({ target:=.collected w.heap.size,args:=#[] }:Deferred)∈ a.defers:=by rw [hd1]; exact γ.2 ⟨_,hm,rfl⟩
   rw [he1] at hmem;obtain⟨D,hDl,hDe⟩:=γ.1 hmem
   have hDw:D=w.heap.size:=by have:=congrArg Deferred.target hDe;simpa using this
   have:=(Ad.1 (he3 D hDl).1).1;omega
  ·intro D hD2
   rcases η.1 hD2 with rfl | hD2
   ·exact⟨hD4,G.defers.1⟩
   ·exact hd3 D hD2
end
end Go.Pd

/- Part B1. -/
set_option maxRecDepth 100000
namespace Go.Pd
open Go Go.Proofs Go.RowKit
theorem Nm (l Bs o b off n cap:Nat) (sa:Option Addr) (va vb:Nat->Value) (J:Nat->World->Prop) (hn:n<=maxLen) (hsa:0<n->sa=some ⟨b,off,none⟩)
  (hRd:∀ k W,J k W->W.cell? ⟨Bs,o,none⟩= some (.slice sa n cap)/\ ∀ i,i<n->W.cell? ⟨b,off+i*2,none⟩= some (va i)/\ W.cell? ⟨b,off+i*2+1,none⟩= some (vb i)) (hdr:∀ k W,J k W->J k W.drew)
  (hY:∀ k W,k<n->J k W->YieldAt Fence.wide 0 prog l #[.int .i64 ((n-1-k:Nat):Int),.agg #[va (n-1-k),vb (n-1-k)]] W λe W'=>e = .returned (.bool true)/\ J (k+1) W') (W:World) (h0:J 0 W) :
  CallsIn Fence.wide 0 prog 191 #[.func (.yield l) #[] #[],.pointer (some ⟨Bs,o,none⟩)] W λe W'=>(∃ v,e = .returned v)/\ J n W':=by
 have hro:Fence.wide.round=none:=rfl;have hc0:=(hRd 0 W h0).1;refine callsIn_of_wp func191 rfl trivial ?_ hro;simp only [Tryz.ntmps191,List.size_toArray,List.length_cons,List.length_nil,Nat.reduceAdd,Nat.reduceSub,Array.replicate_succ,Array.replicate_zero,List.push_toArray,List.append_toArray,List.nil_append,List.cons_append]
 gi_wp2
 have hw1:wrap64 ((n:Int)-1)= (n:Int)-1:=by simp only [maxLen] at hn;unfold wrap64;omega
 rw [hw1]
 gi_loopw [3] (λi wr=>∃ k:Nat,k<=n/\i = .int .i64 ((n:Int)-1-k)/\ J k wr) (λi _=>(RowKit.intOf i+1).toNat)
 case atStart=>exact⟨0,Ac _,by simp,h0⟩
 case round=>
  obtain⟨k,hk,rfl,hJ⟩:=hrel;have hcb:=(hRd k wr hJ).1
  by_cases hlt:k<n
  ·obtain rfl:=hsa (by omega);obtain⟨q1,q2⟩:=(hRd k wr hJ).2 (n-1-k) (by omega);obtain⟨fn,tmps,assign,body,hy,hR⟩:=hY k wr hlt hJ;have hi:(n:Int)-1-k=((n-1-k:Nat):Int):=by omega
   have hi2:((n-1-k:Nat):Int)<(n:Int):=by omega
   rw [hi];generalize hm:n-1-k=m at *
   have hwm:wrap64 ((m:Int)-1)= (m:Int)-1:=by simp only [maxLen] at hn;unfold wrap64;omega
   gi_wp2
   refine⟨rfl,hR.mono ?_⟩;rintro e W3 ⟨rfl,hJ3⟩
   gi_wp2
   go_roundw
   case rel=>exact⟨k+1,by omega,by rw [hwm]; congr 1; omega,hJ3⟩
   case measure=>simp [RowKit.intOf,hwm]
  ·obtain rfl:k=n:=by omega
   have hi:(k:Int)-1-k = -1:=by omega
   rw [hi]
   gi_wp2
   go_end0
   exact⟨⟨_,rfl⟩,hJ⟩
theorem KE : NI prog 191:=⟨⟨f191,func191,by decide,rfl⟩,λl Bs o b off n cap sa va vb J hn hsa hRd hdr hY W h0=>Nm l Bs o b off n cap sa va vb J hn hsa hRd hdr hY W h0⟩
end Go.Pd

/- Part KW. -/
namespace Go.Pd
open Go Go.Proofs
open BitVec renaming isValue -> ZA
open Rs Fm Ru Te Kb
theorem Zs (l:List bL):xA prog 132 [.sl 2 (Ze l)] (.fn 191 [.ptr [.sl 2 (Ze l)]]):=by refine xI func132 Ib λhf=>?_;refine zI ?_;exact .drop (by simp) (by simp [vw,vC,D.xR,D.xF]; exact⟨_,rfl,rfl,rfl⟩)
namespace Kb
def bH (R:Nat) (g h:Nat->Int) (i:Nat):List Int:=(List.range R).map λw=>if w<i then g w else h w
theorem Qf (R:Nat) (g h:Nat->Int) (i:Nat):(bH R g h i).length=R:=by simp [bH]
theorem U8 (R:Nat) (g h:Nat->Int):bH R g h 0=(List.range R).map h:=by simp [bH]
theorem Qe (R:Nat) (g h:Nat->Int) {i:Nat} (hi:R<=i):bH R g h i=(List.range R).map g:=by refine υ λf hf=>?_;rw [if_pos (by have:=θ.1 hf; omega)]
theorem Qg (R:Nat) (g h:Nat->Int) (i:Nat):(bH R g h i).set i (g i)= bH R g h (i+1):=by
 refine ο (by simp [bH]) λk h1 h2=>?_;rw [Aa];simp only [bH,List.getElem_map,List.getElem_range]
 by_cases e:i=k
 ·subst e; rw [if_pos rfl,if_pos (by omega)]
 ·rw [if_neg e]
  by_cases hk:k<i
  ·rw [if_pos hk,if_pos (by omega)]
  ·rw [if_neg hk,if_neg (by omega)]
theorem U7 (R:Nat) {g h:Nat->Int} {i:Nat} (e:g i=h i):bH R g h (i+1)= bH R g h i:=by
 refine υ λw _=>?_
 by_cases hw:w=i
 ·subst hw; rw [if_pos (by omega),if_neg (by omega)]; exact e
 ·by_cases h1:w<i
  ·rw [if_pos (by omega),if_pos h1]
  ·rw [if_neg (by omega),if_neg h1]
def N5 (R:Nat) (V:List (BitVec 64)) (RR:List (List (BitVec 64))):Ob:=⟨3,[[.int .i64 (R:Int),.sl 1 (us V),.sl 1 (rr RR)]]⟩
def VA (p:yT) (sts:List (List (BitVec 64))) (t a j:Nat):List Int:=(List.range sts.length).map λw=>tI p.xV sts t a w ((p.code.getD a []).drop j)
def km (p:yT) (sts:List (List (BitVec 64))) (t a:Nat):List (List (List D)):=(List.range a).map λb=>rows .i64 (VA p sts t b 0)
theorem xq (p:yT) (sts:List (List (BitVec 64))) (t a:Nat):(km p sts t a).length=a:=by simp [km]
theorem XK (p:yT) (sts:List (List (BitVec 64))) (t a:Nat):km p sts t (a+1)= km p sts t a ++ [rows .i64 (VA p sts t a 0)]:=by unfold km; rw [List.range_succ,π]; rfl
theorem OU (p:yT) (sts:List (List (BitVec 64))) (t:Nat):km p sts t p.xV.length=(vB p sts t).map (rows .i64):=by simp only [km,vB,τ];rfl
structure QP where
 a:Nat
 nx:Nat
 kO:Nat
 ks:List Nat
 xZ:List (Nat × Ob)
structure IP (p : yT) (sts : List (List (BitVec 64))) (t : Nat) (mO : Ob) (x : QP) : Prop where
 ha:x.a<=p.xV.length
 n0:1<=x.nx
 h0:St.look x.xZ 0=some mO
 kO:0<x.kO/\x.kO<x.nx\/x.a=0
 kl:x.ks.length=x.a
 ks:∀ k ∈ x.ks,0<k/\k<x.nx
 nd:x.ks.Nodup
 no:x.a≠0->x.kO ∉ x.ks
 jT:x.a≠0->fQ x.xZ x.kO x.ks (km p sts t x.a)
def wE (kO a:Nat):D:=if a=0 then .xL else .yD kO 1 a
theorem IP.step {p:yT} {sts:List (List (BitVec 64))} {t:Nat} {mO:Ob} {x:QP} (h:IP p sts t mO x) (hal:x.a<p.xV.length) {m:Nat} {ob:List (Nat × Ob)} (hm:x.nx+3<=m) (hout:St.look ob (m+1)= some ⟨1,vQ (x.ks ++ [x.nx+1]) (km p sts t (x.a+1))⟩)
  (hnew:St.look ob (x.nx+1)= some ⟨1,rows .i64 (VA p sts t x.a 0)⟩) (hold:∀ k,k<x.nx->(x.a=0\/k≠x.kO)->St.look ob k=St.look x.xZ k):IP p sts t mO ⟨x.a+1,m+1+1,m+1,x.ks ++ [x.nx+1],ob⟩ where
 ha:=by show x.a+1<=_; omega
 n0:=by show 1<=m+1+1; omega
 h0:=by have:=h.n0;show St.look ob 0=_;rw [hold 0 (by omega) (by have:=h.kO; omega)];exact h.h0
 kO:=.inl ⟨by show 0<m+1; omega,by show m+1<m+1+1; omega⟩
 kl:=by simp [h.kl]
 ks:=λk hk=>by
  rcases ν.1 hk with hk | hk
  ·have:=h.ks k hk;exact⟨this.1,by show k<m+1+1; omega⟩
  ·rw [δ.1 hk]; exact⟨by omega,by show x.nx+1<m+1+1; omega⟩
 nd:=by refine χ.2 ⟨h.nd,by simp,λk hk j hj e=>?_⟩;have:=h.ks k hk;rw [δ.1 hj] at e;omega
 no:=λ_ hk=>by
  have hk:m+1 ∈ x.ks ++ [x.nx+1]:=hk
  rcases ν.1 hk with hk | hk
  ·have:=h.ks _ hk; omega
  ·have:=δ.1 hk; omega
 jT :=λ_=>{
  out:=hout
  len:=by rw [xq]; simp [h.kl]
  each:=λi hi=>by
   rw [xq] at hi;have hi:i<x.a+1:=hi;show St.look ob ((x.ks ++ [x.nx+1]).getD i 0)= some ⟨1,(km p sts t (x.a+1)).getD i []⟩;rw [XK]
   by_cases e:i=x.a
   ·subst e;have e1:(x.ks ++ [x.nx+1]).getD x.a 0=x.nx+1:=by simp [List.getD,<- h.kl]
    have e2:(km p sts t x.a ++ [rows .i64 (VA p sts t x.a 0)]).getD x.a []=rows .i64 (VA p sts t x.a 0):=by have:=xq p sts t x.a;simp [List.getD,List.getElem?_append,this]
    rw [e1,e2]; exact hnew
   ·have hia:i<x.ks.length:=by rw [h.kl]; omega
    have hia2:i<(km p sts t x.a).length:=by rw [xq]; omega
    have e1:(x.ks ++ [x.nx+1]).getD i 0=x.ks.getD i 0:=by simp [List.getD,ξ hia]
    have e2:(km p sts t x.a ++ [rows .i64 (VA p sts t x.a 0)]).getD i []=(km p sts t x.a).getD i []:=by simp [List.getD,ξ hia2]
    rw [e1,e2];have hmem:=uZ hia;have hlt:=h.ks _ hmem;have ha0:x.a≠0:=by omega
    rw [hold _ hlt.2 (.inr λe=>h.no ha0 (e ▸ hmem))];exact(h.jT ha0).each i hia2 }
end Kb
theorem Z0 {n:Nat} (hn:1<=n/\n<=64) (σ:St):xQ prog 131 [.sl 1 [[.int .i64 (-1)]],.int .i64 (n:Int)] σ (.yD σ.nx 1 n) ⟨σ.nx+1,(σ.nx,⟨1,rows .i64 (List.replicate n (-1))⟩) :: σ.xZ⟩:=by have h:=US (d:=.int .i64 (-1)) rfl rfl hn;rw [OY] at h;exact xQ.Kc h rfl (qS _ _)
theorem yj {p:yT} {F:Nat} (hv:zz p F) {sts:List (List (BitVec 64))} {t:Nat} (ok:W5 p F sts t) :
  xQ prog 76 [nD p sts,.int .i64 t] jR (.yD 0 1 p.xV.length) ⟨1+p.xV.length,lE ((vB p sts t).map (rows .i64))⟩:=by
 have hm:=Qm ok.ok;have hH:=λf hE=>OD ok (f:=f) hE;have hK:=λa w (ha:a<p.xV.length) (hw:w<sts.length) f=>Xj ok ha hw f;have hR:=ok.hR;have hA:=ok.hA;have hll:(wS sts.length 0).length=sts.length:=mJ _ _;have hRl:(tJ (wV p.xV sts t) (wS sts.length 0) p.xV.length).length=p.xV.length:=by simp [tJ]
 have hRg:∀ a,a<p.xV.length->(tJ (wV p.xV sts t) (wS sts.length 0) p.xV.length).getD a []=tO (wV p.xV sts t) (wS sts.length 0) a:=λa ha=>by simp [tJ,List.getD,ha]
 have hrl:∀ a,(tO (wV p.xV sts t) (wS sts.length 0) a).length=sts.length:=λa=>by simp [tO,hll]
 have hrg:∀ a w,w<sts.length->(tO (wV p.xV sts t) (wS sts.length 0) a).getD w 0=Ru.pF (wV p.xV sts t) (wS sts.length 0) a (vJ (wV p.xV sts t) a (w,0)) sts.length:=λa w hw=>by simp [tO,wS,List.getD,hw]
 unfold gE kd at hm hH;rw [hll] at hm hH;generalize qV (wV p.xV sts t) (wS sts.length 0) F=V at *;generalize tJ (wV p.xV sts t) (wS sts.length 0) p.xV.length=RR at *;unfold nD bu at *;refine xI func76 Fc λhf=>?_;refine xJ ?_;refine .go (cr hm) ?_;simp only [simprocAttr,-ZA,↓zU,↓zD,zV,zT,zW,zF,hv.hC]
 (repeat refine sd ?_)
 refine xU (λx:QP=>[(24,.int .i64 x.a),(23,.int .i64 p.xV.length),(22,.sl 1 (uJ p.code)),(6,wE x.kO x.a),(5,.ref 0 3 0 0)]) (λx=>⟨x.nx,x.xZ⟩)
  (IP p sts t (N5 sts.length V RR)) (λx=>p.xV.length-x.a) ⟨0,1,0,[],[(0,N5 sts.length V RR)]⟩ ⟨Ac _,Ab _,rfl,.inr rfl,rfl,by simp,.nil,λh=>absurd rfl h,λh=>absurd rfl h⟩ ?_ ?_
 ·unfold N5 wE;exact wO
 rintro ⟨a,nx,kO,ks,xZ⟩ hI;obtain⟨ha,n0,h0,hkO,hkl,hks,hnd,hno,hnst⟩:=hI;simp only at ha n0 h0 hkO hkl hks hnd hno hnst;refine xN mixed ?_;by_cases hal:a<p.xV.length
 case neg=>
  have hd:¬ ((a:Int)<(p.xV.length:Int)):=by omega
  obtain rfl:a=p.xV.length:=by omega
  have ha0:p.xV.length≠0:=by omega
  unfold wE;rw [if_neg ha0];refine xH hd ?_;have hn:=hnst ha0;rw [OU] at hn;have hl2:((vB p sts t).map (rows .i64)).length=p.xV.length:=by simp [vB]
  have hr:=sH.jT (nx:=nx) hn hl2.symm hnd (hno ha0) λe he r hr=>by simp only [γ] at he;obtain⟨m,_,rfl⟩:=he;exact qS _ _ r hr
  rw [hl2] at hr;exact hr
 have hd:((a:Int)<(p.xV.length:Int)):=by omega
 have hac:a<p.code.length:=by rw [hv.hC]; exact hal
 have hdc:((a:Int)<(p.code.length:Int)):=by omega
 have hg:=hZ p.code hac;have hmem:=xK (d:=[]) hac;have hbw:=Zs (p.code.getD a [])
 have hF0:VA p sts t a (p.code.getD a []).length=List.replicate sts.length (-1):=by unfold VA;rw [List.drop_length];refine List.eq_replicate_iff.2 ⟨by simp,λx hx=>?_⟩;simp only [γ] at hx;obtain⟨w,_,rfl⟩:=hx;rfl
 have hF1:∀ j w,j<(p.code.getD a []).length->tI p.xV sts t a w ((p.code.getD a []).drop j)= if N1 p.xV sts t a ((p.code.getD a []).getD j l6).test w=true then((p.code.getD a []).getD j l6).mv else tI p.xV sts t a w ((p.code.getD a []).drop (j+1)):=λj w hj=>by rw [drop_cons (d:=l6) hj]; rfl
 have hFm:∀ j,VA p sts t a j=(List.range sts.length).map λw=>tI p.xV sts t a w ((p.code.getD a []).drop j):=λj=>rfl;have hsu:=XK p sts t a
 have hE:∀ j,j<(p.code.getD a []).length->vq p ((p.code.getD a []).getD j l6).test 15=0:=λj hj=>by
  have:=hv.code _ hmem _ (xK (d:=l6) hj);unfold jS at this
  split at this
  ·rename_i h1; exact absurd this h1
  ·rename_i h1; simpa using h1
 have hl6:=hv.cl _ hmem;generalize p.code.getD a []=cl at *;have c0:¬ (nx=0):=by omega
 simp only [simprocAttr,-ZA,↓zU,↓zD,zV,zT,zW,hd,hdc,zF,hg,h0,N5,c0]
 (repeat refine sd ?_)
 refine .go (Z0 ⟨hR.1,by omega⟩ _) ?_;refine zI ?_;refine .go (cr hbw) ?_;refine xJ ?_
 refine Rw rfl KE rfl (.inl rfl) ⟨by decide,by decide⟩ (λk σk=>∃ m ob,σk=⟨m,ob⟩/\ nx+3<=m/\St.look ob (nx+1+1)= some ⟨1,[[.yD (nx+1) 1 sts.length]]⟩/\ St.look ob (nx+1)= some ⟨1,rows .i64 (VA p sts t a (cl.length-k))⟩/\ St.look ob nx=some ⟨1,[[.int .i64 a]]⟩/\ ∀ k,k<nx->St.look ob k=St.look xZ k) ?_ ?_ ?_
 ·refine⟨_,_,rfl,Ab _,?_,?_,?_,λk hk=>?_⟩
  ·rw [xX,if_pos rfl]
  ·rw [xX,if_neg (by omega),xX,if_pos rfl,Nat.sub_zero,hF0]
  ·rw [xX,if_neg (by omega),xX,if_neg (by omega),xX,if_pos rfl]
  ·rw [xX,if_neg (by omega),xX,if_neg (by omega),xX,if_neg (by omega)]
 ·intro l k σk hk ⟨m,ob,e0,hm3,h2,h1,hx,hold⟩;subst e0;rw [vI] at hk ⊢;have hj:cl.length-1-k<cl.length:=by omega
  have hg1:=xm cl hj;have hE1:=hE _ hj;have hF2:=λw=>hF1 (cl.length-1-k) w hj;rw [show cl.length-1-k+1=cl.length-k by omega] at hF2;have e1:cl.length-(k+1)= cl.length-1-k:=by omega
  rw [e1];have hm1:=hFm (cl.length-k);have hm2:=hFm (cl.length-1-k);generalize cl.length-1-k=j at *;generalize cl.length-k=j1 at *;have hH1:=hH _ hE1;generalize cl.getD j l6=c at *;unfold bL.row at hg1;have h0':St.look ob 0=some (N5 sts.length V RR):=by rw [hold 0 (by omega)]; exact h0
  unfold N5 at h0';have q1:¬ (m=nx+1+1):=by omega
  have q2:¬ (m=nx+1):=by omega
  have q3:¬ (m=nx):=by omega
  have q4:¬ (m=0):=by omega
  refine xN mixed ?_;refine vR hg1 ?_;refine xN mixed ?_;refine mU q1 q2 q3 q4 h0' h1 h2 hx ?_;refine .go (cr hH1) ?_;refine mU q1 q2 q3 q4 h0' h1 h2 hx ?_;have hga:=tZ RR (show a<RR.length by omega);rw [hRg a hal] at hga;have hla:=hrl a;have hda:((a:Int)<(RR.length:Int)):=by omega
  refine xU (λx:Nat × List (Nat × Ob)=>[(46,.int .i64 x.1),(45,.int .i64 sts.length),(12,.int .u64 (ui (V4 p.xV sts t c.test))),(11,.ref m 2 0 0),(9,.ref (nx+1+1) 1 0 0),(7,.ref nx 1 0 0),(5,.ref 0 3 0 0)]) (λx=>⟨m+1,x.2⟩)
   (λx=>x.1<=sts.length/\St.look x.2 m=some ⟨2,[[.sl 6 (wN c.test),.int .i64 c.mv]]⟩/\ St.look x.2 (nx+1)= some ⟨1,rows .i64 (bH sts.length (λw=>tI p.xV sts t a w (cl.drop j)) (λw=>tI p.xV sts t a w (cl.drop j1)) x.1)⟩/\ ∀ k,k<m->k≠nx+1->St.look x.2 k=St.look ob k)
   (λx=>sts.length-x.1) (0,(m,⟨2,[[.sl 6 (wN c.test),.int .i64 c.mv]]⟩) :: ob) ⟨Ac _,by rw [xX,if_pos rfl],by rw [xX,if_neg (by omega),h1,hm1,U8],λk hk _=>by rw [xX,if_neg (by omega)]⟩ ?_ ?_
  ·exact wO
  rintro ⟨w,ob'⟩ ⟨hw,g1,g2,g3⟩;simp only at hw g1 g2 g3;have g4:St.look ob' (nx+1+1)= some ⟨1,[[.yD (nx+1) 1 sts.length]]⟩:=by rw [g3 _ (by omega) (by omega)]; exact h2
  have g5:St.look ob' nx=some ⟨1,[[.int .i64 a]]⟩:=by rw [g3 _ (by omega) (by omega)]; exact hx
  have g6:St.look ob' 0=some ⟨3,[[.int .i64 (sts.length:Int),.sl 1 (us V),.sl 1 (rr RR)]]⟩:=by rw [g3 _ (by omega) (by omega)]; exact h0'
  refine xN mixed ?_;by_cases hwl:w<sts.length
  case neg=>
   have hd3:¬ ((w:Int)<(sts.length:Int)):=by omega
   rw [Qe _ _ _ (by omega),<- hm2] at g2;refine xH hd3 ?_;exact⟨[],⟨m+1,ob'⟩,yR.same trivial,m+1,ob',rfl,by omega,g4,g2,g5,λk hk=>by rw [g3 k (by omega) (by omega)]; exact hold k hk⟩
  have hd3:((w:Int)<(sts.length:Int)):=by omega
  have hgw:=yF (tO (wV p.xV sts t) (wS sts.length 0) a) (show w<_ by rw [hla]; exact hwl);rw [hrg a w hwl] at hgw;have hkn:=hK a w hal hwl c.test;generalize Ru.pF (wV p.xV sts t) (wS sts.length 0) a (vJ (wV p.xV sts t) a (w,0)) sts.length=xr at hgw hkn;have hF3:=hF2 w;have hms:=Qg sts.length (λw=>tI p.xV sts t a w (cl.drop j)) (λw=>tI p.xV sts t a w (cl.drop j1)) w;have hml:=Qf sts.length (λw=>tI p.xV sts t a w (cl.drop j)) (λw=>tI p.xV sts t a w (cl.drop j1)) w;have hme:=@U7 sts.length (λw=>tI p.xV sts t a w (cl.drop j)) (λw=>tI p.xV sts t a w (cl.drop j1)) w
  cases hc:N1 p.xV sts t a c.test w with
  | false=> rw [hc] at hkn hF3;rw [if_neg (by simp)] at hF3;refine NU hd3 g1 g2 g4 g5 g6 hda hga hla hgw hkn yZ xT ?_;refine⟨(w+1,ob'),⟨by show w+1<=_; omega,g1,by show St.look ob' _=some ⟨1,rows .i64 (bH _ _ _ (w+1))⟩; rw [hme hF3]; exact g2,g3⟩,?_,by show sts.length-(w+1)<sts.length-w; omega⟩;exact yL
  | true=>
   rw [hc] at hkn hF3;rw [if_pos rfl] at hF3;rw [hF3] at hms;generalize bH sts.length (λw=>tI p.xV sts t a w (cl.drop j)) (λw=>tI p.xV sts t a w (cl.drop j1)) w=M at *;have hgM:=wU .i64 M (show w<M.length by omega);simp only [simprocAttr,-ZA,↓zU,↓zD,zV,zT,zW,hd3,g1,g2,g4,g5,g6,hda,hga,hla,hgw,hkn,yZ,xT,yU,hml,hgM,RU,hms]
   (repeat refine sd ?_)
   refine⟨(w+1,zC ob' (nx+1) ⟨1,rows .i64 (bH sts.length (λw=>tI p.xV sts t a w (cl.drop j)) (λw=>tI p.xV sts t a w (cl.drop j1)) (w+1))⟩),⟨by show w+1<=_; omega,?_,?_,λk hk hk2=>?_⟩,?_,by show sts.length-(w+1)<sts.length-w; omega⟩
   ·show St.look (zC _ _ _) _=_;rw [xP,if_neg (by omega)]; exact g1
   ·show St.look (zC _ _ _) _=_;rw [xP,if_pos rfl,g2]; rfl
   ·show St.look (zC _ _ _) _=_;rw [xP,if_neg (λe=>hk2 e.symm)]; exact g3 k hk hk2
   ·exact yL
 ·intro σ' ⟨m,ob,e0,hm3,h2,h1,hx,hold⟩;subst e0;rw [vI,Nat.sub_self] at h1;have hI:IP p sts t (N5 sts.length V RR) ⟨a,nx,kO,ks,xZ⟩:=⟨ha,n0,h0,hkO,hkl,hks,hnd,hno,hnst⟩;have hRl2:(VA p sts t a 0).length=sts.length:=by simp [VA]
  have q1:¬ (m=nx+1+1):=by omega
  by_cases ha0:a=0
  ·subst ha0;unfold wE;refine nQ h2 q1 ?_
   refine⟨⟨0+1,m+1+1,m+1,ks ++ [nx+1],(m+1,⟨1,[[.yD (nx+1) 1 sts.length]]⟩) :: (m,⟨1,[[.yD (nx+1) 1 sts.length]]⟩) :: ob⟩,IP.step hI hal hm3 ?_ ?_ ?_,?_,by show p.xV.length-(0+1)<_; omega⟩
   ·rw [xX,if_pos rfl];show _=some (Ob.mk 1 (vQ (ks ++ [nx+1]) (km p sts t (0+1))));obtain rfl:ks = []:=μ hkl;rw [hsu];simp [vQ,km,yU,hRl2]
   ·rw [xX,if_neg (by show ¬ m+1=nx+1; omega),xX,if_neg (by show ¬ m=nx+1; omega)];exact h1
   ·intro k hk _;have hk:k<nx:=hk;rw [xX,if_neg (by omega),xX,if_neg (by omega)];exact hold k hk
   ·simp only [Nat.zero_add,Nat.one_ne_zero,↓reduceIte];exact yL
  ·have hkO2:0<kO/\kO<nx:=by rcases hkO with h | h <;> omega
   have hn:=hnst ha0;have ho:=hn.out;unfold wE;rw [if_neg ha0];have ho2:St.look ob kO=some ⟨1,vQ ks (km p sts t a)⟩:=by rw [hold kO hkO2.2]; exact ho
   have q2:¬ (m=kO):=by omega
   have hnl:=uY hn.len;rw [xq] at hnl;have htk:(vQ ks (km p sts t a)).take a=vQ ks (km p sts t a):=ζ (by omega);refine pH h2 q1 q2 ho2 hnl htk ?_
   refine⟨⟨a+1,m+1+1,m+1,ks ++ [nx+1],(m+1,⟨1,vQ ks (km p sts t a)++ [[.yD (nx+1) 1 sts.length]]⟩) :: (m,⟨1,[[.yD (nx+1) 1 sts.length]]⟩) :: yN ob kO⟩,IP.step hI hal hm3 ?_ ?_ ?_,?_,by show p.xV.length-(a+1)<_; omega⟩
   ·rw [xX,if_pos rfl];show _=some (Ob.mk 1 (vQ (ks ++ [nx+1]) (km p sts t (a+1))));have:=iX hn.len (nx+1) (rows .i64 (VA p sts t a 0));rw [yU,hRl2] at this;rw [this,hsu]
   ·rw [xX,if_neg (by show ¬ m+1=nx+1; omega),xX,if_neg (by show ¬ m=nx+1; omega),xC,if_neg (by show ¬ kO=nx+1; omega)];exact h1
   ·intro k hk hk2;have hk:k<nx:=hk;have hk2:k≠kO:=hk2.resolve_left ha0;rw [xX,if_neg (by omega),xX,if_neg (by omega),xC,if_neg (λe=>hk2 e.symm)];exact hold k hk
   ·simp only [Nat.add_one_ne_zero,↓reduceIte];exact yL
open Rs Fm Ru Te Kb
namespace Kb
def N4 (p:yT) (kS n:Nat):Ob:=⟨6,[[.int .i64 p.F,.sl 1 (us p.init),.sl 1 (us p.xV),.sl 1 (uK p.xO),.sl 1 (uJ p.code),.yD kS 1 n]]⟩
structure Zl (p : yT) (sts : List (List (BitVec 64))) (kx kS : Nat) (ks : List Nat) (xZ : List (Nat × Ob)) : Prop where
 hx:St.look xZ kx=some (N4 p kS sts.length)
 jT:fQ xZ kS ks (sts.map us)
 nd:ks.Nodup
 ne:kx≠kS
 xs:kx ∉ ks
 ss:kS ∉ ks
def ko (p:yT) (b:Nat) (sts:List (List (BitVec 64))):List (Nat × Ob):=(0,N4 p 1 sts.length) :: (1,⟨1,vQ (ε b sts.length) (sts.map us)⟩) :: (List.range sts.length).map λi=>(b+i,⟨1,us (vK sts i)⟩)
theorem uO {sts:List (List (BitVec 64))} {i:Nat} (hi:i<sts.length):(sts.map us).getD i []=us (vK sts i):=by simp [vK,List.getD,hi]
theorem nf {f:Nat->Ob} (b:Nat):∀ {l:List Nat} {i:Nat},i ∈ l->St.look (l.map λi=>(b+i,f i)) (b+i)= some (f i)
 | [],i,h=>by cases h
 | j :: r,i,h=>by
  show St.look ((b+j,f j) :: _) _=_;rw [xX]
  by_cases e:i=j
  ·subst e; rw [if_pos rfl]
  ·rw [if_neg (by omega)];exact nf b ((η.1 h).resolve_left e)
theorem ia {b n i:Nat} (hi:i<n):(ε b n).getD i 0=b+i:=by simp [List.getD,hi]
theorem dY (p:yT) {b:Nat} (hb:2<=b) (sts:List (List (BitVec 64))):Zl p sts 0 1 (ε b sts.length) (ko p b sts) where
 hx:=by unfold ko; rw [xX,if_pos rfl]
 jT:={
  out:=by unfold ko; rw [xX,if_neg (by omega),xX,if_pos rfl]
  len:=by simp
  each:=λi hi=>by
   have hi':i<sts.length:=by simpa using hi
   rw [ia hi',uO hi'];unfold ko;rw [xX,if_neg (by omega),xX,if_neg (by omega)];exact nf b (θ.2 hi') }
 nd:=List.nodup_range'
 ne:=by decide
 xs:=λh=>by have:=ψ.1 h; omega
 ss:=λh=>by have:=ψ.1 h; omega
theorem pq {p:yT} {b:Nat} {sts:List (List (BitVec 64))} {q:Nat × Ob} (h:q ∈ ko p b sts):q=(0,N4 p 1 sts.length)\/q=(1,⟨1,vQ (ε b sts.length) (sts.map us)⟩)\/∃ i,i<sts.length/\q=(b+i,⟨1,us (vK sts i)⟩):=by
 unfold ko at h
 rcases η.1 h with h | h
 ·exact .inl h
 ·rcases η.1 h with h | h
  ·exact .inr (.inl h)
  ·simp only [γ,θ] at h;obtain⟨i,hi,rfl⟩:=h;exact .inr (.inr ⟨i,hi,rfl⟩)
theorem iH {sts:List (List (BitVec 64))}:∀ e ∈ sts.map us,∀ r ∈ e,r.length=1/\D.xR r=true:=λe he r hr=>by simp only [γ] at he;obtain⟨s,_,rfl⟩:=he;refine⟨?_,vT s r hr⟩;simp only [us,γ] at hr;obtain⟨x,_,rfl⟩:=hr;rfl
def l7 (b kx kS:Nat) (ks:List Nat) (k:Nat):Nat:=if k=0 then kx else if k=1 then kS else if b<=k then ks.getD (k-b) 0 else k
section
variable {p : yT} {sts : List (List (BitVec 64))} {kx kS b nx : Nat} {ks : List Nat} {xZ : List (Nat × Ob)}
theorem Zl.stays (h:Zl p sts kx kS ks xZ) (hb:2<=b):stays ⟨nx,xZ⟩ ⟨b+sts.length,ko p b sts⟩ (l7 b kx kS ks):=by
 have hlen:=h.jT.len;have hsl:(sts.map us).length=sts.length:=κ _;have hr:(ε b sts.length).length=(sts.map us).length:=by simp
 intro q hq
 rcases pq hq with rfl | rfl | ⟨i,hi,rfl⟩
 ·refine⟨by show 0<b+sts.length; omega,_,h.hx,rfl,?_⟩;refine .cons rfl ?_ .nil;simp only [vC,vw,and_true,true_and,l7];exact⟨by omega,rfl⟩
 ·refine⟨by show 1<b+sts.length; omega,_,h.jT.out,rfl,az (by rw [uY hlen,uY hr]) λi hi=>?_⟩;rw [uY hr] at hi;rw [oT hlen hi,oT hr hi];refine⟨rfl,?_⟩;rw [hsl] at hi;simp only [vC,vw,ia hi,and_true,l7];rw [if_neg (by omega),if_neg (by omega),if_pos (by omega),show b+i-b=i by omega];exact⟨by omega,rfl⟩
 ·refine⟨by show b+i<b+sts.length; omega,⟨1,us (vK sts i)⟩,?_,rfl,.same λr hr=>vT _ r hr⟩;show St.look xZ (l7 b kx kS ks (b+i))= _;unfold l7;rw [if_neg (by omega),if_neg (by omega),if_pos (by omega),show b+i-b=i by omega];have:=h.jT.each i (by rw [hsl]; exact hi);rw [uO hi] at this;exact this
theorem Zl.apart (h:Zl p sts kx kS ks xZ) (hb:2<=b) (m:Nat):qY ⟨m,ko p b sts⟩ (l7 b kx kS ks):=by
 have hlen:=h.jT.len;rw [κ] at hlen
 have hk:∀ i,i<sts.length->l7 b kx kS ks (b+i)= ks.getD i 0:=λi hi=>by unfold l7;rw [if_neg (by omega),if_neg (by omega),if_pos (by omega),show b+i-b=i by omega]
 have hm:∀ i,i<sts.length->ks.getD i 0 ∈ ks:=λi hi=>uZ (by omega);have e0:l7 b kx kS ks 0=kx:=rfl;have e1:l7 b kx kS ks 1=kS:=rfl;intro q hq r hr' e
 rcases pq hq with rfl | rfl | ⟨i,hi,rfl⟩ <;> rcases pq hr' with rfl | rfl | ⟨j,hj,rfl⟩ <;> simp only at e ⊢
 ·rw [e0,e1] at e; exact absurd e h.ne
 ·rw [e0,hk j hj] at e; exact absurd (e ▸ hm j hj) h.xs
 ·rw [e0,e1] at e; exact absurd e.symm h.ne
 ·rw [e1,hk j hj] at e; exact absurd (e ▸ hm j hj) h.ss
 ·rw [e0,hk i hi] at e; exact absurd (e ▸ hm i hi) h.xs
 ·rw [e1,hk i hi] at e; exact absurd (e ▸ hm i hi) h.ss
 ·rw [hk i hi,hk j hj] at e;rw [xp h.nd (by omega) (by omega) e]
theorem Zl.seen {K:Nat->Prop} (h:Zl p sts kx kS ks xZ) (h1:¬ K kx) (h2:¬ K kS) (h3:∀ k ∈ ks,¬ K k):Seen ⟨nx,xZ⟩ K (.ref kx 6 0 0) (nD p sts):=by
 have hs:=Go.Pd.fQ.seen h.jT (nx:=nx) (n:=sts.length) (κ _).symm h2 h3 iH;rw [ZO] at hs;refine Seen.ref h.hx h1 rfl (Nat.lt_add_one 0) (Nat.zero_lt_succ 5) (Ab 6) λj hj=>?_;have hj:j<6:=hj;have:j=0\/j=1\/j=2\/j=3\/j=4\/j=5:=by omega
 rcases this with rfl | rfl | rfl | rfl | rfl | rfl
 ·exact .pure rfl
 ·exact .pure rfl
 ·exact .pure rfl
 ·exact .pure rfl
 ·exact .pure rfl
 ·exact hs
end
end Kb
theorem sH.ZY {p:yT} {sts:List (List (BitVec 64))} {kx kS b nx n0:Nat} {ks:List Nat} {xZ:List (Nat × Ob)} {d1 d:D} (h:Zl p sts kx kS ks xZ) (hb:2<=b) (hn:n0<=b+sts.length) (hid:∀ k,k<n0->l7 b kx kS ks k=k)
  (hd:vw ⟨nx,xZ⟩ ⟨b+sts.length,ko p b sts⟩ (l7 b kx kS ks) d1 d):sH n0 ⟨nx,xZ⟩ d1 ⟨b+sts.length,ko p b sts⟩ d:=
 .inr ⟨l7 b kx kS ks,hn,hid,hd,h.stays hb,h.apart hb _⟩
theorem yR.ZY {C:Cx} {f f':Fr} {p:yT} {sts:List (List (BitVec 64))} {kx kS b nx:Nat} {ks:List Nat} {xZ:List (Nat × Ob)} (h:Zl p sts kx kS ks xZ) (hb:2<=b) (hn:C.n0<=b+sts.length) (hid:∀ k,k<C.n0->l7 b kx kS ks k=k)
  (hf:bw ⟨nx,xZ⟩ ⟨b+sts.length,ko p b sts⟩ (l7 b kx kS ks) f f'):yR C f ⟨nx,xZ⟩ f' ⟨b+sts.length,ko p b sts⟩:=
 yR.view (l7 b kx kS ks) hn hid hf (h.stays hb) (h.apart hb _)
open Rs Fm Ru Te Kb
namespace Kb
def qC (p:yT):List (List (BitVec 64)):=p.init.map λs=>[s]
structure BP where
 k:Nat
 nx:Nat
 kS:Nat
 ks:List Nat
 xZ:List (Nat × Ob)
def aH (p:yT) (k:Nat):List (List (BitVec 64)):=(p.init.take k).map λs=>[s]
structure IB (p : yT) (kx : Nat) (x : BP) : Prop where
 hk:x.k<=p.init.length
 hx:St.look x.xZ kx=some ⟨6,[[.int .i64 p.F,.sl 1 (us p.init),.sl 1 (us p.xV),.sl 1 (uK p.xO),.sl 1 (uJ p.code),wE x.kS x.k]]⟩
 lt:kx<x.nx
 kS:x.kS<x.nx\/x.k=0
 kl:x.ks.length=x.k
 ks:∀ k ∈ x.ks,k<x.nx
 nd:x.ks.Nodup
 ne:x.k≠0->kx≠x.kS
 xs:kx ∉ x.ks
 ss:x.k≠0->x.kS ∉ x.ks
 jT:x.k≠0->fQ x.xZ x.kS x.ks ((aH p x.k).map us)
theorem wb {α:Type} {l r:List α} {d:α} {i:Nat} (h:i<l.length):(l++r).getD i d=l.getD i d:=by simp [List.getD,ξ h]
theorem fc {α:Type} {l:List α} {x d:α} {i:Nat} (h:i=l.length):(l ++ [x]).getD i d=x:=by subst h; simp [List.getD]
theorem fQ.grow {xZ ob:List (Nat × Ob)} {kO kN kI:Nat} {ks:List Nat} {ess:List (List (List D))} {e:List (List D)} (h:ess ≠ []->fQ xZ kO ks ess) (kl:ks.length=ess.length) (hout:St.look ob kN=some ⟨1,vQ (ks ++ [kI]) (ess ++ [e])⟩)
  (hnew:St.look ob kI=some ⟨1,e⟩) (hold:∀ k ∈ ks,St.look ob k=St.look xZ k):fQ ob kN (ks ++ [kI]) (ess ++ [e]) where
 out:=hout
 len:=by simp [kl]
 each:=λi hi=>by
  by_cases c:i=ess.length
  ·rw [fc (l:=ks) (by omega),fc (l:=ess) c]; exact hnew
  ·have hi':i<ess.length:=by simp at hi; omega
   have hn:ess ≠ []:=λc=>by rw [c] at hi'; cases hi'
   rw [wb (l:=ks) (by omega),wb (l:=ess) hi',hold _ (uZ (by omega))];exact(h hn).each i hi'
theorem TR (p:yT) {k:Nat} (hk:k<p.init.length):aH p (k+1)= aH p k ++ [[p.init.getD k 0]]:=by unfold aH;rw [yE (d:=0) hk,π]; rfl
theorem YY (p:yT) {k:Nat} (hk:k<=p.init.length):(aH p k).length=k:=by simp [aH]; omega
theorem IB.step {p:yT} {kx:Nat} {x:BP} (h:IB p kx x) (hlt:x.k<p.init.length) {ob:List (Nat × Ob)} (hout:St.look ob (x.nx+1+1)= some ⟨1,vQ (x.ks ++ [x.nx]) ((aH p x.k).map us ++ [us [p.init.getD x.k 0]])⟩)
  (hnew:St.look ob x.nx=some ⟨1,us [p.init.getD x.k 0]⟩) (hx:St.look ob kx=some ⟨6,[[.int .i64 p.F,.sl 1 (us p.init),.sl 1 (us p.xV),.sl 1 (uK p.xO),.sl 1 (uJ p.code),.yD (x.nx+1+1) 1 (x.k+1)]]⟩)
  (hold:∀ k,k<x.nx->k≠kx->(x.k=0\/k≠x.kS)->St.look ob k=St.look x.xZ k):IB p kx ⟨x.k+1,x.nx+1+1+1,x.nx+1+1,x.ks ++ [x.nx],ob⟩:=by
 have hl:=YY p h.hk;have hlt2:=h.lt
 refine⟨by show x.k+1<=_; omega,?_,by show kx<x.nx+1+1+1; omega,.inl (by show x.nx+1+1<x.nx+1+1+1; omega),by simp [h.kl],λk hk=>?_,?_,λ_=>by show kx≠x.nx+1+1; omega,λhk=>?_,λ_ hk=>?_,λ_=>?_⟩
 ·show St.look ob kx=_;rw [hx];unfold wE;simp
 ·show k<x.nx+1+1+1
  rcases ν.1 hk with hk | hk
  ·have:=h.ks k hk; omega
  ·rw [δ.1 hk]; omega
 ·refine χ.2 ⟨h.nd,by simp,λk hk j hj e=>?_⟩;have:=h.ks k hk;rw [δ.1 hj] at e;omega
 ·rcases ν.1 hk with hk | hk
  ·exact h.xs hk
  ·have:=δ.1 hk; omega
 ·have hk:x.nx+1+1 ∈ x.ks ++ [x.nx]:=hk
  rcases ν.1 hk with hk | hk
  ·have:=h.ks _ hk; omega
  ·have:=δ.1 hk; omega
 ·show fQ ob (x.nx+1+1) (x.ks ++ [x.nx]) ((aH p (x.k+1)).map us);rw [TR p hlt,π];have h0:(aH p x.k).map us ≠ []->x.k≠0:=λc e=>c (by rw [List.map_eq_nil_iff]; exact μ (by omega));refine fQ.grow (λc=>h.jT (h0 c)) (by rw [h.kl,κ,hl]) hout hnew λk hk=>?_;have hk1:=h.ks k hk;refine hold k hk1 (λe=>h.xs (e ▸ hk)) ?_
  by_cases c:x.k=0
  ·exact .inl c
  ·exact .inr λe=>h.ss c (e ▸ hk)
end Kb
theorem YX {p:yT} {F:Nat} (hv:zz p F):xQ prog 120 [p.d] jR (.ref 0 6 0 0) ⟨2+p.init.length,ko p 2 (qC p)⟩:=by
 have hI:=hv.hI;have hbl:(qC p).length=p.init.length:=by simp [qC]
 have hD:p.d = .agg [.int .i64 p.F,.sl 1 (us p.init),.sl 1 (us p.xV),.sl 1 (uK p.xO),.sl 1 (uJ p.code)]:=rfl;rw [hD];refine xI func120 IQ λhf=>?_;refine vR xT ?_
 refine xU (λx:BP=>[(12,.int .i64 x.k),(11,.int .i64 p.init.length),(10,.sl 1 (us p.init)),(3,.ref 1 6 0 0)]) (λx=>⟨x.nx,x.xZ⟩) (IB p 1) (λx=>p.init.length-x.k)
  ⟨0,2,0,[],[(1,⟨6,[[.int .i64 p.F,.sl 1 (us p.init),.sl 1 (us p.xV),.sl 1 (uK p.xO),.sl 1 (uJ p.code),.xL]]⟩),(0,⟨5,[[.int .i64 p.F,.sl 1 (us p.init),.sl 1 (us p.xV),.sl 1 (uK p.xO),.sl 1 (uJ p.code)]]⟩)]⟩
  ⟨Ac _,rfl,Nat.lt_add_one 1,.inr rfl,rfl,by simp,.nil,λh=>absurd rfl h,by simp,λh=>absurd rfl h,λh=>absurd rfl h⟩ ?_ ?_
 ·exact wO
 rintro ⟨k,nx,kS,ks,xZ⟩ hB;obtain⟨hk,hx,hlt,hkS,hkl,hks,hnd,hne,hxs,hss,hnst⟩:=id hB;simp only at hk hx hlt hkS hkl hks hnd hne hxs hss hnst;refine xN mixed ?_;by_cases hkl2:k<p.init.length
 case neg=>
  have hd:¬ ((k:Int)<(p.init.length:Int)):=by omega
  obtain rfl:k=p.init.length:=by omega
  have hk0:p.init.length≠0:=by omega
  have he:aH p p.init.length=qC p:=by unfold aH qC; rw [List.take_length]
  have hPI:Zl p (qC p) 1 kS ks xZ:=⟨by rw [hx]; unfold N4 wE; rw [if_neg hk0,hbl],he ▸ hnst hk0,hnd,hne hk0,hxs,hss hk0⟩;refine xH hd ?_;have hr:=sH.ZY (b:=2) (n0:=0) (nx:=nx) (d1:=.ref 1 6 0 0) (d:=.ref 0 6 0 0) hPI (Ab _) (Ac _) (λk hk=>absurd hk (Nat.not_lt_zero _)) (by simp only [vw,and_true]; exact⟨by omega,rfl⟩);rw [hbl] at hr;exact hr
 have hd:((k:Int)<(p.init.length:Int)):=by omega
 have hg:=yF p.init hkl2;have hst:=λob=>@IB.step p 1 ⟨k,nx,kS,ks,xZ⟩ hB hkl2 ob;simp only at hst;generalize p.init.getD k 0=s at hg hst;have q1:¬ (nx=1):=by omega
 have q5:¬ (nx+1+1=1):=by omega
 have q6:¬ (nx+1=1):=by omega
 have q7:¬ (nx=0):=by omega
 by_cases hk0:k=0
 ·subst hk0;have hd0:(0:Int)<(p.init.length:Int):=by omega
  unfold wE at hx;rw [if_pos rfl] at hx;obtain rfl:ks = []:=μ hkl
  have hst1:=hst ((nx+1+1,⟨1,[[.yD nx 1 1]]⟩) :: (nx+1,⟨1,[[.yD nx 1 1]]⟩) :: (nx,⟨1,[[.int .u64 (ui s)]]⟩) :: zC xZ 1 ⟨6,[[.int .i64 p.F,.sl 1 (us p.init),.sl 1 (us p.xV),.sl 1 (uK p.xO),.sl 1 (uJ p.code),.yD (nx+1+1) 1 1]]⟩)
   (by rw [xX,if_pos rfl]; rfl) (by rw [xX,if_neg (by omega),xX,if_neg (by omega),xX,if_pos rfl]; rfl)
   (by rw [xX,if_neg q5,xX,if_neg q6,xX,if_neg q1,xP,if_pos rfl,hx]; rfl)
   (λj hj h1 _=>by rw [xX,if_neg (by omega),xX,if_neg (by omega),xX,if_neg (by omega),xP,if_neg (λe=>h1 e.symm)])
  refine mU hd0 xT hg hx q1 q5 q6 q7 ?_;refine⟨_,hst1,?_,by show p.init.length-(0+1)<_; omega⟩;exact yL
 ·have hkS2:kS<nx:=hkS.resolve_right hk0;have ho:=(hnst hk0).out;unfold wE at hx;rw [if_neg hk0] at hx;have hnl:=uY (hnst hk0).len;rw [κ,YY p hk] at hnl;have htk:(vQ ks ((aH p k).map us)).take k=vQ ks ((aH p k).map us):=ζ (by omega);have q2:¬ (nx=kS):=by omega
  have q3:¬ (nx+1=kS):=by omega
  have q4:¬ (kS=1):=λe=>hne hk0 e.symm;have hxe:St.look (yN xZ kS) 1=some ⟨6,[[.int .i64 p.F,.sl 1 (us p.init),.sl 1 (us p.xV),.sl 1 (uK p.xO),.sl 1 (uJ p.code),.yD kS 1 k]]⟩:=by rw [xC,if_neg q4]; exact hx
  have hsn:=iX (hnst hk0).len nx (us [s])
  have hst1:=hst ((nx+1+1,⟨1,vQ ks ((aH p k).map us)++ [[.yD nx 1 1]]⟩) :: (nx+1,⟨1,[[.yD nx 1 1]]⟩) :: (nx,⟨1,[[.int .u64 (ui s)]]⟩) :: zC (yN xZ kS) 1 ⟨6,[[.int .i64 p.F,.sl 1 (us p.init),.sl 1 (us p.xV),.sl 1 (uK p.xO),.sl 1 (uJ p.code),.yD (nx+1+1) 1 (k+1)]]⟩)
   (by rw [xX,if_pos rfl,<- hsn]; rfl) (by rw [xX,if_neg (by omega),xX,if_neg (by omega),xX,if_pos rfl]; rfl)
   (by rw [xX,if_neg q5,xX,if_neg q6,xX,if_neg q1,xP,if_pos rfl,hxe]; rfl)
   (λj hj h1 h2=>by rw [xX,if_neg (by omega),xX,if_neg (by omega),xX,if_neg (by omega),xP,if_neg (λe=>h1 e.symm),xC,if_neg (λe=>(h2.resolve_left hk0) e.symm)])
  simp only [simprocAttr,-ZA,↓zU,↓zD,zV,zT,zW,hd,xT,hg,hx,hxe,q1,q2,q3,q4,q5,q6,q7,ho,hnl,htk]
  (repeat refine sd ?_)
  refine⟨_,hst1,?_,by show p.init.length-(k+1)<_; omega⟩;exact yL
end Go.Pd
