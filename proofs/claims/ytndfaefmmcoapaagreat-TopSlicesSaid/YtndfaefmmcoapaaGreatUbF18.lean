/- Part F18. -/
import Derived.Test.YtndfaefmmcoapaaGreatUbF12
import Derived.Test.YtndfaefmmcoapaaGreatUbX9
set_option linter.unusedSectionVars false
set_option linter.unusedVariables false
set_option linter.unusedSimpArgs false
set_option linter.defProp false
set_option maxRecDepth 20000
set_option maxHeartbeats 1000000
open Go.Proofs.Tryz
open List renaming drop_eq_nil_of_le->γ,length_append->δ,getD_eq_getElem?_getD->ε,length_singleton->ζ,getElem?_append_left->η,any_cons->θ,length_map->κ,getElem?_eq_getElem->μ,mem_map->ν,getD_cons_succ->ξ,any_eq_false->ο
open Nat renaming zero_le->π
open Int renaming le_refl->τ,toNat_of_nonneg->υ,toNat_natCast->χ
namespace Go.Pd
open Go Go.Proofs
open Rs Fm
namespace Fm
def rb (l:List Bool):List (List D):=l.map λb=>[.bool b]
theorem sY (l:List Bool):(rb l).length=l.length:=by simp [rb]
theorem Yk (l:List Bool) {i:Nat} (h:i<l.length):(rb l).getD i [] = [.bool (l.getD i false)]:=by simp [rb,List.getD,h]
theorem uh (l:List Bool) (i:Nat) (b:Bool):(rb l).set i [.bool b]=rb (l.set i b):=by simp [rb,List.map_set]
theorem pj (n:Nat) (b:Bool):List.replicate n [D.bool b]=rb (List.replicate n b):=by simp [rb]
theorem RI (l:List Bool):∀ e ∈ rb l,D.xU e=true:=by intro e he;simp only [rb,ν] at he;obtain⟨n,_,rfl⟩:=he;rfl
theorem uF (l:List Bool):tW (rb l)= True:=eq_true (RI l)
theorem oz (a b:D):List.set [a] 0 b = [b]:=rfl
theorem Y3 {p:Nd} {k:Nat} (h:zG p k=0):(∃ x:Nat,p.x=x/\x<=k)/\ (∃ y:Nat,p.y=y/\y<=k):=by
 obtain⟨_,h2,h3,_⟩:=wI.1 h
 refine⟨?_,?_⟩
 ·unfold yG at h2
  split at h2
  ·simp only [Bool.and_eq_true,decide_eq_true_eq] at h2;exact⟨p.x.toNat,by omega,by omega⟩
  ·simp only [decide_eq_true_eq] at h2;exact⟨0,by omega,by omega⟩
 ·unfold yG at h3
  split at h3
  ·simp only [Bool.and_eq_true,decide_eq_true_eq] at h3;exact⟨p.y.toNat,by omega,by omega⟩
  ·simp only [decide_eq_true_eq] at h3;exact⟨0,by omega,by omega⟩
end Fm
open Rs Fm
namespace Fm
end Fm
end Go.Pd

/- Part G1. -/
namespace Go.Pd
open Go Go.Proofs
open BitVec renaming isValue -> ZA
open Rs Fm
namespace Fm
def nl (ops:List (List Nd)):List (List D):=ops.map λo=>[.sl 6 (ndR o)]
theorem Sh (l:List (List Nd)):(nl l).length=l.length:=by simp [nl]
theorem OH (l:List (List Nd)) {i:Nat} (h:i<l.length):(nl l).getD i [] = [.sl 6 (ndR (l.getD i []))]:=by simp [nl,List.getD,h]
theorem eL (l:List Nd):tW (ndR l)= True:=eq_true (wq l)
theorem df (l:List Nd) (a b c d e f:Int):ndR l ++ [[.int .i64 a,.int .i64 b,.int .i64 c,.int .i64 d,.int .i64 e,.int .i64 f]]=ndR (l ++ [⟨a,b,c,d,e,f⟩]):=by simp [ndR,Nd.row]
theorem Qu : ndR [] = []:=rfl
theorem Qv (l:List Nd):∀ e ∈ ndR l,e.length=6:=by intro e he;simp only [ndR,ν] at he;obtain⟨p,_,rfl⟩:=he;rfl
def sJ (n:Nat) (p:Nd):Nd:=⟨p.op,p.i,p.e,p.g,if (xV p.op).1.x=true then p.x+n else p.x,if (xV p.op).1.y=true then p.y+n else p.y⟩
def wJ (f:List Nd):Prop:=∀ k,k<f.length->zG (f.getD k nd0) k=0
theorem Ur {p:Nd} {k n:Nat} (h:zG p k=0):zG (sJ n p) ((n+k:Nat):Int)= 0:=by
 obtain⟨ox,oy⟩:=nL h
 refine jY h ?_ ?_
 ·split
  ·rename_i hx; have:=ox hx; omega
  ·rfl
 ·split
  ·rename_i hy; have:=oy hy; omega
  ·rfl
theorem r8 {f c:List Nd} (hf:wJ f) (hc:wJ c):wJ (f++c.map (sJ f.length)):=by
 intro k hk;simp only [δ,κ] at hk;simp only [ε]
 by_cases h:k<f.length
 ·rw [η h];have:=hf k h
  rwa [ε] at this
 ·rw [List.getElem?_append_right (by omega),List.getElem?_map];have hk':k-f.length<c.length:=by omega
  have h1:=hc (k-f.length) hk';rw [ε,μ hk',Option.getD_some] at h1;rw [μ hk',Option.map_some,Option.getD_some];have:=Ur (n:=f.length) h1
  rwa [show f.length+(k-f.length)= k by omega] at this
theorem cU {f:List Nd} {p:Nd} (hf:wJ f) (hp:zG p f.length=0):wJ (f ++ [p]):=by
 intro k hk;simp only [δ,ζ] at hk;simp only [ε]
 by_cases h:k<f.length
 ·rw [η h];have:=hf k h
  rwa [ε] at this
 ·obtain rfl:k=f.length:=by omega
  simpa using hp
theorem gx (o:List Nd):wJ (xB o):=fS o _
def S3 (k:Nat) (x:Nd) (v:Int):Nd:=if k=0 then⟨x.op,x.i,x.e,x.g,v,x.y⟩ else⟨x.op,x.i,x.e,x.g,x.x,v⟩
def aX : Nat->List (List Nd)->List Nd->Nd->Option (List Nd × Nd)
 | _,[],f,x=>some (f,x)
 | k,o :: r,f,x=>if yN o≠0 then none else
  aX (k+1) r (f++(xB o).map (sJ f.length)) (S3 k x (((f++(xB o).map (sJ f.length)).length:Int)-1))
def mK (x:Nd) (ops:List (List Nd)):List Nd:=match aX 0 ops [] x with
 | none=>[]
 | some (f,x')=>if zG x' f.length≠0 then [] else if 200<(uW (f ++ [x']) f.length).length then [] else uW (f ++ [x']) f.length
end Fm
theorem zr (x:Nd) (ops:List (List Nd)) (ho:ops.length<=2):zX prog 91 [.agg x.row,.sl 1 (nl ops)] (.sl 6 (ndR (mK x ops))):=by
 refine xY.xP mixed func91 k91 (by simp) λhf=>?_;simp only [simprocAttr,-ZA,↓zU,↓zD,zV,zT,zW,Sh,Nd.row]
 (repeat refine sd ?_)
 refine xT (λa:Nat × List Nd × Nd=>[(16,.int .i64 a.1),(15,.int .i64 ops.length),(14,.sl 1 (nl ops)),(5,xD 1 6 (ndR a.2.1)),(2,.ref 0 6 0 0)]) (λa=>⟨2,xA 1 6 (ndR a.2.1)++ [(0,⟨6,[a.2.2.row]⟩)]⟩)
  (λa=>a.1<=ops.length/\wJ a.2.1/\a.2.1.length<=200*a.1/\aX 0 ops [] x=aX a.1 (ops.drop a.1) a.2.1 a.2.2) (λa=>ops.length-a.1) (0,[],x) ⟨π _,λk hk=>by simp at hk,by simp,rfl⟩ ?_ ?_
 ·(refine xN.ren [] [0] (by simp) (by simp) (by decide) ?_; simp only [yT,zQ,simprocAttr,-ZA,exists_eq_left',ne_eq,zR,Qu,zM,zN,List.nil_append,Nd.row])
 rintro ⟨k,f,x1⟩ ⟨hk,hf,hfl,hb⟩;simp only at hk hf hfl hb;refine xO mixed ?_;by_cases h:k<ops.length
 case neg=>
  have hd:¬ ((k:Int)<(ops.length:Int)):=by omega
  rw [γ (by omega),aX] at hb;have eb:mK x ops=if zG x1 f.length≠0 then [] else if 200<(uW (f ++ [x1]) f.length).length then [] else uW (f ++ [x1]) f.length:=by rw [mK,hb]
  rw [eb];simp only [simprocAttr,-ZA,↓zU,↓zD,zV,zT,zW,hd,Nd.row,xE]
  (repeat refine sd ?_)
  refine .go (xY.yO (cN x1 f.length) (by simp [D.xU,D.xL,Nd.row])) ?_;by_cases hn:zG x1 f.length=0
  case neg=>
   have e:(zG x1 f.length != 0)= true:=by simpa using hn
   rw [if_pos hn];simp only [simprocAttr,-ZA,↓zU,↓zD,zV,zT,zW,e];exact .drop (by simp) (by simp [vw,ndR])
  have e:(zG x1 f.length != 0)= false:=by simpa using hn
  rw [if_neg (by simpa using hn)];simp only [simprocAttr,-ZA,↓zU,↓zD,zV,zT,zW,e,Nd.row,xE]
  (repeat refine sd ?_)
  have hv:wJ (f ++ [x1]):=cU hf hn;have hlen:(f ++ [x1]).length<=900:=by rw [δ,ζ]; omega
  have hcall:=xY.NN (σ:=⟨3,xA 2 6 (ndR (f ++ [x1]))++ [(0,⟨6,[x1.row]⟩)]⟩) (args:=[xD 2 6 (ndR (f ++ [x1])),.int .i64 f.length]) (objs':=[]) (λ_=>False) (qj (i:=f.length) hv hlen (by simp))
   ⟨Seen.grow (by rw [St.get,xH,if_pos rfl]; cases vZ 6 (ndR (f ++ [x1])) <;> rfl) id (by omega) (Qv _) (wq _),.pure rfl,trivial⟩ (λk o hk=>by cases hk)
  rw [df];simp only [Nd.row] at hcall;refine .go hcall ?_;generalize uW (f ++ [x1]) f.length=c
  by_cases hc:200<c.length
  ·have hc':(200:Int)<(c.length:Int):=by omega
   rw [if_pos hc];simp only [simprocAttr,-ZA,↓zU,↓zD,zV,zT,zW,xE,hc'];exact .drop (by simp) (by simp [vw,ndR])
  ·have hc':¬ (200:Int)<(c.length:Int):=by omega
   rw [if_neg hc];simp only [simprocAttr,-ZA,↓zU,↓zD,zV,zT,zW,xE,hc'];exact .dv
 have hd:((k:Int)<(ops.length:Int)):=by omega
 have hg:=OH ops h;rw [drop_cons (d:=[]) h,aX] at hb;generalize ops.getD k []=o at hg hb;have hw:IntKind.i64.wrap ((k:Int)+ 1)= ((k+1:Nat):Int):=wrap_i64 (by omega);simp only [simprocAttr,-ZA,↓zU,↓zD,zV,zT,zW,hd,Sh,hg]
 (repeat refine sd ?_)
 refine .go (cr (nJ o)) ?_;by_cases hc:yN o=0
 case neg=>
  have e:(yN o != 0)= true:=by simpa using hc
  rw [if_pos hc] at hb;simp only [simprocAttr,-ZA,↓zU,↓zD,zV,zT,zW,e];rw [show mK x ops = [] by rw [mK,hb]];exact .drop (by simp) (by simp [vw,ndR])
 have e:(yN o != 0)= false:=by simpa using hc
 rw [if_neg (by simpa using hc)] at hb;simp only [simprocAttr,-ZA,↓zU,↓zD,zV,zT,zW,e,xE];refine .go (cr (cV o)) ?_;have hcv:=gx o;have hcl:(xB o).length<=200:=fI o _;generalize xB o=c at hb hcv hcl;simp only [simprocAttr,-ZA,↓zU,↓zD,zV,zT,zW,xE]
 refine xT (λj:Nat=>[(29,.int .i64 j),(28,.int .i64 c.length),(27,.sl 6 (ndR c)),(16,.int .i64 k),(15,.int .i64 ops.length),(14,.sl 1 (nl ops)),(8,.int .i64 f.length),(6,.int .i64 k),(5,xD 1 6 (ndR (f++(c.take j).map (sJ f.length)))),(2,.ref 0 6 0 0)]) (λj=>⟨2,xA 1 6 (ndR (f++(c.take j).map (sJ f.length)))++ [(0,⟨6,[x1.row]⟩)]⟩)
  (λj=>j<=c.length) (λj=>c.length-j) 0 (π _) ?_ ?_
 ·rw [show f++(c.take 0).map (sJ f.length)= f by simp]
  (refine xN.same ?_; simp [xQ,Fr.get])
 intro j hj;refine xO mixed ?_;by_cases hjl:j<c.length
 case neg=>
  have hd2:¬ ((j:Int)<(c.length:Int)):=by omega
  rw [tO (show j=c.length by omega)];have hfl2:(f++c.map (sJ f.length)).length<=200*(k+1):=by rw [δ,κ]; omega
  have hv2:=r8 hf hcv;generalize f++c.map (sJ f.length)= f2 at hb hfl2 hv2;have hw2:IntKind.i64.wrap ((f2.length:Int)-1)= (f2.length:Int)-1:=wrap_i64 (by omega)
  by_cases hk0:k=0
  ·have e0:((k:Int)== 0)= true:=by rw [hk0]; rfl
   rw [S3,if_pos hk0] at hb;simp only [simprocAttr,-ZA,↓zU,↓zD,zV,zT,zW,hd2,e0,xE,hw2,Nd.row]
   (repeat refine sd ?_)
   refine⟨(k+1,f2,⟨x1.op,x1.i,x1.e,x1.g,(f2.length:Int)-1,x1.y⟩),⟨by omega,hv2,hfl2,hb⟩,?_,by simp only; omega⟩
   (refine xN.ren [] [1,0] (by simp) (by simp) (by decide) ?_; simp only [yT,zQ,simprocAttr,-ZA,exists_eq_left',ne_eq,zR,eL,Nd.row,hw])
  ·have e0:((k:Int)== 0)= false:=by rw [beq_eq_false_iff_ne]; omega
   rw [S3,if_neg hk0] at hb;simp only [simprocAttr,-ZA,↓zU,↓zD,zV,zT,zW,hd2,e0,xE,hw2,Nd.row]
   (repeat refine sd ?_)
   refine⟨(k+1,f2,⟨x1.op,x1.i,x1.e,x1.g,x1.x,(f2.length:Int)-1⟩),⟨by omega,hv2,hfl2,hb⟩,?_,by simp only; omega⟩
   (refine xN.ren [] [1,0] (by simp) (by simp) (by decide) ?_; simp only [yT,zQ,simprocAttr,-ZA,exists_eq_left',ne_eq,zR,eL,Nd.row,hw])
 have hd2:((j:Int)<(c.length:Int)):=by omega
 have hgj:=oL c hjl;have hnj:=hcv j hjl;obtain⟨⟨px,hpx,hpx2⟩,⟨py,hpy,hpy2⟩⟩:=Y3 hnj;have hsn:f++(c.take (j+1)).map (sJ f.length)= f++(c.take j).map (sJ f.length)++ [sJ f.length (c.getD j nd0)]:=by rw [zK (d:=nd0) hjl,List.map_append,<- List.append_assoc]; rfl
 generalize c.getD j nd0=p at hgj hnj hpx hpy hsn;have hwj:IntKind.i64.wrap ((j:Int)+ 1)= ((j+1:Nat):Int):=wrap_i64 (by omega);have hl2:(f++(c.take j).map (sJ f.length)).length<=1000:=by rw [δ,κ,List.length_take]; omega
 generalize f++(c.take j).map (sJ f.length)= f1 at hsn hl2;have hwx:IntKind.i64.wrap (p.x+(f.length:Int))= p.x+(f.length:Int):=wrap_i64 (by omega);have hwy:IntKind.i64.wrap (p.y+(f.length:Int))= p.y+(f.length:Int):=wrap_i64 (by omega);simp only [simprocAttr,-ZA,↓zU,↓zD,zV,zT,zW,hd2,xE,hgj,Nd.row]
 (repeat refine sd ?_)
 refine .go (cq (bF p.op)) ?_;have es:sJ f.length p=⟨p.op,p.i,p.e,p.g,if (xV p.op).1.x=true then p.x+f.length else p.x,if (xV p.op).1.y=true then p.y+f.length else p.y⟩:=rfl;cases hux:(xV p.op).1.x <;> cases huy:(xV p.op).1.y <;> rw [hux,huy] at es
 all_goals
  simp only [simprocAttr,-ZA,↓zU,↓zD,zV,zT,zW,Use.row,hux,huy,hwx,hwy,df,xE,δ,ζ]
  (repeat refine sd ?_)
  refine⟨j+1,by omega,?_,by omega⟩;rw [hsn,es]
  (refine xN.ren [(1,4)] [1,0] (by simp) (by simp) (by decide) ?_; simp only [yT,zQ,simprocAttr,-ZA,exists_eq_left',ne_eq,zR,eL,hwj,Nd.row,Bool.false_eq_true,if_false,if_true])
section
open Rs Fm
namespace Fm
def PH (f g:List Nd):List Nd:=mK ⟨7,0,0,0,0,0⟩ [f,g]
def pE (a:Int) (f:List Nd):List Nd:=mK ⟨9,a,0,0,0,0⟩ [f]
def sK (i:Int):List Nd:=mK ⟨3,i,0,0,0,0⟩ []
end Fm
theorem TE (x:Nd):zX prog 91 [.agg x.row,.xK] (.sl 6 (ndR (mK x []))):= xY.NN (σ:=St0) (objs':=[]) (λ_=>False) (zr x [] (by simp)) ⟨.pure (by simp [D.xL,D.xU,Nd.row]),.nil 1,trivial⟩ (λk o hk=>by cases hk)
theorem SO (a:Int) (f:List Nd):zX prog 33 [.int .i64 a,.sl 6 (ndR f)] (.sl 6 (ndR (pE a f))):=by
 refine xY.xP mixed func33 k33 (by simp) λhf=>?_;simp only [simprocAttr,-ZA,↓zU,↓zD,zV,zT,zW]
 (repeat refine sd ?_)
 refine .go (xY.yO (zr ⟨9,a,0,0,0,0⟩ [f] (by simp)) (by simp [D.xU,D.xL,Nd.row,nl])) ?_;simp only [simprocAttr,-ZA,↓zU,↓zD,zV,zT,zW];exact .same
theorem Nm (i:Int):zX prog 34 [.int .i64 i] (.sl 6 (ndR (sK i))):=by
 refine xY.xP mixed func34 k34 (by simp) λhf=>?_;simp only [simprocAttr,-ZA,↓zU,↓zD,zV,zT,zW]
 (repeat refine sd ?_)
 refine .go (xY.yO (TE ⟨3,i,0,0,0,0⟩) (by simp [D.xU,D.xL,Nd.row])) ?_;simp only [simprocAttr,-ZA,↓zU,↓zD,zV,zT,zW];exact .same
end
section
open Rs Fm
namespace Fm
end Fm
end
open Rs Fm
namespace Fm
def mA (f:List Nd):List Nd:=mK ⟨18,0,0,0,0,0⟩ [f]
end Fm
theorem SP (f:List Nd):zX prog 47 [.sl 6 (ndR f)] (.sl 6 (ndR (mA f))):=by
 refine xY.xP mixed func47 k47 (by simp) λhf=>?_;simp only [simprocAttr,-ZA,↓zU,↓zD,zV,zT,zW]
 (repeat refine sd ?_)
 refine .go (xY.yO (zr ⟨18,0,0,0,0,0⟩ [f] (by simp)) (by simp [D.xU,D.xL,Nd.row,nl])) ?_;simp only [simprocAttr,-ZA,↓zU,↓zD,zV,zT,zW];exact .same
open Rs Fm
namespace Fm
theorem kR (op:Int):op=1\/op=2\/op=3\/op=4\/op=5\/op=6\/op=7\/op=8\/op=9\/op=10\/op=11\/op=12\/op=13\/op=14\/op=15\/op=16\/op=17\/op=18\/op=19\/op=20\/op=21\/op<1\/21<op:=by omega
theorem kY {op:Int} (h:op<1\/21<op):xV op=(gU,false):=if_pos h
theorem Oo (op:Int):(xV op).1.x=(decide (4<=op)&& decide (op<=21)):=by
 rcases kR op with rfl | rfl | rfl | rfl | rfl | rfl | rfl | rfl | rfl | rfl | rfl | rfl | rfl | rfl | rfl | rfl | rfl | rfl | rfl | rfl | rfl | h | h
 rotate_right 2
 ·rw [kY (.inl h),decide_eq_false (by omega)]; rfl
 ·rw [kY (.inr h),decide_eq_false (show ¬ op<=21 by omega),Bool.and_false]; rfl
 all_goals rfl
theorem rR {m:Nd->Nat}:∀ {l:List Nd},vD m l=0 ↔ ∀ p ∈ l,m p=0:=by
 intro l
 have key:∀ (l:List Nd) (a:Nat),l.foldl (λa p=>a ||| m p) a=0 ↔ a=0/\∀ p ∈ l,m p=0:=by
  intro l
  induction l with
  | nil=>simp
  | cons p r ih=>
   intro a;simp only [List.foldl_cons,ih,List.mem_cons,forall_eq_or_imp];rw [Nat.or_eq_zero_iff]
   constructor
   ·rintro ⟨⟨h1,h2⟩,h3⟩; exact⟨h1,h2,h3⟩
   ·rintro ⟨h1,h2,h3⟩; exact⟨⟨h1,h2⟩,h3⟩
 rw [vD,key];simp
end Fm
section
open Rs Fm
end
section
open Rs Fm
open Rs Fm
end
section
open Rs Fm
namespace Fm
end Fm
end
section
open Rs Fm
namespace Fm
end Fm
end
section
open Rs Fm
namespace Fm
end Fm
end
section
open Rs Fm
open Rs Fm
end
open Rs Fm
namespace Fm
inductive Tr where
 | nil
 | nd (op i e g:Int) (x y:Tr)
def oc (f:List Nd):Nat->Nat->Tr
 | 0,_=>.nil
 | n+1,i=>.nd (f.getD i nd0).op (f.getD i nd0).i (f.getD i nd0).e (f.getD i nd0).g (if (xV (f.getD i nd0).op).1.x=true then oc f n (f.getD i nd0).x.toNat else .nil) (if (xV (f.getD i nd0).op).1.y=true then oc f n (f.getD i nd0).y.toNat else .nil)
def tree (f:List Nd) (i:Nat):Tr:=oc f (i+1) i
def wfT : Tr->Prop
 | .nil=>False
 | .nd op i e g x y=>zG ⟨op,i,e,g,0,0⟩ 1=0/\(if (xV op).1.x=true then wfT x else x = .nil)/\ (if (xV op).1.y=true then wfT y else y = .nil)
def mV : Tr->List Nd->Int × List Nd
 | .nil,out=>(0,out)
 | .nd op i e g x y,out=>
  let a:=if (xV op).1.x=true then mV x out else(0,out)
  let b:=if (xV op).1.y=true then mV y a.2 else(0,a.2)
  match iG ⟨op,i,e,g,a.1,b.1⟩ b.2 0 with
  | some k=>((k:Int),b.2)
  | none=>((b.2.length:Int),b.2 ++ [⟨op,i,e,g,a.1,b.1⟩])
def canon (t:Tr):List Nd:=(mV t []).2
theorem uZ {p:Nd} {k:Nat} (h:zG p k=0):((xV p.op).1.x=true->0<=p.x/\p.x.toNat<k)/\ ((xV p.op).1.y=true->0<=p.y/\p.y.toNat<k)/\ ((xV p.op).1.x=false->p.x=0)/\ ((xV p.op).1.y=false->p.y=0):=by
 obtain⟨h1,h2⟩:=nL h;rw [wI] at h;obtain⟨_,h3,h4,_⟩:=h
 refine⟨λhx=>?_,λhy=>?_,λhx=>?_,λhy=>?_⟩
 ·have:=h1 hx; omega
 ·have:=h2 hy; omega
 ·rw [hx] at h3; simpa [yG] using h3
 ·rw [hy] at h4; simpa [yG] using h4
theorem nG {f:List Nd} (hv:wJ f):∀ (n m i:Nat),i<n->i<m->i<f.length->oc f n i=oc f m i
 | 0,_,_,h,_,_=>by omega
 | _+1,0,_,_,h,_=>by omega
 | n+1,m+1,i,h1,h2,hi=>by
  obtain⟨ox,oy,_,_⟩:=uZ (hv i hi);unfold oc
  congr 1
  ·by_cases hx:(xV (f.getD i nd0).op).1.x=true
   ·rw [if_pos hx,if_pos hx];exact nG hv n m _ (by have:=ox hx; omega) (by have:=ox hx; omega) (by have:=ox hx; omega)
   ·rw [if_neg hx,if_neg hx]
  ·by_cases hy:(xV (f.getD i nd0).op).1.y=true
   ·rw [if_pos hy,if_pos hy];exact nG hv n m _ (by have:=oy hy; omega) (by have:=oy hy; omega) (by have:=oy hy; omega)
   ·rw [if_neg hy,if_neg hy]
theorem tV {f:List Nd} (hv:wJ f) {i:Nat} (hi:i<f.length):tree f i = .nd (f.getD i nd0).op (f.getD i nd0).i (f.getD i nd0).e (f.getD i nd0).g (if (xV (f.getD i nd0).op).1.x=true then tree f (f.getD i nd0).x.toNat else .nil) (if (xV (f.getD i nd0).op).1.y=true then tree f (f.getD i nd0).y.toNat else .nil):=by
 obtain⟨ox,oy,_,_⟩:=uZ (hv i hi);unfold tree;rw [oc]
 congr 1
 ·by_cases hx:(xV (f.getD i nd0).op).1.x=true
  ·rw [if_pos hx,if_pos hx];exact nG hv _ _ _ (by have:=ox hx; omega) (by omega) (by have:=ox hx; omega)
  ·rw [if_neg hx,if_neg hx]
 ·by_cases hy:(xV (f.getD i nd0).op).1.y=true
  ·rw [if_pos hy,if_pos hy];exact nG hv _ _ _ (by have:=oy hy; omega) (by omega) (by have:=oy hy; omega)
  ·rw [if_neg hy,if_neg hy]
theorem bq {l r:List Nd} {k:Nat} (h:k<l.length):(l++r).getD k nd0=l.getD k nd0:=by simp only [List.getD,η h]
theorem cT {l r:List Nd} (h:wJ (l++r)):wJ l:=λk hk=>by
 have:=h k (by simp; omega)
 rwa [bq hk] at this
theorem gO {l r:List Nd} (hv:wJ (l++r)):∀ (k:Nat),k<l.length->tree (l++r) k=tree l k:=by
 intro k
 induction k using Nat.strongRecOn with
 | _ k ih=>
  intro hk;obtain⟨ox,oy,_,_⟩:=uZ (cT hv k hk);rw [tV hv (by simp; omega),tV (cT hv) hk,bq hk]
  congr 1
  ·by_cases hx:(xV (l.getD k nd0).op).1.x=true
   ·rw [if_pos hx,if_pos hx];exact ih _ (by have:=ox hx; omega) (by have:=ox hx; omega)
   ·rw [if_neg hx,if_neg hx]
  ·by_cases hy:(xV (l.getD k nd0).op).1.y=true
   ·rw [if_pos hy,if_pos hy];exact ih _ (by have:=oy hy; omega) (by have:=oy hy; omega)
   ·rw [if_neg hy,if_neg hy]
theorem YM {f:List Nd} (hv:wJ f):∀ (i:Nat),i<f.length->wfT (tree f i):=by
 intro i
 induction i using Nat.strongRecOn with
 | _ i ih=>
  intro hi;obtain⟨ox,oy,zx,zy⟩:=uZ (hv i hi);rw [tV hv hi]
  refine⟨jY (hv i hi) ?_ ?_,?_,?_⟩
  ·split
   ·omega
   ·rename_i h; exact(zx (by simpa using h)).symm
  ·split
   ·omega
   ·rename_i h; exact(zy (by simpa using h)).symm
  ·by_cases hx:(xV (f.getD i nd0).op).1.x=true
   ·rw [if_pos hx,if_pos hx];exact ih _ (by have:=ox hx; omega) (by have:=ox hx; omega)
   ·rw [if_neg hx,if_neg hx]
  ·by_cases hy:(xV (f.getD i nd0).op).1.y=true
   ·rw [if_pos hy,if_pos hy];exact ih _ (by have:=oy hy; omega) (by have:=oy hy; omega)
   ·rw [if_neg hy,if_neg hy]
theorem qx {q:Nd}:∀ {l:List Nd} {k j:Nat},iG q l k=some j->k<=j/\j-k<l.length/\l.getD (j-k) nd0=q
 | [],_,_,h=>by cases h
 | p :: r,k,j,h=>by
  unfold iG at h
  by_cases e:q=p
  ·rw [if_pos e] at h; cases h; simp [e]
  ·rw [if_neg e] at h;obtain⟨h1,h2,h3⟩:=qx h;refine⟨by omega,by simp only [List.length_cons]; omega,?_⟩;rw [show j-k=j-(k+1)+ 1 by omega,ξ]; exact h3
theorem bu {q:Nd}:∀ {l:List Nd} {k:Nat},iG q l k=none->q ∉ l
 | [],_,_=>by simp
 | p :: r,k,h=>by
  unfold iG at h
  by_cases e:q=p
  ·rw [if_pos e] at h; cases h
  ·rw [if_neg e] at h;simp only [List.mem_cons,not_or];exact⟨e,bu h⟩
theorem Zv {q:Nd}:∀ {l:List Nd} {k j:Nat},l.Nodup->j<l.length->l.getD j nd0=q->iG q l k=some (k+j)
 | [],_,_,_,h,_=>by simp at h
 | p :: r,k,j,hn,h,hq=>by
  unfold iG
  cases j with
  | zero=>rw [if_pos (by simpa using hq.symm)]; rfl
  | succ j=>
   rw [ξ] at hq;have hj:j<r.length:=by simpa using h
   have hm:q ∈ r:=by
    have:r.getD j nd0=r[j]:=by simp [List.getD,hj]
    rw [<- hq,this]; exact List.getElem_mem hj
   rw [if_neg (λe:q=p=>(List.nodup_cons.1 hn).1 (e ▸ hm)),Zv (List.nodup_cons.1 hn).2 hj hq];congr 1; omega
theorem dW : ∀ (t:Tr) (out:List Nd) (k:Nat),wJ out->out.Nodup->k<out.length->tree out k=t->mV t out=((k:Int),out)
 | .nil,out,k,hv,hn,hk,ht=>by rw [tV hv hk] at ht; cases ht
 | .nd op i e g x y,out,k,hv,hn,hk,ht=>by
  obtain⟨ox,oy,zx,zy⟩:=uZ (hv k hk);rw [tV hv hk] at ht;simp only [Tr.nd.injEq] at ht;obtain⟨rfl,rfl,rfl,rfl,hx,hy⟩:=ht
  have ha:(if (xV (out.getD k nd0).op).1.x=true then mV x out else(0,out))= ((out.getD k nd0).x,out):=by
   by_cases h:(xV (out.getD k nd0).op).1.x=true
   ·rw [if_pos h] at hx ⊢;rw [dW x out _ hv hn (by have:=ox h; omega) hx,υ (ox h).1]
   ·rw [if_neg h,zx (by simpa using h)]
  have hb:(if (xV (out.getD k nd0).op).1.y=true then mV y out else(0,out))= ((out.getD k nd0).y,out):=by
   by_cases h:(xV (out.getD k nd0).op).1.y=true
   ·rw [if_pos h] at hy ⊢;rw [dW y out _ hv hn (by have:=oy h; omega) hy,υ (oy h).1]
   ·rw [if_neg h,zy (by simpa using h)]
  unfold mV;simp only [ha,hb];rw [Zv (k:=0) hn hk rfl,Nat.zero_add]
theorem jU : ∀ (t:Tr) (out:List Nd),wfT t->wJ out->out.Nodup->wJ (mV t out).2/\(mV t out).2.Nodup/\(∃ l,(mV t out).2=out++l)/\ ∃ k:Nat,(mV t out).1=k/\k<(mV t out).2.length/\tree (mV t out).2 k=t/\((mV t out).2=out\/k+1=(mV t out).2.length)
 | .nil,out,h,_,_=>h.elim
 | .nd op i e g x y,out,⟨h1,h2,h3⟩,hv,hn=>by
  have A:∃ (a:Int) (oa:List Nd),(if (xV op).1.x=true then mV x out else(0,out))= (a,oa)/\ wJ oa/\oa.Nodup/\(∃ l,oa=out++l)/\ (if (xV op).1.x=true then 0<=a/\a<(oa.length:Int)/\ tree oa a.toNat=x/\(oa=out\/a+1=oa.length) else a=0/\oa=out):=by
   by_cases hx:(xV op).1.x=true
   ·rw [if_pos hx] at h2 ⊢;obtain⟨v,n,l,k,e1,e2,e3,e4⟩:=jU x out h2 hv hn;refine⟨_,_,rfl,v,n,l,?_⟩;rw [if_pos hx,e1,χ];exact⟨by omega,by omega,e3,e4.imp id λh=>by omega⟩
   ·rw [if_neg hx] at h2 ⊢;exact⟨0,out,rfl,hv,hn,⟨[],by simp⟩,by rw [if_neg hx]; exact⟨rfl,rfl⟩⟩
  obtain⟨a,oa,ea,va,na,⟨la,rfl⟩,ha⟩:=A
  have B:∃ (b:Int) (ob:List Nd),(if (xV op).1.y=true then mV y (out++la) else(0,out++la))= (b,ob)/\ wJ ob/\ob.Nodup/\(∃ l,ob=out++la++l)/\ (if (xV op).1.y=true then 0<=b/\b<(ob.length:Int)/\ tree ob b.toNat=y/\(ob=out++la\/b+1=ob.length) else b=0/\ob=out++la):=by
   by_cases hy:(xV op).1.y=true
   ·rw [if_pos hy] at h3 ⊢;obtain⟨v,n,l,k,e1,e2,e3,e4⟩:=jU y (out++la) h3 va na;refine⟨_,_,rfl,v,n,l,?_⟩;rw [if_pos hy,e1,χ];exact⟨by omega,by omega,e3,e4.imp id λh=>by omega⟩
   ·rw [if_neg hy] at h3 ⊢;exact⟨0,out++la,rfl,va,na,⟨[],by simp⟩,by rw [if_neg hy]; exact⟨rfl,rfl⟩⟩
  obtain⟨b,ob,eb,vb,nb,⟨lb,rfl⟩,hb⟩:=B
  have hE:∀ n:Nat,(out++la++lb).length<=n->zG ⟨op,i,e,g,a,b⟩ n=0:=λn hln=>by
   refine jY (p:=⟨op,i,e,g,0,0⟩) h1 ?_ ?_
   ·simp only
    split
    ·rename_i h; rw [if_pos h] at ha; simp only [δ] at hln ha; omega
    ·rename_i h; rw [if_neg h] at ha; exact ha.1
   ·simp only
    split
    ·rename_i h; rw [if_pos h] at hb; omega
    ·rename_i h; rw [if_neg h] at hb; exact hb.1
  have tx:(if (xV op).1.x=true then tree (out++la++lb) a.toNat else .nil)= x:=by
   by_cases hx:(xV op).1.x=true
   ·rw [if_pos hx] at ha ⊢;rw [gO vb _ (by omega)]; exact ha.2.2.1
   ·rw [if_neg hx] at h2 ⊢; exact h2.symm
  have ty:(if (xV op).1.y=true then tree (out++la++lb) b.toNat else .nil)= y:=by
   by_cases hy:(xV op).1.y=true
   ·rw [if_pos hy] at hb ⊢;exact hb.2.2.1
   ·rw [if_neg hy] at h3 ⊢; exact h3.symm
  have hr:mV (.nd op i e g x y) out=match iG ⟨op,i,e,g,a,b⟩ (out++la++lb) 0 with
    | some k=>((k:Int),out++la++lb)
    | none=>(((out++la++lb).length:Int),out++la++lb ++ [⟨op,i,e,g,a,b⟩]):=by
   conv=>lhs; unfold mV
   simp only [ea,eb]
  rw [hr]
  cases hq:iG ⟨op,i,e,g,a,b⟩ (out++la++lb) 0 with
  | some k=>
   obtain⟨_,k1,k2⟩:=qx hq;rw [Nat.sub_zero] at k1 k2;have hvk:=vb k k1;obtain⟨ox,oy,_,_⟩:=uZ hvk;rw [k2] at ox oy;simp only at ox oy
   refine⟨vb,nb,⟨la++lb,by simp⟩,k,rfl,k1,?_,.inl ?_⟩
   ·rw [tV vb k1,k2];simp only [tx,ty]
   ·show out++la++lb=out
    have e1:out++la++lb=out++la:=by
     by_cases hy:(xV op).1.y=true
     ·rw [if_pos hy] at hb
      rcases hb.2.2.2 with h | h
      ·exact h
      ·have:=oy hy; omega
     ·rw [if_neg hy] at hb; exact hb.2
    have e2:out++la=out:=by
     by_cases hx:(xV op).1.x=true
     ·rw [if_pos hx] at ha
      rcases ha.2.2.2 with h | h
      ·exact h
      ·have:=ox hx;rw [e1] at k1;omega
     ·rw [if_neg hx] at ha; exact ha.2
    rw [e1,e2]
  | none=>
   have vs:wJ (out++la++lb ++ [⟨op,i,e,g,a,b⟩]):=cU vb (hE _ (Nat.le_refl _))
   refine⟨vs,?_,⟨la++lb ++ [⟨op,i,e,g,a,b⟩],by simp⟩,(out++la++lb).length,rfl,by simp,?_,.inr (by simp only [δ,ζ])⟩
   ·rw [List.nodup_append];refine⟨nb,by simp,λp hp q hq'=>?_⟩;rw [List.mem_singleton] at hq';subst hq';exact λe=>bu hq (e ▸ hp)
   ·have hgl:(out++la++lb ++ [(⟨op,i,e,g,a,b⟩:Nd)]).getD (out++la++lb).length nd0=⟨op,i,e,g,a,b⟩:=by simp [List.getD]
    rw [tV vs (by simp),hgl];simp only
    congr 1
    ·by_cases hx:(xV op).1.x=true
     ·rw [if_pos hx] at tx ha ⊢;rw [gO vs _ (by simp only [δ] at ha ⊢; omega)]; exact tx
     ·rw [if_neg hx] at tx ⊢; exact tx
    ·by_cases hy:(xV op).1.y=true
     ·rw [if_pos hy] at ty hb ⊢;rw [gO vs _ (by omega)]; exact ty
     ·rw [if_neg hy] at ty ⊢; exact ty
end Fm
open Rs Fm
namespace Fm
structure PY (f : List Nd) (s : CS) : Prop where
 v:wJ s.out
 n:s.out.Nodup
 d:∀ z k,vM z s.done=some k->∃ i j:Nat,z=i/\k=j/\i<f.length/\j<s.out.length/\tree s.out j=tree f i
theorem dU {f:List Nd} (hv:wJ f):∀ (n:Nat) {i:Nat} {s:CS},i<n->i<f.length->PY f s ->
  (xF f n i s).1=(mV (tree f i) s.out).1/\(xF f n i s).2.out=(mV (tree f i) s.out).2/\PY f (xF f n i s).2
 | 0,_,_,h,_,_=>by omega
 | n + 1,i,s,h,hi,hI=>by
  cases hu:vM (i:Int) s.done with
  | some k=>
   rw [xF,hu];obtain⟨i',j,e1,e2,_,e4,e5⟩:=hI.d _ _ hu;obtain rfl:i=i':=by omega
   rw [dW _ _ j hI.v hI.n e4 e5];exact⟨e2,rfl,hI⟩
  | none=>
   rw [nA hu];obtain⟨ox,oy,zx,zy⟩:=uZ (hv i hi);have hsp:=jU _ s.out (YM hv i hi) hI.v hI.n;rw [tV hv hi] at hsp ⊢;simp only;generalize hp:f.getD i nd0=p at hsp ox oy zx zy ⊢
   have S1:(if (xV p.op).1.x=true then xF f n p.x.toNat s else(p.x,s)).1=(if (xV p.op).1.x=true then mV (tree f p.x.toNat) s.out else(0,s.out)).1 /\
     (if (xV p.op).1.x=true then xF f n p.x.toNat s else(p.x,s)).2.out=(if (xV p.op).1.x=true then mV (tree f p.x.toNat) s.out else(0,s.out)).2/\PY f (if (xV p.op).1.x=true then xF f n p.x.toNat s else(p.x,s)).2:=by
    by_cases hx:(xV p.op).1.x=true
    ·rw [if_pos hx,if_pos hx];exact dU hv n (by have:=ox hx; omega) (by have:=ox hx; omega) hI
    ·rw [if_neg hx,if_neg hx];exact⟨zx (by simpa using hx),rfl,hI⟩
   have e1:(if (xV p.op).1.x=true then mV (if (xV p.op).1.x=true then tree f p.x.toNat else .nil) s.out else(0,s.out))= (if (xV p.op).1.x=true then mV (tree f p.x.toNat) s.out else(0,s.out)):=by
    by_cases hx:(xV p.op).1.x=true
    ·rw [if_pos hx,if_pos hx,if_pos hx]
    ·rw [if_neg hx,if_neg hx]
   have hfin:mV (.nd p.op p.i p.e p.g (if (xV p.op).1.x=true then tree f p.x.toNat else .nil) (if (xV p.op).1.y=true then tree f p.y.toNat else .nil)) s.out =
     (let a:=(if (xV p.op).1.x=true then mV (tree f p.x.toNat) s.out else(0,s.out))
      let b:=if (xV p.op).1.y=true then mV (tree f p.y.toNat) a.2 else(0,a.2)
      match iG ⟨p.op,p.i,p.e,p.g,a.1,b.1⟩ b.2 0 with
      | some k=>((k:Int),b.2)
      | none=>((b.2.length:Int),b.2 ++ [⟨p.op,p.i,p.e,p.g,a.1,b.1⟩])):=by
    conv=>lhs; unfold mV
    simp only [e1]
    by_cases hy:(xV p.op).1.y=true
    ·simp only [if_pos hy];all_goals rfl
    ·simp only [if_neg hy];all_goals rfl
   rw [hfin] at hsp ⊢;simp only at hsp ⊢;generalize (if (xV p.op).1.x=true then xF f n p.x.toNat s else(p.x,s))= A at S1 ⊢;generalize (if (xV p.op).1.x=true then mV (tree f p.x.toNat) s.out else(0,s.out))= A' at S1 hsp ⊢;obtain⟨a1,a2⟩:=A';obtain⟨A1,A2⟩:=A;obtain⟨rfl,rfl,IA⟩:=S1;simp only at hsp ⊢
   have S2:(if (xV p.op).1.y=true then xF f n p.y.toNat A2 else(p.y,A2)).1=(if (xV p.op).1.y=true then mV (tree f p.y.toNat) A2.out else(0,A2.out)).1 /\
     (if (xV p.op).1.y=true then xF f n p.y.toNat A2 else(p.y,A2)).2.out=(if (xV p.op).1.y=true then mV (tree f p.y.toNat) A2.out else(0,A2.out)).2/\PY f (if (xV p.op).1.y=true then xF f n p.y.toNat A2 else(p.y,A2)).2:=by
    by_cases hy:(xV p.op).1.y=true
    ·rw [if_pos hy,if_pos hy];exact dU hv n (by have:=oy hy; omega) (by have:=oy hy; omega) IA
    ·rw [if_neg hy,if_neg hy];exact⟨zy (by simpa using hy),rfl,IA⟩
   generalize (if (xV p.op).1.y=true then xF f n p.y.toNat A2 else(p.y,A2))= B at S2 ⊢;generalize (if (xV p.op).1.y=true then mV (tree f p.y.toNat) A2.out else(0,A2.out))= B' at S2 hsp ⊢;obtain⟨b1,b2⟩:=B';obtain⟨B1,B2⟩:=B;obtain⟨rfl,rfl,IB⟩:=S2;replace IB:PY f B2:=IB;simp only at hsp ⊢
   have hset:∀ (out':List Nd) (k:Nat),(∃ l,out'=B2.out++l)->wJ out'->out'.Nodup->k<out'.length->tree out' k=tree f i->PY f ⟨out',xk i k B2.done⟩:=by
    rintro out' k ⟨l,rfl⟩ hv' hn' hk' ht';refine⟨hv',hn',λz k' hz=>?_⟩;simp only at hz ⊢;rw [sR] at hz
    split at hz
    ·cases hz;exact⟨i,k,by assumption,rfl,hi,hk',ht'⟩
    ·obtain⟨i',j,q1,q2,q3,q4,q5⟩:=IB.d _ _ hz;exact⟨i',j,q1,q2,q3,by simp; omega,by rw [gO hv' _ q4]; exact q5⟩
   have htf:tree f i = .nd p.op p.i p.e p.g (if (xV p.op).1.x=true then tree f p.x.toNat else .nil) (if (xV p.op).1.y=true then tree f p.y.toNat else .nil):=by rw [tV hv hi,hp]
   unfold ig
   cases hq:iG ⟨p.op,p.i,p.e,p.g,A1,B1⟩ B2.out 0 with
   | some k=>
    rw [hq] at hsp;obtain⟨s1,s2,_,k',s3,s4,s5,_⟩:=hsp;simp only at s1 s2 s3 s4 s5 ⊢;obtain rfl:k=k':=by omega
    exact⟨trivial,trivial,hset _ k ⟨[],by simp⟩ s1 s2 s4 (by rw [s5,htf])⟩
   | none=>
    rw [hq] at hsp;obtain⟨s1,s2,_,k',s3,s4,s5,_⟩:=hsp;simp only at s1 s2 s3 s4 s5 ⊢;obtain rfl:B2.out.length=k':=by omega
    exact⟨trivial,trivial,hset _ _ ⟨_,rfl⟩ s1 s2 s4 (by rw [s5,htf])⟩
theorem bK {f:List Nd} (hv:wJ f) {i:Nat} (hi:i<f.length):uW f i=canon (tree f i):=(dU hv (i+1) (s:=⟨[],[]⟩) (by omega) hi ⟨λk h=>by simp at h,.nil,λz k h=>by cases h⟩).2.1
theorem Xb {t:Tr} (h:wfT t):wJ (canon t)/\ (canon t).Nodup/\0<(canon t).length/\tree (canon t) ((canon t).length-1)= t:=by
 obtain⟨v,n,_,k,e1,e2,e3,e4⟩:=jU t [] h (λk h=>by simp at h) .nil;refine⟨v,n,by unfold canon; omega,?_⟩
 have:k=(canon t).length-1:=by
  rcases e4 with e4 | e4
  ·rw [e4] at e2; simp at e2
  ·unfold canon; omega
 rw [<- this]; exact e3
theorem je {f:List Nd} (h:yN f=0):xB f=canon (tree f (f.length-1)):=by
 obtain⟨h1,h2,h3⟩:=vX h;have hl:0<f.length:=by cases f with | nil=>exact absurd rfl h1 | cons a b=>simp
 unfold xB ou;rw [if_neg (by omega),show ((f.length:Int)-1).toNat=f.length-1 by omega];exact bK h3 (by omega)
end Fm
section
open Rs Fm
namespace Fm
end Fm
end
section
open Rs Fm
namespace Fm
def oW (f:List Nd):Tr:=tree f (f.length-1)
theorem gf {f:List Nd} (h:yN f=0):wfT (oW f):=by
 obtain⟨h1,h2,h3⟩:=vX h;have hl:0<f.length:=by cases f with | nil=>exact absurd rfl h1 | cons a b=>simp
 exact YM h3 _ (by omega)
theorem gZ {f:List Nd} (h:yN f=0):tree (xB f) ((xB f).length-1)= oW f/\(xB f).Nodup:=by rw [je h];obtain⟨_,b,_,d⟩:=Xb (gf h);exact⟨d,b⟩
end Fm
end
section
open Rs Fm
namespace Fm
end Fm
end
section
open Rs Fm
namespace Fm
end Fm
end
section
open Rs Fm
namespace Fm
end Fm
end
open Rs Fm
namespace Fm
end Fm
open Rs Fm
namespace Ru
structure xG where
 loc:List (List Int)
 fac:List (BitVec 64)
structure tZ where
 ag:Int
 fa:Int
 ln:Int
 rs:List xG
def xG.row (r:xG):List D:=[.sl 1 (rl r.loc),.sl 1 (us r.fac)]
def zL (l:List xG):List (List D):=l.map xG.row
def tZ.cells (s:tZ):List D:=[.int .i64 s.ag,.int .i64 s.fa,.int .i64 s.ln,.sl 2 (zL s.rs)]
def tZ.d (s:tZ):D:=.agg s.cells
def tX : xG:=⟨[],[]⟩
theorem xJ (l:List xG):(zL l).length=l.length:=by simp [zL]
theorem vF (l:List xG) {i:Nat} (h:i<l.length):(zL l).getD i []=(l.getD i tX).row:=by simp [zL,List.getD,h]
theorem so (l:List xG):∀ e ∈ zL l,D.xU e=true:=by intro e he;simp only [zL,ν] at he;obtain⟨r,_,rfl⟩:=he;rfl
def ixF {α:Type} (f:α->Bool):List α->Int->Int
 | [],_=>-1
 | x :: r,i=>if f x=true then i else ixF f r (i+1)
theorem jB {α:Type} {f:α->Bool}:∀ {c:List α} {i:Int},0<=i->(0<=ixF f c i ↔ c.any f=true)
 | [],i,_=>by simp [ixF]
 | x :: r,i,h=>by
  unfold ixF
  by_cases hx:f x=true
  ·rw [if_pos hx,θ,hx]; simp [h]
  ·rw [if_neg hx,jB (by omega),θ]; simp [hx]
def jN (s:tZ) (r:xG):Bool:=!decide ((r.loc.length:Int)= s.ln) || !decide ((r.fac.length:Int)= s.ln) || r.loc.any λl=>!decide ((l.length:Int)= s.ag)
def ae (s:tZ) (r:xG):Bool:=r.fac.any λf=>!decide (f >>> s.fa.toNat=0#64)
def chk (s:tZ):Int:=
 if s.ag<0\/4<s.ag\/s.fa<0\/8<s.fa\/s.ln<1\/16<s.ln then 2 else
 if 64<(s.rs.length:Int)\/512<(s.rs.length:Int)* s.ln then 8 else
 if s.rs.length=0 then 3 else if s.rs.any (jN s)= true then 3 else if s.rs.any (ae s)= true then 2 else 0
end Ru
open Ru
theorem Qh {σ:St} {g:FuncId} {caps:List D} {f:BitVec 64->Bool} {c:List (BitVec 64)} (hl:c.length<=1000) (h:∀ x ∈ c,xY prog g ([.int .u64 (ui x)]++caps) σ (.bool (f x)) σ):xY prog 115 [.sl 1 (us c),.fn g caps] σ (.int .i64 (ixF f c 0)) σ:=by
 refine xY.xP mixed func115 Ko (by simp) λhf=>?_;simp only [simprocAttr,-ZA,↓zU,↓zD,zV,zT,zW,xI]
 refine xT (λk:Nat=>[(8,.int .i64 k),(7,.int .i64 c.length),(1,.fn g caps),(0,.sl 1 (us c))]) (λ_=>σ) (λk=>k<=c.length/\ixF f c 0=ixF f (c.drop k) k) (λk=>c.length-k) 0 ⟨π _,rfl⟩ ?_ ?_
 ·(refine xN.same ?_; simp [xQ,Fr.get])
 intro k ⟨hk,hi⟩;refine xO mixed ?_
 by_cases hh:k<c.length
 ·have hd:((k:Int)<(c.length:Int)):=by omega
  rw [drop_cons (d:=0) hh,ixF] at hi;simp only [simprocAttr,-ZA,↓zU,↓zD,zV,zT,zW,hd,xI,vI _ hh]
  (repeat refine sd ?_)
  refine .go (h _ (xR hh)) ?_
  cases hx:f (c.getD k 0)
  ·rw [hx,if_neg (by simp)] at hi;simp only [simprocAttr,-ZA,↓zU,↓zD,zV,zT,zW];refine⟨k+1,⟨by omega,hi⟩,?_,by omega⟩
   (refine xN.same ?_; simp only [xQ,Fr.get,simprocAttr,-ZA,zS])
   exact wrap_i64 (by omega)
  ·rw [hx,if_pos rfl] at hi;simp only [simprocAttr,-ZA,↓zU,↓zD,zV,zT,zW];rw [hi];exact .same
 ·have hd:¬ ((k:Int)<(c.length:Int)):=by omega
  rw [γ (by omega),ixF] at hi;simp only [simprocAttr,-ZA,↓zU,↓zD,zV,zT,zW,hd];rw [hi];exact .same
theorem iK {σ:St} {g:FuncId} {caps:List D} {f:BitVec 64->Bool} {c:List (BitVec 64)} (hl:c.length<=1000) (h:∀ x ∈ c,xY prog g ([.int .u64 (ui x)]++caps) σ (.bool (f x)) σ):xY prog 58 [.sl 1 (us c),.fn g caps] σ (.bool (c.any f)) σ:=by
 refine xY.xP mixed func58 k58 (by simp) λhf=>?_;simp only [simprocAttr,-ZA,↓zU,↓zD,zV,zT,zW];refine .go (Qh hl h) ?_;have hx:=jB (f:=f) (c:=c) (i:=0) (τ 0)
 cases ha:c.any f
 ·have h1:¬ 0<=ixF f c 0:=λy=>by rw [hx.1 y] at ha; cases ha
  simp only [simprocAttr,-ZA,↓zU,↓zD,zV,zT,zW,h1];exact .same
 ·have h1:=hx.2 ha;simp only [simprocAttr,-ZA,↓zU,↓zD,zV,zT,zW,h1];exact .same
theorem Qg {σ:St} {g:FuncId} {caps:List D} {f:List Int->Bool} {l:List (List Int)} (hl:l.length<=1000) (h:∀ x ∈ l,xY prog g ([.sl 1 (rows .i64 x)]++caps) σ (.bool (f x)) σ):xY prog 145 [.sl 1 (rl l),.fn g caps] σ (.int .i64 (ixF f l 0)) σ:=by
 refine xY.xP mixed func145 L5 (by simp) λhf=>?_;simp only [simprocAttr,-ZA,↓zU,↓zD,zV,zT,zW,yD]
 refine xT (λk:Nat=>[(8,.int .i64 k),(7,.int .i64 l.length),(1,.fn g caps),(0,.sl 1 (rl l))]) (λ_=>σ) (λk=>k<=l.length/\ixF f l 0=ixF f (l.drop k) k) (λk=>l.length-k) 0 ⟨π _,rfl⟩ ?_ ?_
 ·(refine xN.same ?_; simp [xQ,Fr.get])
 intro k ⟨hk,hi⟩;refine xO mixed ?_
 by_cases hh:k<l.length
 ·have hd:((k:Int)<(l.length:Int)):=by omega
  rw [drop_cons (d:=[]) hh,ixF] at hi;simp only [simprocAttr,-ZA,↓zU,↓zD,zV,zT,zW,hd,yD,tH _ hh]
  (repeat refine sd ?_)
  refine .go (h _ (xR hh)) ?_
  cases hx:f (l.getD k [])
  ·rw [hx,if_neg (by simp)] at hi;simp only [simprocAttr,-ZA,↓zU,↓zD,zV,zT,zW];refine⟨k+1,⟨by omega,hi⟩,?_,by omega⟩
   (refine xN.same ?_; simp only [xQ,Fr.get,simprocAttr,-ZA,zS])
   exact wrap_i64 (by omega)
  ·rw [hx,if_pos rfl] at hi;simp only [simprocAttr,-ZA,↓zU,↓zD,zV,zT,zW];rw [hi];exact .same
 ·have hd:¬ ((k:Int)<(l.length:Int)):=by omega
  rw [γ (by omega),ixF] at hi;simp only [simprocAttr,-ZA,↓zU,↓zD,zV,zT,zW,hd];rw [hi];exact .same
theorem Xn {σ:St} {g:FuncId} {caps:List D} {f:List Int->Bool} {l:List (List Int)} (hl:l.length<=1000) (h:∀ x ∈ l,xY prog g ([.sl 1 (rows .i64 x)]++caps) σ (.bool (f x)) σ):xY prog 97 [.sl 1 (rl l),.fn g caps] σ (.bool (l.any f)) σ:=by
 refine xY.xP mixed func97 k97 (by simp) λhf=>?_;simp only [simprocAttr,-ZA,↓zU,↓zD,zV,zT,zW];refine .go (Qg hl h) ?_;have hx:=jB (f:=f) (c:=l) (i:=0) (τ 0)
 cases ha:l.any f
 ·have h1:¬ 0<=ixF f l 0:=λy=>by rw [hx.1 y] at ha; cases ha
  simp only [simprocAttr,-ZA,↓zU,↓zD,zV,zT,zW,h1];exact .same
 ·have h1:=hx.2 ha;simp only [simprocAttr,-ZA,↓zU,↓zD,zV,zT,zW,h1];exact .same
theorem O3 {nx:Nat} {xZ:List (Nat × Ob)} {s:tZ} (h0:St.look xZ 0=some ⟨4,[s.cells]⟩) (x:List Int):xY prog 98 ([.sl 1 (rows .i64 x)] ++ [.ref 0 4 0 0]) ⟨nx,xZ⟩ (.bool (!decide ((x.length:Int)= s.ag))) ⟨nx,xZ⟩:=by
 refine xY.xP mixed func98 k98 (by simp) λhf=>?_;unfold tZ.cells at h0;simp only [simprocAttr,-ZA,↓zU,↓zD,zV,zT,zW,h0]
 (repeat refine sd ?_)
 rw [show ((x.length:Int) != s.ag)= !decide ((x.length:Int)= s.ag) by rw [bne]; congr 1];exact .same
theorem N8 {nx:Nat} {xZ:List (Nat × Ob)} {s:tZ} (h0:St.look xZ 0=some ⟨4,[s.cells]⟩) (hf:0<=s.fa) (x:BitVec 64):xY prog 99 ([.int .u64 (ui x)] ++ [.ref 0 4 0 0]) ⟨nx,xZ⟩ (.bool (!decide (x >>> s.fa.toNat=0#64))) ⟨nx,xZ⟩:=by
 refine xY.xP mixed func99 k99 (by simp) λhf=>?_;unfold tZ.cells at h0;simp only [simprocAttr,-ZA,↓zU,↓zD,zV,zT,zW,h0]
 (repeat refine sd ?_)
 rw [show (x >>> s.fa.toNat != 0#64)= !decide (x >>> s.fa.toNat=0#64) by rw [bne]; congr 1];exact .same
theorem lS (s:tZ):zX prog 43 [s.d] (.int .i64 (chk s)):=by
 have hD:s.d = .agg [.int .i64 s.ag,.int .i64 s.fa,.int .i64 s.ln,.sl 2 (zL s.rs)]:=rfl;rw [hD];refine xY.xP mixed func43 k43 (by simp) λhf=>?_
 by_cases a1:s.ag<0
 ·rw [show chk s=2 by unfold chk; rw [if_pos (.inl a1)]];simp only [simprocAttr,-ZA,↓zU,↓zD,zV,zT,zW,a1];exact .dv
 by_cases a2:4<s.ag
 ·rw [show chk s=2 by unfold chk; rw [if_pos (by omega)]];simp only [simprocAttr,-ZA,↓zU,↓zD,zV,zT,zW,a1,a2];exact .dv
 by_cases a3:s.fa<0
 ·rw [show chk s=2 by unfold chk; rw [if_pos (by omega)]];simp only [simprocAttr,-ZA,↓zU,↓zD,zV,zT,zW,a1,a2,a3];exact .dv
 by_cases a4:8<s.fa
 ·rw [show chk s=2 by unfold chk; rw [if_pos (by omega)]];simp only [simprocAttr,-ZA,↓zU,↓zD,zV,zT,zW,a1,a2,a3,a4];exact .dv
 by_cases a5:s.ln<1
 ·rw [show chk s=2 by unfold chk; rw [if_pos (by omega)]];simp only [simprocAttr,-ZA,↓zU,↓zD,zV,zT,zW,a1,a2,a3,a4,a5];exact .dv
 by_cases a6:16<s.ln
 ·rw [show chk s=2 by unfold chk; rw [if_pos (by omega)]];simp only [simprocAttr,-ZA,↓zU,↓zD,zV,zT,zW,a1,a2,a3,a4,a5,a6];exact .dv
 have e0:chk s=if 64<(s.rs.length:Int)\/512<(s.rs.length:Int)* s.ln then 8 else
  if s.rs.length=0 then 3 else if s.rs.any (jN s)= true then 3 else if s.rs.any (ae s)= true then 2 else 0:=by
  unfold chk; rw [if_neg (by omega)]
 by_cases b1:64<(s.rs.length:Int)
 ·rw [e0,if_pos (.inl b1)];simp only [simprocAttr,-ZA,↓zU,↓zD,zV,zT,zW,a1,a2,a3,a4,a5,a6,xJ,b1];exact .dv
 have hm:(s.rs.length:Int)* s.ln<=64*16:=Int.mul_le_mul (by omega) (by omega) (by omega) (by omega);have hm0:0<=(s.rs.length:Int)* s.ln:=Int.mul_nonneg (by omega) (by omega);have hw:IntKind.i64.wrap ((s.rs.length:Int)* s.ln)= (s.rs.length:Int)* s.ln:=wrap_i64 (by omega)
 by_cases b2:512<(s.rs.length:Int)* s.ln
 ·rw [e0,if_pos (.inr b2)];simp only [simprocAttr,-ZA,↓zU,↓zD,zV,zT,zW,a1,a2,a3,a4,a5,a6,xJ,b1,hw,b2];exact .dv
 rw [e0,if_neg (by omega)]
 by_cases b3:s.rs.length=0
 ·rw [if_pos b3];have b3':((s.rs.length:Int)== 0)= true:=by rw [b3]; rfl
  simp only [simprocAttr,-ZA,↓zU,↓zD,zV,zT,zW,a1,a2,a3,a4,a5,a6,xJ,b1,hw,b2,b3'];exact .dv
 rw [if_neg b3];have b3':((s.rs.length:Int)== 0)= false:=by rw [beq_eq_false_iff_ne]; omega
 simp only [simprocAttr,-ZA,↓zU,↓zD,zV,zT,zW,a1,a2,a3,a4,a5,a6,xJ,b1,hw,b2,b3']
 refine xT (λk:Nat=>[(55,.int .i64 k),(54,.int .i64 s.rs.length),(53,.sl 2 (zL s.rs)),(1,.ref 0 4 0 0)]) (λ_=>⟨1,[(0,⟨4,[[.int .i64 s.ag,.int .i64 s.fa,.int .i64 s.ln,.sl 2 (zL s.rs)]]⟩)]⟩)
  (λk=>k<=s.rs.length/\s.rs.any (jN s)= (s.rs.drop k).any (jN s)) (λk=>s.rs.length-k) 0 ⟨π _,rfl⟩ ?_ ?_
 ·(refine xN.same ?_; simp [xQ,Fr.get])
 intro k ⟨hk,hi⟩;refine xO mixed ?_;by_cases hkl:k<s.rs.length
 case neg=>
  have hd:¬ ((k:Int)<(s.rs.length:Int)):=by omega
  rw [γ (by omega),List.any_nil] at hi;rw [if_neg (by rw [hi]; simp)];simp only [simprocAttr,-ZA,↓zU,↓zD,zV,zT,zW,hd,xJ]
  refine xT (λk:Nat=>[(83,.int .i64 k),(82,.int .i64 s.rs.length),(81,.sl 2 (zL s.rs)),(1,.ref 0 4 0 0)]) (λ_=>⟨1,[(0,⟨4,[[.int .i64 s.ag,.int .i64 s.fa,.int .i64 s.ln,.sl 2 (zL s.rs)]]⟩)]⟩)
   (λk=>k<=s.rs.length/\s.rs.any (ae s)= (s.rs.drop k).any (ae s)) (λk=>s.rs.length-k) 0 ⟨π _,rfl⟩ ?_ ?_
  ·(refine xN.same ?_; simp [xQ,Fr.get])
  intro k ⟨hk,hv⟩;refine xO mixed ?_;by_cases hkl:k<s.rs.length
  case neg=>
   have hd:¬ ((k:Int)<(s.rs.length:Int)):=by omega
   rw [γ (by omega),List.any_nil] at hv;rw [if_neg (by rw [hv]; simp)];simp only [simprocAttr,-ZA,↓zU,↓zD,zV,zT,zW,hd];exact .dv
  have hd:((k:Int)<(s.rs.length:Int)):=by omega
  rw [drop_cons (d:=tX) hkl,θ] at hv
  have hnb:jN s (s.rs.getD k tX)= false:=by have:=ο.1 hi _ (xR (d:=tX) hkl);simpa using this
  have hg:=vF s.rs hkl;generalize s.rs.getD k tX=r at hg hv hnb
  have hfl:r.fac.length<=1000:=by simp only [jN,Bool.or_eq_false_iff,Bool.not_eq_false',decide_eq_true_eq] at hnb;omega
  have hc:=iK (σ:=⟨2,[(1,⟨2,[r.row]⟩),(0,⟨4,[s.cells]⟩)]⟩) (g:=99) (caps:=[.ref 0 4 0 0]) (c:=r.fac) (f:=λf=>!decide (f >>> s.fa.toNat=0#64)) hfl λx _=>N8 rfl (by omega) x;simp only [tZ.cells,xG.row] at hc;simp only [simprocAttr,-ZA,↓zU,↓zD,zV,zT,zW,hd,xJ,hg,xG.row]
  (repeat refine sd ?_)
  refine .go hc ?_
  cases hb:r.fac.any λf=>!decide (f >>> s.fa.toNat=0#64)
  ·simp only [simprocAttr,-ZA,↓zU,↓zD,zV,zT,zW]
   refine⟨k+1,⟨by omega,?_⟩,?_,by omega⟩
   ·rw [hv,show ae s r=false from hb,Bool.false_or]
   (refine xN.ren [] [0] (by simp) (by simp) (by decide) ?_; simp only [yT,zQ,simprocAttr,-ZA,exists_eq_left',ne_eq,zR])
   exact wrap_i64 (by omega)
  ·rw [if_pos (by rw [hv,show ae s r=true from hb,Bool.true_or])];simp only [simprocAttr,-ZA,↓zU,↓zD,zV,zT,zW];exact .dv
 have hd:((k:Int)<(s.rs.length:Int)):=by omega
 rw [drop_cons (d:=tX) hkl,θ] at hi;have hg:=vF s.rs hkl;generalize s.rs.getD k tX=r at hg hi;have hend:jN s r=true->s.rs.any (jN s)= true:=λh=>by rw [hi,h,Bool.true_or]
 by_cases c1:(r.loc.length:Int)= s.ln
 case neg=>
  have e1:((r.loc.length:Int) != s.ln)= true:=by simpa using c1
  rw [if_pos (hend (by unfold jN; simp [c1]))];simp only [simprocAttr,-ZA,↓zU,↓zD,zV,zT,zW,hd,xJ,hg,xG.row,yD,e1]
  (repeat refine sd ?_)
  exact .dv
 have e1:((r.loc.length:Int) != s.ln)= false:=by simpa using c1
 by_cases c2:(r.fac.length:Int)= s.ln
 case neg=>
  have e2:((r.fac.length:Int) != s.ln)= true:=by simpa using c2
  rw [if_pos (hend (by unfold jN; simp [c2]))];simp only [simprocAttr,-ZA,↓zU,↓zD,zV,zT,zW,hd,xJ,hg,xG.row,yD,e1,xI,e2]
  (repeat refine sd ?_)
  exact .dv
 have e2:((r.fac.length:Int) != s.ln)= false:=by simpa using c2
 have hc:=Xn (σ:=⟨2,[(1,⟨2,[r.row]⟩),(0,⟨4,[s.cells]⟩)]⟩) (g:=98) (caps:=[.ref 0 4 0 0]) (l:=r.loc) (f:=λl=>!decide ((l.length:Int)= s.ag)) (by omega) λx _=>O3 rfl x;simp only [tZ.cells,xG.row] at hc;have hbf:jN s r=r.loc.any λl=>!decide ((l.length:Int)= s.ag):=by unfold jN; simp [c1,c2]
 simp only [simprocAttr,-ZA,↓zU,↓zD,zV,zT,zW,hd,xJ,hg,xG.row,yD,e1,xI,e2]
 (repeat refine sd ?_)
 refine .go hc ?_;rw [<- hbf]
 cases hb:jN s r
 ·simp only [simprocAttr,-ZA,↓zU,↓zD,zV,zT,zW]
  refine⟨k+1,⟨by omega,?_⟩,?_,by omega⟩
  ·rw [hi,hb,Bool.false_or]
  (refine xN.ren [] [0] (by simp) (by simp) (by decide) ?_; simp only [yT,zQ,simprocAttr,-ZA,exists_eq_left',ne_eq,zR])
  exact wrap_i64 (by omega)
 ·rw [if_pos (hend hb)];simp only [simprocAttr,-ZA,↓zU,↓zD,zV,zT,zW];exact .dv
open Rs Fm Ru
namespace Kb
structure ClA where
 test:List Nd
 mv:Int
structure AsA where
 fact:Int
 to:List Nd
structure PrA where
 F:Int
 init:List (BitVec 64)
 see:List (BitVec 64)
 yW:List (List AsA)
 code:List (List ClA)
def cl0 : ClA:=⟨[],0⟩
def as0 : AsA:=⟨0,[]⟩
def ClA.row (c:ClA):List D:=[.sl 6 (ndR c.test),.int .i64 c.mv]
def AsA.row (a:AsA):List D:=[.int .i64 a.fact,.sl 6 (ndR a.to)]
def clR (l:List ClA):List (List D):=l.map ClA.row
def asR (l:List AsA):List (List D):=l.map AsA.row
def mvR (l:List (List AsA)):List (List D):=l.map λs=>[.sl 2 (asR s)]
def cdR (l:List (List ClA)):List (List D):=l.map λs=>[.sl 2 (clR s)]
def PrA.cells (p:PrA):List D:=[.int .i64 p.F,.sl 1 (us p.init),.sl 1 (us p.see),.sl 1 (mvR p.yW),.sl 1 (cdR p.code)]
def PrA.d (p:PrA):D:=.agg p.cells
theorem iY (l:List ClA):(clR l).length=l.length:=by simp [clR]
theorem oI (l:List AsA):(asR l).length=l.length:=by simp [asR]
theorem pV (l:List (List AsA)):(mvR l).length=l.length:=by simp [mvR]
theorem oJ (l:List (List ClA)):(cdR l).length=l.length:=by simp [cdR]
theorem Zo (l:List ClA) {i:Nat} (h:i<l.length):(clR l).getD i []=(l.getD i cl0).row:=by simp [clR,List.getD,h]
theorem kn (l:List AsA) {i:Nat} (h:i<l.length):(asR l).getD i []=(l.getD i as0).row:=by simp [asR,List.getD,h]
theorem me (l:List (List AsA)) {i:Nat} (h:i<l.length):(mvR l).getD i [] = [.sl 2 (asR (l.getD i []))]:=by simp [mvR,List.getD,h]
theorem kp (l:List (List ClA)) {i:Nat} (h:i<l.length):(cdR l).getD i [] = [.sl 2 (clR (l.getD i []))]:=by simp [cdR,List.getD,h]
def rN {α:Type} (f:α->Int):List α->Int
 | []=>0
 | x :: r=>if f x≠0 then f x else rN f r
theorem oA {α:Type} {f:α->Int}:∀ {l:List α},rN f l=0 ↔ ∀ x ∈ l,f x=0
 | []=>by simp [rN]
 | x :: r=>by
  unfold rN
  by_cases h:f x=0
  ·rw [if_neg (by simpa using h),oA]; simp [h]
  ·rw [if_pos h]; simp [h]
def Vh (l:List Int):Bool:=(List.range (l.length-1)).all λi=>decide (l.getD i 0<l.getD (i+1) 0)
def fmE (p:PrA) (f:List Nd) (frags:Int):Int:= if yN f≠0 then yN f else if (pJ .andNot .i64 (zC f) frags != 0)= true then 10 else if sU f p.see.length p.F=true then 0 else 2
def asE (p:PrA) (a:AsA):Int:=if a.fact<0\/p.F<=a.fact then 2 else fmE p a.to 0
def clE (p:PrA) (c:ClA):Int:=if fmE p c.test 15≠0 then fmE p c.test 15 else if c.mv < -1\/(p.yW.length:Int)<=c.mv then 2 else 0
def XB (p:PrA) (s:BitVec 64):Bool:=!decide (s >>> p.F.toNat=0#64)
def Pb (l:List (BitVec 64)):Bool:=Vh (l.map ui)
def Sq (s:List AsA):Bool:=Vh (s.map (·.fact))
def mP (p:PrA):Int:=
 if p.F<0\/8<p.F then 2 else
 if 4<p.see.length\/16<p.init.length\/8<p.yW.length\/p.code.any (λl=>decide (6<l.length))= true then 8 else
 if p.see.length=0\/p.init.length=0\/p.code.length≠p.see.length\/p.init.any (XB p)= true\/p.see.any (XB p)= true then 3 else
 if Pb p.init=false\/p.yW.any (λs=>!Sq s)= true then 9 else 0
def oX (p:PrA):Int:= if mP p≠0 then mP p else if rN (rN (asE p)) p.yW≠0 then rN (rN (asE p)) p.yW else rN (rN (clE p)) p.code
structure gp (p : PrA) : Prop where
 init:p.init.length<=2000000
 code:p.code.length<=2000000
 mv:∀ s ∈ p.yW,s.length<=4400000000000
end Kb
open Kb
theorem vn {l:List Int} (h:∀ i,i+1<l.length->l.getD i 0<l.getD (i+1) 0):Vh l=true:=by unfold Vh;rw [List.all_eq_true];intro i hi;have:=List.mem_range.1 hi;exact decide_eq_true (h i (by omega))
theorem vo {l:List Int} {i:Nat} (hi:i+1<l.length) (h:¬ l.getD i 0<l.getD (i+1) 0):Vh l=false:=by unfold Vh;rw [List.all_eq_false];exact⟨i,List.mem_range.2 (by omega),by simpa using h⟩
theorem T9 {l:List Int}:Vh l=true ↔ ∀ i,i+1<l.length->l.getD i 0<l.getD (i+1) 0:=by refine⟨λh i hi=>Decidable.byContradiction λhh=>?_,vn⟩;rw [vo hi hh] at h; cases h
theorem Mh (l:List Int) (hl:l.length<=2000000):zX prog 59 [.sl 1 (rows .u64 l)] (.bool (Vh l)):=by
 refine xY.xP mixed func59 k59 (by simp) λhf=>?_;simp only [simprocAttr,-ZA,↓zU,↓zD,zV,zT,zW]
 refine xT (λk:Nat=>[(3,.int .i64 ((k+1:Nat):Int)),(0,.sl 1 (rows .u64 l))]) (λ_=>⟨0,[]⟩) (λk=>k<=l.length/\∀ i,i<k->i+1<l.length->l.getD i 0<l.getD (i+1) 0) (λk=>l.length-k) 0 ⟨π _,λi hi=>absurd hi (Nat.not_lt_zero _)⟩ ?_ ?_
 ·(refine xN.same ?_; simp [xQ,Fr.get])
 intro k ⟨hk,hi⟩;refine xO mixed ?_
 by_cases hh:k+1<l.length
 ·have hd:(((k+1:Nat):Int)<(l.length:Int)):=by omega
  have hw:IntKind.i64.wrap (((k+1:Nat):Int)-1)= (k:Int):=by rw [wrap_i64 (by omega)]; omega
  have hd2:((k:Int)<(l.length:Int)):=by omega
  have g1:=yV .u64 l (show k<l.length by omega);have g2:=yV .u64 l hh
  by_cases hlt:l.getD k 0<l.getD (k+1) 0
  ·have hlt2:¬ l.getD (k+1) 0<=l.getD k 0:=by omega
   simp only [simprocAttr,-ZA,↓zU,↓zD,zV,zT,zW,hd,yZ,hw,hd2,g1,g2,hlt2]
   (repeat refine sd ?_)
   refine⟨k+1,⟨by omega,λi h1 h2=>?_⟩,?_,by omega⟩
   ·by_cases e:i=k
    ·rw [e]; exact hlt
    ·exact hi i (by omega) h2
   (refine xN.same ?_; simp only [xQ,Fr.get,simprocAttr,-ZA,zS])
   exact wrap_i64 (by omega)
  ·have hlt2:l.getD (k+1) 0<=l.getD k 0:=by omega
   simp only [simprocAttr,-ZA,↓zU,↓zD,zV,zT,zW,hd,yZ,hw,hd2,g1,g2,hlt2]
   (repeat refine sd ?_)
   rw [vo hh hlt];exact .same
 ·have hd:¬ (((k+1:Nat):Int)<(l.length:Int)):=by omega
  rw [vn λi h=>hi i (by omega) h];simp only [simprocAttr,-ZA,↓zU,↓zD,zV,zT,zW,hd,yZ];exact .same
theorem Mj (l:List Int) (hl:l.length<=4400000000000):zX prog 62 [.sl 1 (rows .i64 l)] (.bool (Vh l)):=by
 refine xY.xP mixed func62 k62 (by simp) λhf=>?_;simp only [simprocAttr,-ZA,↓zU,↓zD,zV,zT,zW]
 refine xT (λk:Nat=>[(3,.int .i64 ((k+1:Nat):Int)),(0,.sl 1 (rows .i64 l))]) (λ_=>⟨0,[]⟩) (λk=>k<=l.length/\∀ i,i<k->i+1<l.length->l.getD i 0<l.getD (i+1) 0) (λk=>l.length-k) 0 ⟨π _,λi hi=>absurd hi (Nat.not_lt_zero _)⟩ ?_ ?_
 ·(refine xN.same ?_; simp [xQ,Fr.get])
 intro k ⟨hk,hi⟩;refine xO mixed ?_
 by_cases hh:k+1<l.length
 ·have hd:(((k+1:Nat):Int)<(l.length:Int)):=by omega
  have hw:IntKind.i64.wrap (((k+1:Nat):Int)-1)= (k:Int):=by rw [wrap_i64 (by omega)]; omega
  have hd2:((k:Int)<(l.length:Int)):=by omega
  have g1:=yV .i64 l (show k<l.length by omega);have g2:=yV .i64 l hh
  by_cases hlt:l.getD k 0<l.getD (k+1) 0
  ·have hlt2:¬ l.getD (k+1) 0<=l.getD k 0:=by omega
   simp only [simprocAttr,-ZA,↓zU,↓zD,zV,zT,zW,hd,yZ,hw,hd2,g1,g2,hlt2]
   (repeat refine sd ?_)
   refine⟨k+1,⟨by omega,λi h1 h2=>?_⟩,?_,by omega⟩
   ·by_cases e:i=k
    ·rw [e]; exact hlt
    ·exact hi i (by omega) h2
   (refine xN.same ?_; simp only [xQ,Fr.get,simprocAttr,-ZA,zS])
   exact wrap_i64 (by omega)
  ·have hlt2:l.getD (k+1) 0<=l.getD k 0:=by omega
   simp only [simprocAttr,-ZA,↓zU,↓zD,zV,zT,zW,hd,yZ,hw,hd2,g1,g2,hlt2]
   (repeat refine sd ?_)
   rw [vo hh hlt];exact .same
 ·have hd:¬ (((k+1:Nat):Int)<(l.length:Int)):=by omega
  rw [vn λi h=>hi i (by omega) h];simp only [simprocAttr,-ZA,↓zU,↓zD,zV,zT,zW,hd,yZ];exact .same
theorem Tc {σ:St} {g:FuncId} {caps:List D} {f:List ClA->Bool} {c:List (List ClA)} (hl:c.length<=2000000) (h:∀ x ∈ c,xY prog g ([.sl 2 (clR x)]++caps) σ (.bool (f x)) σ):xY prog 114 [.sl 1 (cdR c),.fn g caps] σ (.int .i64 (ixF f c 0)) σ:=by
 refine xY.xP mixed func114 Kn (by simp) λhf=>?_;simp only [simprocAttr,-ZA,↓zU,↓zD,zV,zT,zW,oJ]
 refine xT (λk:Nat=>[(8,.int .i64 k),(7,.int .i64 c.length),(1,.fn g caps),(0,.sl 1 (cdR c))]) (λ_=>σ) (λk=>k<=c.length/\ixF f c 0=ixF f (c.drop k) k) (λk=>c.length-k) 0 ⟨π _,rfl⟩ ?_ ?_
 ·(refine xN.same ?_; simp [xQ,Fr.get])
 intro k ⟨hk,hi⟩;refine xO mixed ?_
 by_cases hh:k<c.length
 ·have hd:((k:Int)<(c.length:Int)):=by omega
  rw [drop_cons (d:=[]) hh,ixF] at hi;simp only [simprocAttr,-ZA,↓zU,↓zD,zV,zT,zW,hd,oJ,kp _ hh]
  (repeat refine sd ?_)
  refine .go (h _ (xR hh)) ?_
  cases hx:f (c.getD k [])
  ·rw [hx,if_neg (by simp)] at hi;simp only [simprocAttr,-ZA,↓zU,↓zD,zV,zT,zW];refine⟨k+1,⟨by omega,hi⟩,?_,by omega⟩
   (refine xN.same ?_; simp only [xQ,Fr.get,simprocAttr,-ZA,zS])
   exact wrap_i64 (by omega)
  ·rw [hx,if_pos rfl] at hi;simp only [simprocAttr,-ZA,↓zU,↓zD,zV,zT,zW];rw [hi];exact .same
 ·have hd:¬ ((k:Int)<(c.length:Int)):=by omega
  rw [γ (by omega),ixF] at hi;simp only [simprocAttr,-ZA,↓zU,↓zD,zV,zT,zW,hd];rw [hi];exact .same
theorem Xo {σ:St} {g:FuncId} {caps:List D} {f:List ClA->Bool} {c:List (List ClA)} (hl:c.length<=2000000) (h:∀ x ∈ c,xY prog g ([.sl 2 (clR x)]++caps) σ (.bool (f x)) σ):xY prog 56 [.sl 1 (cdR c),.fn g caps] σ (.bool (c.any f)) σ:=by
 refine xY.xP mixed func56 k56 (by simp) λhf=>?_;simp only [simprocAttr,-ZA,↓zU,↓zD,zV,zT,zW];refine .go (Tc hl h) ?_;have hx:=jB (f:=f) (c:=c) (i:=0) (τ 0)
 cases ha:c.any f
 ·have h1:¬ 0<=ixF f c 0:=λy=>by rw [hx.1 y] at ha; cases ha
  simp only [simprocAttr,-ZA,↓zU,↓zD,zV,zT,zW,h1];exact .same
 ·have h1:=hx.2 ha;simp only [simprocAttr,-ZA,↓zU,↓zD,zV,zT,zW,h1];exact .same
theorem Td {σ:St} {g:FuncId} {caps:List D} {f:List AsA->Bool} {c:List (List AsA)} (hl:c.length<=2000000) (h:∀ x ∈ c,xY prog g ([.agg [.sl 2 (asR x)]]++caps) σ (.bool (f x)) σ):xY prog 116 [.sl 1 (mvR c),.fn g caps] σ (.int .i64 (ixF f c 0)) σ:=by
 refine xY.xP mixed func116 Kp (by simp) λhf=>?_;simp only [simprocAttr,-ZA,↓zU,↓zD,zV,zT,zW,pV]
 refine xT (λk:Nat=>[(8,.int .i64 k),(7,.int .i64 c.length),(1,.fn g caps),(0,.sl 1 (mvR c))]) (λ_=>σ) (λk=>k<=c.length/\ixF f c 0=ixF f (c.drop k) k) (λk=>c.length-k) 0 ⟨π _,rfl⟩ ?_ ?_
 ·(refine xN.same ?_; simp [xQ,Fr.get])
 intro k ⟨hk,hi⟩;refine xO mixed ?_
 by_cases hh:k<c.length
 ·have hd:((k:Int)<(c.length:Int)):=by omega
  rw [drop_cons (d:=[]) hh,ixF] at hi;simp only [simprocAttr,-ZA,↓zU,↓zD,zV,zT,zW,hd,pV,me _ hh]
  (repeat refine sd ?_)
  refine .go (h _ (xR hh)) ?_
  cases hx:f (c.getD k [])
  ·rw [hx,if_neg (by simp)] at hi;simp only [simprocAttr,-ZA,↓zU,↓zD,zV,zT,zW];refine⟨k+1,⟨by omega,hi⟩,?_,by omega⟩
   (refine xN.same ?_; simp only [xQ,Fr.get,simprocAttr,-ZA,zS])
   exact wrap_i64 (by omega)
  ·rw [hx,if_pos rfl] at hi;simp only [simprocAttr,-ZA,↓zU,↓zD,zV,zT,zW];rw [hi];exact .same
 ·have hd:¬ ((k:Int)<(c.length:Int)):=by omega
  rw [γ (by omega),ixF] at hi;simp only [simprocAttr,-ZA,↓zU,↓zD,zV,zT,zW,hd];rw [hi];exact .same
theorem Xp {σ:St} {g:FuncId} {caps:List D} {f:List AsA->Bool} {c:List (List AsA)} (hl:c.length<=2000000) (h:∀ x ∈ c,xY prog g ([.agg [.sl 2 (asR x)]]++caps) σ (.bool (f x)) σ):xY prog 60 [.sl 1 (mvR c),.fn g caps] σ (.bool (c.any f)) σ:=by
 refine xY.xP mixed func60 k60 (by simp) λhf=>?_;simp only [simprocAttr,-ZA,↓zU,↓zD,zV,zT,zW];refine .go (Td hl h) ?_;have hx:=jB (f:=f) (c:=c) (i:=0) (τ 0)
 cases ha:c.any f
 ·have h1:¬ 0<=ixF f c 0:=λy=>by rw [hx.1 y] at ha; cases ha
  simp only [simprocAttr,-ZA,↓zU,↓zD,zV,zT,zW,h1];exact .same
 ·have h1:=hx.2 ha;simp only [simprocAttr,-ZA,↓zU,↓zD,zV,zT,zW,h1];exact .same
open Rs Fm Ru Kb
theorem N0 {nx:Nat} {xZ:List (Nat × Ob)} {p:PrA} (h0:St.look xZ 0=some ⟨5,[p.cells]⟩) (hf:0<=p.F) (x:BitVec 64):xY prog 55 ([.int .u64 (ui x)] ++ [.ref 0 5 0 0]) ⟨nx,xZ⟩ (.bool (XB p x)) ⟨nx,xZ⟩:=by
 unfold PrA.cells at h0;refine xY.xP mixed func55 k55 (by simp) λhf=>?_;simp only [simprocAttr,-ZA,↓zU,↓zD,zV,zT,zW,h0]
 (repeat refine sd ?_)
 unfold XB
 by_cases hx:x >>> p.F.toNat=0#64
 ·have ex:(x >>> p.F.toNat != 0#64)= false:=by simpa using hx
  rw [decide_eq_true hx];simp only [simprocAttr,-ZA,↓zU,↓zD,zV,zT,zW,ex];exact .same
 ·have ex:(x >>> p.F.toNat != 0#64)= true:=by simpa using hx
  rw [decide_eq_false hx];simp only [simprocAttr,-ZA,↓zU,↓zD,zV,zT,zW,ex];exact .same
theorem O9 (l:List ClA):zX prog 57 [.sl 2 (clR l)] (.bool (decide (6<l.length))):=by
 refine xY.xP mixed func57 k57 (by simp) λhf=>?_
 by_cases h:6<l.length
 ·have h':(6:Int)<(l.length:Int):=by omega
  rw [decide_eq_true h];simp only [simprocAttr,-ZA,↓zU,↓zD,zV,zT,zW,iY,h'];exact .same
 ·have h':¬ (6:Int)<(l.length:Int):=by omega
  rw [decide_eq_false h];simp only [simprocAttr,-ZA,↓zU,↓zD,zV,zT,zW,iY,h'];exact .same
theorem Xa (s:List AsA) (hl:s.length<=4400000000000):zX prog 63 [.agg [.sl 2 (asR s)]] (.sl 1 (rows .i64 (s.map (·.fact)))):=by
 refine xY.xP mixed func63 k63 (by simp) λhf=>?_;simp only [simprocAttr,-ZA,↓zU,↓zD,zV,zT,zW,oI]
 refine xT (λk:Nat=>[(9,.int .i64 k),(8,.int .i64 s.length),(7,.sl 2 (asR s)),(3,xD 1 1 (rows .i64 ((s.take k).map (·.fact))))]) (λk=>⟨2,xA 1 1 (rows .i64 ((s.take k).map (·.fact)))⟩) (λk=>k<=s.length) (λk=>s.length-k) 0 (π _) ?_ ?_
 ·(refine xN.ren [] [] (by simp) (by simp) (by decide) ?_; simp only [yT,zQ,simprocAttr,-ZA,exists_eq_left',ne_eq,zR,List.take_zero,List.map_nil,nP,zM,zN])
 intro k hk;refine xO mixed ?_
 by_cases hh:k<s.length
 ·have hd:((k:Int)<(s.length:Int)):=by omega
  have hg:=kn s hh;have ht:(s.take (k+1)).map (·.fact)= (s.take k).map (·.fact)++ [(s.getD k as0).fact]:=by rw [zK (d:=as0) hh]; simp
  have hkl:((s.take k).map (·.fact)).length=k:=by simp; omega
  unfold AsA.row at hg;generalize (s.take k).map (·.fact)= a at hkl ht ⊢;generalize s.getD k as0=x at hg ht ⊢;simp only [simprocAttr,-ZA,↓zU,↓zD,zV,zT,zW,hd,oI,hg]
  (repeat refine sd ?_)
  refine⟨k+1,by omega,?_,by omega⟩;rw [ht]
  (refine xN.ren [(1,3)] [1] (by simp) (by simp) (by decide) ?_; simp only [yT,zQ,simprocAttr,-ZA,exists_eq_left',ne_eq,zR])
  exact wrap_i64 (by omega)
 ·have hd:¬ ((k:Int)<(s.length:Int)):=by omega
  rw [tO (show k=s.length by omega)];simp only [simprocAttr,-ZA,↓zU,↓zD,zV,zT,zW,hd];exact .drop (by simp) (WQ (by decide) (uX _ _))
theorem Mi (s:List AsA) (hl:s.length<=4400000000000):zX prog 61 [.agg [.sl 2 (asR s)]] (.bool (!Sq s)):=by
 have h1:=Xa s hl;have h2:=Mj (s.map (·.fact)) (by simpa using hl);unfold Sq;refine xY.xP mixed func61 k61 (by simp) λhf=>?_;simp only [simprocAttr,-ZA,↓zU,↓zD,zV,zT,zW]
 (repeat refine sd ?_)
 refine .go (cr h1) ?_;simp only [simprocAttr,-ZA,↓zU,↓zD,zV,zT,zW];refine .go (cr h2) ?_;simp only [simprocAttr,-ZA,↓zU,↓zD,zV,zT,zW];exact .dv
theorem qt (p:PrA) (f:List Nd) (fr:Int):zX prog 65 [p.d,.sl 6 (ndR f),.int .i64 fr] (.int .i64 (fmE p f fr)):=by
 have h1:=nJ f;have h2:=zo f;have h3:=YY f p.see.length p.F;unfold PrA.d PrA.cells fmE;refine xY.xP mixed func65 k65 (by simp) λhf=>?_;simp only [simprocAttr,-ZA,↓zU,↓zD,zV,zT,zW]
 (repeat refine sd ?_)
 refine .go (cr h1) ?_;by_cases e1:yN f=0
 case neg=>
  have e1':(yN f != 0)= true:=by simpa using e1
  simp only [simprocAttr,-ZA,↓zU,↓zD,zV,zT,zW,e1',e1];exact .dv
 have e1':(yN f != 0)= false:=by simpa using e1
 simp only [simprocAttr,-ZA,↓zU,↓zD,zV,zT,zW,e1',e1];refine .go (cr h2) ?_;cases e2:pJ .andNot .i64 (zC f) fr != 0
 case true=> simp only [simprocAttr,-ZA,↓zU,↓zD,zV,zT,zW,e2];exact .dv
 simp only [simprocAttr,-ZA,↓zU,↓zD,zV,zT,zW,e2]
 (repeat refine sd ?_)
 refine .go (cr h3) ?_
 cases e3:sU f p.see.length p.F
 ·simp only [simprocAttr,-ZA,↓zU,↓zD,zV,zT,zW];exact .dv
 ·simp only [simprocAttr,-ZA,↓zU,↓zD,zV,zT,zW];exact .dv
theorem jT {α:Type} (f:α->Int) {l:List α} {k:Nat} {d:α} (h:k<l.length):rN f (l.drop k)= if f (l.getD k d)≠ 0 then f (l.getD k d) else rN f (l.drop (k+1)):=by rw [drop_cons (d:=d) h]; rfl
theorem Qr (p:PrA) (hm:p.yW.length<=2000000) (hl:∀ s ∈ p.yW,s.length<=4400000000000):zX prog 64 [p.d] (.int .i64 (rN (rN (asE p)) p.yW)):=by
 have hF:=λf=>qt p f 0;have hD:p.d = .agg [.int .i64 p.F,.sl 1 (us p.init),.sl 1 (us p.see),.sl 1 (mvR p.yW),.sl 1 (cdR p.code)]:=rfl;rw [hD] at *;refine xY.xP mixed func64 k64 (by simp) λhf=>?_;simp only [simprocAttr,-ZA,↓zU,↓zD,zV,zT,zW,pV]
 (repeat refine sd ?_)
 refine xT (λk:Nat=>[(11,.int .i64 k),(10,.int .i64 p.yW.length),(9,.sl 1 (mvR p.yW)),(1,.ref 0 5 0 0)]) (λ_=>⟨1,[(0,⟨5,[p.cells]⟩)]⟩)
  (λk=>k<=p.yW.length/\rN (rN (asE p)) p.yW=rN (rN (asE p)) (p.yW.drop k)) (λk=>p.yW.length-k) 0 ⟨π _,rfl⟩ ?_ ?_
 ·unfold PrA.cells; (refine xN.same ?_; simp [xQ,Fr.get])
 intro k ⟨hk,hi⟩;refine xO mixed ?_;by_cases hkl:k<p.yW.length
 case neg=>
  have hd:¬ ((k:Int)<(p.yW.length:Int)):=by omega
  rw [hi,γ (by omega)];simp only [simprocAttr,-ZA,↓zU,↓zD,zV,zT,zW,hd];exact .drop (by simp) (by simp [vw,rN])
 have hd:((k:Int)<(p.yW.length:Int)):=by omega
 rw [jT (d:=[]) _ hkl] at hi;have hg:=me p.yW hkl;have hs:=hl _ (xR (d:=[]) hkl);generalize p.yW.getD k []=s at hi hg hs;unfold PrA.cells;simp only [simprocAttr,-ZA,↓zU,↓zD,zV,zT,zW,hd,pV,hg,oI]
 (repeat refine sd ?_)
 refine xT (λj:Nat=>[(18,.int .i64 j),(17,.int .i64 s.length),(16,.sl 2 (asR s)),(11,.int .i64 k),(10,.int .i64 p.yW.length),(9,.sl 1 (mvR p.yW)),(1,.ref 0 5 0 0)]) (λ_=>⟨1,[(0,⟨5,[p.cells]⟩)]⟩)
  (λj=>j<=s.length/\rN (asE p) s=rN (asE p) (s.drop j)) (λj=>s.length-j) 0 ⟨π _,rfl⟩ ?_ ?_
 ·unfold PrA.cells; (refine xN.ren [] [0] (by simp) (by simp) (by decide) ?_; simp only [yT,zQ,simprocAttr,-ZA,exists_eq_left',ne_eq,zR])
 intro j ⟨hj,hi2⟩;refine xO mixed ?_;by_cases hjl:j<s.length
 case neg=>
  have hd2:¬ ((j:Int)<(s.length:Int)):=by omega
  have h0:rN (asE p) s=0:=by rw [hi2,γ (by omega)]; rfl
  rw [h0,if_neg (by simp)] at hi;unfold PrA.cells;simp only [simprocAttr,-ZA,↓zU,↓zD,zV,zT,zW,hd2];refine⟨k+1,⟨by omega,hi⟩,?_,by omega⟩
  (refine xN.same ?_; simp only [xQ,Fr.get,simprocAttr,-ZA,zS])
  exact wrap_i64 (by omega)
 have hd2:((j:Int)<(s.length:Int)):=by omega
 rw [jT (d:=as0) _ hjl] at hi2;have hg2:=kn s hjl;unfold AsA.row at hg2;generalize s.getD j as0=a at hi2 hg2;have hend:asE p a≠0->rN (rN (asE p)) p.yW=asE p a:=λh=>by rw [hi,hi2,if_pos h,if_pos h]
 unfold PrA.cells;have hFa:=hF a.to
 by_cases c1:a.fact<0
 ·have e:asE p a=2:=by unfold asE; rw [if_pos (.inl c1)]
  rw [hend (by rw [e]; decide),e];simp only [simprocAttr,-ZA,↓zU,↓zD,zV,zT,zW,hd2,oI,hg2,c1]
  (repeat refine sd ?_)
  exact .dv
 by_cases c2:p.F<=a.fact
 ·have e:asE p a=2:=by unfold asE; rw [if_pos (.inr c2)]
  rw [hend (by rw [e]; decide),e];simp only [simprocAttr,-ZA,↓zU,↓zD,zV,zT,zW,hd2,oI,hg2,c1,c2]
  (repeat refine sd ?_)
  exact .dv
 have e:asE p a=fmE p a.to 0:=by unfold asE; rw [if_neg (by omega)]
 rw [<- e] at hFa;simp only [simprocAttr,-ZA,↓zU,↓zD,zV,zT,zW,hd2,oI,hg2,c1,c2]
 (repeat refine sd ?_)
 refine .go (cr hFa) ?_
 by_cases c3:asE p a=0
 ·have c3':(asE p a != 0)= false:=by simpa using c3
  rw [c3,if_neg (by simp)] at hi2;simp only [simprocAttr,-ZA,↓zU,↓zD,zV,zT,zW,c3'];refine⟨j+1,⟨by omega,hi2⟩,?_,by omega⟩
  (refine xN.ren [] [0] (by simp) (by simp) (by decide) ?_; simp only [yT,zQ,simprocAttr,-ZA,exists_eq_left',ne_eq,zR])
  exact wrap_i64 (by omega)
 ·have c3':(asE p a != 0)= true:=by simpa using c3
  rw [hend c3];simp only [simprocAttr,-ZA,↓zU,↓zD,zV,zT,zW,c3'];exact .dv
open Rs Fm Ru Kb
theorem Px (p:PrA) (sm:gp p):zX prog 17 [p.d] (.int .i64 (oX p)):=by
 have hM:=Qr p;have hF:=λf=>qt p f 15
 have hlong:=Xo (σ:=⟨1,[(0,⟨5,[p.cells]⟩)]⟩) (g:=57) (caps:=[]) (c:=p.code) (f:=λl=>decide (6<l.length)) sm.code λx _=>by rw [List.append_nil]; exact xY.yO (O9 x) (by simp [D.xU,D.xL])
 have hasc:=Xp (σ:=⟨1,[(0,⟨5,[p.cells]⟩)]⟩) (g:=61) (caps:=[]) (c:=p.yW) (f:=λs=>!Sq s);have hout:=λ(h0:0<=p.F) (l:List (BitVec 64)) (hl:l.length<=1000)=>iK (σ:=⟨1,[(0,⟨5,[p.cells]⟩)]⟩) (g:=55) (caps:=[.ref 0 5 0 0]) (c:=l) (f:=XB p) hl λx _=>N0 rfl h0 x;have hai:=Mh (p.init.map ui) (by simpa using sm.init);rw [show rows .u64 (p.init.map ui)= us p.init by simp [rows,us]] at hai;have hD:p.d = .agg [.int .i64 p.F,.sl 1 (us p.init),.sl 1 (us p.see),.sl 1 (mvR p.yW),.sl 1 (cdR p.code)]:=rfl;unfold PrA.cells at hlong hasc hout;rw [hD] at *;refine xY.xP mixed func17 k17 (by simp) λhf=>?_
 by_cases a1:p.F<0
 ·rw [show oX p=2 by unfold oX mP; simp [a1]];simp only [simprocAttr,-ZA,↓zU,↓zD,zV,zT,zW,a1];exact .dv
 by_cases a2:8<p.F
 ·rw [show oX p=2 by unfold oX mP; simp [a2]];simp only [simprocAttr,-ZA,↓zU,↓zD,zV,zT,zW,a1,a2];exact .dv
 have hfe:mP p=if 4<p.see.length\/16<p.init.length\/8<p.yW.length\/p.code.any (λl=>decide (6<l.length))= true then 8 else
   if p.see.length=0\/p.init.length=0\/p.code.length≠p.see.length\/p.init.any (XB p)= true\/p.see.any (XB p)= true then 3 else
   if Pb p.init=false\/p.yW.any (λs=>!Sq s)= true then 9 else 0:=by
  unfold mP; rw [if_neg (by omega)]
 by_cases a3:4<p.see.length
 ·rw [show oX p=8 by unfold oX; simp [hfe,a3]];have a3':(4:Int)<(p.see.length:Int):=by omega
  simp only [simprocAttr,-ZA,↓zU,↓zD,zV,zT,zW,a1,a2,a3',xI];exact .dv
 have a3':¬ (4:Int)<(p.see.length:Int):=by omega
 by_cases a4:16<p.init.length
 ·rw [show oX p=8 by unfold oX; simp [hfe,a4]];have a4':(16:Int)<(p.init.length:Int):=by omega
  simp only [simprocAttr,-ZA,↓zU,↓zD,zV,zT,zW,a1,a2,a3',a4',xI];exact .dv
 have a4':¬ (16:Int)<(p.init.length:Int):=by omega
 by_cases a5:8<p.yW.length
 ·rw [show oX p=8 by unfold oX; simp [hfe,a5]];have a5':(8:Int)<(p.yW.length:Int):=by omega
  simp only [simprocAttr,-ZA,↓zU,↓zD,zV,zT,zW,a1,a2,a3',a4',a5',xI,pV];exact .dv
 have a5':¬ (8:Int)<(p.yW.length:Int):=by omega
 simp only [simprocAttr,-ZA,↓zU,↓zD,zV,zT,zW,a1,a2,a3',a4',a5',xI,pV];refine .go hlong ?_;cases a6:p.code.any λl=>decide (6<l.length)
 case true=> rw [show oX p=8 by unfold oX; simp [hfe,a6]];simp only [simprocAttr,-ZA,↓zU,↓zD,zV,zT,zW];exact .dv
 by_cases b1:p.see.length=0
 ·rw [show oX p=3 by unfold oX; simp [hfe,a4,a5,a6,b1]];have b1':((p.see.length:Int)== 0)= true:=by rw [b1]; rfl
  simp only [simprocAttr,-ZA,↓zU,↓zD,zV,zT,zW,xI,b1'];exact .dv
 have b1':((p.see.length:Int)== 0)= false:=by rw [beq_eq_false_iff_ne]; omega
 by_cases b2:p.init.length=0
 ·rw [show oX p=3 by unfold oX; simp [hfe,a3,a5,a6,b2]];have b2':((p.init.length:Int)== 0)= true:=by rw [b2]; rfl
  simp only [simprocAttr,-ZA,↓zU,↓zD,zV,zT,zW,xI,b1',b2'];exact .dv
 have b2':((p.init.length:Int)== 0)= false:=by rw [beq_eq_false_iff_ne]; omega
 by_cases b3:p.code.length=p.see.length
 case neg=>
  rw [show oX p=3 by unfold oX; simp [hfe,a3,a4,a5,a6,b3]];have b3':((p.code.length:Int) != (p.see.length:Int))= true:=by rw [bne_iff_ne]; omega
  simp only [simprocAttr,-ZA,↓zU,↓zD,zV,zT,zW,xI,b1',b2',oJ,b3'];exact .dv
 have b3':((p.code.length:Int) != (p.see.length:Int))= false:=by rw [b3]; exact bne_self_eq_false _
 simp only [simprocAttr,-ZA,↓zU,↓zD,zV,zT,zW,xI,b1',b2',oJ,b3'];refine .go (hout (by omega) p.init (by omega)) ?_;cases b4:p.init.any (XB p)
 case true=> rw [show oX p=3 by unfold oX; simp [hfe,a3,a4,a5,a6,b4]];simp only [simprocAttr,-ZA,↓zU,↓zD,zV,zT,zW];exact .dv
 simp only [simprocAttr,-ZA,↓zU,↓zD,zV,zT,zW];refine .go (hout (by omega) p.see (by omega)) ?_;cases b5:p.see.any (XB p)
 case true=> rw [show oX p=3 by unfold oX; simp [hfe,a3,a4,a5,a6,b5]];simp only [simprocAttr,-ZA,↓zU,↓zD,zV,zT,zW];exact .dv
 simp only [simprocAttr,-ZA,↓zU,↓zD,zV,zT,zW];refine .go (cr hai) ?_;have hau:Vh (p.init.map ui)= Pb p.init:=rfl;rw [hau]
 have hf2:mP p=if Pb p.init=false\/p.yW.any (λs=>!Sq s)= true then 9 else 0:=by rw [hfe,if_neg (by simp [a3,a4,a5,a6]),if_neg (by simp [b1,b2,b3,b4,b5])]
 cases c1:Pb p.init
 case false=> rw [show oX p=9 by unfold oX; simp [hf2,c1]];simp only [simprocAttr,-ZA,↓zU,↓zD,zV,zT,zW];exact .dv
 simp only [simprocAttr,-ZA,↓zU,↓zD,zV,zT,zW];refine .go (hasc (by omega) λx hx=>by rw [List.append_nil]; exact xY.yO (Mi x (sm.mv x hx)) (by simp [D.xU,D.xL])) ?_;cases c2:p.yW.any (λs=>!Sq s)
 case true=> rw [show oX p=9 by unfold oX; simp [hf2,c2]];simp only [simprocAttr,-ZA,↓zU,↓zD,zV,zT,zW];exact .dv
 have hf0:mP p=0:=by rw [hf2,c1,c2]; rfl
 have hch:oX p=if rN (rN (asE p)) p.yW≠0 then rN (rN (asE p)) p.yW else rN (rN (clE p)) p.code:=by unfold oX; rw [hf0,if_neg (by simp)]
 simp only [simprocAttr,-ZA,↓zU,↓zD,zV,zT,zW];refine .go (xY.yO (hM (by omega) sm.mv) (by simp [D.xU,D.xL])) ?_;by_cases d1:rN (rN (asE p)) p.yW=0
 case neg=>
  have d1':(rN (rN (asE p)) p.yW != 0)= true:=by simpa using d1
  rw [hch,if_pos d1];simp only [simprocAttr,-ZA,↓zU,↓zD,zV,zT,zW,d1'];exact .dv
 rw [hch,d1,if_neg (by simp)];simp only [simprocAttr,-ZA,↓zU,↓zD,zV,zT,zW,oJ]
 refine xT (λk:Nat=>[(92,.int .i64 k),(91,.int .i64 p.code.length),(90,.sl 1 (cdR p.code)),(1,.ref 0 5 0 0)]) (λ_=>⟨1,[(0,⟨5,[p.cells]⟩)]⟩)
  (λk=>k<=p.code.length/\rN (rN (clE p)) p.code=rN (rN (clE p)) (p.code.drop k)) (λk=>p.code.length-k) 0 ⟨π _,rfl⟩ ?_ ?_
 ·unfold PrA.cells; (refine xN.same ?_; simp [xQ,Fr.get])
 intro k ⟨hk,hi⟩;refine xO mixed ?_;by_cases hkl:k<p.code.length
 case neg=>
  have hd:¬ ((k:Int)<(p.code.length:Int)):=by omega
  rw [hi,γ (by omega)];simp only [simprocAttr,-ZA,↓zU,↓zD,zV,zT,zW,hd];exact .drop (by simp) (by simp [vw,rN])
 have hd:((k:Int)<(p.code.length:Int)):=by omega
 rw [jT (d:=[]) _ hkl] at hi;have hg:=kp p.code hkl
 have hs:(p.code.getD k []).length<=6:=by have:=ο.1 a6 _ (xR (d:=[]) hkl);simpa using this
 generalize p.code.getD k []=s at hi hg hs;unfold PrA.cells;simp only [simprocAttr,-ZA,↓zU,↓zD,zV,zT,zW,hd,oJ,hg,iY]
 (repeat refine sd ?_)
 refine xT (λj:Nat=>[(98,.int .i64 j),(97,.int .i64 s.length),(96,.sl 2 (clR s)),(92,.int .i64 k),(91,.int .i64 p.code.length),(90,.sl 1 (cdR p.code)),(1,.ref 0 5 0 0)]) (λ_=>⟨1,[(0,⟨5,[p.cells]⟩)]⟩)
  (λj=>j<=s.length/\rN (clE p) s=rN (clE p) (s.drop j)) (λj=>s.length-j) 0 ⟨π _,rfl⟩ ?_ ?_
 ·unfold PrA.cells; (refine xN.same ?_; simp [xQ,Fr.get])
 intro j ⟨hj,hi2⟩;refine xO mixed ?_;by_cases hjl:j<s.length
 case neg=>
  have hd2:¬ ((j:Int)<(s.length:Int)):=by omega
  have h0:rN (clE p) s=0:=by rw [hi2,γ (by omega)]; rfl
  rw [h0,if_neg (by simp)] at hi;unfold PrA.cells;simp only [simprocAttr,-ZA,↓zU,↓zD,zV,zT,zW,hd2];refine⟨k+1,⟨by omega,hi⟩,?_,by omega⟩
  (refine xN.same ?_; simp only [xQ,Fr.get,simprocAttr,-ZA,zS])
  exact wrap_i64 (by omega)
 have hd2:((j:Int)<(s.length:Int)):=by omega
 rw [jT (d:=cl0) _ hjl] at hi2;have hg2:=Zo s hjl;unfold ClA.row at hg2;generalize s.getD j cl0=c at hi2 hg2;have hend:clE p c≠0->rN (rN (clE p)) p.code=clE p c:=λh=>by rw [hi,hi2,if_pos h,if_pos h]
 unfold PrA.cells;simp only [simprocAttr,-ZA,↓zU,↓zD,zV,zT,zW,hd2,iY,hg2]
 (repeat refine sd ?_)
 refine .go (cr (hF c.test)) ?_;by_cases e1:fmE p c.test 15=0
 case neg=>
  have e1':(fmE p c.test 15 != 0)= true:=by simpa using e1
  have e:clE p c=fmE p c.test 15:=by unfold clE; rw [if_pos e1]
  rw [hend (by rw [e]; exact e1),e];simp only [simprocAttr,-ZA,↓zU,↓zD,zV,zT,zW,e1'];exact .dv
 have e1':(fmE p c.test 15 != 0)= false:=by simpa using e1
 by_cases e2:c.mv < -1
 ·have e:clE p c=2:=by unfold clE; rw [e1,if_neg (by simp),if_pos (.inl e2)]
  rw [hend (by rw [e]; decide),e];simp only [simprocAttr,-ZA,↓zU,↓zD,zV,zT,zW,e1',e2];exact .dv
 by_cases e3:(p.yW.length:Int)<=c.mv
 ·have e:clE p c=2:=by unfold clE; rw [e1,if_neg (by simp),if_pos (.inr e3)]
  rw [hend (by rw [e]; decide),e];simp only [simprocAttr,-ZA,↓zU,↓zD,zV,zT,zW,e1',e2,pV,e3];exact .dv
 have e:clE p c=0:=by unfold clE; rw [e1,if_neg (by simp),if_neg (by omega)]
 rw [e,if_neg (by simp)] at hi2;simp only [simprocAttr,-ZA,↓zU,↓zD,zV,zT,zW,e1',e2,pV,e3];refine⟨j+1,⟨by omega,hi2⟩,?_,by omega⟩
 (refine xN.ren [] [0] (by simp) (by simp) (by decide) ?_; simp only [yT,zQ,simprocAttr,-ZA,exists_eq_left',ne_eq,zR])
 exact wrap_i64 (by omega)
open Rs Fm Ru Kb
open Rs Fm Ru Kb
namespace Kb
structure ChA where
 ag:Int
 seen:List (BitVec 64)
 mv:Int
end Kb
end Go.Pd
