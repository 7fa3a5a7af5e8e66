/- Part G5. -/
import Derived.Test.YtjmfdgonjighpaaZqF18
import Derived.Test.YtjmfdgonjighpaaZqBK
import Derived.Test.YtjmfdgonjighpaaZqX9
import Derived.RangeFuncIn
import Derived.RangeFuncRecord
import Derived.RangeFuncSeq
set_option linter.unusedSectionVars false
set_option linter.unusedVariables false
set_option linter.unusedSimpArgs false
set_option linter.defProp false
set_option maxRecDepth 20000
set_option maxHeartbeats 1000000
open Go.Proofs.Try
open Int renaming eq_ofNat_of_zero_le->γ,toNat_natCast->δ
open Nat renaming le_refl->ε,reduceEqDiff->ζ,testBit_lt_two_pow->η,add_zero->θ,zero_le->κ,pow_le_pow_right->μ
open List renaming mem_map->ν,mem_singleton->ξ,getElem?_eq_getElem->ο,getElem_mem->π,mem_append->υ,mem_cons->χ,length_singleton->ψ,mem_append_left->ω,getElem?_set_ne->Aa,length_append->Ab,not_mem_nil->Ac,any_eq_true->Ad
open BitVec renaming allOnes->Ae,eq_of_getLsbD_eq->Af,getLsbD_allOnes->Ag,getLsbD_or->Ah
open Bool renaming false_eq_true->Ai,and_eq_true->Aj
open Array renaming getElem?_eq_some_iff->Ak
namespace Go.Pd
open Go Go.Proofs
open Rs Fm
theorem yJ.Oq {C:Cx} {f f1 f2:Fr} {σ σ1 σ2:St} (h1:yJ C f σ f1 σ1) (h2:yJ C f1 σ1 f2 σ2):yJ C f σ f2 σ2:=λE a w G=>h2 E a w (h1 E a w G)
namespace Fm
def yN (c:List Nd):List Int:=(vQ c c.length (c.length-1) (List.replicate c.length false,[])).2
theorem eO {c:List Nd} (hv:zY c):∀ (n:Nat) {i:Nat} {s:List Bool × List Int},i<n->i<c.length->s.1.length=c.length->(∀ x ∈ s.2,0<=x/\x<c.length)->s.2.length+s.1.count false<=c.length ->
  (vQ c n i s).1.length=c.length/\(∀ x ∈ (vQ c n i s).2,0<=x/\x<c.length)/\ (vQ c n i s).2.length+(vQ c n i s).1.count false<=c.length
 | 0,i,s,h,_,_,_,_=>by omega
 | n+1,i,s,h,hi,hl,hs,hc=>by
  unfold vQ;cases hb:s.1.getD i false
  case true=>rw [if_pos rfl]; exact⟨hl,hs,hc⟩
  rw [if_neg (by simp)];have hct:=count_set (l:=s.1) (i:=i) (by omega) hb;have hnd:=hv i hi;obtain⟨ox,oy⟩:=nN hnd;generalize c.getD i yG=p at hnd ox oy
  by_cases hp:p.op=3\/8<p.op
  ·rw [if_pos hp];refine⟨by simpa using hl,λx hx=>?_,by simp only [Ab,ψ]; omega⟩
   rcases υ.1 hx with hx | hx
   ·exact hs x hx
   ·rw [ξ] at hx; subst hx; exact⟨by omega,by omega⟩
  rw [if_neg hp];by_cases h4:4<=p.op
  case neg=> simp only [if_neg h4,if_neg (show ¬ 5<=p.op by omega)];exact⟨by simpa using hl,hs,by omega⟩
  obtain⟨ux,uy⟩:=sM h4 (by omega);have hx:=ox ux;simp only [if_pos h4];have r1:=eO hv n (i:=p.x.toNat) (s:=(s.1.set i true,s.2)) (by omega) (by omega) (by simpa using hl) hs (by simp only; omega);generalize vQ c n p.x.toNat (s.1.set i true,s.2)= s1 at r1;by_cases h5:5<=p.op
  case neg=>rw [if_neg h5]; exact r1
  rw [if_pos h5];have hy:=oy (uy h5);exact eO hv n (i:=p.y.toNat) (by omega) (by omega) r1.1 r1.2.1 r1.2.2
theorem Yx {c:List Nd} (hv:zY c) (hn:0<c.length):(∀ x ∈ yN c,0<=x/\x<c.length)/\ (yN c).length<=c.length:=by have:=eO hv c.length (i:=c.length-1) (s:=(List.replicate c.length false,[])) (by omega) (by omega) (by simp) (by simp) (by simp);exact⟨this.2.1,by have:=this.2.2; unfold yN; omega⟩
end Fm
theorem SA {c:List Nd} (hv:zY c) (hn:0<c.length) (hlen:c.length<=1000):∃ nx xX ko,xU prog 22 [.sl 6 (vW c),.int .i64 ((c.length-1:Nat):Int),.wZ 0 1 c.length,.xI] ⟨1,[(0,⟨1,rb (List.replicate c.length false)⟩)]⟩ (xJ ko 1 (rows .i64 (yN c))) ⟨nx,xX⟩/\
  1<=nx/\St.look xX ko=wW 1 (rows .i64 (yN c))/\ ((yN c)= []\/ko<nx):=by
 have hI:jC c 0 1 1 [(0,⟨1,rb (List.replicate c.length false)⟩)] (List.replicate c.length false,[]):=by refine⟨by omega,by simp [St.look],by simp,by simp [St.look,rows,wW],by omega,by simp; omega,λk hk=>?_⟩;rw [xY,if_neg (by omega),look_nil]
 obtain⟨nx,xX,ko,I,l,q,fr,hc⟩:=vf hv hlen c.length (i:=c.length-1) (by omega) (by omega) hI;obtain⟨ko',I',kd,k'⟩:=I.fc
 refine⟨nx,xX,ko',?_,l,I'.ho,?_⟩
 ·have e:xJ ko' 1 (rows .i64 (yN c))= xJ ko 1 (rows .i64 (yN c)):=kd;rw [e]; exact hc
 ·rcases k' with ⟨h,_⟩ | ⟨_,h1,h2⟩
  ·exact .inl h
  ·exact .inr (by omega)
end Go.Pd

/- Part G6. -/
namespace Go.Pd
open Go Go.Proofs
open BitVec renaming isValue -> ZA
open Rs Fm
namespace Fm
def kR (c:List Nd) (l:List Int):Nat->List Int
 | 0=>List.replicate c.length 0
 | k+1=>(kR c l k).set (l.getD k 0).toNat (k:Int)
theorem vj (c:List Nd) (l:List Int):∀ k,(kR c l k).length=c.length
 | 0=>by simp [kR]
 | k+1=>by simp [kR,vj c l k]
theorem YA (c:List Nd) (l:List Int):∀ k,∀ x ∈ kR c l k,0<=x/\(x=0\/x<k)
 | 0,x,hx=>by simp only [kR,List.mem_replicate] at hx;omega
 | k+1,x,hx=>by
  unfold kR at hx
  rcases List.mem_or_eq_of_mem_set hx with hx | rfl
  ·have:=YA c l k x hx; omega
  ·omega
def aB (num:List Int) (v i:Nat):Bool:=v.testBit (num.getD i 0).toNat
def oA (c:List Nd) (num:List Int):Nat->Bool
 | 0=>true
 | k+1=>oA c num k&&vO c (aB num k)
def jN (f:List Nd):Bool × Int:=
 if yQ f≠0 then(false,yQ f) else if 10<(yN (xQ f)).length then(false,8) else
 (oA (xQ f) (kR (xQ f) (yN (xQ f)) (yN (xQ f)).length) (2 ^ (yN (xQ f)).length),0)
theorem xn {c:List Nd} {num:List Int} {k:Nat} (h:oA c num k=false):∀ {j:Nat},k<=j->oA c num j=false
 | 0,hj=>by rw [show (0:Nat)= k by omega]; exact h
 | j+1,hj=>by
  by_cases e:k=j+1
  ·rw [<- e]; exact h
  ·unfold oA;rw [xn h (j:=j) (by omega),Bool.false_and]
end Fm
theorem Q7 {num:List Int} {v i:Nat} (hv:v<2 ^ 60) (hi:i<num.length) (h:0<=num.getD i 0/\num.getD i 0<=60):zX prog 23 [.int .i64 i,.ptr [.int .i64 v],.ptr [.sl 1 (rows .i64 num)]] (.bool (aB num v i)):=by
 refine yS func23 LD λhf=>?_;have hg:=yL .i64 num hi;unfold aB;generalize num.getD i 0=x at h hg;obtain⟨w,hw⟩:=γ h.1;subst hw;simp only [simprocAttr,-ZA,↓zU,↓zD,zV,zT,zW,wS,hg,bP v w (by omega),cV (iH (show v<2 ^ 62 by omega) w),wg]
 (repeat refine sd ?_)
 exact .dv
theorem l5 (f:List Nd):zX prog 6 [.sl 6 (vW f)] (.yD [.bool (jN f).1,.int .i64 (jN f).2]):=by
 refine yS func6 k6 λhf=>?_;refine xB ?_;refine .go (cr (iG f)) ?_;by_cases hc:yQ f=0
 case neg=>
  have e:(yQ f != 0)= true:=by simpa using hc
  refine yK e ?_;rw [show jN f=(false,yQ f) from if_pos hc];exact .same
 have e:(yQ f != 0)= false:=by simpa using hc
 have et:jN f=if 10<(yN (xQ f)).length then(false,8) else(oA (xQ f) (kR (xQ f) (yN (xQ f)) (yN (xQ f)).length) (2 ^ (yN (xQ f)).length),0):=by rw [jN,if_neg (by simpa using hc)]
 rw [et];refine yK e ?_;refine .go (cr (kV f)) ?_;have hv:=mF f;have zL:=pP hc;have hln:(xQ f).length<=200:=kI f _;clear et;generalize xQ f=c at hv zL hln;obtain⟨nx,xX,ko,hcall,hnx,hko,hk⟩:=SA hv zL (by omega);obtain⟨hin,hll⟩:=Yx hv zL;generalize yN c=l at hcall hko hk hin hll;have ew:IntKind.i64.wrap ((c.length:Int)-1)= ((c.length-1:Nat):Int):=by rw [wrap_i64 (by omega)]; omega
 refine W3 xF ew ?_;rw [cE];refine .go hcall ?_
 by_cases h10:10<l.length
 ·have h10':(10:Int)<(l.length:Int):=by omega
  rw [if_pos h10];refine sC wS h10' ?_;exact .drop (by simp) (by simp [vw,sV])
 have h10':¬ (10:Int)<(l.length:Int):=by omega
 rw [if_neg h10];refine eG wS h10' xF ?_;rw [gT];have hnl:∀ k,(kR c l k).length=c.length:=vj c l;have hni:=YA c l;have h1024:2 ^ l.length<=2 ^ 10:=μ (by decide) (by omega)
 refine yM (λk:Nat=>[(34,.int .i64 k),(33,.int .i64 l.length),(32,.sl 1 (rows .i64 l)),(7,.ref 1 1 0 0),(6,.sl 1 (rows .i64 l)),(5,.sl 6 (vW c))]) (λk=>⟨2,[(1,⟨1,[[.wZ 0 1 c.length]]⟩),(0,⟨1,rows .i64 (kR c l k)⟩)]⟩) (λk=>k<=l.length) (λk=>l.length-k) 0 (κ _) ?_ ?_
 ·have hlk:St.look ((nx+1,(⟨1,[[.wZ nx 1 c.length]]⟩:Ob)) :: (nx,⟨1,rows .i64 (List.replicate c.length 0)⟩) :: xX) (nx+1)= some ⟨1,[[.wZ nx 1 c.length]]⟩:=by rw [xY,if_pos rfl]
  have hlk2:St.look ((nx+1,(⟨1,[[.wZ nx 1 c.length]]⟩:Ob)) :: (nx,⟨1,rows .i64 (List.replicate c.length 0)⟩) :: xX) nx=some ⟨1,rows .i64 (List.replicate c.length 0)⟩:=by rw [xY,if_neg (by omega),xY,if_pos rfl]
  have hseen:Seen ⟨nx+1+1,(nx+1,⟨1,[[.wZ nx 1 c.length]]⟩) :: (nx,⟨1,rows .i64 (List.replicate c.length 0)⟩) :: xX⟩ (λk=>k=nx\/k=nx+1) (xJ ko 1 (rows .i64 l)) (.sl 1 (rows .i64 l)):=by
   rcases hk with hk | hk
   ·rw [hk]; exact .nil 1
   ·refine Seen.grow ?_ (by omega) (by omega) (λe he=>by simp only [rows,ν] at he; obtain⟨x,_,rfl⟩:=he; rfl) (sX _ _);show St.look _ ko=_;rw [xY,if_neg (by omega),xY,if_neg (by omega)];exact hko
  refine yJ.Oq (yJ.deep (f':=[(34,.int .i64 0),(33,.int .i64 l.length),(32,.sl 1 (rows .i64 l)),(7,.ref (nx+1) 1 0 0),(6,.sl 1 (rows .i64 l)),(5,.sl 6 (vW c))]) (objs':=[(nx+1,⟨1,[[.wZ nx 1 c.length]]⟩),(nx,⟨1,rows .i64 (List.replicate c.length 0)⟩)]) (λk=>k=nx\/k=nx+1)
   ⟨⟨.inr rfl,_,hlk,rfl,rfl,λi _=>⟨rfl,λj=>.inl rfl⟩⟩,⟨.inl rfl,_,hlk2,rfl,rfl,λi _=>⟨rfl,λj=>.inl rfl⟩⟩,trivial⟩
   ⟨.inl (by simp [Fr.get]),.inl (by simp [Fr.get]),.inr ?_,.inl (by simp [Fr.get]),.inr ?_,.inl (by simp [Fr.get]),trivial⟩) ?_
  ·simp only [Fr.get,↓reduceIte,reduceIte,ζ]; exact hseen
  ·simp only [Fr.get,↓reduceIte,reduceIte,ζ]; exact hseen
  ·refine yJ.view (λk=>if k=0 then nx else if k=1 then nx+1 else k) (by simp) (by simp) (by simp [aK,vw,Fr.get]) ?_ ?_
   ·intro p hp;simp only [χ,Ac,or_false] at hp
    rcases hp with rfl | rfl
    ·exact⟨by show (1:Nat)<2; omega,⟨1,[[.wZ nx 1 c.length]]⟩,by show St.look _ (nx+1)= _; rw [xY,if_pos rfl],rfl,.cons rfl ⟨⟨by show (0:Nat)<2; omega,rfl⟩,trivial⟩ .nil⟩
    ·exact⟨by show (0:Nat)<2; omega,⟨1,rows .i64 (List.replicate c.length 0)⟩,by show St.look _ nx=_; rw [xY,if_neg (by omega),xY,if_pos rfl],rfl,.same (sX _ _)⟩
   ·intro p hp q hq h;simp only [χ,Ac,or_false] at hp hq
    rcases hp with rfl | rfl <;> rcases hq with rfl | rfl
    ·rfl
    ·have h:nx+1=nx:=h; omega
    ·have h:nx=nx+1:=h; omega
    ·rfl
 intro k hk2;refine wH mixed ?_;have hw:IntKind.i64.wrap ((k:Int)+ 1)= ((k+1:Nat):Int):=wrap_i64 (by omega)
 by_cases h:k<l.length
 ·have hd:((k:Int)<(l.length:Int)):=by omega
  have hg:=yL .i64 l h;have hx:=hin _ (wR (d:=0) h);have hs:kR c l (k+1)= (kR c l k).set (l.getD k 0).toNat (k:Int):=rfl;generalize l.getD k 0=x at hg hs hx;obtain⟨j,rfl⟩:=γ hx.1;rw [δ] at hs;have hjl:j<c.length:=by omega
  have hgj:=yL .i64 (kR c l k) (i:=j) (by rw [hnl]; omega);refine PQ hd wS hg hnl hgj ma cg ?_;refine⟨k+1,by omega,?_,by omega⟩;rw [hs];exact T9 [] [1,0] hw
 have hd:¬ ((k:Int)<(l.length:Int)):=by omega
 rw [show k=l.length by omega];rw [show k=l.length by omega] at hd;have hnum:=hnl l.length;have hnin:=hni l.length;generalize kR c l l.length=num at hnum hnin;simp only [simprocAttr,-ZA,↓zU,↓zD,zV,zT,zW,hd,wS,W0 (show l.length<=61 by omega)]
 (repeat refine sd ?_)
 refine yM (λv:Nat=>[(47,.int .i64 v),(46,.int .i64 ((2 ^ l.length:Nat):Int)),(7,.ref 1 1 0 0),(5,.sl 6 (vW c))]) (λ_=>⟨2,[(1,⟨1,[[.wZ 0 1 c.length]]⟩),(0,⟨1,rows .i64 num⟩)]⟩) (λv=>v<=2 ^ l.length/\oA c num v=true) (λv=>2 ^ l.length-v) 0 ⟨κ _,rfl⟩ ?_ ?_
 ·exact lQ
 intro v ⟨hv2,hi2⟩;refine wH mixed ?_;have hwv:IntKind.i64.wrap ((v:Int)+ 1)= ((v+1:Nat):Int):=wrap_i64 (by omega);by_cases hvl:v<2 ^ l.length
 case neg=>
  have hd2:¬ ((v:Int)<((2 ^ l.length:Nat):Int)):=by omega
  have ev:v=2 ^ l.length:=by omega
  have hi3:oA c num (2 ^ l.length)= true:=by rw [<- ev]; exact hi2
  rw [hi3];refine yK hd2 ?_;exact .drop (by simp) (by simp [vw,sV])
 have hd2:((v:Int)<((2 ^ l.length:Nat):Int)):=by omega
 have hcall:xU prog 20 [.sl 6 (vW c),.fn 23 [.ref 2 1 0 0,.ref 1 1 0 0]] ⟨3,[(2,⟨1,[[.int .i64 v]]⟩),(1,⟨1,[[.wZ 0 1 c.length]]⟩),(0,⟨1,rows .i64 num⟩)]⟩ (.bool (vO c (aB num v))) ⟨3,[(2,⟨1,[[.int .i64 v]]⟩),(1,⟨1,[[.wZ 0 1 c.length]]⟩),(0,⟨1,rows .i64 num⟩)]⟩:=by
  refine xU.Vf (YO (g:=23) (caps:=[.ptr [.int .i64 v],.ptr [.sl 1 (rows .i64 num)]]) (leaf:=aB num v) hv zL (by omega) (by simp [D.xT,D.xO]) λi hi _=>Q7 (by omega) (by omega) (by have:=hnin _ (wR (d:=0) (show i<num.length by omega)); omega)) ⟨.pure rfl,.fn ⟨?_,?_,trivial⟩,trivial⟩ rfl
  ·exact Seen.ref (ob:=⟨1,[[.int .i64 v]]⟩) (by simp [St.get,St.look]) id rfl (by simp) (by simp) (by simp) λj hj=>by
    obtain rfl:j=0:=by simpa using hj
    exact .pure rfl
  ·refine Seen.ref (ob:=⟨1,[[.wZ 0 1 c.length]]⟩) (by simp [St.get,St.look]) id rfl (by simp) (by simp) (by simp) λj hj=>?_;obtain rfl:j=0:=by simpa using hj
   exact Seen.rows (by simp [St.get,St.look]) id (by omega) (by rw [wS]; omega) (λe he=>by simp only [rows,ν] at he; obtain⟨x,_,rfl⟩:=he; rfl) (sX _ _)
 refine j4 hd2 ?_;refine .go hcall ?_
 cases hval:vO c (aB num v)
 ·refine xB ?_;rw [xn (k:=v+1) (by rw [oA,hi2,hval]; rfl) (show v+1<=2 ^ l.length by omega)];exact .drop (by simp) (by simp [vw,sV])
 ·refine xB ?_;refine⟨v+1,⟨by omega,by rw [oA,hi2,hval]; rfl⟩,?_,by omega⟩;exact T9 [] [1,0] hwv
open Rs Fm
namespace Fm
def sT (p:Nd):Prop:=p.op=3\/8<p.op
instance (p : Nd) : Decidable (sT p) := by unfold sT; infer_instance
def zm (c:List Nd) (leaf:Nat->Bool) (i:Nat):Bool:=(tO c leaf c.length).getD i false
theorem getD_set_ne {l:List Bool} {i k:Nat} {b:Bool} (h:k≠i):(l.set k b).getD i false=l.getD i false:=by simp only [List.getD,Aa h]
theorem oH (c:List Nd) (leaf:Nat->Bool) {i:Nat}:∀ (k:Nat),i<k->(tO c leaf k).getD i false=(tO c leaf (i+1)).getD i false
 | 0,h=>by omega
 | k+1,h=>by
  by_cases e:i=k
  ·rw [e]
  ·rw [<- oH c leaf k (by omega)];conv=>lhs; unfold tO
   exact getD_set_ne (by omega)
theorem zz {c:List Nd} (hv:zY c) (leaf:Nat->Bool) {i:Nat} (hi:i<c.length):zm c leaf i=if sT (c.getD i yG) then leaf i else mV (c.getD i yG).op (zm c leaf (c.getD i yG).x.toNat) (zm c leaf (c.getD i yG).y.toNat):=by
 obtain⟨ox,oy,zx,zy⟩:=sZ (hv i hi);unfold zm;rw [oH c leaf c.length hi];conv=>lhs; unfold tO
 have hl:=bJ c leaf i;rw [show ∀ b:Bool,((tO c leaf i).set i b).getD i false=b from λb=>by simp [List.getD,hl,hi]]
 by_cases ha:(c.getD i yG).op=3\/8<(c.getD i yG).op
 ·rw [if_pos ha,if_pos (show sT (c.getD i yG) from ha)]
 rw [if_neg ha,if_neg (show ¬ sT (c.getD i yG) from ha)]
 have hx:(c.getD i yG).x.toNat<i\/(xW (c.getD i yG).op).1.x=false:=by
  cases h:(xW (c.getD i yG).op).1.x
  ·exact .inr rfl
  ·exact .inl (ox h).2
 have hy:(c.getD i yG).y.toNat<i\/(xW (c.getD i yG).op).1.y=false:=by
  cases h:(xW (c.getD i yG).op).1.y
  ·exact .inr rfl
  ·exact .inl (oy h).2
 generalize c.getD i yG=p at ha hx hy;by_cases h4:4<=p.op
 case neg=>
  have hc:∀ a b:Bool,mV p.op a b=decide (p.op=1):=λa b=>by
   unfold mV
   by_cases h1:p.op=1
   ·rw [if_pos h1,decide_eq_true h1]
   ·rw [if_neg h1,if_neg (by omega),if_neg (by omega),if_neg (by omega),if_neg (by omega),if_neg (by omega),decide_eq_false h1]
  rw [hc,hc]
 obtain⟨ux,uy⟩:=sM h4 (by omega);have hx':p.x.toNat<i:=by rcases hx with h | h; exact h; rw [ux] at h; cases h
 rw [oH c leaf i hx',<- oH c leaf c.length (by omega)];by_cases h5:5<=p.op
 case neg=>
  have hop:p.op=4:=by omega
  rw [hop]; rfl
 have hy':p.y.toNat<i:=by rcases hy with h | h; exact h; rw [uy h5] at h; cases h
 rw [oH c leaf i hy',<- oH c leaf c.length (by omega)]
theorem vu (c:List Nd) (leaf:Nat->Bool):vO c leaf=zm c leaf (c.length-1):=rfl
theorem jb {c:List Nd} (hv:zY c) {i:Nat} (hi:i<c.length) (ha:¬ sT (c.getD i yG)):(4<=(c.getD i yG).op->0<=(c.getD i yG).x/\(c.getD i yG).x.toNat<i)/\ (5<=(c.getD i yG).op->0<=(c.getD i yG).y/\(c.getD i yG).y.toNat<i):=by obtain⟨ox,oy,_,_⟩:=sZ (hv i hi);unfold sT at ha;refine⟨λh=>ox (sM h (by omega)).1,λh=>oy ((sM (by omega) (by omega)).2 h)⟩
theorem x7 {op:Int} (h:op<4) (a b a' b':Bool):mV op a b=mV op a' b':=by
 unfold mV
 by_cases h1:op=1
 ·rw [if_pos h1,if_pos h1]
 ·rw [if_neg h1,if_neg (by omega),if_neg (by omega),if_neg (by omega),if_neg (by omega),if_neg (by omega),if_neg h1,if_neg (by omega),if_neg (by omega),if_neg (by omega),if_neg (by omega),if_neg (by omega)]
theorem x8 {op:Int} (h:op=4) (a b b':Bool):mV op a b=mV op a b':=by rw [h]; rfl
def R3 (φ:Tr->Bool):Tr->Bool
 | .nil=>false
 | .nd op i e g x y=>if op=3\/8<op then φ (.nd op i e g x y) else mV op (R3 φ x) (R3 φ y)
theorem ZN {c:List Nd} (hv:zY c) {leaf:Nat->Bool} {φ:Tr->Bool} (hl:∀ i,i<c.length->sT (c.getD i yG)->leaf i=φ (tree c i)):∀ i,i<c.length->zm c leaf i=R3 φ (tree c i):=by
 intro i
 induction i using Nat.strongRecOn with
 | _ i ih=>
  intro hi;have h1:=hl i hi;have h2:=jb hv hi;rw [zz hv leaf hi];have ht:=rL hv hi;rw [ht] at h1 ⊢;unfold R3
  by_cases ha:sT (c.getD i yG)
  ·rw [if_pos ha,if_pos (show (c.getD i yG).op=3\/8<(c.getD i yG).op from ha)]; exact h1 ha
  have ha':¬ ((c.getD i yG).op=3\/8<(c.getD i yG).op):=ha;rw [if_neg ha,if_neg ha'];obtain⟨ox,oy⟩:=h2 ha;by_cases h4:4<=(c.getD i yG).op
  case neg=>exact x7 (by omega) _ _ _ _
  obtain⟨ux,uy⟩:=sM h4 (by omega);rw [if_pos ux,ih _ (ox h4).2 (by have:=(ox h4).2; omega)];by_cases h5:5<=(c.getD i yG).op
  case neg=>exact x8 (by omega) _ _ _
  rw [if_pos (uy h5),ih _ (oy h5).2 (by have:=(oy h5).2; omega)]
def qw (c:List Nd) (s:List Bool × List Int) (j:Nat):Prop:= s.1.getD j false=true->(sT (c.getD j yG)->(j:Int)∈ s.2)/\ (¬ sT (c.getD j yG)->(4<=(c.getD j yG).op->s.1.getD (c.getD j yG).x.toNat false=true)/\ (5<=(c.getD j yG).op->s.1.getD (c.getD j yG).y.toNat false=true))
structure lh (c : List Nd) (i : Nat) (s s' : List Bool × List Int) : Prop where
 len:s'.1.length=s.1.length
 seen:∀ j,s.1.getD j false=true->s'.1.getD j false=true
 up:∀ j,i<j->s'.1.getD j false=s.1.getD j false
 out:∃ l,s'.2=s.2++l/\l.Nodup/\∀ z ∈ l,∃ j:Nat,z=j/\j<=i/\s.1.getD j false=false/\s'.1.getD j false=true/\sT (c.getD j yG)
theorem lh.refl {c:List Nd} {i:Nat} {s:List Bool × List Int}:lh c i s s:=⟨rfl,λ_ h=>h,λ_ _=>rfl,[],by simp⟩
theorem lh.trans {c:List Nd} {a b i:Nat} {s1 s2 s3:List Bool × List Int} (h1:lh c a s1 s2) (h2:lh c b s2 s3) (ha:a<=i) (hb:b<=i):lh c i s1 s3:=by
 obtain⟨p1,p2,p3,l,p4,p5,p6⟩:=h1;obtain⟨q1,q2,q3,m,q4,q5,q6⟩:=h2
 refine⟨by rw [q1,p1],λj h=>q2 j (p2 j h),λj h=>by rw [q3 j (by omega),p3 j (by omega)],l++m,by rw [q4,p4,List.append_assoc],?_,λz hz=>?_⟩
 ·rw [List.nodup_append];refine⟨p5,q5,λx hx y hy e=>?_⟩;obtain⟨j,e1,_,_,e2,_⟩:=p6 x hx;obtain⟨k,f1,_,f2,_⟩:=q6 y hy;obtain rfl:j=k:=by omega
  rw [e2] at f2; cases f2
 ·rcases υ.1 hz with hz | hz
  ·obtain⟨j,e1,e2,e3,e4,e5⟩:=p6 z hz;exact⟨j,e1,by omega,e3,q2 j e4,e5⟩
  ·obtain⟨j,e1,e2,e3,e4,e5⟩:=q6 z hz;refine⟨j,e1,by omega,?_,e4,e5⟩
   cases h:s1.1.getD j false
   ·rfl
   ·rw [p2 j h] at e3; cases e3
theorem pw {c:List Nd} {i:Nat} {s s':List Bool × List Int} (h:lh c i s s') {j:Nat} (hj:i<j) (hs:qw c s j):qw c s' j:=by obtain⟨_,p2,p3,l,p4,_⟩:=h;intro hq;rw [p3 j hj] at hq;obtain⟨a,b⟩:=hs hq;refine⟨λh=>by rw [p4]; exact ω _ (a h),λh=>⟨λh4=>p2 _ ((b h).1 h4),λh5=>p2 _ ((b h).2 h5)⟩⟩
theorem jS {c:List Nd} (hv:zY c):∀ (n:Nat) {i:Nat} {s:List Bool × List Int},i<n->i<c.length->s.1.length=c.length->(∀ j,j<=i->qw c s j) ->
  lh c i s (vQ c n i s)/\ (vQ c n i s).1.getD i false=true/\∀ j,j<=i->qw c (vQ c n i s) j
 | 0,i,s,h,_,_,_=>by omega
 | n + 1,i,s,h,hi,hl,hs=>by
  unfold vQ;cases hb:s.1.getD i false
  case true=>rw [if_pos rfl]; exact⟨.refl,hb,hs⟩
  rw [if_neg (by simp)];have hm:=jb hv hi;have hset:(s.1.set i true).getD i false=true:=by simp [List.getD,hl,hi]
  have zL:∀ j,j≠i->(s.1.set i true).getD j false=s.1.getD j false:=λj hj=>getD_set_ne (by omega)
  have hseen:∀ j,s.1.getD j false=true->(s.1.set i true).getD j false=true:=λj hj=>by
   by_cases e:j=i
   ·rw [e]; exact hset
   ·rw [zL j e]; exact hj
  have hg0:lh c i s (s.1.set i true,s.2):=⟨by simp,hseen,λj hj=>zL j (by omega),[],by simp⟩
  by_cases hp:(c.getD i yG).op=3\/8<(c.getD i yG).op
  ·rw [if_pos hp]
   refine⟨⟨by simp,hseen,λj hj=>zL j (by omega),[(i:Int)],rfl,by simp,λz hz=>?_⟩,hset,λj hj=>?_⟩
   ·rw [ξ] at hz;exact⟨i,hz,ε _,hb,hset,hp⟩
   ·intro hq
    by_cases e:j=i
    ·rw [e];exact⟨λ_=>by simp,λh=>absurd hp h⟩
    ·have hq':s.1.getD j false=true:=by rw [<- zL j e]; exact hq
     obtain⟨a,b⟩:=hs j hj hq';exact⟨λh=>ω _ (a h),λh=>⟨λh4=>hseen _ ((b h).1 h4),λh5=>hseen _ ((b h).2 h5)⟩⟩
  rw [if_neg hp];obtain⟨ox,oy⟩:=hm hp
  have hlow:∀ j,j<i->qw c (s.1.set i true,s.2) j:=λj hj hq=>by simp only at hq;rw [zL j (by omega)] at hq;obtain⟨a,b⟩:=hs j (by omega) hq;exact⟨a,λh=>⟨λh4=>hseen _ ((b h).1 h4),λh5=>hseen _ ((b h).2 h5)⟩⟩
  by_cases h4:4<=(c.getD i yG).op
  case neg=>
   simp only [if_neg h4,if_neg (show ¬ 5<=(c.getD i yG).op by omega)];refine⟨hg0,hset,λj hj=>?_⟩
   by_cases e:j=i
   ·rw [e];exact λ_=>⟨λh=>absurd h hp,λ_=>⟨λh=>absurd h h4,λh=>by omega⟩⟩
   ·exact hlow j (by omega)
  simp only [if_pos h4];obtain⟨g1,g2,g3⟩:=jS hv n (i:=(c.getD i yG).x.toNat) (s:=(s.1.set i true,s.2)) (by have:=(ox h4).2; omega) (by have:=(ox h4).2; omega) (by simpa using hl) (λj hj=>hlow j (by have:=(ox h4).2; omega));generalize vQ c n (c.getD i yG).x.toNat (s.1.set i true,s.2)= s1 at g1 g2 g3;have g0:=hg0.trans g1 (ε _) (Nat.le_of_lt (ox h4).2);have hi1:s1.1.getD i false=true:=g1.seen _ hset
  have low1:∀ j,j<i->qw c s1 j:=λj hj=>by
   by_cases e:j<=(c.getD i yG).x.toNat
   ·exact g3 j e
   ·exact pw g1 (by omega) (hlow j hj)
  by_cases h5:5<=(c.getD i yG).op
  case neg=>
   rw [if_neg h5];refine⟨g0,hi1,λj hj=>?_⟩
   by_cases e:j=i
   ·rw [e];exact λ_=>⟨λh=>absurd h hp,λ_=>⟨λ_=>g2,λh=>absurd h h5⟩⟩
   ·exact low1 j (by omega)
  rw [if_pos h5];obtain⟨k1,k2,k3⟩:=jS hv n (i:=(c.getD i yG).y.toNat) (s:=s1) (by have:=(oy h5).2; omega) (by have:=(oy h5).2; omega) (by rw [g0.len]; exact hl) (λj hj=>low1 j (by have:=(oy h5).2; omega));generalize vQ c n (c.getD i yG).y.toNat s1=s2 at k1 k2 k3;refine⟨g0.trans k1 (ε _) (Nat.le_of_lt (oy h5).2),k1.seen _ hi1,λj hj=>?_⟩
  by_cases e:j=i
  ·rw [e];exact λ_=>⟨λh=>absurd h hp,λ_=>⟨λ_=>k1.seen _ g2,λ_=>k2⟩⟩
  ·by_cases e2:j<=(c.getD i yG).y.toNat
   ·exact k3 j e2
   ·exact pw k1 (by omega) (low1 j (by omega))
theorem jT {c:List Nd} (hv:zY c) (hn:0<c.length):(yN c).Nodup/\(∀ z ∈ yN c,∃ j:Nat,z=j/\j<c.length/\sT (c.getD j yG))/\
  ∀ leaf leaf':Nat->Bool,(∀ j:Nat,(j:Int)∈ yN c->leaf j=leaf' j)->vO c leaf=vO c leaf':=by
 obtain⟨⟨_,_,_,l,e,d,at'⟩,hr,hsh⟩:=jS hv c.length (i:=c.length-1) (s:=(List.replicate c.length false,[])) (by omega) (by omega) (by simp) (λj hj hq=>by simp [List.getD,List.getElem?_replicate] at hq; split at hq <;> simp at hq);have e':yN c=l:=by unfold yN; rw [e]; rfl
 refine⟨by rw [e']; exact d,λz hz=>?_,λleaf leaf' hll=>?_⟩
 ·rw [e'] at hz;obtain⟨j,q1,q2,_,_,q5⟩:=at' z hz;exact⟨j,q1,by omega,q5⟩
 ·rw [vu,vu]
  have key:∀ i,i<c.length->(vQ c c.length (c.length-1) (List.replicate c.length false,[])).1.getD i false=true->zm c leaf i=zm c leaf' i:=by
   intro i
   induction i using Nat.strongRecOn with
   | _ i ih=>
    intro hi hs;obtain⟨a,b⟩:=hsh i (by omega) hs;have hm:=jb hv hi;rw [zz hv leaf hi,zz hv leaf' hi]
    by_cases ha:sT (c.getD i yG)
    ·rw [if_pos ha,if_pos ha]; exact hll i (a ha)
    rw [if_neg ha,if_neg ha];obtain⟨ox,oy⟩:=hm ha;obtain⟨bx,by'⟩:=b ha;by_cases h4:4<=(c.getD i yG).op
    case neg=>exact x7 (by omega) _ _ _ _
    rw [ih _ (ox h4).2 (by have:=(ox h4).2; omega) (bx h4)];by_cases h5:5<=(c.getD i yG).op
    case neg=>exact x8 (by omega) _ _ _
    rw [ih _ (oy h5).2 (by have:=(oy h5).2; omega) (by' h5)]
  exact key _ (by omega) hr
def oW (f:List Nd):Tr:=tree f (f.length-1)
theorem vt {f:List Nd} (h:yQ f=0):TG (oW f):=by
 obtain⟨h1,h2,h3⟩:=tK h;have hl:0<f.length:=by cases f with | nil=>exact absurd rfl h1 | cons a b=>simp
 exact YK h3 _ (by omega)
theorem jQ {f:List Nd} (h:yQ f=0):tree (xQ f) ((xQ f).length-1)= oW f/\(xQ f).Nodup:=by rw [mM h];obtain⟨_,b,_,d⟩:=jV (vt h);exact⟨d,b⟩
end Fm
open Rs Fm
namespace Fm
def xu (f:Nat->Bool):Nat->Nat
 | 0=>0
 | k+1=>xu f k+if f k then 2 ^ k else 0
theorem iF (f:Nat->Bool):∀ k,xu f k<2 ^ k
 | 0=>by simp [xu]
 | k+1=>by have:=iF f k;unfold xu;rw [Nat.pow_succ];split <;> omega
theorem fW (f:Nat->Bool):∀ k i,i<k->(xu f k).testBit i=f i
 | 0,_,h=>by omega
 | k+1,i,h=>by
  have hl:=iF f k;unfold xu
  by_cases e:i=k
  ·subst e
   cases hf:f i
   ·simp only [Ai,↓reduceIte,θ];exact η hl
   ·simp only [↓reduceIte];rw [Nat.add_comm,Nat.testBit_two_pow_add_eq,η hl]; rfl
  ·rw [<- fW f k i (by omega)]
   split
   ·rw [Nat.add_comm,Nat.testBit_two_pow_add_gt (by omega)]
   ·rw [θ]
theorem lG : ∀ (n:Nat) (l:List Nat),l.Nodup->(∀ x ∈ l,x<n)->l.length<=n
 | 0,l,_,h=>by
  cases l with
  | nil=>simp
  | cons a r=>exact absurd (h a (by simp)) (by omega)
 | n+1,l,hn,h=>by
  have h1:=lG n (l.erase n) (hn.erase n) λx hx=>by
   have h2:=h x (List.mem_of_mem_erase hx);have h3:x≠n:=λe=>by rw [e] at hx; exact(List.Nodup.mem_erase_iff hn).1 hx |>.1 rfl
   omega
  have:=List.length_erase_le (a:=n) (l:=l)
  by_cases hm:n ∈ l
  ·rw [List.length_erase_of_mem hm] at h1; omega
  ·rw [List.erase_of_not_mem hm] at h1; omega
theorem ow {α:Type} {l:List α} (hn:l.Nodup) {i j:Nat} (hi:i<l.length) (hj:j<l.length) (h:l[i]=l[j]):i=j:=by
 rw [List.Nodup,List.pairwise_iff_getElem] at hn
 rcases Nat.lt_trichotomy i j with h1 | h1 | h1
 ·exact absurd h (hn i j hi hj h1)
 ·exact h1
 ·exact absurd h.symm (hn j i hj hi h1)
theorem bp {c:List Nd} {l:List Int} (hn:l.Nodup) (hl:∀ z ∈ l,∃ j:Nat,z=j/\j<c.length):∀ (m:Nat),m<=l.length->∀ k,k<m->(kR c l m).getD (l.getD k 0).toNat 0=k
 | 0,_,_,h=>by omega
 | m+1,hm,k,hk=>by
  have hlen:=vj c l m;have hk2:k<l.length:=by omega
  have hgk:l.getD k 0=l[k]:=by simp [List.getD,hk2]
  obtain⟨j,e1,e2⟩:=hl l[k] (π hk2);unfold kR;rw [hgk,e1,δ]
  by_cases e:k=m
  ·subst e;rw [hgk,e1,δ];simp [List.getD,hlen,e2]
  ·have hm2:m<l.length:=by omega
   have hgm:l.getD m 0=l[m]:=by simp [List.getD,hm2]
   obtain⟨j',f1,f2⟩:=hl l[m] (π hm2)
   have zL:j'≠j:=λh=>by
    have:l[m]=l[k]:=by rw [e1,f1,h]
    exact e (ow hn _ _ this).symm
   rw [hgm,f1,δ];have ih:=bp hn hl m (by omega) k (by omega);rw [hgk,e1,δ] at ih;rw [<- ih];simp only [List.getD,Aa zL]
theorem qb {c:List Nd} {num:List Int}:∀ {k},oA c num k=true ↔ ∀ v,v<k->vO c (aB num v)= true
 | 0=>by simp [oA]
 | k+1=>by
  unfold oA;rw [Aj,qb (k:=k)]
  constructor
  ·rintro ⟨h1,h2⟩ v hv
   by_cases e:v=k
   ·rw [e]; exact h2
   ·exact h1 v (by omega)
  ·exact λh=>⟨λv hv=>h v (by omega),h k (by omega)⟩
theorem Un {c:List Nd} (hv:zY c) (hn:0<c.length):oA c (kR c (yN c) (yN c).length) (2 ^ (yN c).length)= true ↔ ∀ leaf,vO c leaf=true:=by
 obtain⟨nd,inn,asks⟩:=jT hv hn;rw [qb];refine⟨λh leaf=>?_,λh v _=>h _⟩;rw [<- h (xu (λk=>leaf ((yN c).getD k 0).toNat) (yN c).length) (iF _ _)];refine asks _ _ λj hj=>?_;obtain⟨k,hk,e⟩:=List.mem_iff_getElem.1 hj;have hgk:(yN c).getD k 0=(j:Int):=by simp [List.getD,hk,e]
 have hnum:=bp nd (λz hz=>let ⟨j,a,b,_⟩:=inn z hz; ⟨j,a,b⟩) _ (ε _) k hk;rw [hgk,δ] at hnum;unfold aB;rw [hnum,δ,fW _ _ _ hk];simp only [hgk,δ]
theorem pH (c:List Nd):∀ k,k<=64->∀ j,j<64->(lX c k).getLsbD j=(decide (j<k)&& vO c (rA c j))
 | 0,_,j,_=>by simp [lX]
 | k + 1,hk,j,hj=>by
  have ih:=pH c k (by omega) j hj
  have hb:(1#64 <<< k).getLsbD j=decide (j=k):=by
   rw [BitVec.getLsbD_shiftLeft]
   by_cases e:j=k
   ·subst e; simp [hj]
   ·rcases Nat.lt_or_gt_of_ne e with h | h
    ·simp [e,h]
    ·simp only [e,decide_false,show ¬ j<k by omega,Bool.not_false,Bool.and_true,hj,decide_true,Bool.true_and];rw [BitVec.getLsbD_one];simp; omega
  unfold lX
  by_cases e:j=k
  ·subst e
   cases hv:vO c (rA c j)
   ·rw [if_neg (by simp),ih]; simp
   ·rw [if_pos rfl,Ah,hb]; simp
  ·have:decide (j<k+1)= decide (j<k):=by rw [decide_eq_decide]; omega
   rw [this,<- ih]
   split
   ·rw [Ah,hb]; simp [e]
   ·rfl
theorem bG (c:List Nd):lX c 64=Ae 64 ↔ ∀ v,v<64->vO c (rA c v)= true:=by
 constructor
 ·intro h v hv;have:=pH c 64 (ε _) v hv;rw [h,Ag] at this;simpa [hv] using this.symm
 ·intro h;refine Af λj hj=>?_;rw [pH c 64 (ε _) j hj,Ag,h j hj]; simp [hj]
theorem fY {p:Nd} {k:Int} (h:zK p k=0) (h3:p.op=3):p=⟨3,p.i,0,0,0,0⟩/\ 0<=p.i/\p.i<=7:=by have hi:=PN h;obtain⟨_,h1,h2,h4,_⟩:=uQ.1 h;obtain⟨op,i,e,g,x,y⟩:=p;simp only at h3 h1 h2 h4 hi;subst h3;simp [xW,zM] at h1 h2 h4;obtain⟨rfl,rfl⟩:=h4;subst h1 h2;exact⟨rfl,hi⟩
theorem wR {c:List Nd} {j:Nat} (h:j<c.length):c.getD j yG ∈ c:=by simp only [List.getD,ο h,Option.getD_some]; exact π _
theorem getD_inj {c:List Nd} (hn:c.Nodup) {i j:Nat} (hi:i<c.length) (hj:j<c.length) (h:c.getD i yG=c.getD j yG):i=j:=by simp only [List.getD,ο hi,ο hj,Option.getD_some] at h;exact ow hn hi hj h
theorem cB {c:List Nd} (hv:zY c) (hd:c.Nodup) (hn:0<c.length) (hp:∀ p ∈ c,p.op<=8) :
  (yN c).length<=8/\∀ i j:Nat,(i:Int)∈ yN c->(j:Int)∈ yN c->(c.getD i yG).i.toNat=(c.getD j yG).i.toNat->i=j:=by
 obtain⟨nd,inn,_⟩:=jT hv hn
 have fact:∀ j:Nat,(j:Int)∈ yN c->j<c.length/\c.getD j yG=⟨3,(c.getD j yG).i,0,0,0,0⟩/\ 0<=(c.getD j yG).i/\(c.getD j yG).i<=7:=λj hj=>by
  obtain⟨k,e1,e2,e3⟩:=inn j hj;obtain rfl:j=k:=by omega
  have h8:=hp _ (wR e2);unfold sT at e3;exact⟨e2,fY (hv j e2) (by omega)⟩
 have inj:∀ i j:Nat,(i:Int)∈ yN c->(j:Int)∈ yN c->(c.getD i yG).i.toNat=(c.getD j yG).i.toNat->i=j:=λi j hi hj h=>by obtain⟨a1,a2,a3,_⟩:=fact i hi;obtain⟨b1,b2,b3,_⟩:=fact j hj;refine getD_inj hd a1 b1 ?_;rw [a2,b2,show (c.getD i yG).i=(c.getD j yG).i by omega]
 refine⟨?_,inj⟩
 have h1:=lG 8 ((yN c).map λz=>(c.getD z.toNat yG).i.toNat) ?_ ?_
 ·simpa using h1
 ·refine List.pairwise_map.2 (List.Pairwise.imp_of_mem (λ{a b} ha hb zL=>?_) nd);obtain⟨i,rfl,_⟩:=inn a ha;obtain⟨j,rfl,_⟩:=inn b hb;rw [δ,δ];exact λe=>zL (by rw [inj i j ha hb e])
 ·intro x hx;obtain⟨z,hz,rfl⟩:=ν.1 hx;obtain⟨i,rfl,_⟩:=inn z hz;rw [δ];have:=(fact i hz).2.2;omega
theorem ZH {c:List Nd} (hv:zY c) (hd:c.Nodup) (hn:0<c.length) (hp:∀ p ∈ c,p.op<=8) (h6:∀ p ∈ c,p.op=3->p.i<6) :
  oA c (kR c (yN c) (yN c).length) (2 ^ (yN c).length)= decide (lX c 64=Ae 64):=by
 obtain⟨nd,inn,asks⟩:=jT hv hn;obtain⟨_,inj⟩:=cB hv hd hn hp;rw [Bool.eq_iff_iff,Un hv hn,decide_eq_true_iff,bG];refine⟨λh v _=>h _,λh leaf=>?_⟩;have hb:=iF (λi=>(yN c).any λz=>(c.getD z.toNat yG).i.toNat==i&&leaf z.toNat) 6;rw [<- h _ hb];refine asks _ _ λj hj=>?_;unfold rA;obtain⟨k,e1,e2,e3⟩:=inn j hj;obtain rfl:j=k:=by omega
 have h8:=hp _ (wR e2);have h3:(c.getD j yG).op=3:=by unfold sT at e3; omega
 have hi:=h6 _ (wR e2) h3;have hi2:=(fY (hv j e2) h3).2;rw [fW _ _ _ (by omega)];rw [Bool.eq_iff_iff,Ad]
 constructor
 ·intro hl;exact⟨j,hj,by simp [hl]⟩
 ·rintro ⟨z,hz,hz2⟩;obtain⟨i,rfl,_⟩:=inn z hz;simp only [δ,Aj,beq_iff_eq] at hz2;rw [<- inj i j hz hj hz2.1]; exact hz2.2
end Fm
open Rs Fm
namespace Fm
def M8 (v:Nat):Tr->Bool
 | .nil=>false
 | .nd _ i _ _ _ _=>v.testBit i.toNat
theorem kB {c:List Nd} (hv:zY c) (hn:0<c.length) (v:Nat):vO c (rA c v)= R3 (M8 v) (tree c (c.length-1)):=by rw [vu];refine ZN hv (λi hi _=>?_) _ (by omega);rw [rL hv hi]; rfl
theorem yx {T:Tr} (h:TG T) (hl:(canon T).length<=200):yQ (canon T)= 0/\xQ (canon T)= canon T:=by obtain⟨a,_,b,d⟩:=jV h;have hc:=WV b hl a;exact⟨hc,by rw [mM hc,d]⟩
theorem u6 (p:Nd):tJ 0 p=p:=by obtain⟨op,i,e,g,x,y⟩:=p;simp [tJ]
theorem XC (c:List Nd):c.map (tJ 0)= c:=by rw [show tJ 0=id from funext u6,List.map_id]
theorem mr {x:Nd} {f:List Nd} (hc:yQ f=0) (hx:(xW x.op).1.x=true) (hy:(xW x.op).1.y=false) (hw:zK ⟨x.op,x.i,x.e,x.g,0,0⟩ 1=0) (hx0:x.y=0) :
  nP x [f]=if 200<(canon (.nd x.op x.i x.e x.g (oW f) .nil)).length then [] else canon (.nd x.op x.i x.e x.g (oW f) .nil):=by
 have hv:=mF f;have hn:=pP hc;have ht:=(jQ hc).1;generalize hcd:xQ f=c at hv hn ht
 have hq:zK ⟨x.op,x.i,x.e,x.g,(c.length:Int)-1,x.y⟩ c.length=0:=by
  refine lA (p:=⟨x.op,x.i,x.e,x.g,0,0⟩) hw ?_ ?_
  ·simp only [hx,↓reduceIte]; omega
  ·simp only [hy,Ai,↓reduceIte]; exact hx0
 have hva:zY (c ++ [⟨x.op,x.i,x.e,x.g,(c.length:Int)-1,x.y⟩]):=iC hv hq
 have hb:kK 0 [f] [] x=some (c,⟨x.op,x.i,x.e,x.g,(c.length:Int)-1,x.y⟩):=by unfold kK;rw [if_neg (by simpa using hc),hcd];simp only [List.nil_append,List.length_nil,XC];unfold kK YY;rw [if_pos rfl]
 have htr:tree (c ++ [⟨x.op,x.i,x.e,x.g,(c.length:Int)-1,x.y⟩]) c.length = .nd x.op x.i x.e x.g (oW f) .nil:=by
  rw [rL hva (by simp)];have hgl:(c ++ [(⟨x.op,x.i,x.e,x.g,(c.length:Int)-1,x.y⟩:Nd)]).getD c.length yG=⟨x.op,x.i,x.e,x.g,(c.length:Int)-1,x.y⟩:=by simp [List.getD]
  rw [hgl];simp only [hx,hy,Ai,↓reduceIte];rw [iO hva _ (by omega),show ((c.length:Int)-1).toNat=c.length-1 by omega,ht]
 unfold nP;rw [hb];simp only;rw [if_neg (by simpa using hq),nC hva (by simp),htr]
theorem qd (m:Nd->Nat) (l:List Nd) (p:Nd) (h:m p=0):uF m (l ++ [p])= uF m l:=by rw [xp,h,Nat.or_zero]
theorem mw (t:Tr):canon (.nd 4 0 0 0 t .nil)= canon t\/∃ k:Int,canon (.nd 4 0 0 0 t .nil)= canon t ++ [⟨4,0,0,0,k,0⟩]:=by
 unfold canon;conv=>lhs; lhs; unfold sO
 conv=>rhs; rhs; intro k; lhs; unfold sO
 simp only [show (xW 4).1.x=true from rfl,show (xW 4).1.y=false from rfl,↓reduceIte,Ai]
 split
 ·exact .inl rfl
 ·exact .inr ⟨_,rfl⟩
theorem uk (m:Nd->Nat) (b:Nat):∀ (l:List Nd) (a:Nat),(l.foldl (λa p=>a ||| m p) a).testBit b=(a.testBit b || l.any λp=>(m p).testBit b)
 | [],a=>by simp
 | p :: r,a=>by rw [List.foldl_cons,uk m b r,Nat.testBit_or,List.any_cons,Bool.or_assoc]
theorem ai {c:List Nd} (hv:zY c) {n:Nat} (h:uF jI c / 2 ^ n=0):∀ p ∈ c,p.op=3->p.i<n:=by
 intro p hp h3;obtain⟨k,hk⟩:=iT hv hp;obtain⟨_,h1,h2⟩:=fY hk h3
 by_cases hi:p.i<n
 ·exact hi
 have hlt:uF jI c<2 ^ n:=by
  rcases Nat.div_eq_zero_iff.1 h with h | h
  ·have:=Nat.two_pow_pos n; omega
  ·exact h
 have hb:=uk jI p.i.toNat c 0;have h0:(uF jI c).testBit p.i.toNat=false:=η (Nat.lt_of_lt_of_le hlt (μ (by decide) (by omega)))
 have ha:(c.any λq=>(jI q).testBit p.i.toNat)= true:=Ad.2 ⟨p,hp,by unfold jI;rw [h3,if_pos (by rfl)];exact Nat.testBit_two_pow_self⟩
 unfold uF at h0;rw [h0,ha] at hb;simp at hb
theorem cQ {f:List Nd} {n:Nat} (hz:(xE f n).2=0):yQ f=0/\rF f=0/\n<=6/\rR f / 2 ^ n=0/\xE f n=(lX (xQ f) (2 ^ n),0):=by
 unfold xE at hz ⊢;by_cases h1:yQ f=0
 case neg=>rw [if_pos h1] at hz; exact absurd hz h1
 rw [if_neg (by simpa using h1)] at hz ⊢;by_cases h2:rF f=0
 case neg=>rw [if_pos h2] at hz; cases hz
 rw [if_neg (by simpa using h2)] at hz ⊢
 by_cases h3:(n:Int)<0\/6<(n:Int)\/jJ f 0 n=false
 ·rw [if_pos h3] at hz; cases hz
 rw [if_neg h3,δ];have hn:n<=6:=by omega
 refine⟨h1,h2,hn,?_,rfl⟩
 have h4:jJ f 0 n=true:=by
  cases h:jJ f 0 n
  ·exact absurd (.inr (.inr h)) h3
  ·rfl
 rw [np h1 h2 hn] at h4;exact of_decide_eq_true h4
theorem vr {f:List Nd} {n:Nat} (h1:yQ f=0) (h2:rF f=0) (hn:n<=6) (h3:rR f / 2 ^ n=0):xE f n=(lX (xQ f) (2 ^ n),0):=by unfold xE;rw [if_neg (by simpa using h1),if_neg (by simpa using h2),if_neg,δ];rw [np h1 h2 hn,decide_eq_true h3];simp; omega
theorem y9 {f:List Nd} (h:yQ f=0):(canon (oW f)).length<=f.length:=by
 obtain⟨h1,h2,h3⟩:=tK h;have hl:0<f.length:=by cases f with | nil=>exact absurd rfl h1 | cons a b=>simp
 have:=tq h3 (i:=f.length-1) (by omega)
 rwa [nC h3 (by omega)] at this
theorem Ti {f:List Nd} (h40:f.length<=40) (hz:(xE f 6).2=0) :
  (jN f).2=0/\(jN f).1=decide ((xE f 6).1=Ae 64)/\ (xE (qW f) 6).2=0/\(xE (qW f) 6).1 = ~~~ (xE f 6).1:=by
 obtain⟨hc,hf,_,h6,ht⟩:=cQ (n:=6) hz;have hv:=mF f;have hn:=pP hc;obtain⟨htr,hd⟩:=jQ hc;have hp:=pR.1 hf;have hf6:=ai hv h6;obtain⟨h8,_⟩:=cB hv hd hn hp;have e1:=ZH hv hd hn hp hf6
 have hta:jN f=(decide ((xE f 6).1=Ae 64),0):=by unfold jN;rw [if_neg (by simpa using hc),if_neg (by omega),e1,show xE f 6=_ from ht]
 refine⟨by rw [hta],by rw [hta],?_⟩;have hw4:TG (.nd 4 0 0 0 (oW f) .nil):=⟨by decide,by simp only [show (xW 4).1.x=true from rfl,↓reduceIte]; exact vt hc,by simp only [show (xW 4).1.y=false from rfl,↓reduceIte,Ai]⟩;have hcf:=mM hc;have hcl:=y9 hc;rw [show tree f (f.length-1)= oW f from rfl] at hcf;have hno:=mw (oW f)
 have hlen:(canon (.nd 4 0 0 0 (oW f) .nil)).length<=41:=by
  rcases hno with h | ⟨k,h⟩
  ·rw [h]; omega
  ·rw [h,Ab,ψ]; omega
 have hnot:qW f=canon (.nd 4 0 0 0 (oW f) .nil):=by unfold qW;rw [mr hc rfl rfl (by decide) rfl,if_neg (by simp only; omega)]
 have hcc:=yx hw4 (by omega);obtain⟨sv,sn,sl,st⟩:=jV hw4;have h6':=h6;unfold rR at h6';rw [hcf] at hp h6' hv hn htr
 have hfrag:rF (qW f)= 0:=by
  rw [pR,hnot,hcc.2];intro p hq
  rcases hno with h | ⟨k,h⟩
  ·rw [h] at hq; exact hp p hq
  ·rw [h] at hq
   rcases υ.1 hq with hq | hq
   ·exact hp p hq
   ·rw [ξ] at hq; rw [hq]; show (4:Int)<=8; decide
 have hfac:rR (qW f)= rR f:=by
  unfold rR;rw [hnot,hcc.2,hcf]
  rcases hno with h | ⟨k,h⟩
  ·rw [h]
  ·rw [h]; exact qd _ _ _ rfl
 have htn:=vr (f:=qW f) (n:=6) (by rw [hnot]; exact hcc.1) hfrag (ε _) (by rw [hfac]; exact h6);rw [show xE (qW f) 6=_ from htn,show xE f 6=_ from ht];refine⟨rfl,?_⟩;simp only;rw [hnot,hcc.2,hcf];refine Af λj hj=>?_;have e64:2 ^ 6=64:=rfl;rw [e64,BitVec.getLsbD_not,pH _ 64 (ε _) j hj,pH _ 64 (ε _) j hj,kB sv sl,kB hv hn,st,htr];simp only [hj,decide_true,Bool.true_and];conv=>lhs; unfold R3
 rw [if_neg (by decide)];rfl
end Fm
open Rs Bd Fm
namespace Bd
def aC (c:List Nd) (w:Nat->Bool) (i:Nat):Bool:=w (c.getD i yG).i.toNat
structure Vt (n : Nat) (c : List Nd) (i : Nat) (ds : kO) : Prop where
 len:ds.length=i
 L3:∀ j,j<i->eI n (mA ds j).1 (mA ds j).2
 den:∀ j,j<i->∀ w,zf n ds w j=zm c (aC c w) j
def dD (n:Nat) (p:List yH × Nat):D:=yA n p.1 p.2
def DStep (n:Nat) (c:List Nd) (ds:kO) (i:Nat) (p:List yH × Nat):Prop:=
 ((c.getD i yG).op=1/\p=([],1))\/((c.getD i yG).op=2/\p=([],0))\/((c.getD i yG).op=3/\∃ k:Nat,k<n/\(c.getD i yG).i=k/\p=([(k,0,1)],2)) \/
 (∃ x:Nat,x<i/\(c.getD i yG).x=x/\(((c.getD i yG).op=4/\zX prog 26 [dD n (mA ds x)] (.yD [dD n p,.int .i64 0]))\/∃ y:Nat,y<i/\(c.getD i yG).y=y /\
  (((c.getD i yG).op=5/\zX prog 27 [dD n (mA ds x),dD n (mA ds y)] (.yD [dD n p,.int .i64 0]))\/((c.getD i yG).op=6/\zX prog 28 [dD n (mA ds x),dD n (mA ds y)] (.yD [dD n p,.int .i64 0])) \/
   ((c.getD i yG).op=7/\∃ u,zX prog 26 [dD n (mA ds x)] (.yD [dD n u,.int .i64 0])/\ zX prog 28 [dD n u,dD n (mA ds y)] (.yD [dD n p,.int .i64 0])) \/
   ((c.getD i yG).op=8/\∃ u,zX prog 29 [dD n (mA ds x),dD n (mA ds y)] (.yD [dD n u,.int .i64 0])/\ zX prog 26 [dD n u] (.yD [dD n p,.int .i64 0])))))
theorem OW {n:Nat} {c:List Nd} {i:Nat} {ds:kO} {p:List yH × Nat} (h:Vt n c i ds) (hd:eI n p.1 p.2) (hv:∀ w,den p.1 n p.2 w=zm c (aC c w) i):Vt n c (i+1) (ds ++ [p]):=by
 obtain⟨h1,h2,h3⟩:=h;have e:∀ j,j<i->mA (ds ++ [p]) j=mA ds j:=λj hj=>zJ (by omega)
 have e2:mA (ds ++ [p]) i=p:=by rw [<- h1]; exact uP
 refine⟨by simp [h1],λj hj=>?_,λj hj w=>?_⟩
 ·by_cases c':j<i
  ·rw [e j c']; exact h2 j c'
  ·obtain rfl:j=i:=by omega
   rw [e2]; exact hd
 ·unfold zf
  by_cases c':j<i
  ·rw [e j c']; exact h3 j c' w
  ·obtain rfl:j=i:=by omega
   rw [e2]; exact hv w
theorem Px {n:Nat} {c:List Nd} (hn:n<=8) (hv:zY c) (hp:∀ p ∈ c,p.op<=8) (hf:∀ p ∈ c,p.op=3->p.i<n) (i:Nat) (hi:i<c.length) (ds:kO) (h:Vt n c i ds):∃ ds',(∃ p,ds'=ds ++ [p]/\DStep n c ds i p)/\ Vt n c (i+1) ds':=by
 have hmem:c.getD i yG ∈ c:=Fm.wR hi;have h8:=hp _ hmem;have h3:=hf _ hmem;have hnd:=hv i hi
 have h1:1<=(c.getD i yG).op:=by
  have:=(uQ.1 hnd).1
  by_cases hlt:(c.getD i yG).op<1
  ·rw [cS (.inl hlt)] at this; cases this
  ·omega
 have hval:=λleaf=>zz hv leaf hi;obtain⟨ox,oy,_,_⟩:=sZ hnd;have hdia:=h.L3;have hden:=h.den;have hfn:=λh3=>fY hnd h3;unfold DStep;unfold aC at hden;have fin:=λ{p:List yH × Nat} (hd:eI n p.1 p.2) (hv:∀ w,den p.1 n p.2 w=zm c (aC c w) i)=>OW h hd hv;unfold aC at fin;generalize hq:c.getD i yG=q at h8 h3 h1 hval ox oy hfn
 rcases(show q.op=1\/q.op=2\/q.op=3\/q.op=4\/q.op=5\/q.op=6\/q.op=7\/q.op=8 by omega) with e | e | e | e | e | e | e | e
 ·refine⟨_,⟨([],1),rfl,.inl ⟨e,rfl⟩⟩,fin (ni (b:=true)) λw=>?_⟩;rw [hval,if_neg (by unfold sT; omega),e,xA (by omega)]; rfl
 ·refine⟨_,⟨([],0),rfl,.inr (.inl ⟨e,rfl⟩)⟩,fin (ni (b:=false)) λw=>?_⟩;rw [hval,if_neg (by unfold sT; omega),e,xA (by omega)]; rfl
 ·obtain⟨_,g1,_⟩:=hfn e;have g2:=h3 e;obtain⟨k,hk⟩:=γ g1;refine⟨_,⟨([(k,0,1)],2),rfl,.inr (.inr (.inl ⟨e,k,by omega,hk,rfl⟩))⟩,fin (Zr (by omega) (by omega)) λw=>?_⟩;rw [hval,if_pos (by unfold sT; omega),Rv (by omega) (by omega),hq,hk]; rfl
 ·obtain⟨ux,uy⟩:=sM (op:=q.op) (by omega) h8;obtain⟨x0,xl⟩:=ox ux;obtain⟨x,hx⟩:=γ x0;have hxl:x<i:=by omega
  have ex:q.x.toNat=x:=by omega
  obtain⟨E,r,D,hd,hr⟩:=VW hn (hdia x hxl);refine⟨_,⟨(E,r),rfl,.inr (.inr (.inr ⟨x,hxl,hx,.inl ⟨e,hr⟩⟩))⟩,fin D λw=>?_⟩;rw [hd w,hval,if_neg (by unfold sT; omega),e,ex,<- hden x hxl w]; rfl
 ·obtain⟨ux,uy⟩:=sM (op:=q.op) (by omega) h8;obtain⟨x0,xl⟩:=ox ux;obtain⟨x,hx⟩:=γ x0;have hxl:x<i:=by omega
  have ex:q.x.toNat=x:=by omega
  obtain⟨y0,yl⟩:=oy (uy (by omega));obtain⟨y,hy⟩:=γ y0;have hyl:y<i:=by omega
  have ey:q.y.toNat=y:=by omega
  obtain⟨E,r,D,hd,hr⟩:=OH hn (hdia x hxl) (hdia y hyl);refine⟨_,⟨(E,r),rfl,.inr (.inr (.inr ⟨x,hxl,hx,.inr ⟨y,hyl,hy,.inl ⟨e,hr⟩⟩⟩))⟩,fin D λw=>?_⟩;rw [hd w,hval,if_neg (by unfold sT; omega),e,ex,ey,<- hden x hxl w,<- hden y hyl w]; rfl
 ·obtain⟨ux,uy⟩:=sM (op:=q.op) (by omega) h8;obtain⟨x0,xl⟩:=ox ux;obtain⟨x,hx⟩:=γ x0;have hxl:x<i:=by omega
  have ex:q.x.toNat=x:=by omega
  obtain⟨y0,yl⟩:=oy (uy (by omega));obtain⟨y,hy⟩:=γ y0;have hyl:y<i:=by omega
  have ey:q.y.toNat=y:=by omega
  obtain⟨E,r,D,hd,hr⟩:=P6 hn (hdia x hxl) (hdia y hyl);refine⟨_,⟨(E,r),rfl,.inr (.inr (.inr ⟨x,hxl,hx,.inr ⟨y,hyl,hy,.inr (.inl ⟨e,hr⟩)⟩⟩))⟩,fin D λw=>?_⟩;rw [hd w,hval,if_neg (by unfold sT; omega),e,ex,ey,<- hden x hxl w,<- hden y hyl w]; rfl
 ·obtain⟨ux,uy⟩:=sM (op:=q.op) (by omega) h8;obtain⟨x0,xl⟩:=ox ux;obtain⟨x,hx⟩:=γ x0;have hxl:x<i:=by omega
  have ex:q.x.toNat=x:=by omega
  obtain⟨y0,yl⟩:=oy (uy (by omega));obtain⟨y,hy⟩:=γ y0;have hyl:y<i:=by omega
  have ey:q.y.toNat=y:=by omega
  obtain⟨E0,r0,D0,hd0,hr0⟩:=VW hn (hdia x hxl);obtain⟨E,r,D,hd,hr⟩:=P6 hn D0 (hdia y hyl);refine⟨_,⟨(E,r),rfl,.inr (.inr (.inr ⟨x,hxl,hx,.inr ⟨y,hyl,hy,.inr (.inr (.inl ⟨e,(E0,r0),hr0,hr⟩))⟩⟩))⟩,fin D λw=>?_⟩;rw [hd w,hd0 w,hval,if_neg (by unfold sT; omega),e,ex,ey,<- hden x hxl w,<- hden y hyl w]; rfl
 ·obtain⟨ux,uy⟩:=sM (op:=q.op) (by omega) h8;obtain⟨x0,xl⟩:=ox ux;obtain⟨x,hx⟩:=γ x0;have hxl:x<i:=by omega
  have ex:q.x.toNat=x:=by omega
  obtain⟨y0,yl⟩:=oy (uy (by omega));obtain⟨y,hy⟩:=γ y0;have hyl:y<i:=by omega
  have ey:q.y.toNat=y:=by omega
  obtain⟨E0,r0,D0,hd0,hr0⟩:=OT hn (hdia x hxl) (hdia y hyl);obtain⟨E,r,D,hd,hr⟩:=VW hn D0;refine⟨_,⟨(E,r),rfl,.inr (.inr (.inr ⟨x,hxl,hx,.inr ⟨y,hyl,hy,.inr (.inr (.inr ⟨e,(E0,r0),hr0,hr⟩))⟩⟩))⟩,fin D λw=>?_⟩;rw [hd w,hd0 w,hval,if_neg (by unfold sT; omega),e,ex,ey,<- hden x hxl w,<- hden y hyl w];show (!(zf n ds w x != zf n ds w y))= (zf n ds w x==zf n ds w y);cases zf n ds w x <;> cases zf n ds w y <;> rfl
end Bd
namespace Bd
theorem XV (n:Nat) (ds:kO) (p:List yH × Nat):vH n (ds ++ [p])= vH n ds ++ [xD n p.1 p.2]:=by simp [vH]
theorem XU (n:Nat) (ds:kO):∀ e ∈ vH n ds,D.xT e=true:=by intro e he;obtain⟨p,_,rfl⟩:=ν.1 he;rfl
theorem Vn {n k:Nat} {ds:kO} (h:0<ds.length):yX k 3 (vH n ds)= [(k,⟨3,vH n ds⟩)]:=by
 cases ds with
 | nil=>simp at h
 | cons a r=>rfl
theorem Vm {n k:Nat} {ds:kO} (h:0<ds.length):xJ k 3 (vH n ds)= .wZ k 3 ds.length:=by
 cases ds with
 | nil=>simp at h
 | cons a r=>simp [vH,xJ]
end Bd
theorem OZ {C:Cx} (h0:C.n0=0) {n i r:Nat} {E:List yH} {ds:kO} {c:List Nd} {X Y:Ob}:yJ C [(7,.int .i64 ((i+1:Nat):Int)),(6,xJ (2+3*i+1+1) 3 (vH n ds ++ [[.int .i64 (n:Int),.sl 3 (vJ E),.int .i64 (r:Int)]])),(4,.ref 0 3 0 0),(1,.int .i64 (n:Int)),(0,.sl 6 (vW c))]
  ⟨2+3*i+1+1+1,yX (2+3*i+1+1) 3 (vH n ds ++ [[.int .i64 (n:Int),.sl 3 (vJ E),.int .i64 (r:Int)]])++ [(2+3*i+1,X),(2+3*i,Y),(0,Yb)]⟩
  [(7,.int .i64 ((i+1:Nat):Int)),(6,xJ (1+3*(i+1)) 3 (vH n (ds ++ [(E,r)]))),(4,.ref 0 3 0 0),(1,.int .i64 (n:Int)),(0,.sl 6 (vW c))] ⟨2+3*(i+1),yX (1+3*(i+1)) 3 (vH n (ds ++ [(E,r)]))++ [(0,Yb)]⟩:=by
 have e0:vH n ds ++ [[.int .i64 (n:Int),.sl 3 (vJ E),.int .i64 (r:Int)]]=vH n (ds ++ [(E,r)]):=by rw [XV]; rfl
 have hpos:0<(ds ++ [(E,r)]).length:=by simp
 rw [e0,Vn hpos,Vn hpos,Vm hpos,Vm hpos,show 2+3*(i+1)= 2+3*i+1+1+1 by omega,show 1+3*(i+1)= 2+3*i+1+1 by omega];have y1:¬ 2+3*i+1+1=0:=by omega
 have y2:¬ 2+3*i+1=0:=by omega
 have y3:¬ 2+3*i=0:=by omega
 have hp:=XU n (ds ++ [(E,r)])
 have hz:∀ e ∈ Yb.xZ,D.xT e=true:=λe he=>by rw [ξ.1 he]; rfl
 generalize vH n (ds ++ [(E,r)])= R at hp
 refine yJ.view (λk=>k) (by rw [h0]; exact κ _) (λ_ _=>rfl) ?_ ?_ (by simp [wQ])
 ·simp [aK,vw,sV,Fr.get]
 ·simp [stays,St.get,St.look,y1,y2,y3];exact⟨.same hp,.same hz⟩
theorem xv {C:Cx} (h0:C.n0=0) {fr:Fr} {n i r:Nat} {E:List yH} {ds:kO} {c:List Nd} {X Y:Ob} (aJ:vI fr [(7,.int .i64 ((i+1:Nat):Int)),(6,xJ (2+3*i+1+1) 3 (vH n ds ++ [[.int .i64 (n:Int),.sl 3 (vJ E),.int .i64 (r:Int)]])),(4,.ref 0 3 0 0),(1,.int .i64 (n:Int)),(0,.sl 6 (vW c))]) :
  yJ C fr ⟨2+3*i+1+1+1,yX (2+3*i+1+1) 3 (vH n ds ++ [[.int .i64 (n:Int),.sl 3 (vJ E),.int .i64 (r:Int)]])++ [(2+3*i+1,X),(2+3*i,Y),(0,Yb)]⟩
  [(7,.int .i64 ((i+1:Nat):Int)),(6,xJ (1+3*(i+1)) 3 (vH n (ds ++ [(E,r)]))),(4,.ref 0 3 0 0),(1,.int .i64 (n:Int)),(0,.sl 6 (vW c))] ⟨2+3*(i+1),yX (1+3*(i+1)) 3 (vH n (ds ++ [(E,r)]))++ [(0,Yb)]⟩:=yJ.trans (yJ.same aJ) (OZ h0)
theorem Wa {f:List Nd} {n:Nat} (hn:n<=8) (hc:yQ f=0) (h8:∀ p ∈ xQ f,p.op<=8) (hf:∀ p ∈ xQ f,p.op=3->p.i<n) :
  ∃ E r,eI n E r/\(∀ w,den E n r w=vO (xQ f) (aC (xQ f) w))/\ zX prog 7 [.sl 6 (vW f),.int .i64 (n:Int)] (.yD [yA n E r,.int .i64 0]):=by
 have hcp:=kV f;have zL:=pP hc;have hlc:(xQ f).length<=200:=kI f _;have hv:=mF f;generalize xQ f=c at hcp zL hlc hv h8 hf;obtain⟨g,g0,gr,gp⟩:=chain (P:=Vt n c) (R:=λi a b=>∃ p,b=a ++ [p]/\DStep n c a i p) (a0:=[]) ⟨rfl,λj hj=>by omega,λj hj=>by omega⟩ c.length (Px hn hv h8 hf);have gl:=gp c.length (ε _);refine⟨(mA (g c.length) (c.length-1)).1,(mA (g c.length) (c.length-1)).2,gl.L3 _ (by omega),λw=>gl.den _ (by omega) w,?_⟩;refine yS func7 k7 λhf=>?_;refine xB ?_;refine .go (cq hcp) ?_;refine xB ?_
 refine yM (λi:Nat=>[(7,.int .i64 i),(6,xJ (1+3*i) 3 (vH n (g i))),(4,.ref 0 3 0 0),(1,.int .i64 n),(0,.sl 6 (vW c))]) (λi=>⟨2+3*i,yX (1+3*i) 3 (vH n (g i))++ [(0,Yb)]⟩) (λi=>i<=c.length) (λi=>c.length-i) 0 (κ _) ?_ ?_
 ·rw [g0];refine yJ.trans (yJ.W7 (j:=1)) ?_
  (refine yJ.same ?_; simp [vI,Fr.get,vH,List.map_nil,xJ,yX,List.nil_append,Yb,Nat.mul_zero,θ])
 intro i hi;refine wH mixed ?_;by_cases h:i<c.length
 case neg=>
  have hd:¬ ((i:Int)<(c.length:Int)):=by omega
  obtain rfl:i=c.length:=by omega
  have hl:=gl.len;rw [Vn (by omega),Vm (by omega),hl];have y0:¬ 1+3*c.length=0:=by omega
  have e1:((c.length:Int)== 0)= false:=by rw [beq_eq_false_iff_ne]; omega
  have e2:IntKind.i64.wrap ((c.length:Int)-1)= ((c.length-1:Nat):Int):=by rw [wrap_i64 (by omega)]; omega
  have hg:=qC n (g c.length) (show c.length-1<(g c.length).length by omega);simp only [simprocAttr,-ZA,↓zU,↓zD,zV,zT,zW,hd,xF,e1,e2,Yb,y0,yB,hl,hg,xD]
  (repeat refine sd ?_)
  exact .drop (by simp) (by simp [vw,sV,yA,xD])
 have hd:((i:Int)<(c.length:Int)):=by omega
 have hg:=rX c h;have hl:=(gp i hi).len;obtain⟨p,hp1,hp2⟩:=gr i h;unfold DStep at hp2;unfold Nd.row at hg;generalize c.getD i yG=q at hp2 hg;obtain⟨op,qi,qe,qg,qx,qy⟩:=q;simp only at hp2 hg;have w1:¬ 2+3*i=0:=by omega
 have w2:¬ 2+3*i+1=0:=by omega
 have w3:¬ 2+3*i+1+1=0:=by omega
 have w4:¬ 2+3*i=1+3*i:=by omega
 have w5:¬ 2+3*i+1=1+3*i:=by omega
 have w6:¬ 2+3*i+1=2+3*i:=by omega
 have w7:¬ 2+3*i+1+1=2+3*i:=by omega
 have w8:¬ 2+3*i+1+1=2+3*i+1:=by omega
 have w9:¬ 1+3*i=0:=by omega
 have w0:¬ 0=1+3*i:=by omega
 rcases hp2 with ⟨rfl,rfl⟩ | ⟨rfl,rfl⟩ | ⟨rfl,k,hk,rfl,rfl⟩ | ⟨x,hx,rfl,hp2⟩
 ·have hct:=Zh (n:=n) (by omega) true;refine eG hd xF hg ?_;refine .go (cq hct) ?_;simp only [simprocAttr,-ZA,↓zU,↓zD,zV,zT,zW,w0,w1,w2,w3,w4,w5,w6,w7,w8,w9,yA,xD,yB,hl];refine⟨rfl,by omega,by omega,i+1,by omega,?_,by omega⟩;rw [hp1];refine xv rfl ?_;simp only [vI,Fr.get,↓reduceIte,reduceIte,ζ,reduceCtorEq,D.int.injEq,and_true,true_and,and_self];first | exact vX (k:=i) (by omega) | exact⟨vX (k:=i) (by omega),rfl⟩
 ·have hct:=Zh (n:=n) (by omega) false;refine eG hd xF hg ?_;refine .go (cq hct) ?_;simp only [simprocAttr,-ZA,↓zU,↓zD,zV,zT,zW,w0,w1,w2,w3,w4,w5,w6,w7,w8,w9,yA,xD,yB,hl];refine⟨rfl,by omega,by omega,i+1,by omega,?_,by omega⟩;rw [hp1];refine xv rfl ?_;simp only [vI,Fr.get,↓reduceIte,reduceIte,ζ,reduceCtorEq,D.int.injEq,and_true,true_and,and_self];first | exact vX (k:=i) (by omega) | exact⟨vX (k:=i) (by omega),rfl⟩
 ·have hct:=OR (n:=n) (by omega) hk;refine Oo hd xF hg w0 w1 w2 w3 w4 w5 w6 w7 w8 w9 ?_;refine .go (cq hct) ?_;simp only [simprocAttr,-ZA,↓zU,↓zD,zV,zT,zW,w0,w1,w2,w3,w4,w5,w6,w7,w8,w9,yA,xD,yB,hl];refine⟨rfl,by omega,by omega,i+1,by omega,?_,by omega⟩;rw [hp1];refine xv rfl ?_;simp only [vI,Fr.get,↓reduceIte,reduceIte,ζ,reduceCtorEq,D.int.injEq,and_true,true_and,and_self];first | exact vX (k:=i) (by omega) | exact⟨vX (k:=i) (by omega),rfl⟩
 have gx:=qC n (g i) (show x<(g i).length by omega)
 rcases hp2 with ⟨rfl,hr⟩ | ⟨y,hy,rfl,hp2⟩
 ·unfold Go.Pd.Bd.dD yA xD at hr;simp only [simprocAttr,-ZA,↓zU,↓zD,zV,zT,zW,hd,xF,hg,w0,w1,w2,w3,w4,w5,w6,w7,w8,w9,yB,hl,gx,xD]
  (repeat refine sd ?_)
  refine .go (cq hr) ?_;simp only [simprocAttr,-ZA,↓zU,↓zD,zV,zT,zW,w0,w1,w2,w3,w4,w5,w6,w7,w8,w9,yA,xD,yB,hl];refine⟨rfl,by omega,by omega,i+1,by omega,?_,by omega⟩;rw [hp1];refine xv rfl ?_;simp only [vI,Fr.get,↓reduceIte,reduceIte,ζ,reduceCtorEq,D.int.injEq,and_true,true_and,and_self];first | exact vX (k:=i) (by omega) | exact⟨vX (k:=i) (by omega),rfl⟩
 have gy:=qC n (g i) (show y<(g i).length by omega)
 rcases hp2 with ⟨rfl,hr⟩ | ⟨rfl,hr⟩ | ⟨rfl,u,hr,hr2⟩ | ⟨rfl,u,hr,hr2⟩
 ·unfold Go.Pd.Bd.dD yA xD at hr;simp only [simprocAttr,-ZA,↓zU,↓zD,zV,zT,zW,hd,xF,hg,w0,w1,w2,w3,w4,w5,w6,w7,w8,w9,yB,hl,gx,gy,xD]
  (repeat refine sd ?_)
  refine .go (cq hr) ?_;simp only [simprocAttr,-ZA,↓zU,↓zD,zV,zT,zW,w0,w1,w2,w3,w4,w5,w6,w7,w8,w9,yA,xD,yB,hl];refine⟨rfl,by omega,by omega,i+1,by omega,?_,by omega⟩;rw [hp1];refine xv rfl ?_;simp only [vI,Fr.get,↓reduceIte,reduceIte,ζ,reduceCtorEq,D.int.injEq,and_true,true_and,and_self];first | exact vX (k:=i) (by omega) | exact⟨vX (k:=i) (by omega),rfl⟩
 ·unfold Go.Pd.Bd.dD yA xD at hr;simp only [simprocAttr,-ZA,↓zU,↓zD,zV,zT,zW,hd,xF,hg,w0,w1,w2,w3,w4,w5,w6,w7,w8,w9,yB,hl,gx,gy,xD]
  (repeat refine sd ?_)
  refine .go (cq hr) ?_;simp only [simprocAttr,-ZA,↓zU,↓zD,zV,zT,zW,w0,w1,w2,w3,w4,w5,w6,w7,w8,w9,yA,xD,yB,hl];refine⟨rfl,by omega,by omega,i+1,by omega,?_,by omega⟩;rw [hp1];refine xv rfl ?_;simp only [vI,Fr.get,↓reduceIte,reduceIte,ζ,reduceCtorEq,D.int.injEq,and_true,true_and,and_self];first | exact vX (k:=i) (by omega) | exact⟨vX (k:=i) (by omega),rfl⟩
 ·unfold Go.Pd.Bd.dD yA xD at hr hr2;simp only [simprocAttr,-ZA,↓zU,↓zD,zV,zT,zW,hd,xF,hg,w0,w1,w2,w3,w4,w5,w6,w7,w8,w9,yB,hl,gx,gy,xD]
  (repeat refine sd ?_)
  refine .go (cq hr) ?_;simp only [simprocAttr,-ZA,↓zU,↓zD,zV,zT,zW,w0,w1,w2,w3,w4,w5,w6,w7,w8,w9,yA,xD,yB,hl,gy]
  (repeat refine sd ?_)
  refine .go (cq hr2) ?_;simp only [simprocAttr,-ZA,↓zU,↓zD,zV,zT,zW,w0,w1,w2,w3,w4,w5,w6,w7,w8,w9,yA,xD,yB,hl];refine⟨rfl,by omega,by omega,i+1,by omega,?_,by omega⟩;rw [hp1];refine xv rfl ?_;simp only [vI,Fr.get,↓reduceIte,reduceIte,ζ,reduceCtorEq,D.int.injEq,and_true,true_and,and_self];first | exact vX (k:=i) (by omega) | exact⟨vX (k:=i) (by omega),rfl⟩
 ·unfold Go.Pd.Bd.dD yA xD at hr hr2;simp only [simprocAttr,-ZA,↓zU,↓zD,zV,zT,zW,hd,xF,hg,w0,w1,w2,w3,w4,w5,w6,w7,w8,w9,yB,hl,gx,gy,xD]
  (repeat refine sd ?_)
  refine .go (cq hr) ?_;simp only [simprocAttr,-ZA,↓zU,↓zD,zV,zT,zW,w0,w1,w2,w3,w4,w5,w6,w7,w8,w9,yA,xD,yB,hl]
  (repeat refine sd ?_)
  refine .go (cq hr2) ?_;simp only [simprocAttr,-ZA,↓zU,↓zD,zV,zT,zW,w0,w1,w2,w3,w4,w5,w6,w7,w8,w9,yA,xD,yB,hl];refine⟨rfl,by omega,by omega,i+1,by omega,?_,by omega⟩;rw [hp1];refine xv rfl ?_;simp only [vI,Fr.get,↓reduceIte,reduceIte,ζ,reduceCtorEq,D.int.injEq,and_true,true_and,and_self];first | exact vX (k:=i) (by omega) | exact⟨vX (k:=i) (by omega),rfl⟩
end Go.Pd

/- Part XR. -/
namespace Go.Pd
open Go
section
variable [vA]
def VV (P:Program) (gi:FuncId):Prop:=sI P gi/\∀ (l Bs o b off n cap:Nat) (sa:Option Addr) (va vb:Nat->Value) (J:Nat->World->Prop),n<=maxLen->(0<n->sa=some ⟨b,off,none⟩) ->
 (∀ k W,J k W->W.cell? ⟨Bs,o,none⟩= some (.slice sa n cap)/\ ∀ i,i<n->W.cell? ⟨b,off+i*2,none⟩= some (va i)/\ W.cell? ⟨b,off+i*2+1,none⟩= some (vb i))->(∀ k W,J k W->J k W.drew) ->
 (∀ k W,k<n->J k W->YieldAt Fence.wide 0 P l #[.int .i64 ((n-1-k:Nat):Int),.agg #[va (n-1-k),vb (n-1-k)]] W λe W'=>e = .returned (.bool true)/\ J (k+1) W') ->
 ∀ W,J 0 W->CallsIn Fence.wide 0 P gi #[.func (.yield l) #[] #[],.pointer (some ⟨Bs,o,none⟩)] W λe W'=>(∃ v,e = .returned v)/\ J n W'
variable {C : Cx} {E : Env} {a : Act} {w : World} {f : Fr} {σ : St} {ι : Nat -> Nat}
theorem yR.lay (G:yR C E a w f σ ι) (o:Obj):yR C E a (w.alloc o) f σ ι:=by have hk:=Kept.alloc w o λ_=>False;exact⟨G.size,G.defers.xC rfl hk.size (λD hD=>hk.mark id hD),G.nx,G.kept.trans hk (λ_ _ h=>h) (λ_ _ h=>h.elim),G.oC.ext hk,G.oS,G.rQ,G.stay,λt=>(G.fr t).xC (λb hb _=>hk.block b hb id) (λ_ _ h=>h) hk.shape (λ_ _=>rfl) (ε _)⟩
abbrev fh (E:Env) (w:World) (σ:St) (ι:Nat->Nat) (o:Obj):Env:=⟨w.alloc o,λb=>E.M0 b\/b=w.heap.size,λb=>rB ι σ b\/b=w.heap.size,ι,E.B⟩
theorem yR.V9 (G:yR C E a w f σ ι) (o:Obj):yR { C with n0:=σ.nx } (fh E w σ ι o) a (w.alloc o) f σ ι:=by
 have hk:=Kept.alloc w o λ_=>False;have hS:=G.oC.PJ o;refine⟨G.size,G.defers.xC rfl hk.size (λD hD=>hk.mark id hD),ε _,Kept.refl _ _,hS,hS.oS,λk o hk=>.inr (.inl ⟨k,o,hk,rfl⟩),λ_ _=>rfl,λt=>(G.fr t).xC (λb hb _=>hk.block b hb id) (λb hb hx=>?_) hk.shape (λ_ _=>rfl) (ε _)⟩
 rcases hx with (hx | hx) | hx
 ·exact .inl hx
 ·omega
 ·exact .inr hx
theorem yR.end_ {a0:Act} {w0:World} {f0:Fr} {σ0:St} {ι0:Nat->Nat} {q0:Obj} (G0:yR C E a0 w0 f0 σ0 ι0) (G:yR { C with n0:=σ0.nx } (fh E w0 σ0 ι0 q0) a w f σ ι):yR C E a w f σ ι:=by
 have hsz:E.w0.heap.size<=w0.heap.size:=G0.kept.size
 have hown:∀ b,rB ι0 σ0 b->E.w0.heap.size<=b\/E.K0 b:=by rintro b ⟨k,o,hk,rfl⟩;exact G0.rQ k o hk
 have h1:Kept w0 (w0.alloc q0) λ_=>False:=Kept.alloc w0 q0 _;have hs1:(w0.alloc q0).heap.size=w0.heap.size+1:=by show (w0.heap.push q0).size=_; simp
 have hnx:σ0.nx<=σ.nx:=G.nx;have hnx0:=G0.nx
 refine⟨G.size,G.defers,by omega,?_,G.oC.less λb hb=>.inl hb,G0.oS,λk o hk=>?_,λk hk=>?_,λt=>(G.fr t).xC (λ_ _ _=>rfl) (λb _ hb=>hb.imp .inl id) (λb cur e h=>⟨cur,h,rfl⟩) (λ_ _=>rfl) (ε _)⟩
 ·refine G0.kept.trans (h1.trans G.kept (K'':=λb=>rB ι0 σ0 b\/b=w0.heap.size) (λ_ _ h=>h.elim) λ_ _ h=>h) (λ_ _ h=>h) λb hb hx=>?_
  rcases hx with hx | hx
  ·rcases hown b hx with h | h
   ·omega
   ·exact h
  ·omega
 ·rcases G.rQ k o hk with h | h | h
  ·have h':(w0.alloc q0).heap.size<=ι k:=h;left; omega
  ·exact hown _ h
  ·left; rw [h]; exact hsz
 ·have:=G.stay k (show k<σ0.nx by omega);exact this.trans (G0.stay k hk)
theorem yR.back {a2:Act} {w2:World} {f2:Fr} {σ2:St} {ι2:Nat->Nat} {q:Obj} {rd:Option Nat} (hq:∀ x,q≠Obj.deferred x) (G1:yR C E a w f σ ι) (G2:yR { C with n0:=σ.nx,rd:=rd } (fh E w σ ι q) a2 w2 f2 σ2 ι2):yR { C with n0:=σ.nx } (fh E w σ ι q) a w2 f σ2 ι2:=by
 have G:=G1.V9 q;have hl:(w.alloc q).heap[w.heap.size]?=some q:=World.alloc_heap_new w q
 refine⟨G.size,G.defers.xC rfl G2.kept.size (λD hD=>G2.kept.mark (λh=>?_) hD),G2.nx,G2.kept,G2.oC,G2.oS,G2.rQ,G2.stay,λt=>?_⟩
 ·rcases h with h | h
  ·exact G.oC.cY hD h
  ·rw [h,hl] at hD;exact hq _ (Option.some.inj hD)
 ·refine(G.fr t).xC (λb hb hM=>G2.kept.block b hb λh=>hM (h.elim (λh=>.inr h) λh=>.inl (.inr h))) (λb hb hM=>?_) G2.kept.shape (λk hk=>G2.stay k hk) G2.nx
  rcases hM with hM | ⟨k,o,hk,rfl⟩
  ·exact .inl hM
  ·rcases G2.rQ k o hk with h | h | h
   ·have:(w.alloc q).heap.size<=ι2 k:=h;omega
   ·exact .inr h
   ·exact .inl (.inr h)
theorem yR.PO {rd:Option Nat} (G:yR C E a w f σ ι):yR { C with rd:=rd } E a w f σ ι:=⟨G.size,G.defers,G.nx,G.kept,G.oC,G.oS,G.rQ,G.stay,G.fr⟩
theorem yR.OY (G:yR C E a w f σ ι):yR C E a w.drew f σ ι:=by have hk:Kept w w.drew λ_=>False:=(Kept.refl _ _).drew;exact⟨G.size,G.defers.xC rfl (ε _) λD hD=>hD,G.nx,G.kept.drew,G.oC.ext hk,G.oS,G.rQ,G.stay,G.fr.xC (λb hb _=>rfl) (λ_ _ h=>h) hk.shape (λ_ _=>rfl) (ε _)⟩
theorem yR.bare (G:yR C E a w f σ ι):yR C E { tmps:=a.tmps,defers:=[] } w f σ ι:=⟨G.size,.none rfl G.defers.1,G.nx,G.kept,G.oC,G.oS,G.rQ,G.stay,G.fr⟩
theorem yR.Vr {b0:Nat} {w':World} (G:yR C E a w f σ ι) (hk:Kept w w' λb=>b=b0) (hM:E.M0 b0) (hK:E.K0 b0) (hd:∀ x,w.heap[b0]?≠some (Obj.deferred x)):yR C E a w' f σ ι:=G.tick hk hM hK hd
theorem zI.Y9 {M0:Nat->Prop} (hS:zI M0 w σ ι) {D:Nat} {x:Loop} (h:w.heap[D]?=some (Obj.loop x)):¬ rB ι σ D:=by
 rintro ⟨k,o,hk,rfl⟩
 rcases(hS.holds k o hk).2 with ⟨_,cur,e,h1,_⟩ | ⟨_,es,h1,_⟩
 ·rw [h] at h1; cases h1
 ·rw [h] at h1; cases h1
theorem U7 {P:Program} {N:Nat} {own:List Nat} {code:Code} {g:vK} {ps:List Nat} {x y:DC} (h:tW P N own code=some (.eE g ps x y)):∃ g0 ps0 a c,code = .rangeFunc g0 ps0 a c/\xM N g0=some g/\ps0.toList=ps/\tW P N own a=some x/\tW P N own c=some y:=by
 cases code with
 | region id ops draw=>rcases uG h with ⟨_,_,e⟩ | ⟨_,⟨_,_,_,_,e⟩ | ⟨_,_,_,_,e⟩ | ⟨_,_,_,_,e⟩⟩ | ⟨_,_,⟨_,_,_,e⟩,_⟩ <;> cases e
 | rangeFunc g0 ps0 a c=> simp only [tW,zO,DC.eE.injEq] at h;obtain⟨g',hg,dx,hx,dy,hy,rfl,rfl,rfl,rfl⟩:=h;exact⟨g0,ps0,a,c,rfl,hg,rfl,hx,hy⟩
 | seq a b=> simp only [tW,zO] at h;obtain⟨dx,hx,dy,hy,h⟩:=h;rcases vT dx dy with e | ⟨_,_,_,_,_,_,_,_,_,_,_,_,e,_⟩ <;> rw [e] at h <;> cases h
 | _=>simp [tW,Option.bind_eq_some_iff] at h
theorem dg (hrd:C.rd=none) {g:vK} {p0 p1:Nat} {dx dy:DC} {Q:Exit->Fr->St->Prop} {gi:FuncId} {xZ:List (List D)} {els0:D} (hB:VV C.P gi) (hg:wP f g = .fn gi [.ptr [els0]]) (he:els0 = .sl 2 xZ\/(els0 = .xI/\xZ = [])) (hp:p0<C.N/\p1<C.N)
  (J:Nat->St->Prop) (h0:J 0 σ)
  (round:∀ l k σk,k<xZ.length->J k σk->wpS { C with n0:=σ.nx,rd:=some l } dx ((f.put (some p0) (.int .i64 ((xZ.length-1-k:Nat):Int))).put (some p1) (.agg (xZ.getD (xZ.length-1-k) []))) σk
   (jA (λf1 σ1=>wpS { C with n0:=σ.nx,rd:=some l } dy f1 σ1 λe f2 σ2=>e = .normal/\∃ f3 σ3,yJ { C with n0:=σ.nx,rd:=some l } f2 σ2 f3 σ3/\J (k+1) σ3) λ_ _ _=>False))
  (done:∀ σ',J xZ.length σ'->Q .normal f σ'):wpS C (.eE g [p0,p1] dx dy) f σ Q:=by
 intro code hc E a w ⟨ι,G⟩;obtain⟨g0,ps0,x,y,rfl,hg0,hps,hx,hy⟩:=U7 hc;obtain rfl:ps0 = #[p0,p1]:=by rw [<- hps]
 obtain⟨vs,hv,hv1,hv2⟩:=(hg ▸ oD G.fr hg0).kM;have hv1':vs.size=1:=hv1;have hvp:=hv2 0 (by show 0<1; omega);obtain⟨Bs,o,vs0,hvB,_,hMB,hcB,hrB⟩:=R.qR (cs:=[els0]) hvp
 have hlb:vs = #[.pointer (some ⟨Bs,o,none⟩)]:=by
  refine Array.ext (by rw [hv1']; rfl) λi h1 h2=>?_;have hi0:i=0:=by rw [hv1'] at h1; omega
  subst hi0;have:vs.getD 0 undef=vs[0]:=by simp [Array.getD,h1]
  rw [this] at hvB;rw [hvB]; rfl
 have hcB0:=hcB 0 (by show 0<1; omega);have hrB0:=hrB 0 (by show 0<1; omega);generalize vs0 0=sv at hcB0 hrB0
 obtain⟨sa,b,off,cap,va,vb,hsv,hnm,hsa,hcel⟩:∃ (sa:Option Addr) (b off cap:Nat) (va vb:Nat->Value),sv = .slice sa xZ.length cap/\xZ.length<=maxLen/\(0<xZ.length->sa=some ⟨b,off,none⟩/\ ¬ yO E.M0 ι σ b)/\
   ∀ i,i<xZ.length->w.cell? ⟨b,off+i*2,none⟩= some (va i)/\ w.cell? ⟨b,off+i*2+1,none⟩= some (vb i)/\ (xZ.getD i []).length=2/\RP (yO E.M0 ι σ) w (va i) ((xZ.getD i []).getD 0 .top)/\ RP (yO E.M0 ι σ) w (vb i) ((xZ.getD i []).getD 1 .top):=by
  rcases he with rfl | ⟨rfl,rfl⟩
  ·rcases(R.pure (ι:=ι) (n:=σ.nx) hrB0).kN with ⟨ad,cap,e1,rfl,hcap⟩ | ⟨b,off,cap,vs,e1,g1,g2,g3,g4,g5,g6,g7⟩
   ·exact⟨ad,0,0,cap,λ_=>undef,λ_=>undef,e1,by simp,λh=>absurd h (by simp),λi hi=>absurd hi (by simp)⟩
   ·refine⟨_,b,off,cap,λi=>vs i 0,λi=>vs i 1,e1,by omega,λ_=>⟨rfl,g2⟩,λi hi=>?_⟩;have hm:xZ.getD i [] ∈ xZ:=by simp [List.getD,hi]
    have q0:=g6 i hi 0 (by omega);rw [θ] at q0;exact⟨q0,g6 i hi 1 (by omega),g5 _ hm,g7 i hi 0 (by omega),g7 i hi 1 (by omega)⟩
  ·have:=(R.pure (ι:=ι) (n:=σ.nx) hrB0).uA;exact⟨none,0,0,0,λ_=>undef,λ_=>undef,this,by simp,λh=>absurd h (by simp),λi hi=>absurd hi (by simp)⟩
 subst hsv;have hF:C.F=Fence.wide:=by unfold Cx.F; rw [hrd]; rfl
 rw [hF];obtain⟨w',hw'⟩:∃ w',w'=w.alloc (.deferred (some [])):=⟨_,rfl⟩;have G':yR C E a w' f σ ι:=by rw [hw']; exact G.lay _
 have hws:w'.heap.size=w.heap.size+1:=by rw [hw']; show (w.heap.push _).size=_; simp
 have hkw:Kept w w' λ_=>False:=by rw [hw']; exact Kept.alloc w _ _
 have hD':w'.heap[w.heap.size]?=some (Obj.deferred (some [])):=by rw [hw']; exact World.alloc_heap_new w _
 refine wpIn_rangeFunc λfn _=>?_;obtain⟨rec,hrec⟩:∃ rec:LoopState->Option Code->Loop,rec=λst pe=>{ state:=st,pending:=pe,fn,tmps:=a.tmps,params:=#[p0,p1],assign:=x,body:=y,defers:=w.heap.size }:=⟨_,rfl⟩;obtain⟨W1,hW1⟩:∃ W1,W1=w'.alloc (.loop (rec .ready none)):=⟨_,rfl⟩;have hk1:Kept w' W1 λ_=>False:=by rw [hW1]; exact Kept.alloc w' _ _
 have hl1:W1.heap[w.heap.size+1]?=some (Obj.loop (rec .ready none)):=by rw [hW1,<- hws]; exact World.alloc_heap_new w' _
 have hD1:W1.heap[w.heap.size]?=some (Obj.deferred (some [])):=hk1.mark id hD';have hs1:W1.heap.size=w.heap.size+2:=by rw [hW1]; show (w'.heap.push _).size=_; simp; omega
 refine⟨w.heap.size+1,[{ target:=.collected w.heap.size,args:=#[] }],W1,{ target:=.fn (.func gi) vs,args:=#[.func (.yield (w.heap.size+1)) #[] #[]] },W1,gi,#[.func (.yield (w.heap.size+1)) #[] #[]]++vs,W1,?_,?_,λ_ _=>trivial,?_,λh=>absurd (show false=true from h) (by decide),?_⟩
 ·have:=run_enterLoop_outer (P:=C.P) (w:=w) fn a.tmps #[p0,p1] x y;rw [hW1,hw',hrec];exact this
 ·simp only [resolve,hv];simp [go_sem]
 ·have:=oK hB.1 (#[.func (.yield (w.heap.size+1)) #[] #[]]++vs) W1;simpa [invoke,go_sem] using this
 rw [hlb]
 have hblk:∀ {W:World} {σk:St} {ιk:Nat->Nat},yR { C with n0:=σ.nx } (fh E w' σ ι (.loop (rec .ready none))) a W f σk ιk->∀ b',b'<w.heap.size->¬ yO E.M0 ι σ b'->W.heap[b']?=w.heap[b']?:=λ{W σk ιk} Gk b' hb hM=>by
  have e1:=Gk.kept.block b' (by show b'<(w'.alloc _).heap.size; rw [<- hW1]; omega) λh=>h.elim (λh=>hM (.inr h)) λh=>by omega
  have e2:(w'.alloc (.loop (rec .ready none))).heap[b']?=w'.heap[b']?:=by rw [<- hW1]; exact hk1.block b' (by omega) id
  exact e1.trans (e2.trans (hkw.block b' hb id))
 refine(hB.2 (w.heap.size+1) Bs o b off xZ.length cap sa va vb (λk W=>∃ σk ιk,J k σk/\yR { C with n0:=σ.nx } (fh E w' σ ι (.loop (rec .ready none))) a W f σk ιk/\W.heap[w.heap.size+1]?=some (Obj.loop (rec .ready none))/\ W.heap[w.heap.size]?=some (Obj.deferred (some []))) hnm (λh=>(hsa h).1) ?_ ?_ ?_ W1 ⟨σ,ι,h0,by rw [hW1]; exact G'.V9 _,hl1,hD1⟩).mono ?_
 ·rintro k W ⟨σk,ιk,_,Gk,_,_⟩;have hB1:=hblk Gk Bs (cW hcB0) hMB;refine⟨by rw [World.cell?_of_block (w:=w) hB1]; rw [θ] at hcB0; exact hcB0,λi hi=>?_⟩;obtain⟨q1,q2,_⟩:=hcel i hi;have hb1:=hblk Gk b (cW q1) (hsa (by omega)).2;exact⟨by rw [World.cell?_of_block (w:=w) hb1]; exact q1,by rw [World.cell?_of_block (w:=w) hb1]; exact q2⟩
 ·rintro k W ⟨σk,ιk,hJ,Gk,hl,hD⟩;exact⟨σk,ιk,hJ,Gk.OY,hl,hD⟩
 ·rintro k W hk ⟨σk,ιk,hJ,Gk,hl,hD⟩;obtain⟨_,_,q3,q4,q5⟩:=hcel (xZ.length-1-k) (by omega);have hy0:=run_yield (P:=C.P) (args:=#[.int .i64 ((xZ.length-1-k:Nat):Int),.agg #[va (xZ.length-1-k),vb (xZ.length-1-k)]]) hl (by rw [hrec]; rfl);rw [hrec] at hy0;refine⟨fn,_,x,y,hy0,roundIn_of_wpIn trivial ?_⟩
  have hMk:∀ b',b'<w.heap.size->yO (fh E w' σ ι (.loop (rec .ready none))).M0 ιk σk b'->yO E.M0 ι σ b':=λb' hb' hM=>by
   rcases hM with (hM | hM) | ⟨k',o',hk',rfl⟩
   ·exact .inl hM
   ·have:b'=w'.heap.size:=hM;omega
   ·rcases Gk.rQ k' o' hk' with h | h | h
    ·have:W1.heap.size<=ιk k':=by rw [hW1]; exact h
     omega
    ·exact .inr h
    ·have:ιk k'=w'.heap.size:=h;omega
  have hRk:∀ {v:Value} {d:D},RP (yO E.M0 ι σ) w v d->RP (yO (fh E w' σ ι (.loop (rec .ready none))).M0 ιk σk) W v d:=λh=>h.xC (hblk Gk) hMk;have hmin:IntKind.i64.min = -9223372036854775808:=rfl;have hmax:IntKind.i64.max=9223372036854775807:=rfl;have hml:xZ.length<=9223372036854775807:=by simp only [maxLen] at hnm; omega
  have G1:=((Gk.open_.PO (rd:=some (w.heap.size+1))).bare.set (dst:=some p0) (v:=.int .i64 ((xZ.length-1-k:Nat):Int)) (d:=.int .i64 ((xZ.length-1-k:Nat):Int)) (.pure (.int (by omega))) (λt ht=>by cases ht; exact hp.1)).set (dst:=some p1)
   (v:=.agg #[va (xZ.length-1-k),vb (xZ.length-1-k)]) (d:=.agg (xZ.getD (xZ.length-1-k) [])) (.pure (.agg (by rw [q3]; rfl) λj hj=>by
    rw [q3] at hj;have:j=0\/j=1:=by omega
    rcases this with rfl | rfl
    ·exact hRk q4
    ·exact hRk q5)) (λt ht=>by cases ht; exact hp.2)
  have hr:=round (w.heap.size+1) k σk hk hJ x hx _ _ _ ⟨ιk,G1⟩
  have hact:({ tmps:=(#[p0,p1].zip #[Value.int .i64 ((xZ.length-1-k:Nat):Int),Value.agg #[va (xZ.length-1-k),vb (xZ.length-1-k)]]).foldl (λtmps (t,a)=>tmps.setIfInBounds t a) a.tmps,defers:=[] }:Act)=
    (({ tmps:=a.tmps,defers:=[] }:Act).put (some p0) (.int .i64 ((xZ.length-1-k:Nat):Int))).put (some p1) (.agg #[va (xZ.length-1-k),vb (xZ.length-1-k)]):=by simp [Act.put]
  rw [<- hact] at hr;refine wpIn_mono hr λe a1 w1 hq=>?_;obtain⟨f1,σ1,⟨ι1,G1'⟩,hq⟩:=hq
  cases e with
  | normal=>
   have hl1':=G1'.kept.mark (Gk.oC.Y9 hl) hl;have hD1':=G1'.kept.mark (Gk.oC.cY hD) hD;have Gc:=(Gk.PO (rd:=some (w.heap.size+1))).close_ G1';have hlt1:=(Ak.1 hl1').1;obtain⟨r6,hr6⟩:∃ r6,r6 = { rec .ready none with state:=.busy }:=⟨_,rfl⟩;have hbr:=run_beginRound (P:=C.P) hl1' (by rw [hrec]);rw [<- hr6] at hbr;have G2:=Gc.Vr (w':=w1.putObj (w.heap.size+1) (.loop r6)) (mN hl1' λ_ _ e=>by cases e) (.inr hws.symm) (.inr hws.symm) λx e=>by rw [hl1'] at e; cases e
   have hl2:(w1.putObj (w.heap.size+1) (.loop r6)).heap[w.heap.size+1]?=some (Obj.loop r6):=World.putObj_heap_same hlt1;have hD2:(w1.putObj (w.heap.size+1) (.loop r6)).heap[w.heap.size]?=some (Obj.deferred (some [])):=(World.putObj_heap_other (by omega)).trans hD1';refine⟨_,hbr,?_⟩;have hr2:=hq y hy _ _ _ ⟨ι1,G2.open_⟩;refine wpIn_mono hr2 λe a2 w2 hq2=>?_;obtain⟨f2,σ2,⟨ι2,G3⟩,rfl,f3,σ3,hwk,hJ3⟩:=hq2;have hl3:=G3.kept.mark (G2.oC.Y9 hl2) hl2;have hD3:=G3.kept.mark (G2.oC.cY hD2) hD2;obtain⟨ι3,G5⟩:=hwk _ a2 w2 ⟨ι2,G2.close_ G3⟩;have hend:=run_endRound (P:=C.P) none hl3;have hr7:({ r6 with state:=if (none:Option Code).isNone then .ready else .done,pending:=none }:Loop)= rec .ready none:=by rw [hr6,hrec]; rfl
   rw [hr7] at hend;have hlt2:=(Ak.1 hl3).1;have G6:=G5.Vr (w':=w2.putObj (w.heap.size+1) (.loop (rec .ready none))) (mN hl3 λ_ _ e=>by cases e) (.inr hws.symm) (.inr hws.symm) λx e=>by rw [hl3] at e; cases e
   exact⟨_,_,hend,rfl,σ3,ι3,hJ3,G'.back (rd:=some (w.heap.size+1)) (λ_ e=>by cases e) G6,World.putObj_heap_same hlt2,(World.putObj_heap_other (by omega)).trans hD3⟩
  | exit id=>exact hq.elim
  | goto t=>exact hq.elim
  | ret=>exact hq.elim
  | panic ch=>exact hq.elim
  | outgrown=>exact hq.elim
 ·rintro e W' ⟨⟨v,rfl⟩,σ',ι',hJ',Ge,hl,hD⟩
  obtain⟨r5,hend⟩:∃ r5,(Instr.endLoop (w.heap.size+1)).run C.P W' = .ok none (W'.putObj (w.heap.size+1) (.loop r5)):=by
   have hend:=run_endLoop (P:=C.P) hl (by rw [hrec]; simp);have hpe:(rec .ready none).pending=none:=by rw [hrec]
   rw [hpe] at hend;exact⟨_,hend⟩
  refine⟨none,_,hend,f,σ',⟨ι',?_⟩,done σ' hJ'⟩;have hlt:w.heap.size+1<W'.heap.size:=(Ak.1 hl).1;have G3:=Ge.Vr (w':=W'.putObj (w.heap.size+1) (.loop r5)) (mN hl λ_ _ e=>by cases e) (.inr hws.symm) (.inr hws.symm) λx e=>by rw [hl] at e; cases e
  have G4:=G'.end_ G3;have hD4:(W'.putObj (w.heap.size+1) (.loop r5)).heap[w.heap.size]?=some (Obj.deferred (some [])):=(World.putObj_heap_other (by omega)).trans hD;obtain⟨hB0,l0,hd1,hd2,hd3⟩:=G4.defers;obtain⟨_,l1,he1,_,he3⟩:=G.defers
  refine⟨G4.size,⟨hB0,w.heap.size :: l0,?_,?_,?_⟩,G4.nx,G4.kept,G4.oC,G4.oS,G4.rQ,G4.stay,G4.fr⟩
  ·show [_]++a.defers=_;rw [hd1]; rfl
  ·refine List.nodup_cons.2 ⟨λhm=>?_,hd2⟩;have hmem:({ target:=.collected w.heap.size,args:=#[] }:Deferred)∈ a.defers:=by rw [hd1]; exact ν.2 ⟨_,hm,rfl⟩
   rw [he1] at hmem;obtain⟨D,hDl,hDe⟩:=ν.1 hmem
   have hDw:D=w.heap.size:=by have:=congrArg Deferred.target hDe;simpa using this
   have:=(Ak.1 (he3 D hDl).1).1;omega
  ·intro D hD2
   rcases χ.1 hD2 with rfl | hD2
   ·exact⟨hD4,G.defers.1⟩
   ·exact hd3 D hD2
end
end Go.Pd
