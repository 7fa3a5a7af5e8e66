/- Part F18. -/
import Derived.Test.YtndfaefmmcoapaaGreatUdF12
set_option linter.unusedSectionVars false
set_option linter.unusedVariables false
set_option linter.unusedSimpArgs false
set_option linter.defProp false
set_option maxRecDepth 20000
set_option maxHeartbeats 1000000
namespace Go.Pd
open Go Go.Proofs
open Rs Fm
namespace Fm
def rb (l:List Bool):List (List D):=l.map fun b=>[.bool b]
theorem tG (l:List Bool):(rb l).length=l.length:=by simp [rb]
theorem aNy (l:List Bool) {i:Nat} (h:i<l.length):(rb l).getD i [] = [.bool (l.getD i false)]:=by simp [rb,List.getD,h]
theorem aZa (l:List Bool) (i:Nat) (b:Bool):(rb l).set i [.bool b]=rb (l.set i b):=by simp [rb,List.map_set]
theorem aVl (n:Nat) (b:Bool):List.replicate n [D.bool b]=rb (List.replicate n b):=by simp [rb]
theorem aBx (l:List Bool):∀ e ∈ rb l,D.xU e=true:=by intro e he;simp only [rb,List.mem_map] at he;obtain⟨n,_,rfl⟩:=he;rfl
theorem uJ (l:List Bool):tR (rb l)= True:=eq_true (aBx l)
theorem aVt (a b:D):List.set [a] 0 b = [b]:=rfl
theorem aM3 {p:Nd} {k:Nat} (h:yE p k=0):(∃ x:Nat,p.x=x/\x<=k)/\ (∃ y:Nat,p.y=y/\y<=k):=by
 obtain⟨_,h2,h3,_⟩:=vZ.1 h
 refine⟨?_,?_⟩
 ·unfold yL at h2
  split at h2
  ·simp only [Bool.and_eq_true,decide_eq_true_eq] at h2;exact⟨p.x.toNat,by omega,by omega⟩
  ·simp only [decide_eq_true_eq] at h2;exact⟨0,by omega,by omega⟩
 ·unfold yL at h3
  split at h3
  ·simp only [Bool.and_eq_true,decide_eq_true_eq] at h3;exact⟨p.y.toNat,by omega,by omega⟩
  ·simp only [decide_eq_true_eq] at h3;exact⟨0,by omega,by omega⟩
end Fm
open Rs Fm
namespace Fm
end Fm
end Go.Pd

/- Part G1. -/
namespace Go.Pd
open Go Go.Proofs
open BitVec renaming isValue -> ZA
open Rs Fm
namespace Fm
def nl (ops:List (List Nd)):List (List D):=ops.map fun o=>[.sl 6 (ndR o)]
theorem aD1 (l:List (List Nd)):(nl l).length=l.length:=by simp [nl]
theorem bWl (l:List (List Nd)) {i:Nat} (h:i<l.length):(nl l).getD i [] = [.sl 6 (ndR (l.getD i []))]:=by simp [nl,List.getD,h]
theorem eV (l:List Nd):tR (ndR l)= True:=eq_true (aX4 l)
theorem aRp (l:List Nd) (a b c d e f:Int):ndR l ++ [[.int .i64 a,.int .i64 b,.int .i64 c,.int .i64 d,.int .i64 e,.int .i64 f]]=ndR (l ++ [⟨a,b,c,d,e,f⟩]):=by simp [ndR,Nd.row]
theorem aAk : ndR [] = []:=rfl
theorem aAj (l:List Nd):∀ e ∈ ndR l,e.length=6:=by intro e he;simp only [ndR,List.mem_map] at he;obtain⟨p,_,rfl⟩:=he;rfl
def wP (n:Nat) (p:Nd):Nd:=⟨p.op,p.i,p.e,p.g,if (xW p.op).1.x=true then p.x+n else p.x,if (xW p.op).1.y=true then p.y+n else p.y⟩
def yA (f:List Nd):Prop:=∀ k,k<f.length->yE (f.getD k nd0) k=0
theorem aGd {p:Nd} {k n:Nat} (h:yE p k=0):yE (wP n p) ((n+k:Nat):Int)= 0:=by
 obtain⟨ox,oy⟩:=oD h
 refine tM h ?_ ?_
 ·split
  ·rename_i hx; have:=ox hx; omega
  ·rfl
 ·split
  ·rename_i hy; have:=oy hy; omega
  ·rfl
theorem nY {f c:List Nd} (hf:yA f) (hc:yA c):yA (f++c.map (wP f.length)):=by
 intro k hk;simp only [List.length_append,List.length_map] at hk;simp only [List.getD_eq_getElem?_getD]
 by_cases h:k<f.length
 ·rw [List.getElem?_append_left h];have:=hf k h
  rwa [List.getD_eq_getElem?_getD] at this
 ·rw [List.getElem?_append_right (by omega),List.getElem?_map];have hk':k-f.length<c.length:=by omega
  have h1:=hc (k-f.length) hk';rw [List.getD_eq_getElem?_getD,List.getElem?_eq_getElem hk',Option.getD_some] at h1;rw [List.getElem?_eq_getElem hk',Option.map_some,Option.getD_some];have:=aGd (n:=f.length) h1
  rwa [show f.length+(k-f.length)= k by omega] at this
theorem uB {f:List Nd} {p:Nd} (hf:yA f) (hp:yE p f.length=0):yA (f ++ [p]):=by
 intro k hk;simp only [List.length_append,List.length_singleton] at hk;simp only [List.getD_eq_getElem?_getD]
 by_cases h:k<f.length
 ·rw [List.getElem?_append_left h];have:=hf k h
  rwa [List.getD_eq_getElem?_getD] at this
 ·obtain rfl:k=f.length:=by omega
  simpa using hp
theorem iS (o:List Nd):yA (xH o):=gF o _
def aNo (k:Nat) (x:Nd) (v:Int):Nd:=if k=0 then⟨x.op,x.i,x.e,x.g,v,x.y⟩ else⟨x.op,x.i,x.e,x.g,x.x,v⟩
def rF : Nat->List (List Nd)->List Nd->Nd->Option (List Nd × Nd)
 | _,[],f,x=>some (f,x)
 | k,o :: r,f,x=>if xB o≠0 then none else
  rF (k+1) r (f++(xH o).map (wP f.length)) (aNo k x (((f++(xH o).map (wP f.length)).length:Int)-1))
def tO (x:Nd) (ops:List (List Nd)):List Nd:=match rF 0 ops [] x with
 | none=>[]
 | some (f,x')=>if yE x' f.length≠0 then [] else if 200<(vB (f ++ [x']) f.length).length then [] else vB (f ++ [x']) f.length
end Fm
theorem fP (x:Nd) (ops:List (List Nd)) (ho:ops.length<=2):yB Tryz.prog 91 [.agg x.row,.sl 1 (nl ops)] (.sl 6 (ndR (tO x ops))):=by
 refine xY.xR mixed Tryz.func91 k91 (by simp) fun hf=>?_;simp only [simprocAttr,-ZA,↓zU,↓zD,zV,zT,zW,aD1,Nd.row]
 (repeat refine sd ?_)
 refine xQ (fun a:Nat × List Nd × Nd=>[(16,.int .i64 a.1),(15,.int .i64 ops.length),(14,.sl 1 (nl ops)),(5,xA 1 6 (ndR a.2.1)),(2,.ref 0 6 0 0)]) (fun a=>⟨2,yY 1 6 (ndR a.2.1)++ [(0,⟨6,[a.2.2.row]⟩)]⟩)
  (fun a=>a.1<=ops.length/\yA a.2.1/\a.2.1.length<=200*a.1/\rF 0 ops [] x=rF a.1 (ops.drop a.1) a.2.1 a.2.2) (fun a=>ops.length-a.1) (0,[],x) ⟨Nat.zero_le _,fun k hk=>by simp at hk,by simp,rfl⟩ ?_ ?_
 ·(refine xM.ren [] [0] (by simp) (by simp) (by decide) ?_; simp only [yK,vwL,vw,vwF,sw,St.get,St.look,Fr.get,simprocAttr,-ZA,exists_eq_left',ne_eq,zR,aAk,zA,zB,List.nil_append,Nd.row])
 rintro ⟨k,f,x1⟩ ⟨hk,hf,hfl,hb⟩;simp only at hk hf hfl hb;refine xN mixed ?_;by_cases h:k<ops.length
 case neg=>
  have hd:¬ ((k:Int)<(ops.length:Int)):=by omega
  rw [List.drop_eq_nil_of_le (by omega),rF] at hb;have eb:tO x ops=if yE x1 f.length≠0 then [] else if 200<(vB (f ++ [x1]) f.length).length then [] else vB (f ++ [x1]) f.length:=by rw [tO,hb]
  rw [eb];simp only [simprocAttr,-ZA,↓zU,↓zD,zV,zT,zW,hd,Nd.row,xI]
  (repeat refine sd ?_)
  refine .go (xY.yM (dK x1 f.length) (by simp [D.xU,D.xL,Nd.row])) ?_;by_cases hn:yE x1 f.length=0
  case neg=>
   have e:(yE x1 f.length != 0)= true:=by simpa using hn
   rw [if_pos hn];simp only [simprocAttr,-ZA,↓zU,↓zD,zV,zT,zW,e];exact .drop (by simp) (by simp [vw,ndR])
  have e:(yE x1 f.length != 0)= false:=by simpa using hn
  rw [if_neg (by simpa using hn)];simp only [simprocAttr,-ZA,↓zU,↓zD,zV,zT,zW,e,Nd.row,xI]
  (repeat refine sd ?_)
  have hv:yA (f ++ [x1]):=uB hf hn;have hlen:(f ++ [x1]).length<=900:=by rw [List.length_append,List.length_singleton]; omega
  have hcall:=xY.bV1 (σ:=⟨3,yY 2 6 (ndR (f ++ [x1]))++ [(0,⟨6,[x1.row]⟩)]⟩) (args:=[xA 2 6 (ndR (f ++ [x1])),.int .i64 f.length]) (objs':=[]) (fun _=>False) (aW2 (i:=f.length) hv hlen (by simp))
   ⟨Seen.grow (by rw [St.get,yG,if_pos rfl]; cases uP 6 (ndR (f ++ [x1])) <;> rfl) id (by omega) (aAj _) (aX4 _),.pure rfl,trivial⟩ (fun k o hk=>by cases hk)
  rw [aRp];simp only [Nd.row] at hcall;refine .go hcall ?_;generalize vB (f ++ [x1]) f.length=c
  by_cases hc:200<c.length
  ·have hc':(200:Int)<(c.length:Int):=by omega
   rw [if_pos hc];simp only [simprocAttr,-ZA,↓zU,↓zD,zV,zT,zW,xI,hc'];exact .drop (by simp) (by simp [vw,ndR])
  ·have hc':¬ (200:Int)<(c.length:Int):=by omega
   rw [if_neg hc];simp only [simprocAttr,-ZA,↓zU,↓zD,zV,zT,zW,xI,hc'];exact .dv
 have hd:((k:Int)<(ops.length:Int)):=by omega
 have hg:=bWl ops h;rw [drop_cons (d:=[]) h,rF] at hb;generalize ops.getD k []=o at hg hb;have hw:IntKind.i64.wrap ((k:Int)+ 1)= ((k+1:Nat):Int):=wrap_i64 (by omega);simp only [simprocAttr,-ZA,↓zU,↓zD,zV,zT,zW,hd,aD1,hg]
 (repeat refine sd ?_)
 refine .go (cr (oB o)) ?_;by_cases hc:xB o=0
 case neg=>
  have e:(xB o != 0)= true:=by simpa using hc
  rw [if_pos hc] at hb;simp only [simprocAttr,-ZA,↓zU,↓zD,zV,zT,zW,e];rw [show tO x ops = [] by rw [tO,hb]];exact .drop (by simp) (by simp [vw,ndR])
 have e:(xB o != 0)= false:=by simpa using hc
 rw [if_neg (by simpa using hc)] at hb;simp only [simprocAttr,-ZA,↓zU,↓zD,zV,zT,zW,e,xI];refine .go (cr (dX o)) ?_;have hcv:=iS o;have hcl:(xH o).length<=200:=fY o _;generalize xH o=c at hb hcv hcl;simp only [simprocAttr,-ZA,↓zU,↓zD,zV,zT,zW,xI]
 refine xQ (fun j:Nat=>[(29,.int .i64 j),(28,.int .i64 c.length),(27,.sl 6 (ndR c)),(16,.int .i64 k),(15,.int .i64 ops.length),(14,.sl 1 (nl ops)),(8,.int .i64 f.length),(6,.int .i64 k),(5,xA 1 6 (ndR (f++(c.take j).map (wP f.length)))),(2,.ref 0 6 0 0)]) (fun j=>⟨2,yY 1 6 (ndR (f++(c.take j).map (wP f.length)))++ [(0,⟨6,[x1.row]⟩)]⟩)
  (fun j=>j<=c.length) (fun j=>c.length-j) 0 (Nat.zero_le _) ?_ ?_
 ·rw [show f++(c.take 0).map (wP f.length)= f by simp]
  (refine xM.same ?_; simp [xP,Fr.get])
 intro j hj;refine xN mixed ?_;by_cases hjl:j<c.length
 case neg=>
  have hd2:¬ ((j:Int)<(c.length:Int)):=by omega
  rw [oH (show j=c.length by omega)];have hfl2:(f++c.map (wP f.length)).length<=200*(k+1):=by rw [List.length_append,List.length_map]; omega
  have hv2:=nY hf hcv;generalize f++c.map (wP f.length)= f2 at hb hfl2 hv2;have hw2:IntKind.i64.wrap ((f2.length:Int)-1)= (f2.length:Int)-1:=wrap_i64 (by omega)
  by_cases hk0:k=0
  ·have e0:((k:Int)== 0)= true:=by rw [hk0]; rfl
   rw [aNo,if_pos hk0] at hb;simp only [simprocAttr,-ZA,↓zU,↓zD,zV,zT,zW,hd2,e0,xI,hw2,Nd.row]
   (repeat refine sd ?_)
   refine⟨(k+1,f2,⟨x1.op,x1.i,x1.e,x1.g,(f2.length:Int)-1,x1.y⟩),⟨by omega,hv2,hfl2,hb⟩,?_,by simp only; omega⟩
   (refine xM.ren [] [1,0] (by simp) (by simp) (by decide) ?_; simp only [yK,vwL,vw,vwF,sw,St.get,St.look,Fr.get,simprocAttr,-ZA,exists_eq_left',ne_eq,zR,eV,Nd.row,hw])
  ·have e0:((k:Int)== 0)= false:=by rw [beq_eq_false_iff_ne]; omega
   rw [aNo,if_neg hk0] at hb;simp only [simprocAttr,-ZA,↓zU,↓zD,zV,zT,zW,hd2,e0,xI,hw2,Nd.row]
   (repeat refine sd ?_)
   refine⟨(k+1,f2,⟨x1.op,x1.i,x1.e,x1.g,x1.x,(f2.length:Int)-1⟩),⟨by omega,hv2,hfl2,hb⟩,?_,by simp only; omega⟩
   (refine xM.ren [] [1,0] (by simp) (by simp) (by decide) ?_; simp only [yK,vwL,vw,vwF,sw,St.get,St.look,Fr.get,simprocAttr,-ZA,exists_eq_left',ne_eq,zR,eV,Nd.row,hw])
 have hd2:((j:Int)<(c.length:Int)):=by omega
 have hgj:=pC c hjl;have hnj:=hcv j hjl;obtain⟨⟨px,hpx,hpx2⟩,⟨py,hpy,hpy2⟩⟩:=aM3 hnj;have hsn:f++(c.take (j+1)).map (wP f.length)= f++(c.take j).map (wP f.length)++ [wP f.length (c.getD j nd0)]:=by rw [wT (d:=nd0) hjl,List.map_append,<- List.append_assoc]; rfl
 generalize c.getD j nd0=p at hgj hnj hpx hpy hsn;have hwj:IntKind.i64.wrap ((j:Int)+ 1)= ((j+1:Nat):Int):=wrap_i64 (by omega);have hl2:(f++(c.take j).map (wP f.length)).length<=1000:=by rw [List.length_append,List.length_map,List.length_take]; omega
 generalize f++(c.take j).map (wP f.length)= f1 at hsn hl2;have hwx:IntKind.i64.wrap (p.x+(f.length:Int))= p.x+(f.length:Int):=wrap_i64 (by omega);have hwy:IntKind.i64.wrap (p.y+(f.length:Int))= p.y+(f.length:Int):=wrap_i64 (by omega);simp only [simprocAttr,-ZA,↓zU,↓zD,zV,zT,zW,hd2,xI,hgj,Nd.row]
 (repeat refine sd ?_)
 refine .go (cq (cB p.op)) ?_;have es:wP f.length p=⟨p.op,p.i,p.e,p.g,if (xW p.op).1.x=true then p.x+f.length else p.x,if (xW p.op).1.y=true then p.y+f.length else p.y⟩:=rfl;cases hux:(xW p.op).1.x <;> cases huy:(xW p.op).1.y <;> rw [hux,huy] at es
 all_goals
  simp only [simprocAttr,-ZA,↓zU,↓zD,zV,zT,zW,Use.row,hux,huy,hwx,hwy,aRp,xI,List.length_append,List.length_singleton]
  (repeat refine sd ?_)
  refine⟨j+1,by omega,?_,by omega⟩;rw [hsn,es]
  (refine xM.ren [(1,4)] [1,0] (by simp) (by simp) (by decide) ?_; simp only [yK,vwL,vw,vwF,sw,St.get,St.look,Fr.get,simprocAttr,-ZA,exists_eq_left',ne_eq,zR,eV,hwj,Nd.row,Bool.false_eq_true,if_false,if_true])
section
open Rs Fm
namespace Fm
def aI0 (f g:List Nd):List Nd:=tO ⟨7,0,0,0,0,0⟩ [f,g]
def wB (a:Int) (f:List Nd):List Nd:=tO ⟨9,a,0,0,0,0⟩ [f]
def sS (i:Int):List Nd:=tO ⟨3,i,0,0,0,0⟩ []
end Fm
theorem aE3 (x:Nd):yB Tryz.prog 91 [.agg x.row,.xO] (.sl 6 (ndR (tO x []))):= xY.bV1 (σ:=St0) (objs':=[]) (fun _=>False) (fP x [] (by simp)) ⟨.pure (by simp [D.xL,D.xU,Nd.row]),.nil 1,trivial⟩ (fun k o hk=>by cases hk)
theorem aZn (a:Int) (f:List Nd):yB Tryz.prog 33 [.int .i64 a,.sl 6 (ndR f)] (.sl 6 (ndR (wB a f))):=by
 refine xY.xR mixed Tryz.func33 k33 (by simp) fun hf=>?_;simp only [simprocAttr,-ZA,↓zU,↓zD,zV,zT,zW]
 (repeat refine sd ?_)
 refine .go (xY.yM (fP ⟨9,a,0,0,0,0⟩ [f] (by simp)) (by simp [D.xU,D.xL,Nd.row,nl])) ?_;simp only [simprocAttr,-ZA,↓zU,↓zD,zV,zT,zW];exact .same
theorem bVd (i:Int):yB Tryz.prog 34 [.int .i64 i] (.sl 6 (ndR (sS i))):=by
 refine xY.xR mixed Tryz.func34 k34 (by simp) fun hf=>?_;simp only [simprocAttr,-ZA,↓zU,↓zD,zV,zT,zW]
 (repeat refine sd ?_)
 refine .go (xY.yM (aE3 ⟨3,i,0,0,0,0⟩) (by simp [D.xU,D.xL,Nd.row])) ?_;simp only [simprocAttr,-ZA,↓zU,↓zD,zV,zT,zW];exact .same
end
section
open Rs Fm
namespace Fm
end Fm
end
open Rs Fm
namespace Fm
def tQ (f:List Nd):List Nd:=tO ⟨18,0,0,0,0,0⟩ [f]
def iH (f:List Nd):List Nd:=tO ⟨20,0,0,0,0,0⟩ [f]
end Fm
theorem aSt (f:List Nd):yB Tryz.prog 47 [.sl 6 (ndR f)] (.sl 6 (ndR (tQ f))):=by
 refine xY.xR mixed Tryz.func47 k47 (by simp) fun hf=>?_;simp only [simprocAttr,-ZA,↓zU,↓zD,zV,zT,zW]
 (repeat refine sd ?_)
 refine .go (xY.yM (fP ⟨18,0,0,0,0,0⟩ [f] (by simp)) (by simp [D.xU,D.xL,Nd.row,nl])) ?_;simp only [simprocAttr,-ZA,↓zU,↓zD,zV,zT,zW];exact .same
theorem aCh (f:List Nd):yB Tryz.prog 48 [.sl 6 (ndR f)] (.sl 6 (ndR (iH f))):=by
 refine xY.xR mixed Tryz.func48 k48 (by simp) fun hf=>?_;simp only [simprocAttr,-ZA,↓zU,↓zD,zV,zT,zW]
 (repeat refine sd ?_)
 refine .go (xY.yM (fP ⟨20,0,0,0,0,0⟩ [f] (by simp)) (by simp [D.xU,D.xL,Nd.row,nl])) ?_;simp only [simprocAttr,-ZA,↓zU,↓zD,zV,zT,zW];exact .same
open Rs Fm
namespace Fm
theorem lK (op:Int):op=1\/op=2\/op=3\/op=4\/op=5\/op=6\/op=7\/op=8\/op=9\/op=10\/op=11\/op=12\/op=13\/op=14\/op=15\/op=16\/op=17\/op=18\/op=19\/op=20\/op=21\/op<1\/21<op:=by omega
theorem lP {op:Int} (h:op<1\/21<op):xW op=(iF,false):=if_pos h
theorem bZt (op:Int):(xW op).1.x=(decide (4<=op)&& decide (op<=21)):=by
 rcases lK op with rfl | rfl | rfl | rfl | rfl | rfl | rfl | rfl | rfl | rfl | rfl | rfl | rfl | rfl | rfl | rfl | rfl | rfl | rfl | rfl | rfl | h | h
 rotate_right 2
 ·rw [lP (.inl h),decide_eq_false (by omega)]; rfl
 ·rw [lP (.inr h),decide_eq_false (show ¬ op<=21 by omega),Bool.and_false]; rfl
 all_goals rfl
theorem sI {m:Nd->Nat}:∀ {l:List Nd},vI m l=0 ↔ ∀ p ∈ l,m p=0:=by
 intro l
 have key:∀ (l:List Nd) (a:Nat),l.foldl (fun a p=>a ||| m p) a=0 ↔ a=0/\∀ p ∈ l,m p=0:=by
  intro l
  induction l with
  | nil=>simp
  | cons p r ih=>
   intro a;simp only [List.foldl_cons,ih,List.mem_cons,forall_eq_or_imp];rw [Nat.or_eq_zero_iff]
   constructor
   ·rintro ⟨⟨h1,h2⟩,h3⟩; exact⟨h1,h2,h3⟩
   ·rintro ⟨h1,h2,h3⟩; exact⟨⟨h1,h2⟩,h3⟩
 rw [vI,key];simp
end Fm
section
open Rs Fm
end
section
open Rs Fm
open Rs Fm
end
section
open Rs Fm
namespace Fm
end Fm
end
section
open Rs Fm
namespace Fm
end Fm
end
section
open Rs Fm
namespace Fm
end Fm
end
section
open Rs Fm
open Rs Fm
end
open Rs Fm
namespace Fm
inductive Tr where
 | nil
 | nd (op i e g:Int) (x y:Tr)
def aV5 (f:List Nd):Nat->Nat->Tr
 | 0,_=>.nil
 | n+1,i=>.nd (f.getD i nd0).op (f.getD i nd0).i (f.getD i nd0).e (f.getD i nd0).g (if (xW (f.getD i nd0).op).1.x=true then aV5 f n (f.getD i nd0).x.toNat else .nil) (if (xW (f.getD i nd0).op).1.y=true then aV5 f n (f.getD i nd0).y.toNat else .nil)
def tree (f:List Nd) (i:Nat):Tr:=aV5 f (i+1) i
def wfT : Tr->Prop
 | .nil=>False
 | .nd op i e g x y=>yE ⟨op,i,e,g,0,0⟩ 1=0/\(if (xW op).1.x=true then wfT x else x = .nil)/\ (if (xW op).1.y=true then wfT y else y = .nil)
def qR : Tr->List Nd->Int × List Nd
 | .nil,out=>(0,out)
 | .nd op i e g x y,out=>
  let a:=if (xW op).1.x=true then qR x out else(0,out)
  let b:=if (xW op).1.y=true then qR y a.2 else(0,a.2)
  match iW ⟨op,i,e,g,a.1,b.1⟩ b.2 0 with
  | some k=>((k:Int),b.2)
  | none=>((b.2.length:Int),b.2 ++ [⟨op,i,e,g,a.1,b.1⟩])
def canon (t:Tr):List Nd:=(qR t []).2
theorem vY {p:Nd} {k:Nat} (h:yE p k=0):((xW p.op).1.x=true->0<=p.x/\p.x.toNat<k)/\ ((xW p.op).1.y=true->0<=p.y/\p.y.toNat<k)/\ ((xW p.op).1.x=false->p.x=0)/\ ((xW p.op).1.y=false->p.y=0):=by
 obtain⟨h1,h2⟩:=oD h;rw [vZ] at h;obtain⟨_,h3,h4,_⟩:=h
 refine⟨fun hx=>?_,fun hy=>?_,fun hx=>?_,fun hy=>?_⟩
 ·have:=h1 hx; omega
 ·have:=h2 hy; omega
 ·rw [hx] at h3; simpa [yL] using h3
 ·rw [hy] at h4; simpa [yL] using h4
theorem nZ {f:List Nd} (hv:yA f):∀ (n m i:Nat),i<n->i<m->i<f.length->aV5 f n i=aV5 f m i
 | 0,_,_,h,_,_=>by omega
 | _+1,0,_,_,h,_=>by omega
 | n+1,m+1,i,h1,h2,hi=>by
  obtain⟨ox,oy,_,_⟩:=vY (hv i hi);unfold aV5
  congr 1
  ·by_cases hx:(xW (f.getD i nd0).op).1.x=true
   ·rw [if_pos hx,if_pos hx];exact nZ hv n m _ (by have:=ox hx; omega) (by have:=ox hx; omega) (by have:=ox hx; omega)
   ·rw [if_neg hx,if_neg hx]
  ·by_cases hy:(xW (f.getD i nd0).op).1.y=true
   ·rw [if_pos hy,if_pos hy];exact nZ hv n m _ (by have:=oy hy; omega) (by have:=oy hy; omega) (by have:=oy hy; omega)
   ·rw [if_neg hy,if_neg hy]
theorem wN {f:List Nd} (hv:yA f) {i:Nat} (hi:i<f.length):tree f i = .nd (f.getD i nd0).op (f.getD i nd0).i (f.getD i nd0).e (f.getD i nd0).g (if (xW (f.getD i nd0).op).1.x=true then tree f (f.getD i nd0).x.toNat else .nil) (if (xW (f.getD i nd0).op).1.y=true then tree f (f.getD i nd0).y.toNat else .nil):=by
 obtain⟨ox,oy,_,_⟩:=vY (hv i hi);unfold tree;rw [aV5]
 congr 1
 ·by_cases hx:(xW (f.getD i nd0).op).1.x=true
  ·rw [if_pos hx,if_pos hx];exact nZ hv _ _ _ (by have:=ox hx; omega) (by omega) (by have:=ox hx; omega)
  ·rw [if_neg hx,if_neg hx]
 ·by_cases hy:(xW (f.getD i nd0).op).1.y=true
  ·rw [if_pos hy,if_pos hy];exact nZ hv _ _ _ (by have:=oy hy; omega) (by omega) (by have:=oy hy; omega)
  ·rw [if_neg hy,if_neg hy]
theorem aR9 {l r:List Nd} {k:Nat} (h:k<l.length):(l++r).getD k nd0=l.getD k nd0:=by simp only [List.getD,List.getElem?_append_left h]
theorem dY {l r:List Nd} (h:yA (l++r)):yA l:=fun k hk=>by
 have:=h k (by simp; omega)
 rwa [aR9 hk] at this
theorem vC {l r:List Nd} (hv:yA (l++r)):∀ (k:Nat),k<l.length->tree (l++r) k=tree l k:=by
 intro k
 induction k using Nat.strongRecOn with
 | _ k ih=>
  intro hk;obtain⟨ox,oy,_,_⟩:=vY (dY hv k hk);rw [wN hv (by simp; omega),wN (dY hv) hk,aR9 hk]
  congr 1
  ·by_cases hx:(xW (l.getD k nd0).op).1.x=true
   ·rw [if_pos hx,if_pos hx];exact ih _ (by have:=ox hx; omega) (by have:=ox hx; omega)
   ·rw [if_neg hx,if_neg hx]
  ·by_cases hy:(xW (l.getD k nd0).op).1.y=true
   ·rw [if_pos hy,if_pos hy];exact ih _ (by have:=oy hy; omega) (by have:=oy hy; omega)
   ·rw [if_neg hy,if_neg hy]
theorem aMn {f:List Nd} (hv:yA f):∀ (i:Nat),i<f.length->wfT (tree f i):=by
 intro i
 induction i using Nat.strongRecOn with
 | _ i ih=>
  intro hi;obtain⟨ox,oy,zx,zy⟩:=vY (hv i hi);rw [wN hv hi]
  refine⟨tM (hv i hi) ?_ ?_,?_,?_⟩
  ·split
   ·omega
   ·rename_i h; exact(zx (by simpa using h)).symm
  ·split
   ·omega
   ·rename_i h; exact(zy (by simpa using h)).symm
  ·by_cases hx:(xW (f.getD i nd0).op).1.x=true
   ·rw [if_pos hx,if_pos hx];exact ih _ (by have:=ox hx; omega) (by have:=ox hx; omega)
   ·rw [if_neg hx,if_neg hx]
  ·by_cases hy:(xW (f.getD i nd0).op).1.y=true
   ·rw [if_pos hy,if_pos hy];exact ih _ (by have:=oy hy; omega) (by have:=oy hy; omega)
   ·rw [if_neg hy,if_neg hy]
theorem aWo {q:Nd}:∀ {l:List Nd} {k j:Nat},iW q l k=some j->k<=j/\j-k<l.length/\l.getD (j-k) nd0=q
 | [],_,_,h=>by cases h
 | p :: r,k,j,h=>by
  unfold iW at h
  by_cases e:q=p
  ·rw [if_pos e] at h; cases h; simp [e]
  ·rw [if_neg e] at h;obtain⟨h1,h2,h3⟩:=aWo h;refine⟨by omega,by simp only [List.length_cons]; omega,?_⟩;rw [show j-k=j-(k+1)+ 1 by omega,List.getD_cons_succ]; exact h3
theorem aR6 {q:Nd}:∀ {l:List Nd} {k:Nat},iW q l k=none->q ∉ l
 | [],_,_=>by simp
 | p :: r,k,h=>by
  unfold iW at h
  by_cases e:q=p
  ·rw [if_pos e] at h; cases h
  ·rw [if_neg e] at h;simp only [List.mem_cons,not_or];exact⟨e,aR6 h⟩
theorem aLe {q:Nd}:∀ {l:List Nd} {k j:Nat},l.Nodup->j<l.length->l.getD j nd0=q->iW q l k=some (k+j)
 | [],_,_,_,h,_=>by simp at h
 | p :: r,k,j,hn,h,hq=>by
  unfold iW
  cases j with
  | zero=>rw [if_pos (by simpa using hq.symm)]; rfl
  | succ j=>
   rw [List.getD_cons_succ] at hq;have hj:j<r.length:=by simpa using h
   have hm:q ∈ r:=by
    have:r.getD j nd0=r[j]:=by simp [List.getD,hj]
    rw [<- hq,this]; exact List.getElem_mem hj
   rw [if_neg (fun e:q=p=>(List.nodup_cons.1 hn).1 (e ▸ hm)),aLe (List.nodup_cons.1 hn).2 hj hq];congr 1; omega
theorem eF : ∀ (t:Tr) (out:List Nd) (k:Nat),yA out->out.Nodup->k<out.length->tree out k=t->qR t out=((k:Int),out)
 | .nil,out,k,hv,hn,hk,ht=>by rw [wN hv hk] at ht; cases ht
 | .nd op i e g x y,out,k,hv,hn,hk,ht=>by
  obtain⟨ox,oy,zx,zy⟩:=vY (hv k hk);rw [wN hv hk] at ht;simp only [Tr.nd.injEq] at ht;obtain⟨rfl,rfl,rfl,rfl,hx,hy⟩:=ht
  have ha:(if (xW (out.getD k nd0).op).1.x=true then qR x out else(0,out))= ((out.getD k nd0).x,out):=by
   by_cases h:(xW (out.getD k nd0).op).1.x=true
   ·rw [if_pos h] at hx ⊢;rw [eF x out _ hv hn (by have:=ox h; omega) hx,Int.toNat_of_nonneg (ox h).1]
   ·rw [if_neg h,zx (by simpa using h)]
  have hb:(if (xW (out.getD k nd0).op).1.y=true then qR y out else(0,out))= ((out.getD k nd0).y,out):=by
   by_cases h:(xW (out.getD k nd0).op).1.y=true
   ·rw [if_pos h] at hy ⊢;rw [eF y out _ hv hn (by have:=oy h; omega) hy,Int.toNat_of_nonneg (oy h).1]
   ·rw [if_neg h,zy (by simpa using h)]
  unfold qR;simp only [ha,hb];rw [aLe (k:=0) hn hk rfl,Nat.zero_add]
theorem kU : ∀ (t:Tr) (out:List Nd),wfT t->yA out->out.Nodup->yA (qR t out).2/\(qR t out).2.Nodup/\(∃ l,(qR t out).2=out++l)/\ ∃ k:Nat,(qR t out).1=k/\k<(qR t out).2.length/\tree (qR t out).2 k=t/\((qR t out).2=out\/k+1=(qR t out).2.length)
 | .nil,out,h,_,_=>h.elim
 | .nd op i e g x y,out,⟨h1,h2,h3⟩,hv,hn=>by
  have A:∃ (a:Int) (oa:List Nd),(if (xW op).1.x=true then qR x out else(0,out))= (a,oa)/\ yA oa/\oa.Nodup/\(∃ l,oa=out++l)/\ (if (xW op).1.x=true then 0<=a/\a<(oa.length:Int)/\ tree oa a.toNat=x/\(oa=out\/a+1=oa.length) else a=0/\oa=out):=by
   by_cases hx:(xW op).1.x=true
   ·rw [if_pos hx] at h2 ⊢;obtain⟨v,n,l,k,e1,e2,e3,e4⟩:=kU x out h2 hv hn;refine⟨_,_,rfl,v,n,l,?_⟩;rw [if_pos hx,e1,Int.toNat_natCast];exact⟨by omega,by omega,e3,e4.imp id fun h=>by omega⟩
   ·rw [if_neg hx] at h2 ⊢;exact⟨0,out,rfl,hv,hn,⟨[],by simp⟩,by rw [if_neg hx]; exact⟨rfl,rfl⟩⟩
  obtain⟨a,oa,ea,va,na,⟨la,rfl⟩,ha⟩:=A
  have B:∃ (b:Int) (ob:List Nd),(if (xW op).1.y=true then qR y (out++la) else(0,out++la))= (b,ob)/\ yA ob/\ob.Nodup/\(∃ l,ob=out++la++l)/\ (if (xW op).1.y=true then 0<=b/\b<(ob.length:Int)/\ tree ob b.toNat=y/\(ob=out++la\/b+1=ob.length) else b=0/\ob=out++la):=by
   by_cases hy:(xW op).1.y=true
   ·rw [if_pos hy] at h3 ⊢;obtain⟨v,n,l,k,e1,e2,e3,e4⟩:=kU y (out++la) h3 va na;refine⟨_,_,rfl,v,n,l,?_⟩;rw [if_pos hy,e1,Int.toNat_natCast];exact⟨by omega,by omega,e3,e4.imp id fun h=>by omega⟩
   ·rw [if_neg hy] at h3 ⊢;exact⟨0,out++la,rfl,va,na,⟨[],by simp⟩,by rw [if_neg hy]; exact⟨rfl,rfl⟩⟩
  obtain⟨b,ob,eb,vb,nb,⟨lb,rfl⟩,hb⟩:=B
  have hE:∀ n:Nat,(out++la++lb).length<=n->yE ⟨op,i,e,g,a,b⟩ n=0:=fun n hln=>by
   refine tM (p:=⟨op,i,e,g,0,0⟩) h1 ?_ ?_
   ·simp only
    split
    ·rename_i h; rw [if_pos h] at ha; simp only [List.length_append] at hln ha; omega
    ·rename_i h; rw [if_neg h] at ha; exact ha.1
   ·simp only
    split
    ·rename_i h; rw [if_pos h] at hb; omega
    ·rename_i h; rw [if_neg h] at hb; exact hb.1
  have tx:(if (xW op).1.x=true then tree (out++la++lb) a.toNat else .nil)= x:=by
   by_cases hx:(xW op).1.x=true
   ·rw [if_pos hx] at ha ⊢;rw [vC vb _ (by omega)]; exact ha.2.2.1
   ·rw [if_neg hx] at h2 ⊢; exact h2.symm
  have ty:(if (xW op).1.y=true then tree (out++la++lb) b.toNat else .nil)= y:=by
   by_cases hy:(xW op).1.y=true
   ·rw [if_pos hy] at hb ⊢;exact hb.2.2.1
   ·rw [if_neg hy] at h3 ⊢; exact h3.symm
  have hr:qR (.nd op i e g x y) out=match iW ⟨op,i,e,g,a,b⟩ (out++la++lb) 0 with
    | some k=>((k:Int),out++la++lb)
    | none=>(((out++la++lb).length:Int),out++la++lb ++ [⟨op,i,e,g,a,b⟩]):=by
   conv=>lhs; unfold qR
   simp only [ea,eb]
  rw [hr]
  cases hq:iW ⟨op,i,e,g,a,b⟩ (out++la++lb) 0 with
  | some k=>
   obtain⟨_,k1,k2⟩:=aWo hq;rw [Nat.sub_zero] at k1 k2;have hvk:=vb k k1;obtain⟨ox,oy,_,_⟩:=vY hvk;rw [k2] at ox oy;simp only at ox oy
   refine⟨vb,nb,⟨la++lb,by simp⟩,k,rfl,k1,?_,.inl ?_⟩
   ·rw [wN vb k1,k2];simp only [tx,ty]
   ·show out++la++lb=out
    have e1:out++la++lb=out++la:=by
     by_cases hy:(xW op).1.y=true
     ·rw [if_pos hy] at hb
      rcases hb.2.2.2 with h | h
      ·exact h
      ·have:=oy hy; omega
     ·rw [if_neg hy] at hb; exact hb.2
    have e2:out++la=out:=by
     by_cases hx:(xW op).1.x=true
     ·rw [if_pos hx] at ha
      rcases ha.2.2.2 with h | h
      ·exact h
      ·have:=ox hx;rw [e1] at k1;omega
     ·rw [if_neg hx] at ha; exact ha.2
    rw [e1,e2]
  | none=>
   have vs:yA (out++la++lb ++ [⟨op,i,e,g,a,b⟩]):=uB vb (hE _ (Nat.le_refl _))
   refine⟨vs,?_,⟨la++lb ++ [⟨op,i,e,g,a,b⟩],by simp⟩,(out++la++lb).length,rfl,by simp,?_,.inr (by simp only [List.length_append,List.length_singleton])⟩
   ·rw [List.nodup_append];refine⟨nb,by simp,fun p hp q hq'=>?_⟩;rw [List.mem_singleton] at hq';subst hq';exact fun e=>aR6 hq (e ▸ hp)
   ·have hgl:(out++la++lb ++ [(⟨op,i,e,g,a,b⟩:Nd)]).getD (out++la++lb).length nd0=⟨op,i,e,g,a,b⟩:=by simp [List.getD]
    rw [wN vs (by simp),hgl];simp only
    congr 1
    ·by_cases hx:(xW op).1.x=true
     ·rw [if_pos hx] at tx ha ⊢;rw [vC vs _ (by simp only [List.length_append] at ha ⊢; omega)]; exact tx
     ·rw [if_neg hx] at tx ⊢; exact tx
    ·by_cases hy:(xW op).1.y=true
     ·rw [if_pos hy] at ty hb ⊢;rw [vC vs _ (by omega)]; exact ty
     ·rw [if_neg hy] at ty ⊢; exact ty
end Fm
end Go.Pd
