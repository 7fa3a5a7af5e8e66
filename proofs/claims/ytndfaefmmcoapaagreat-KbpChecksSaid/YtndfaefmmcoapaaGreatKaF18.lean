/- Part F18. -/
import Derived.Test.YtndfaefmmcoapaaGreatKaF16
set_option linter.unusedSectionVars false
set_option linter.unusedVariables false
set_option linter.unusedSimpArgs false
set_option linter.defProp false
set_option maxRecDepth 20000
set_option maxHeartbeats 1000000
namespace Go.Pd
open Go Go.Proofs
open Int renaming reduceToNat -> ZA, reduceLT -> ZB, reduceLE -> ZC, reduceBEq -> ZD, reduceBNe -> ZE
open Nat renaming reduceEqDiff -> ZF, reduceAdd -> ZG, reduceBEq -> ZH, reduceLT -> ZI, reduceLeDiff -> ZJ, reduceMul -> ZK
open Rs Fm
namespace Fm
def rb (l:List Bool):List (List D):=l.map fun b=>[.bool b]
theorem uQ (l:List Bool):(rb l).length=l.length:=by simp [rb]
theorem aRs (l:List Bool) {i:Nat} (h:i<l.length):(rb l).getD i [] = [.bool (l.getD i false)]:=by simp [rb,List.getD,h]
theorem bW (l:List Bool) (i:Nat) (b:Bool):(rb l).set i [.bool b]=rb (l.set i b):=by simp [rb,List.map_set]
theorem aX5 (n:Nat) (b:Bool):List.replicate n [D.bool b]=rb (List.replicate n b):=by simp [rb]
theorem aHv (l:List Bool):∀ e ∈ rb l,D.isPureL e=true:=by
 intro e he;simp only [rb,List.mem_map] at he;obtain⟨n,_,rfl⟩:=he;rfl
theorem vQ (l:List Bool):uN (rb l)= True:=eq_true (aHv l)
theorem aYd (a b:D):List.set [a] 0 b = [b]:=rfl
theorem aQg {p:Nd} {k:Nat} (h:yK p k=0):(∃ x:Nat,p.x=x/\x<=k)/\ (∃ y:Nat,p.y=y/\y<=k):=by
 obtain⟨_,h2,h3,_⟩:=zP.1 h
 refine⟨?_,?_⟩
 ·unfold xK at h2
  split at h2
  ·simp only [Bool.and_eq_true,decide_eq_true_eq] at h2;exact⟨p.x.toNat,by omega,by omega⟩
  ·simp only [decide_eq_true_eq] at h2;exact⟨0,by omega,by omega⟩
 ·unfold xK at h3
  split at h3
  ·simp only [Bool.and_eq_true,decide_eq_true_eq] at h3;exact⟨p.y.toNat,by omega,by omega⟩
  ·simp only [decide_eq_true_eq] at h3;exact⟨0,by omega,by omega⟩
end Fm
open Rs Fm
namespace Fm
end Fm
open Rs Fm
namespace Fm
def nl (ops:List (List Nd)):List (List D):=ops.map fun o=>[.sl 6 (ndR o)]
theorem aJ4 (l:List (List Nd)):(nl l).length=l.length:=by simp [nl]
theorem aD0 (l:List (List Nd)) {i:Nat} (h:i<l.length):(nl l).getD i [] = [.sl 6 (ndR (l.getD i []))]:=by simp [nl,List.getD,h]
theorem jI (l:List Nd):uN (ndR l)= True:=eq_true (kU l)
theorem aVi (l:List Nd) (a b c d e f:Int):ndR l ++ [[.int .i64 a,.int .i64 b,.int .i64 c,.int .i64 d,.int .i64 e,.int .i64 f]]=ndR (l ++ [⟨a,b,c,d,e,f⟩]):=by simp [ndR,Nd.row]
theorem aGh : ndR [] = []:=rfl
theorem aGg (l:List Nd):∀ e ∈ ndR l,e.length=6:=by
 intro e he;simp only [ndR,List.mem_map] at he;obtain⟨p,_,rfl⟩:=he;rfl
def uD (n:Nat) (p:Nd):Nd:=⟨p.op,p.i,p.e,p.g,if (xZ p.op).1.x=true then p.x+n else p.x,if (xZ p.op).1.y=true then p.y+n else p.y⟩
def zC (f:List Nd):Prop:=∀ k,k<f.length->yK (f.getD k nd0) k=0
theorem aM4 {p:Nd} {k n:Nat} (h:yK p k=0):yK (uD n p) ((n+k:Nat):Int)= 0:=by
 obtain⟨ox,oy⟩:=sG h
 refine nQ h ?_ ?_
 ·split
  ·rename_i hx; have:=ox hx; omega
  ·rfl
 ·split
  ·rename_i hy; have:=oy hy; omega
  ·rfl
theorem aTe {f c:List Nd} (hf:zC f) (hc:zC c):zC (f++c.map (uD f.length)):=by
 intro k hk;simp only [List.length_append,List.length_map] at hk;simp only [List.getD_eq_getElem?_getD]
 by_cases h:k<f.length
 ·rw [List.getElem?_append_left h];have:=hf k h
  rwa [List.getD_eq_getElem?_getD] at this
 ·rw [List.getElem?_append_right (by omega),List.getElem?_map];have hk':k-f.length<c.length:=by omega
  have h1:=hc (k-f.length) hk';rw [List.getD_eq_getElem?_getD,List.getElem?_eq_getElem hk',Option.getD_some] at h1;rw [List.getElem?_eq_getElem hk',Option.map_some,Option.getD_some];have:=aM4 (n:=f.length) h1
  rwa [show f.length+(k-f.length)= k by omega] at this
theorem iQ {f:List Nd} {p:Nd} (hf:zC f) (hp:yK p f.length=0):zC (f ++ [p]):=by
 intro k hk;simp only [List.length_append,List.length_singleton] at hk;simp only [List.getD_eq_getElem?_getD]
 by_cases h:k<f.length
 ·rw [List.getElem?_append_left h];have:=hf k h
  rwa [List.getD_eq_getElem?_getD] at this
 ·obtain rfl:k=f.length:=by omega
  simpa using hp
theorem bY (o:List Nd):zC (xJ o):=lT o _
def aIv (k:Nat) (x:Nd) (v:Int):Nd:=if k=0 then⟨x.op,x.i,x.e,x.g,v,x.y⟩ else⟨x.op,x.i,x.e,x.g,x.x,v⟩
def fX : Nat->List (List Nd)->List Nd->Nd->Option (List Nd × Nd)
 | _,[],f,x=>some (f,x)
 | k,o :: r,f,x=>if xH o≠0 then none else
  fX (k+1) r (f++(xJ o).map (uD f.length)) (aIv k x (((f++(xJ o).map (uD f.length)).length:Int)-1))
def pM (x:Nd) (ops:List (List Nd)):List Nd:=match fX 0 ops [] x with
 | none=>[]
 | some (f,x')=>if yK x' f.length≠0 then [] else if 200<(wP (f ++ [x']) f.length).length then [] else wP (f ++ [x']) f.length
end Fm
theorem eC (x:Nd) (ops:List (List Nd)) (ho:ops.length<=2):yX Tryz.prog 91 [.agg x.row,.sl 1 (nl ops)] (.sl 6 (ndR (pM x ops))):=by
 refine xX.go_fn mixed Tryz.func91 k91 (by simp) fun hf=>?_;simp only [ZA,ZB,ZC,ZD,ZE,↓reduceIte,ZF,ZG,ZH,ZI,ZJ,reduceCtorEq,ZK,↓zU,↓zD,zV,zT,zW,aJ4,Nd.row]
 (repeat refine sd ?_)
 refine xV (fun a:Nat × List Nd × Nd=>[(16,.int .i64 a.1),(15,.int .i64 ops.length),(14,.sl 1 (nl ops)),(5,xG 1 6 (ndR a.2.1)),(2,.ref 0 6 0 0)]) (fun a=>⟨2,xE 1 6 (ndR a.2.1)++ [(0,⟨6,[a.2.2.row]⟩)]⟩)
  (fun a=>a.1<=ops.length/\zC a.2.1/\a.2.1.length<=200*a.1/\fX 0 ops [] x=fX a.1 (ops.drop a.1) a.2.1 a.2.2) (fun a=>ops.length-a.1) (0,[],x) ⟨Nat.zero_le _,fun k hk=>by simp at hk,by simp,rfl⟩ ?_ ?_
 ·(refine xM.ren [] [0] (by simp) (by simp) (by decide) ?_; simp only [yP,vwL,vw,vwF,sw,St.get,St.look,Fr.get,↓reduceIte,reduceIte,Nat.reduceEqDiff,Nat.reduceAdd,Nat.reduceBEq,Nat.reduceLT,Nat.reduceLeDiff,exists_eq_left',ne_eq,reduceCtorEq,zR,aGh,zM,zN,List.nil_append,Nd.row])
 rintro ⟨k,f,x1⟩ ⟨hk,hf,hfl,hb⟩;simp only at hk hf hfl hb;refine xQ mixed ?_;by_cases h:k<ops.length
 case neg=>
  have hd:¬ ((k:Int)<(ops.length:Int)):=by omega
  rw [List.drop_eq_nil_of_le (by omega),fX] at hb;have eb:pM x ops=if yK x1 f.length≠0 then [] else if 200<(wP (f ++ [x1]) f.length).length then [] else wP (f ++ [x1]) f.length:=by rw [pM,hb]
  rw [eb];simp only [ZA,ZB,ZC,ZD,ZE,↓reduceIte,ZF,ZG,ZH,ZI,ZJ,reduceCtorEq,ZK,↓zU,↓zD,zV,zT,zW,hd,Nd.row,xO]
  (repeat refine sd ?_)
  refine .go (xX.of_runs (iH x1 f.length) (by simp [D.isPureL,D.isPure,Nd.row])) ?_;by_cases hn:yK x1 f.length=0
  case neg=>
   have e:(yK x1 f.length != 0)= true:=by simpa using hn
   rw [if_pos hn];simp only [ZA,ZB,ZC,ZD,ZE,↓reduceIte,ZF,ZG,ZH,ZI,ZJ,reduceCtorEq,ZK,↓zU,↓zD,zV,zT,zW,e];exact .drop (by simp) (by simp [vw,ndR])
  have e:(yK x1 f.length != 0)= false:=by simpa using hn
  rw [if_neg (by simpa using hn)];simp only [ZA,ZB,ZC,ZD,ZE,↓reduceIte,ZF,ZG,ZH,ZI,ZJ,reduceCtorEq,ZK,↓zU,↓zD,zV,zT,zW,e,Nd.row,xO]
  (repeat refine sd ?_)
  have hv:zC (f ++ [x1]):=iQ hf hn;have hlen:(f ++ [x1]).length<=900:=by rw [List.length_append,List.length_singleton]; omega
  have hcall:=xX.give (σ:=⟨3,xE 2 6 (ndR (f ++ [x1]))++ [(0,⟨6,[x1.row]⟩)]⟩) (args:=[xG 2 6 (ndR (f ++ [x1])),.int .i64 f.length]) (objs':=[]) (fun _=>False) (aXi (i:=f.length) hv hlen (by simp))
   ⟨Seen.grow (by rw [St.get,yS,if_pos rfl]; cases wL 6 (ndR (f ++ [x1])) <;> rfl) id (by omega) (aGg _) (kU _),.pure rfl,trivial⟩ (fun k o hk=>by cases hk)
  rw [aVi];simp only [Nd.row] at hcall;refine .go hcall ?_;generalize wP (f ++ [x1]) f.length=c
  by_cases hc:200<c.length
  ·have hc':(200:Int)<(c.length:Int):=by omega
   rw [if_pos hc];simp only [ZA,ZB,ZC,ZD,ZE,↓reduceIte,ZF,ZG,ZH,ZI,ZJ,reduceCtorEq,ZK,↓zU,↓zD,zV,zT,zW,xO,hc'];exact .drop (by simp) (by simp [vw,ndR])
  ·have hc':¬ (200:Int)<(c.length:Int):=by omega
   rw [if_neg hc];simp only [ZA,ZB,ZC,ZD,ZE,↓reduceIte,ZF,ZG,ZH,ZI,ZJ,reduceCtorEq,ZK,↓zU,↓zD,zV,zT,zW,xO,hc'];exact .drop (by simp) (by simp [vw])
 have hd:((k:Int)<(ops.length:Int)):=by omega
 have hg:=aD0 ops h;rw [drop_cons (d:=[]) h,fX] at hb;generalize ops.getD k []=o at hg hb;have hw:IntKind.i64.wrap ((k:Int)+ 1)= ((k+1:Nat):Int):=wrap_i64 (by omega);simp only [ZA,ZB,ZC,ZD,ZE,↓reduceIte,ZF,ZG,ZH,ZI,ZJ,reduceCtorEq,ZK,↓zU,↓zD,zV,zT,zW,hd,aJ4,hg]
 (repeat refine sd ?_)
 refine .go (cr (oA o)) ?_;by_cases hc:xH o=0
 case neg=>
  have e:(xH o != 0)= true:=by simpa using hc
  rw [if_pos hc] at hb;simp only [ZA,ZB,ZC,ZD,ZE,↓reduceIte,ZF,ZG,ZH,ZI,ZJ,reduceCtorEq,ZK,↓zU,↓zD,zV,zT,zW,e];rw [show pM x ops = [] by rw [pM,hb]];exact .drop (by simp) (by simp [vw,ndR])
 have e:(xH o != 0)= false:=by simpa using hc
 rw [if_neg (by simpa using hc)] at hb;simp only [ZA,ZB,ZC,ZD,ZE,↓reduceIte,ZF,ZG,ZH,ZI,ZJ,reduceCtorEq,ZK,↓zU,↓zD,zV,zT,zW,e,xO];refine .go (cr (aXv o)) ?_;have hcv:=bY o;have hcl:(xJ o).length<=200:=pK o _;generalize xJ o=c at hb hcv hcl;simp only [ZA,ZB,ZC,ZD,ZE,↓reduceIte,ZF,ZG,ZH,ZI,ZJ,reduceCtorEq,ZK,↓zU,↓zD,zV,zT,zW,xO]
 refine xV (fun j:Nat=>[(29,.int .i64 j),(28,.int .i64 c.length),(27,.sl 6 (ndR c)),(16,.int .i64 k),(15,.int .i64 ops.length),(14,.sl 1 (nl ops)),(8,.int .i64 f.length),(6,.int .i64 k),(5,xG 1 6 (ndR (f++(c.take j).map (uD f.length)))),(2,.ref 0 6 0 0)]) (fun j=>⟨2,xE 1 6 (ndR (f++(c.take j).map (uD f.length)))++ [(0,⟨6,[x1.row]⟩)]⟩)
  (fun j=>j<=c.length) (fun j=>c.length-j) 0 (Nat.zero_le _) ?_ ?_
 ·rw [show f++(c.take 0).map (uD f.length)= f by simp]
  (refine xM.same ?_; simp [xS,Fr.get])
 intro j hj;refine xQ mixed ?_;by_cases hjl:j<c.length
 case neg=>
  have hd2:¬ ((j:Int)<(c.length:Int)):=by omega
  rw [kX (show j=c.length by omega)];have hfl2:(f++c.map (uD f.length)).length<=200*(k+1):=by rw [List.length_append,List.length_map]; omega
  have hv2:=aTe hf hcv;generalize f++c.map (uD f.length)= f2 at hb hfl2 hv2;have hw2:IntKind.i64.wrap ((f2.length:Int)-1)= (f2.length:Int)-1:=wrap_i64 (by omega)
  by_cases hk0:k=0
  ·have e0:((k:Int)== 0)= true:=by rw [hk0]; rfl
   rw [aIv,if_pos hk0] at hb;simp only [ZA,ZB,ZC,ZD,ZE,↓reduceIte,ZF,ZG,ZH,ZI,ZJ,reduceCtorEq,ZK,↓zU,↓zD,zV,zT,zW,hd2,e0,xO,hw2,Nd.row]
   (repeat refine sd ?_)
   refine⟨(k+1,f2,⟨x1.op,x1.i,x1.e,x1.g,(f2.length:Int)-1,x1.y⟩),⟨by omega,hv2,hfl2,hb⟩,?_,by simp only; omega⟩
   (refine xM.ren [] [1,0] (by simp) (by simp) (by decide) ?_; simp only [yP,vwL,vw,vwF,sw,St.get,St.look,Fr.get,↓reduceIte,reduceIte,Nat.reduceEqDiff,Nat.reduceAdd,Nat.reduceBEq,Nat.reduceLT,Nat.reduceLeDiff,exists_eq_left',ne_eq,reduceCtorEq,zR,jI,Nd.row,hw])
  ·have e0:((k:Int)== 0)= false:=by rw [beq_eq_false_iff_ne]; omega
   rw [aIv,if_neg hk0] at hb;simp only [ZA,ZB,ZC,ZD,ZE,↓reduceIte,ZF,ZG,ZH,ZI,ZJ,reduceCtorEq,ZK,↓zU,↓zD,zV,zT,zW,hd2,e0,xO,hw2,Nd.row]
   (repeat refine sd ?_)
   refine⟨(k+1,f2,⟨x1.op,x1.i,x1.e,x1.g,x1.x,(f2.length:Int)-1⟩),⟨by omega,hv2,hfl2,hb⟩,?_,by simp only; omega⟩
   (refine xM.ren [] [1,0] (by simp) (by simp) (by decide) ?_; simp only [yP,vwL,vw,vwF,sw,St.get,St.look,Fr.get,↓reduceIte,reduceIte,Nat.reduceEqDiff,Nat.reduceAdd,Nat.reduceBEq,Nat.reduceLT,Nat.reduceLeDiff,exists_eq_left',ne_eq,reduceCtorEq,zR,jI,Nd.row,hw])
 have hd2:((j:Int)<(c.length:Int)):=by omega
 have hgj:=vK c hjl;have hnj:=hcv j hjl;obtain⟨⟨px,hpx,hpx2⟩,⟨py,hpy,hpy2⟩⟩:=aQg hnj;have hsn:f++(c.take (j+1)).map (uD f.length)= f++(c.take j).map (uD f.length)++ [uD f.length (c.getD j nd0)]:=by rw [yE (d:=nd0) hjl,List.map_append,<- List.append_assoc]; rfl
 generalize c.getD j nd0=p at hgj hnj hpx hpy hsn;have hwj:IntKind.i64.wrap ((j:Int)+ 1)= ((j+1:Nat):Int):=wrap_i64 (by omega);have hl2:(f++(c.take j).map (uD f.length)).length<=1000:=by rw [List.length_append,List.length_map,List.length_take]; omega
 generalize f++(c.take j).map (uD f.length)= f1 at hsn hl2;have hwx:IntKind.i64.wrap (p.x+(f.length:Int))= p.x+(f.length:Int):=wrap_i64 (by omega);have hwy:IntKind.i64.wrap (p.y+(f.length:Int))= p.y+(f.length:Int):=wrap_i64 (by omega);simp only [ZA,ZB,ZC,ZD,ZE,↓reduceIte,ZF,ZG,ZH,ZI,ZJ,reduceCtorEq,ZK,↓zU,↓zD,zV,zT,zW,hd2,xO,hgj,Nd.row]
 (repeat refine sd ?_)
 refine .go (cq (gF p.op)) ?_;have es:uD f.length p=⟨p.op,p.i,p.e,p.g,if (xZ p.op).1.x=true then p.x+f.length else p.x,if (xZ p.op).1.y=true then p.y+f.length else p.y⟩:=rfl;cases hux:(xZ p.op).1.x <;> cases huy:(xZ p.op).1.y <;> rw [hux,huy] at es
 all_goals
  simp only [ZA,ZB,ZC,ZD,ZE,↓reduceIte,ZF,ZG,ZH,ZI,ZJ,reduceCtorEq,ZK,↓zU,↓zD,zV,zT,zW,Use.row,hux,huy,hwx,hwy,aVi,xO,List.length_append,List.length_singleton]
  (repeat refine sd ?_)
  refine⟨j+1,by omega,?_,by omega⟩;rw [hsn,es]
  (refine xM.ren [(1,4)] [1,0] (by simp) (by simp) (by decide) ?_; simp only [yP,vwL,vw,vwF,sw,St.get,St.look,Fr.get,↓reduceIte,reduceIte,Nat.reduceEqDiff,Nat.reduceAdd,Nat.reduceBEq,Nat.reduceLT,Nat.reduceLeDiff,exists_eq_left',ne_eq,reduceCtorEq,zR,jI,hwj,Nd.row,Bool.false_eq_true,if_false,if_true])
section
open Rs Fm
namespace Fm
def aEa (f:List Nd):List Nd:=pM ⟨4,0,0,0,0,0⟩ [f]
def aBa (f g:List Nd):List Nd:=pM ⟨5,0,0,0,0,0⟩ [f,g]
def cC (a:Int) (f:List Nd):List Nd:=pM ⟨9,a,0,0,0,0⟩ [f]
def rK (i:Int):List Nd:=pM ⟨3,i,0,0,0,0⟩ []
end Fm
theorem aJg (x:Nd):yX Tryz.prog 91 [.agg x.row,.nils] (.sl 6 (ndR (pM x []))):=
 xX.give (σ:=St0) (objs':=[]) (fun _=>False) (eC x [] (by simp)) ⟨.pure (by simp [D.isPure,D.isPureL,Nd.row]),.nil 1,trivial⟩ (fun k o hk=>by cases hk)
theorem aAf (f:List Nd):yX Tryz.prog 35 [.sl 6 (ndR f)] (.sl 6 (ndR (aEa f))):=by
 refine xX.go_fn mixed Tryz.func35 k35 (by simp) fun hf=>?_;simp only [ZA,ZB,ZC,ZD,ZE,↓reduceIte,ZF,ZG,ZH,ZI,ZJ,reduceCtorEq,ZK,↓zU,↓zD,zV,zT,zW]
 (repeat refine sd ?_)
 refine .go (xX.of_runs (eC ⟨4,0,0,0,0,0⟩ [f] (by simp)) (by simp [D.isPureL,D.isPure,Nd.row,nl])) ?_;simp only [ZA,ZB,ZC,ZD,ZE,↓reduceIte,ZF,ZG,ZH,ZI,ZJ,reduceCtorEq,ZK,↓zU,↓zD,zV,zT,zW];exact .same
theorem aCs (a:Int) (f:List Nd):yX Tryz.prog 33 [.int .i64 a,.sl 6 (ndR f)] (.sl 6 (ndR (cC a f))):=by
 refine xX.go_fn mixed Tryz.func33 k33 (by simp) fun hf=>?_;simp only [ZA,ZB,ZC,ZD,ZE,↓reduceIte,ZF,ZG,ZH,ZI,ZJ,reduceCtorEq,ZK,↓zU,↓zD,zV,zT,zW]
 (repeat refine sd ?_)
 refine .go (xX.of_runs (eC ⟨9,a,0,0,0,0⟩ [f] (by simp)) (by simp [D.isPureL,D.isPure,Nd.row,nl])) ?_;simp only [ZA,ZB,ZC,ZD,ZE,↓reduceIte,ZF,ZG,ZH,ZI,ZJ,reduceCtorEq,ZK,↓zU,↓zD,zV,zT,zW];exact .same
theorem aCu (i:Int):yX Tryz.prog 34 [.int .i64 i] (.sl 6 (ndR (rK i))):=by
 refine xX.go_fn mixed Tryz.func34 k34 (by simp) fun hf=>?_;simp only [ZA,ZB,ZC,ZD,ZE,↓reduceIte,ZF,ZG,ZH,ZI,ZJ,reduceCtorEq,ZK,↓zU,↓zD,zV,zT,zW]
 (repeat refine sd ?_)
 refine .go (xX.of_runs (aJg ⟨3,i,0,0,0,0⟩) (by simp [D.isPureL,D.isPure,Nd.row])) ?_;simp only [ZA,ZB,ZC,ZD,ZE,↓reduceIte,ZF,ZG,ZH,ZI,ZJ,reduceCtorEq,ZK,↓zU,↓zD,zV,zT,zW];exact .same
end
section
open Rs Fm
namespace Fm
theorem aQj (a b c d e f:Int):gA [.int .i64 a,.int .i64 b,.int .i64 c,.int .i64 d,.int .i64 e,.int .i64 f]=some [a,b,c,d,e,f]:=rfl
theorem oB {α:Type} [DecidableEq α] {a b:List α} {k:Nat} {d:α} (ha:k<a.length) (hb:k<b.length):decide (a.drop k=b.drop k)= (decide (a.getD k d=b.getD k d)&& decide (a.drop (k+1)= b.drop (k+1))):=by
 rw [drop_cons (d:=d) ha,drop_cons (d:=d) hb,Bool.eq_iff_iff];simp
end Fm
end
open Rs Fm
namespace Fm
end Fm
open Rs Fm
namespace Fm
theorem vP (op:Int):op=1\/op=2\/op=3\/op=4\/op=5\/op=6\/op=7\/op=8\/op=9\/op=10\/op=11\/op=12\/op=13\/op=14\/op=15\/op=16\/op=17\/op=18\/op=19\/op=20\/op=21\/op<1\/21<op:=by omega
theorem zS {op:Int} (h:op<1\/21<op):xZ op=(uF,false):=if_pos h
theorem aJz (op:Int):(xZ op).1.x=(decide (4<=op)&& decide (op<=21)):=by
 rcases vP op with rfl | rfl | rfl | rfl | rfl | rfl | rfl | rfl | rfl | rfl | rfl | rfl | rfl | rfl | rfl | rfl | rfl | rfl | rfl | rfl | rfl | h | h
 rotate_right 2
 ·rw [zS (.inl h),decide_eq_false (by omega)]; rfl
 ·rw [zS (.inr h),decide_eq_false (show ¬ op<=21 by omega),Bool.and_false]; rfl
 all_goals rfl
theorem aDg (op:Int):(xZ op).1.gr=(decide (11<=op)&& decide (op<=13)):=by
 rcases vP op with rfl | rfl | rfl | rfl | rfl | rfl | rfl | rfl | rfl | rfl | rfl | rfl | rfl | rfl | rfl | rfl | rfl | rfl | rfl | rfl | rfl | h | h
 rotate_right 2
 ·rw [zS (.inl h),decide_eq_false (by omega)]; rfl
 ·rw [zS (.inr h),decide_eq_false (show ¬ op<=13 by omega),Bool.and_false]; rfl
 all_goals rfl
theorem aR4 (op:Int):(op==3)= (xZ op).1.fa:=by
 rcases vP op with rfl | rfl | rfl | rfl | rfl | rfl | rfl | rfl | rfl | rfl | rfl | rfl | rfl | rfl | rfl | rfl | rfl | rfl | rfl | rfl | rfl | h | h
 rotate_right 2
 ·rw [zS (.inl h)]; simp [uF]; omega
 ·rw [zS (.inr h)]; simp [uF]; omega
 all_goals rfl
theorem aHh (op:Int):(op==17)= (xZ op).1.ev:=by
 rcases vP op with rfl | rfl | rfl | rfl | rfl | rfl | rfl | rfl | rfl | rfl | rfl | rfl | rfl | rfl | rfl | rfl | rfl | rfl | rfl | rfl | rfl | h | h
 rotate_right 2
 ·rw [zS (.inl h)]; simp [uF]; omega
 ·rw [zS (.inr h)]; simp [uF]; omega
 all_goals rfl
theorem aHg {op:Int} (h1:¬ op<1) (h2:¬ 21<op):(xZ op).2=true:=by
 rcases vP op with rfl | rfl | rfl | rfl | rfl | rfl | rfl | rfl | rfl | rfl | rfl | rfl | rfl | rfl | rfl | rfl | rfl | rfl | rfl | rfl | rfl | h | h
 rotate_right 2
 ·omega
 ·omega
 all_goals rfl
theorem tS {m:Nd->Nat}:∀ {l:List Nd},yN m l=0 ↔ ∀ p ∈ l,m p=0:=by
 intro l
 have key:∀ (l:List Nd) (a:Nat),l.foldl (fun a p=>a ||| m p) a=0 ↔ a=0/\∀ p ∈ l,m p=0:=by
  intro l
  induction l with
  | nil=>simp
  | cons p r ih=>
   intro a;simp only [List.foldl_cons,ih,List.mem_cons,forall_eq_or_imp];rw [Nat.or_eq_zero_iff]
   constructor
   ·rintro ⟨⟨h1,h2⟩,h3⟩; exact⟨h1,h2,h3⟩
   ·rintro ⟨h1,h2,h3⟩; exact⟨⟨h1,h2⟩,h3⟩
 rw [yN,key];simp
end Fm
end Go.Pd
