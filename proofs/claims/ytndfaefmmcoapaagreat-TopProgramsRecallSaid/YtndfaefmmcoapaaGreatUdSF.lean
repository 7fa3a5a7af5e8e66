/- Part SF. -/
import Derived.Test.YtndfaefmmcoapaaGreatUdSC
import Derived.Test.YtndfaefmmcoapaaGreatUdKG
import Derived.Test.YtndfaefmmcoapaaGreatUdX9
import Derived.Test.YtndfaefmmcoapaaGreatUdKI
set_option linter.unusedSectionVars false
set_option linter.unusedVariables false
set_option linter.unusedSimpArgs false
set_option linter.defProp false
set_option maxRecDepth 20000
set_option maxHeartbeats 1000000
namespace Go.Pd
open Go Go.Proofs
open BitVec renaming isValue -> ZA
open Ru
def rY (l:List Int):Nat->List Int
 | 0=>[]
 | k+1=>if 0<k/\l.getD k 0=l.getD (k-1) 0 then rY l k else rY l k ++ [l.getD k 0]
def mZ (l:List Int):List Int:=rY l l.length
theorem kQ {l:List Int}:∀ {k:Nat},k<=l.length->(∀ i,0<i->i<k->l.getD i 0≠l.getD (i-1) 0)->rY l k=l.take k
 | 0,_,_=>by simp [rY]
 | k+1,h,hn=>by rw [rY,if_neg (fun c=>hn k c.1 (by omega) c.2),kQ (by omega) (fun i h1 h2=>hn i h1 (by omega)),<- wT (by omega)]
theorem aU6 (l:List Int):∀ k,(rY l k).length<=k
 | 0=>Nat.le_refl _
 | k+1=>by
  have:=aU6 l k;rw [rY]
  split
  ·omega
  ·rw [List.length_append]; simp; omega
theorem aJ1 (l:List Int) (k:Nat):(rY l k).length<=(rY l (k+1)).length:=by
 rw [rY]; split
 ·exact Nat.le_refl _
 ·rw [List.length_append]; omega
theorem aKr (l:List Int) (i:Nat) (x:Int):(rows .i64 l).set i [.int .i64 x]=rows .i64 (l.set i x):=by simp [rows,List.map_set]
theorem aWt (o:List Int) (i j:Nat) (x:Int):(o.set i x).getD j 0=if i=j/\j<o.length then x else o.getD j 0:=by
 simp only [List.getD,List.getElem?_set]
 split
 ·rename_i h; subst h; by_cases hj:i<o.length
  ·simp [hj]
  ·simp [hj]
 ·rename_i h; simp [h]
theorem aYi (l:List Int):∀ k,0<(rY l (k+1)).length
 | 0=>by rw [rY,if_neg (by omega),List.length_append]; simp
 | k+1=>Nat.lt_of_lt_of_le (aYi l k) (aJ1 l (k+1))
def diE (l:List Int):List (List D):=rows .i64 (mZ l)++ List.replicate (l.length-(mZ l).length) [.int .i64 0]
theorem bXk (l:List Int):(diE l).length=l.length:=by have:=aU6 l l.length;unfold diE mZ;rw [List.length_append,yW,List.length_replicate];omega
theorem aJ6 {σ:St} {key:Nat} {l:List Int} (hget:σ.get key=some ⟨1,rows .i64 l⟩) (hlen:l.length<=1000) (hne:l ≠ []) :
  xY Tryz.prog 144 [.osl key 1 l.length] σ (.osl key 1 (mZ l).length) (σ.set key ⟨1,diE l⟩):=by
 obtain⟨nx,xZ⟩:=σ;have hpos:0<l.length:=List.length_pos_iff.2 hne;have hg:St.look xZ key=some ⟨1,rows .i64 l⟩:=hget
 have whole:mZ l=l->(.osl key 1 (mZ l).length=D.osl key 1 l.length/\(⟨nx,uR xZ key ⟨1,diE l⟩⟩:St)= ⟨nx,xZ⟩):=by
  intro e;refine⟨by rw [e],?_⟩;have:diE l=rows .i64 l:=by unfold diE; rw [e]; simp
  rw [this,oW hg]
 refine xY.xR mixed Tryz.func144 bRh (by simp) fun hf=>?_
 by_cases h2:l.length<2
 ·have hd:(l.length:Int)<2:=by omega
  simp only [simprocAttr,-ZA,↓zU,↓zD,zV,zT,zW,hd]
  have e:mZ l=l:=by unfold mZ;rw [kQ (Nat.le_refl _) (fun i h1 h3=>by omega),List.take_length]
  obtain⟨e1,e2⟩:=whole e;exact .inl ⟨e1,e2⟩
 have hd:¬ (l.length:Int)<2:=by omega
 simp only [simprocAttr,-ZA,↓zU,↓zD,zV,zT,zW,hd]
 refine xQ (fun k:Nat=>[(3,.int .i64 k),(0,.osl key 1 l.length)]) (fun _=>⟨nx,xZ⟩) (fun k=>1<=k/\k<=l.length/\∀ i,0<i->i<k->l.getD i 0≠l.getD (i-1) 0) (fun k=>l.length-k) 1 ⟨Nat.le_refl _,by omega,fun i h1 h2=>by omega⟩ ?_ ?_
 ·(refine xM.same ?_; simp [xP,Fr.get])
 intro i0 ⟨hi1,hi2,hi3⟩;refine xN mixed ?_;by_cases h:i0<l.length
 case neg=>
  have hd:¬ ((i0:Int)<(l.length:Int)):=by omega
  have e:mZ l=l:=by unfold mZ;rw [kQ (Nat.le_refl _) (fun i h1 h3=>hi3 i h1 (by omega)),List.take_length]
  obtain⟨e1,e2⟩:=whole e;simp only [simprocAttr,-ZA,↓zU,↓zD,zV,zT,zW,hd];exact .inl ⟨e1,e2⟩
 have hd:((i0:Int)<(l.length:Int)):=by omega
 have em:IntKind.i64.wrap ((i0:Int)-1)= ((i0-1:Nat):Int):=by rw [wrap_i64 (by omega)]; omega
 by_cases hq:l.getD i0 0=l.getD (i0-1) 0
 case neg=>
  have hq':(l.getD i0 0==l.getD (i0-1) 0)= false:=by simpa using hq
  simp only [simprocAttr,-ZA,↓zU,↓zD,zV,zT,zW,hd,hg,yX .i64 l h,em,yX .i64 l (show i0-1<l.length by omega),hq']
  (repeat refine sd ?_)
  refine⟨i0+1,⟨by omega,by omega,fun i h1 h3=>?_⟩,?_,by omega⟩
  ·by_cases e:i=i0
   ·rw [e]; exact hq
   ·exact hi3 i h1 (by omega)
  (refine xM.same ?_; simp only [xP,Fr.get,simprocAttr,-ZA,zS])
  exact wrap_i64 (by omega)
 have hq':(l.getD i0 0==l.getD (i0-1) 0)= true:=by simpa using hq
 simp only [simprocAttr,-ZA,↓zU,↓zD,zV,zT,zW,hd,hg,yX .i64 l h,em,yX .i64 l (show i0-1<l.length by omega),hq']
 (repeat refine sd ?_)
 have ei:¬ (i0:Int)= 0:=by omega
 have ei2:¬ (i0:Int)= (l.length:Int):=by omega
 refine⟨i0,l.length,rfl,rfl,by omega,by omega,by omega,?_⟩;simp only [Int.toNat_natCast,if_neg ei,if_neg ei2];have d1:rY l (i0+1)= l.take i0:=by rw [rY,if_pos ⟨by omega,hq⟩,kQ (by omega) hi3]
 refine xQ (fun a:Nat × List Int=>[(5,.int .i64 a.1),(4,.sub key 1 i0 (l.length-i0)),(3,.int .i64 (rY l (i0+a.1)).length),(0,.osl key 1 l.length)]) (fun a=>⟨nx,uR xZ key ⟨1,rows .i64 a.2⟩⟩)
  (fun a=>1<=a.1/\i0+a.1<=l.length/\a.2.length=l.length/\(rY l (i0+a.1)).length<i0+a.1/\a.2.take (rY l (i0+a.1)).length=rY l (i0+a.1)/\ ∀ j,i0+a.1-1<=j->a.2.getD j 0=l.getD j 0) (fun a=>l.length-a.1) (1,l)
  ⟨Nat.le_refl _,by omega,rfl,by rw [d1,List.length_take]; omega,by rw [d1,List.length_take,Nat.min_eq_left (by omega)],fun j _=>rfl⟩ ?_ ?_
 ·rw [oW hg]
  (refine xM.same ?_; simp [xP,Fr.get,d1])
  omega
 intro ⟨q,o⟩ ⟨q1,q2,q3,q4,q5,q6⟩;simp only at q1 q2 q3 q4 q5 q6;have hlk:∀ ob:Ob,St.look (uR xZ key ob) key=some ob:=fun ob=>eL hg;refine xN mixed ?_
 by_cases hp:i0+q<l.length
 ·have hd3:((q:Int)<((l.length-i0:Nat):Int)):=by omega
  have eq1:IntKind.i64.wrap ((q:Int)-1)= ((q-1:Nat):Int):=by rw [wrap_i64 (by omega)]; omega
  have a1:o.getD (i0+q) 0=l.getD (i0+q) 0:=q6 _ (by omega);have a2:o.getD (i0+(q-1)) 0=l.getD (i0+q-1) 0:=by rw [q6 _ (by omega)]; congr 1; omega
  by_cases hq2:l.getD (i0+q) 0=l.getD (i0+q-1) 0
  ·have dd:rY l (i0+(q+1))= rY l (i0+q):=by show rY l ((i0+q)+ 1)= _;rw [rY,if_pos ⟨by omega,hq2⟩]
   have hq3:(l.getD (i0+q) 0 != l.getD (i0+q-1) 0)= false:=by simpa using hq2
   simp only [simprocAttr,-ZA,↓zU,↓zD,zV,zT,zW,hd3,hlk,eq1,yX .i64 o (show i0+q<o.length by omega),yX .i64 o (show i0+(q-1)<o.length by omega),a1,a2,hq3]
   (repeat refine sd ?_)
   refine⟨(q+1,o),⟨by show 1<=q+1; omega,by show i0+(q+1)<=l.length; omega,q3,by show (rY l (i0+(q+1))).length<i0+(q+1); rw [dd]; omega,by show o.take (rY l (i0+(q+1))).length=rY l (i0+(q+1)); rw [dd,q5],fun j hj=>q6 j (by change i0+(q+1)-1<=j at hj; omega)⟩,?_,by show l.length-(q+1)<l.length-q; omega⟩
   (refine xM.same ?_; simp only [xP,Fr.get,simprocAttr,-ZA,zS,dd])
   exact wrap_i64 (by omega)
  ·have dd:rY l (i0+(q+1))= rY l (i0+q)++ [l.getD (i0+q) 0]:=by show rY l ((i0+q)+ 1)= _;rw [rY,if_neg (fun c=>hq2 c.2)]
   have dl:(rY l (i0+(q+1))).length=(rY l (i0+q)).length+1:=by rw [dd,List.length_append]; rfl
   have hq3:(l.getD (i0+q) 0 != l.getD (i0+q-1) 0)= true:=by simpa using hq2
   simp only [simprocAttr,-ZA,↓zU,↓zD,zV,zT,zW,hd3,hlk,eq1,yX .i64 o (show i0+q<o.length by omega),yX .i64 o (show i0+(q-1)<o.length by omega),a1,a2,hq3]
   (repeat refine sd ?_)
   have c1:(rY l (i0+q)).length<o.length:=by omega
   have eset:(rows .i64 o).set (rY l (i0+q)).length (((rows .i64 o).getD (rY l (i0+q)).length []).set 0 (D.int .i64 (l.getD (i0+q) 0)))= rows .i64 (o.set (rY l (i0+q)).length (l.getD (i0+q) 0)):=by rw [yX .i64 o c1];exact aKr _ _ _
   refine⟨(q+1,o.set (rY l (i0+q)).length (l.getD (i0+q) 0)),⟨by show 1<=q+1; omega,by show i0+(q+1)<=l.length; omega,by show (o.set _ _).length=_; rw [List.length_set]; exact q3,by show (rY l (i0+(q+1))).length<i0+(q+1); omega,?_,fun j hj=>?_⟩,?_,by show l.length-(q+1)<l.length-q; omega⟩
   ·show (o.set (rY l (i0+q)).length (l.getD (i0+q) 0)).take (rY l (i0+(q+1))).length=_;rw [dl,wT (d:=0) (by rw [List.length_set]; exact c1),aWt,if_pos ⟨rfl,c1⟩,dd,List.take_set_of_le (Nat.le_refl _),q5]
   ·change i0+(q+1)-1<=j at hj;show (o.set (rY l (i0+q)).length (l.getD (i0+q) 0)).getD j 0=_;rw [aWt,if_neg (by omega)];exact q6 j (by omega)
   ·simp only [oZ,eset]
    (refine xM.same ?_; simp only [xP,Fr.get,simprocAttr,-ZA,zS,dl])
    exact⟨wrap_i64 (by omega),wrap_i64 (by omega)⟩
 ·have hd3:¬ ((q:Int)<((l.length-i0:Nat):Int)):=by omega
  have ed:rY l (i0+q)= mZ l:=by unfold mZ; rw [show i0+q=l.length by omega]
  have c0:0<(mZ l).length:=by have:=aYi l (l.length-1);rw [show l.length-1+1=l.length by omega] at this;exact this
  rw [ed] at q4 q5;simp only [simprocAttr,-ZA,↓zU,↓zD,zV,zT,zW,hd3,ed];refine⟨(mZ l).length,l.length,rfl,rfl,by omega,by omega,by omega,?_⟩;rw [if_neg (show ¬ ((mZ l).length:Int)= 0 by omega),if_neg (show ¬ ((mZ l).length:Int)= (l.length:Int) by omega)];simp only [Int.toNat_natCast,hlk,yW,true_and];refine⟨by omega,by omega,?_⟩;refine⟨0,(mZ l).length,rfl,rfl,by omega,by omega,by omega,?_⟩;rw [if_pos rfl];refine .inl ⟨by rw [Int.toNat_natCast],?_⟩;have e2:(rows .i64 o).take (mZ l).length=rows .i64 (mZ l):=by rw [aZ2,q5]
  have e3:(rows .i64 o).drop ((mZ l).length+(l.length-(mZ l).length))= []:=List.drop_eq_nil_of_le (by rw [yW]; omega)
  have e4:diE l=(rows .i64 o).take (mZ l).length++(List.replicate (l.length-(mZ l).length) [D.int .i64 0]++(rows .i64 o).drop ((mZ l).length+(l.length-(mZ l).length))):=by rw [e2,e3,List.append_nil]; rfl
  rw [e4];simp only [oZ]
namespace Ru
def cC (rs:List xD) (a r t:Nat):List Int:=(List.range t).map fun i=>yQ rs a (r,i)
def iV (rs:List xD) (a:Nat) (p:Nat × Nat):List Int:=mZ (cC rs a p.1 (p.2+1))
theorem aX8 (rs:List xD) (a r t:Nat):(cC rs a r t).length=t:=by simp [cC]
theorem aJi (rs:List xD) (a r t:Nat):cC rs a r (t+1)= cC rs a r t ++ [yQ rs a (r,t)]:=by unfold cC; rw [List.range_succ,List.map_append]; rfl
end Ru
theorem aJu {rs:List xD} {A F T:Nat} (ok:OkR rs A F T) {a:Nat} (ha:a<A) {p:Nat × Nat} (hp:p.1<rs.length/\p.2<T):yB Tryz.prog 95 [sD A F T rs,.int .i64 a,.agg [.int .i64 (p.1:Int),.int .i64 (p.2:Int)]] (.sl 1 (rows .i64 (iV rs a p))):=by
 obtain⟨T1,T16⟩:=ok.hT;have hm:=xS (d:=qT) hp.1;have hg:=rW rs hp.1;have h1:=ok.loc _ hm;have h2:=fun(t:Nat) (ht:t<T)=>ok.row _ hm _ (xS (d:=[]) (show t<(rs.getD p.1 qT).loc.length by omega));obtain⟨r,t⟩:=p;simp only at hp hm hg h1 h2 ⊢;have hloc:∀ i,yQ rs a (r,i)= ((rs.getD r qT).loc.getD i []).getD a 0:=fun i=>rfl;unfold sD iV;generalize rs.getD r qT=R at hg h1 h2 hloc;have hw:IntKind.i64.wrap ((t:Int)+ 1)= ((t+1:Nat):Int):=wrap_i64 (by omega);refine xY.xR mixed Tryz.func95 k95 (by simp) fun hf=>?_;simp only [simprocAttr,-ZA,↓zU,↓zD,zV,zT,zW,hw]
 refine xQ (fun k:Nat=>[(12,.int .i64 k),(11,.int .i64 ((t+1:Nat):Int)),(7,xA 2 1 (rows .i64 (cC rs a r k))),(5,.ref 1 2 0 0),(3,.ref 0 4 0 0),(1,.int .i64 a)])
  (fun k=>⟨3,yY 2 1 (rows .i64 (cC rs a r k))++ [(1,⟨2,[[.int .i64 r,.int .i64 t]]⟩),(0,⟨4,[[.int .i64 A,.int .i64 F,.int .i64 T,.sl 2 (vF rs)]]⟩)]⟩)
  (fun k=>k<=t+1) (fun k=>t+1-k) 0 (Nat.zero_le _) ?_ ?_
 ·(refine xM.ren [] [1,0] (by simp) (by simp) (by decide) ?_; simp only [yK,vwL,vw,vwF,sw,St.get,St.look,Fr.get,simprocAttr,-ZA,exists_eq_left',ne_eq,zR,cC,List.range_zero,List.map_nil,zA,zB,List.nil_append])
 intro k hk;refine xN mixed ?_
 by_cases hkl:k<t+1
 ·have hd:((k:Int)<((t+1:Nat):Int)):=by omega
  have hS:=aJi rs a r k;rw [hloc k] at hS;have hln:=aX8 rs a r k;have hg2:=gC R.loc (show k<R.loc.length by omega);have h3:=h2 k (by omega);generalize R.loc.getD k []=x at hg2 h3 hS;have hg3:=yX .i64 x (show a<x.length by omega);generalize cC rs a r k=l at hS hln;simp only [simprocAttr,-ZA,↓zU,↓zD,zV,zT,zW,hd,zQ,hg,xD.row,tH,hg2,hg3,hln]
  (repeat refine sd ?_)
  refine⟨k+1,by omega,?_,by omega⟩;rw [hS]
  (refine xM.ren [(2,3)] [2,1,0] (by simp) (by simp) (by decide) ?_; simp only [yK,vwL,vw,vwF,sw,St.get,St.look,Fr.get,simprocAttr,-ZA,exists_eq_left',ne_eq,zR])
  exact wrap_i64 (by omega)
 have hd:¬ ((k:Int)<((t+1:Nat):Int)):=by omega
 obtain rfl:k=t+1:=by omega
 have hln:=aX8 rs a r (t+1);generalize cC rs a r (t+1)= l at hln ⊢
 obtain⟨x,l',rfl⟩:∃ x l',l=x :: l':=by
  cases l with
  | nil=>simp at hln
  | cons x l'=>exact⟨x,l',rfl⟩
 have hc:=aJ6 (σ:=⟨3,[(2,⟨1,rows .i64 (x :: l')⟩),(1,⟨2,[[.int .i64 r,.int .i64 t]]⟩),(0,⟨4,[[.int .i64 A,.int .i64 F,.int .i64 T,.sl 2 (vF rs)]]⟩)]⟩) (key:=2) (l:=x :: l') rfl (by omega) (by simp)
 have hne:0<(mZ (x :: l')).length:=by have:=aYi (x :: l') l'.length;exact this
 simp only [simprocAttr,-ZA,↓zU,↓zD,zV,zT,zW,hd];refine .go hc ?_;simp only [simprocAttr,-ZA,↓zU,↓zD,zV,zT,zW];refine .drop (by simp) ?_;have hl1:=bXk (x :: l');have hl2:(diE (x :: l')).take (mZ (x :: l')).length=rows .i64 (mZ (x :: l')):=by unfold diE; rw [List.take_left' (yW _ _)]
 simp only [vw];refine⟨trivial,by decide,by simp,⟨1,diE (x :: l')⟩,rfl,rfl,?_,hl2.symm,uG _ _⟩;have:=aU6 (x :: l') (x :: l').length;show (mZ (x :: l')).length<=(diE (x :: l')).length;rw [hl1]; exact this
open Ru
namespace Ru
theorem eH {α:Type} (a b:List α) (d:α) {n:Nat} (h:n<a.length):(a++b).getD n d=a.getD n d:=by simp [List.getD,List.getElem?_append_left h]
end Ru
theorem bXn {c:List (BitVec 64)} (hc:c.length<=1000) (h0:0<c.length):yB Tryz.prog 122 [.sl 1 (us c)] (.sl 1 (us c)):=by
 obtain⟨x,l,rfl⟩:∃ x l,c=x :: l:=by
  cases c with
  | nil=>simp at h0
  | cons x l=>exact⟨x,l,rfl⟩
 refine xY.xR mixed Tryz.func122 bTg (by simp) fun hf=>?_;have hl:(us (x :: l)).length=l.length+1:=by simp [us]
 have h1:=aNx (x :: l);have e:us (x :: l)= [.int .u64 (ui x)] :: us l:=rfl;simp only [List.length_cons] at hc;rw [e] at hl h1 ⊢;simp only [simprocAttr,-ZA,↓zU,↓zD,zV,zT,zW];refine⟨by simp,h1,by omega,by omega,.drop (by simp) ?_⟩;have hp:=rN (x :: l);rw [e] at hp;have ht:([D.int .u64 (ui x)] :: us l).take (l.length+1)= [D.int .u64 (ui x)] :: us l:=by rw [<- hl,List.take_length]
 simp only [vw];exact⟨trivial,by decide,by simp,⟨1,[D.int .u64 (ui x)] :: us l⟩,rfl,rfl,by simp only; omega,ht.symm,hp⟩
open Ru
namespace Ru
def aNq (kf:Nat->Nat × Nat->List Int) (l:List (Nat × Nat)) (a:Nat) (p:Nat × Nat):Int:=below (dedup (aV4 (l.map (kf a)))) (kf a p)
def aCq (rs:List xD) (A T:Nat) (num:Nat->Nat × Nat->Int):List xD:=(List.range rs.length).map fun i=>⟨(List.range T).map fun t=>(List.range A).map fun a=>num a (i,t),(rs.getD i qT).fac⟩
end Ru
open Ru
namespace Ru
theorem pG {σ σ':St} {ρ:Nat->Nat} {α:Type} {f g:α->List D}:∀ {l:List α},(∀ i ∈ l,(f i).length=(g i).length/\vwL σ σ' ρ (f i) (g i))->vwE σ σ' ρ (l.map f) (l.map g)
 | [],_=>.nil
 | x :: l,h=>.cons (h x (by simp)).1 (h x (by simp)).2 (pG fun i hi=>h i (List.mem_cons_of_mem _ hi))
end Ru
open Ru
theorem gQ {l:List (List Int)}:∀ {k:Nat} {x:List Int},x ∈ sW l k ↔ ∃ i,i<k/\l.getD i []=x
 | 0,x=>by simp [sW]
 | k+1,x=>by
  rw [sW]
  by_cases h:0<k/\l.getD k []=l.getD (k-1) []
  ·rw [if_pos h,gQ];refine⟨fun⟨i,hi,e⟩=>⟨i,by omega,e⟩,fun⟨i,hi,e⟩=>?_⟩
   by_cases ei:i=k
   ·exact⟨k-1,by omega,by rw [<- h.2,<- ei]; exact e⟩
   ·exact⟨i,by omega,e⟩
  ·rw [if_neg h,List.mem_append,gQ,List.mem_singleton];refine⟨fun c=>c.elim (fun⟨i,hi,e⟩=>⟨i,by omega,e⟩) (fun e=>⟨k,by omega,e.symm⟩),fun⟨i,hi,e⟩=>?_⟩
   by_cases ei:i=k
   ·exact .inr (by rw [<- e,ei])
   ·exact .inl ⟨i,by omega,e⟩
theorem aN8 {l:List (List Int)} (h:asc l) {i j:Nat} (hij:i<j) (hj:j<l.length):¬ kc (l.getD j []) (l.getD i [])<0:=by have:=List.pairwise_iff_getElem.1 h i j (by omega) hj hij;simpa [List.getD,hj,show i<l.length by omega] using this
theorem mF {l:List (List Int)} (h:asc l):∀ {k:Nat},k<=l.length->(sW l k).Pairwise fun a b=>kc a b<0
 | 0,_=>List.Pairwise.nil
 | k + 1,hk=>by
  rw [sW]
  by_cases c:0<k/\l.getD k []=l.getD (k-1) []
  ·rw [if_pos c]; exact mF h (by omega)
  ·rw [if_neg c];refine List.pairwise_append.2 ⟨mF h (by omega),List.pairwise_singleton _ _,fun x hx y hy=>?_⟩;rw [List.mem_singleton] at hy;subst hy;obtain⟨i,hi,rfl⟩:=gQ.1 hx;have h1:=aN8 h hi (show k<l.length by omega)
   by_cases e:kc (l.getD i []) (l.getD k [])<0
   ·exact e
   ·exfalso;have eq:l.getD i []=l.getD k []:=aU1 h1 e
    by_cases e2:i=k-1
    ·exact c ⟨by omega,by rw [<- eq,e2]⟩
    ·have h2:=aN8 h (show i<k-1 by omega) (show k-1<l.length by omega);have h3:=aN8 h (show k-1<k by omega) (show k<l.length by omega);rw [eq] at h2;exact c ⟨by omega,aU1 h3 h2 |>.symm⟩
theorem aJ3 {l:List (List Int)} (h:asc l):asc (dedup l):=by have:=mF h (Nat.le_refl l.length);exact this.imp fun {a b} h=>by have:=pB a b; omega
theorem aJ2 {l:List (List Int)} {x:List Int}:x ∈ dedup l ↔ x ∈ l:=by
 unfold dedup;rw [gQ]
 constructor
 ·rintro ⟨i,hi,rfl⟩; exact xS hi
 ·intro h;obtain⟨i,hi,e⟩:=List.mem_iff_getElem.1 h;exact⟨i,hi,by simp [List.getD,hi,e]⟩
open Ru
theorem mQ {rs:List xD} {A F T:Nat} (ok:OkR rs A F T):chk ⟨A,F,T,rs⟩= 0:=by
 obtain⟨h1,h2,h3,h4,h5,h6,h7,h8,h9⟩:=ok;unfold chk;simp only;have hp:((rs.length*T:Nat):Int)<=512:=by omega
 rw [Int.natCast_mul] at hp
 rw [if_neg (by omega),if_neg (by omega),if_neg (by omega),if_neg,if_neg]
 ·rw [Bool.not_eq_true,List.any_eq_false];intro r hr;simp only [aI7,Int.toNat_natCast,List.any_eq_true,not_exists,not_and];intro f hf;simp [h9 r hr f hf]
 ·rw [Bool.not_eq_true,List.any_eq_false];intro r hr;have hrow:=h8 r hr;simp only [aVw,h6 r hr,h7 r hr,decide_true,Bool.not_true,Bool.false_or,List.any_eq_true,not_exists,not_and];intro l hl;simp [hrow l hl]
open Ru
namespace Ru
def aCr (rs:List xD) (A T:Nat) (kf:Nat->Nat × Nat->List Int):List xD:=aCq rs A T (aNq kf (ptN T (rs.length*T)))
theorem aGt (rs:List xD) (A T:Nat) (num:Nat->Nat × Nat->Int):(aCq rs A T num).length=rs.length:=by simp [aCq]
theorem aRb {rs:List xD} {A T:Nat} {num:Nat->Nat × Nat->Int} {i:Nat} (h:i<rs.length):(aCq rs A T num).getD i qT=⟨(List.range T).map fun t=>(List.range A).map fun a=>num a (i,t),(rs.getD i qT).fac⟩:=by simp [aCq,List.getD,h]
theorem aRa {rs:List xD} {A T:Nat} {num:Nat->Nat × Nat->Int} {a:Nat} {p:Nat × Nat} (ha:a<A) (hp:p.1<rs.length/\p.2<T):yQ (aCq rs A T num) a p=num a p:=by unfold yQ;rw [aRb hp.1];simp [List.getD,hp.2,ha]
theorem filter_le {p q:List Int->Bool}:∀ {m:List (List Int)},(∀ y ∈ m,p y=true->q y=true)->(m.filter p).length<=(m.filter q).length
 | [],_=>Nat.le_refl _
 | y :: m,h=>by
  have ih:=filter_le (p:=p) (q:=q) (m:=m) fun z hz=>h z (List.mem_cons_of_mem _ hz);have h0:=h y (by simp);rw [List.filter_cons,List.filter_cons]
  cases hp:p y
  ·cases hq:q y
   ·simpa using ih
   ·simp; omega
  ·rw [h0 hp]; simpa using ih
theorem filter_lt {p q:List Int->Bool} {x:List Int}:∀ {m:List (List Int)},(∀ y ∈ m,p y=true->q y=true)->x ∈ m->p x=false->q x=true->(m.filter p).length<(m.filter q).length
 | [],_,hx,_,_=>by cases hx
 | y :: m,h,hx,hp,hq=>by
  have h':∀ z ∈ m,p z=true->q z=true:=fun z hz=>h z (List.mem_cons_of_mem _ hz);rw [List.filter_cons,List.filter_cons]
  rcases List.mem_cons.1 hx with e | e
  ·subst e;have:=filter_le h';rw [hp,hq];simp; omega
  ·have ih:=filter_lt h' e hp hq;have h0:=h y (by simp)
   cases hpy:p y
   ·cases hqy:q y
    ·simpa using ih
    ·simp; omega
   ·rw [h0 hpy]; simpa using ih
theorem aQk {m:List (List Int)} {x y:List Int} (hx:x ∈ m) (h:kc x y<0):below m x<below m y:=by unfold below;refine filter_lt (x:=x) (fun z _ hz=>?_) hx (by rw [aM9]; rfl) (by simpa using h);have:=of_decide_eq_true hz;exact decide_eq_true (aYa this h)
theorem aIl {m:List (List Int)} {x y:List Int} (hx:x ∈ m) (hy:y ∈ m):below m x=below m y ↔ x=y:=by
 refine⟨fun h=>?_,fun h=>by rw [h]⟩;have a:=pB x y
 by_cases h1:kc x y<0
 ·have:=aQk hx h1; omega
 ·by_cases h2:kc y x<0
  ·have:=aQk hy h2; omega
  ·exact aXj (by omega)
theorem fW {T R:Nat} {p:Nat × Nat} (hp:p.1<R/\p.2<T):p ∈ ptN T (R*T):=by obtain⟨r,t⟩:=p;simp only at hp;simp only [ptN,List.mem_map,List.mem_range];have hm:=Nat.mul_le_mul_right T (show r+1<=R from hp.1);rw [Nat.succ_mul] at hm;refine⟨r*T+t,by omega,?_⟩;rw [Nat.mul_comm,Nat.mul_add_div (by omega),Nat.div_eq_of_lt hp.2,Nat.mul_add_mod,Nat.mod_eq_of_lt hp.2];rfl
theorem aM8 {kf:Nat->Nat × Nat->List Int} {T R a:Nat} {p:Nat × Nat} (hp:p.1<R/\p.2<T):kf a p ∈ dedup (aV4 ((ptN T (R*T)).map (kf a))):= aJ2.2 ((kK _).mem_iff.2 (List.mem_map_of_mem (fW hp)))
theorem aGz {kf:Nat->Nat × Nat->List Int} {T R a:Nat} {p q:Nat × Nat} (hp:p.1<R/\p.2<T) (hq:q.1<R/\q.2<T):aNq kf (ptN T (R*T)) a p=aNq kf (ptN T (R*T)) a q ↔ kf a p=kf a q:=by unfold aNq;rw [<- aIl (aM8 hp) (aM8 hq)];omega
theorem aGv (rs:List xD) (A T:Nat) (kf:Nat->Nat × Nat->List Int):(aCr rs A T kf).length=rs.length:=aGt _ _ _ _
theorem aGu {rs:List xD} {A T:Nat} {kf:Nat->Nat × Nat->List Int} {a:Nat} {p q:Nat × Nat} (ha:a<A) (hp:p.1<rs.length/\p.2<T) (hq:q.1<rs.length/\q.2<T):yQ (aCr rs A T kf) a p=yQ (aCr rs A T kf) a q ↔ kf a p=kf a q:=by unfold aCr;rw [aRa ha hp,aRa ha hq,aGz hp hq]
end Ru
open Rs Fm Ru Te Kb
namespace Kb
theorem aZv {rs:List xD} {A F T:Nat} (ok:OkR rs A F T) {f:List Nd} (hc:xB f=0) (hfr:(pT .andNot .i64 (zC f:Int) 15 != 0)= false) (hft:sT f A F=true):rX A F (uQ f)= true:=by
 have h16:zC f<16:=bWy ⟨zC f,lH f⟩ hfr;have ha:∀ n:Fin 16,n.val &&& 3824=0/\n.val &&& 256=0:=by decide
 have hE:kF ⟨A,F,T,rs⟩ f=0:=by unfold kF;rw [if_neg (by simpa using mQ ok),if_neg (by simpa using hc),aYf (lH f),if_neg (by simp [(ha ⟨zC f,h16⟩).1])];simp only;rw [if_neg (by rw [hft]; simp)]
 exact(aTm rfl (mQ ok) ok hE (ha ⟨zC f,h16⟩).2).1
theorem aLf {p:PrA} {f:List Nd} {fr:Int} (h:fmE p f fr=0):xB f=0/\(pT .andNot .i64 (zC f:Int) fr != 0)= false/\sT f p.see.length p.F=true:=by
 unfold fmE at h
 by_cases h1:xB f=0
 ·rw [if_neg (by simpa using h1)] at h
  cases h2:(pT .andNot .i64 (zC f:Int) fr != 0) with
  | true=>rw [h2,if_pos rfl] at h; cases h
  | false=>
   rw [h2,if_neg (by simp)] at h
   cases h3:sT f p.see.length p.F with
   | true=>exact⟨h1,rfl,rfl⟩
   | false=>rw [h3] at h; cases h
 ·rw [if_pos h1] at h; exact absurd h h1
structure PlG (p : PrA) (F : Nat) (sts : List (List (BitVec 64))) (t : Nat) : Prop where
 fe:p.F=(F:Int)
 hF:F<=8
 hA:1<=p.see.length/\p.see.length<=4
 hR:1<=sts.length/\sts.length<=16
 len:∀ st ∈ sts,t<st.length
 ht:t<=1000
 val:∀ st ∈ sts,∀ s ∈ st,s >>> F=0#64
theorem PlG.ok {p:PrA} {F:Nat} {sts:List (List (BitVec 64))} {t:Nat} (h:PlG p F sts t):bTn p F sts t:=⟨h.fe,h.hF,h.hA.2,by have:=h.hR.2; omega,h.len,h.ht⟩
theorem PlG.time {p:PrA} {F:Nat} {sts:List (List (BitVec 64))} {t:Nat} (h:PlG p F sts t):OkR (vP p.see sts t) p.see.length F 1:= aBn h.hA.2 h.hF ⟨h.hR.1,by have:=h.hR.2; omega⟩ fun w hw=>h.val _ (xS hw) _ (xS (h.len _ (xS hw)))
def bVu (see:List (BitVec 64)) (sts:List (List (BitVec 64))) (t:Nat) (f:List Nd) (v:Nat):Bool:=evT (vP see sts t) see.length 1 (uQ f) (v,0)
def knT (see:List (BitVec 64)) (sts:List (List (BitVec 64))) (t a:Nat) (f:List Nd) (w:Nat):Bool:=(List.range sts.length).all fun v=>!decide (nJ see (stR sts v) a t=nJ see (stR sts w) a t) || bVu see sts t f v
def bVi (see:List (BitVec 64)) (sts:List (List (BitVec 64))) (t:Nat) (f:List Nd):BitVec 64:=oL 1 sts.length (evT (vP see sts t) see.length 1 (uQ f))
def sU (see:List (BitVec 64)) (sts:List (List (BitVec 64))) (t a w:Nat):List ClA->Int
 | []=>-1
 | c :: r=>if knT see sts t a c.test w=true then c.mv else sU see sts t a w r
def bUl (p:PrA) (sts:List (List (BitVec 64))) (t a w:Nat):Int:=sU p.see sts t a w (p.code.getD a [])
def nH (p:PrA) (sts:List (List (BitVec 64))) (t:Nat):List (List Int):=(List.range p.see.length).map fun a=>(List.range sts.length).map fun w=>bUl p sts t a w
def rJ (A:Nat) (s:BitVec 64):List xD:=[⟨[List.replicate A 0],[s]⟩]
def bVv (A:Nat) (f:List Nd) (s:BitVec 64):Bool:=evT (rJ A s) A 1 (uQ f) (0,0)
def aNn (A:Nat) (s0:BitVec 64) (out:BitVec 64) (a:AsA):BitVec 64:=out &&& ~~~(1#64 <<< a.fact.toNat) ||| (if bVv A a.to s0=true then 1#64 <<< a.fact.toNat else 0#64)
def aO7 (p:PrA) (s0:BitVec 64) (out:BitVec 64) (k:Int):BitVec 64:=if k<0 then out else(p.xF.getD k.toNat []).foldl (aNn p.see.length s0) out
def bY4 (p:PrA) (s0:BitVec 64) (mv:List Int):BitVec 64:=mv.foldl (aO7 p s0) s0
theorem aBq {A F:Nat} {s:BitVec 64} (hA:A<=4) (hF:F<=8) (hs:s >>> F=0#64):OkR (rJ A s) A F 1 where
 hA:=hA
 hF:=hF
 hT:=⟨by omega,by omega⟩
 hR:=⟨by simp [rJ],by simp [rJ]⟩
 hP:=by simp [rJ]
 loc:=fun r hr=>by simp only [rJ,List.mem_singleton] at hr; subst hr; rfl
 fac:=fun r hr=>by simp only [rJ,List.mem_singleton] at hr; subst hr; rfl
 row:=fun r hr l hl=>by simp only [rJ,List.mem_singleton] at hr; subst hr;simp only [List.mem_singleton] at hl; subst hl;simp
 val:=fun r hr x hx=>by simp only [rJ,List.mem_singleton] at hr; subst hr;simp only [List.mem_singleton] at hx; subst hx;exact hs
end Kb
theorem aA3 {p:PrA} {F:Nat} {sts:List (List (BitVec 64))} {t:Nat} (h:PlG p F sts t) {f:List Nd} (hE:fmE p f 15=0):yB Tryz.prog 54 [aI9 p.see sts t F,.sl 6 (ndR f)] (.tup [.int .u64 (ui (bVi p.see sts t f)),.int .i64 0]):=by
 obtain⟨h1,h2,h3⟩:=aLf hE;rw [h.fe] at h3;have ok:=h.time;have hl:(vP p.see sts t).length*1=sts.length:=by rw [lB,Nat.mul_one]
 have hh:=aQg ok (by rw [hl]; have:=h.hR.2; omega) h1 h2 h3;unfold aQv at hh;rw [if_pos (aZv ok h1 h2 h3),hl,aH1] at hh;exact hh
theorem aGf {p:PrA} {F:Nat} {sts:List (List (BitVec 64))} {t:Nat} (h:PlG p F sts t) {a w:Nat} (ha:a<p.see.length) (hw:w<sts.length) (f:List Nd) :
  (Ru.aF (vP p.see sts t) (vA sts.length 0) a (yQ (vP p.see sts t) a (w,0)) sts.length &&& ~~~bVi p.see sts t f==0#64)= knT p.see sts t a f w:=by
 have hR:=h.hR.2;rw [Bool.eq_iff_iff,aMo];unfold knT bVi;simp only [List.all_eq_true,List.mem_range]
 constructor
 ·intro hh v hv
  by_cases e:nJ p.see (stR sts v) a t=nJ p.see (stR sts w) a t
  ·have h1:=hh v (by omega);rw [lN _ _ (by omega),oY hv,yV (by omega)] at h1;have h2:=(aXv (t:=t) ha hv hw).2 e;simp only [decide_eq_true hv,decide_eq_true h2,Bool.true_and,true_implies] at h1;unfold bVu;rw [decide_eq_true e,show pt 1 v=(v,0) by unfold pt; rw [Nat.div_one,Nat.mod_one]] at *;rw [h1]; rfl
  ·rw [decide_eq_false e]; rfl
 ·intro hh v hv hb;rw [lN _ _ (by omega)] at hb;simp only [Bool.and_eq_true,decide_eq_true_eq] at hb;obtain⟨hv2,hb⟩:=hb;rw [oY hv2] at hb;have h1:=hh v hv2;rw [decide_eq_true ((aXv (t:=t) ha hv2 hw).1 hb)] at h1;rw [yV (by omega),decide_eq_true hv2,show pt 1 v=(v,0) by unfold pt; rw [Nat.div_one,Nat.mod_one]];simpa [bVu] using h1
end Go.Pd
