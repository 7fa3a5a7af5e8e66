/- Part LG. -/
import Derived.Test.YtndfaefmmcoapaaGreatKaLF
set_option linter.unusedSectionVars false
set_option linter.unusedVariables false
set_option linter.unusedSimpArgs false
set_option linter.defProp false
set_option maxRecDepth 20000
set_option maxHeartbeats 1000000
namespace Go.Pd
open Go Go.Proofs
open Int renaming reduceToNat -> ZA, reduceLT -> ZB, reduceLE -> ZC, reduceBEq -> ZD, reduceBNe -> ZE
open Nat renaming reduceEqDiff -> ZF, reduceAdd -> ZG, reduceBEq -> ZH, reduceLT -> ZI, reduceLeDiff -> ZJ, reduceMul -> ZK
open Rs Fm Ru Te Kb
namespace Kb
def aYh (l:List ChA) (a:Nat) (h:List (BitVec 64)):Int:=ixF (lH a h) l 0
def mvC (l:List ChA) (a:Nat) (h:List (BitVec 64)):Int:=(l.getD (aYh l a h).toNat ch0).mv
def hisT (p:PrA) (sts:List (List (BitVec 64))) (t a r:Nat):List (BitVec 64):=rV p.see (stR sts r) a t
def mvG (p:PrA) (l:List ChA) (sts:List (List (BitVec 64))) (t a n:Nat):List Int:=(List.range n).map fun r=>mvC l a (hisT p sts t a r)
def chsM (p:PrA) (l:List ChA) (sts:List (List (BitVec 64))) (t:Nat):List (List Int):=(List.range p.see.length).map fun a=>mvG p l sts t a sts.length
def chsB (p:PrA) (l:List ChA) (sts:List (List (BitVec 64))) (t:Nat):Bool:=(List.range p.see.length).all fun a=>(List.range sts.length).all fun r=>decide (0<=aYh l a (hisT p sts t a r))
theorem aI {α:Type} {f:α->Bool}:∀ {c:List α} {i:Int},0<=i->(ixF f c i = -1\/(i<=ixF f c i/\ixF f c i<i+c.length))
 | [],i,_=>.inl rfl
 | x :: r,i,hi=>by
  unfold ixF
  by_cases h:f x=true
  ·rw [if_pos h]; exact .inr ⟨Int.le_refl _,by simp; omega⟩
  ·rw [if_neg h]
   rcases aI (c:=r) (i:=i+1) (by omega) with h1 | h1
   ·exact .inl h1
   ·exact .inr ⟨by omega,by simp; omega⟩
theorem aQn {l:List ChA} {a:Nat} {h:List (BitVec 64)} (h0:0<=aYh l a h):(aYh l a h).toNat<l.length/\aYh l a h<l.length:=by
 rcases aI (f:=lH a h) (c:=l) (i:=0) (Int.le_refl 0) with h1 | h1
 ·unfold aYh at h0; omega
 ·unfold aYh at h0 ⊢; omega
structure IG (E : Nat -> List (List D)) (A n0 : Nat) (x : QP) : Prop where
 ha:x.a<=A
 hn:n0<=x.nx
 kO:x.kO<x.nx\/x.a=0
 kl:x.ks.length=x.a
 ks:∀ k ∈ x.ks,k<x.nx
 nd:x.ks.Nodup
 no:x.a≠0->x.kO ∉ x.ks
 nst:x.a≠0->Nst x.objs x.kO x.ks ((List.range x.a).map E)
theorem IG.step {E:Nat->List (List D)} {A n0:Nat} {x:QP} (h:IG E A n0 x) (hal:x.a<A) {kI kN n2:Nat} {ob:List (Nat × Ob)} (h1:x.nx<=kI/\kI<n2) (h2:x.nx<=kN/\kN<n2) (hne:kI≠kN)
  (hout:St.look ob kN=some ⟨1,sZ (x.ks ++ [kI]) ((List.range x.a).map E ++ [E x.a])⟩) (hnew:St.look ob kI=some ⟨1,E x.a⟩) (hold:∀ k,k<x.nx->(x.a=0\/k≠x.kO)->St.look ob k=St.look x.objs k) :
  IG E A n0 ⟨x.a+1,n2,kN,x.ks ++ [kI],ob⟩:=by
 have hn:=h.hn
 refine⟨by show x.a+1<=_; omega,by show n0<=n2; omega,.inl h2.2,by simp [h.kl],fun k hk=>?_,?_,fun _ hk=>?_,fun _=>?_⟩
 ·show k<n2
  rcases List.mem_append.1 hk with hk | hk
  ·have:=h.ks k hk; omega
  ·rw [List.mem_singleton.1 hk]; exact h1.2
 ·refine List.nodup_append.2 ⟨h.nd,by simp,fun k hk j hj e=>?_⟩;have:=h.ks k hk;rw [List.mem_singleton.1 hj] at e;omega
 ·have hk:kN ∈ x.ks ++ [kI]:=hk
  rcases List.mem_append.1 hk with hk | hk
  ·have:=h.ks _ hk; omega
  ·exact hne (List.mem_singleton.1 hk).symm
 ·show Nst ob kN (x.ks ++ [kI]) ((List.range (x.a+1)).map E);rw [List.range_succ,List.map_append];have h0:(List.range x.a).map E ≠ []->x.a≠0:=fun c e=>c (by rw [e]; rfl);refine Nst.grow (fun c=>h.nst (h0 c)) (by rw [h.kl]; simp) hout hnew fun k hk=>?_;refine hold k (h.ks k hk) ?_
  by_cases c:x.a=0
  ·exact .inl c
  ·exact .inr fun e=>h.no c (e ▸ hk)
end Kb
theorem nA.tup1 {n0:Nat} {σ1 σ':St} {d1 d:D} (h:nA n0 σ1 d1 σ' d) (b:Bool):nA n0 σ1 (.tup [d1,.bool b]) σ' (.tup [d,.bool b]):=by
 rcases h with ⟨rfl,rfl⟩ | ⟨ρ,r1,r2,r3,r4,r5⟩
 ·exact .inl ⟨rfl,rfl⟩
 ·refine .inr ⟨ρ,r1,r2,?_,r4,r5⟩;simp only [vw,vwL];exact⟨rfl,r3,trivial,trivial⟩
theorem aUe {p:PrA} {l:List ChA} (hll:l.length<=2000000) {sts:List (List (BitVec 64))} {t:Nat} (hA:1<=p.see.length/\p.see.length<=4) (hR:1<=sts.length/\sts.length<=16) (hl:∀ st ∈ sts,t<st.length) (ht:t<=1000) {d:D} {σ':St}
  (hyes:chsB p l sts t=true->d = .tup [.osl 0 1 p.see.length,.bool true]/\σ'=⟨1+p.see.length,aUv ((chsM p l sts t).map (rows .i64))⟩) (hno:chsB p l sts t=false->d = .tup [.nils,.bool false]/\σ'=St0) :
  xX Tryz.prog 84 [plD p sts,.sl 3 (chR l),.int .i64 t] St0 d σ':=by
 have hh:∀ a r,a<p.see.length->r<sts.length->yX Tryz.prog 75 [plD p sts,.int .i64 a,.int .i64 r,.int .i64 t] (.sl 1 (us (hisT p sts t a r))):=fun a r ha hr=>
  rB (qZ p ha hr (hl _ (xN (d:=[]) hr)) ht)
 have hfalse:∀ a r,a<p.see.length->r<sts.length->aYh l a (hisT p sts t a r)<0->chsB p l sts t=false:=fun a r ha hr h=>by
  unfold chsB;rw [List.all_eq_false];refine⟨a,List.mem_range.2 ha,?_⟩;rw [Bool.not_eq_true,List.all_eq_false];exact⟨r,List.mem_range.2 hr,by simpa using h⟩
 unfold plD plC at *;refine xX.go_fn mixed Tryz.func84 k84 (by simp) fun hf=>?_;simp only [ZA,ZB,ZC,ZD,ZE,↓reduceIte,ZF,ZG,ZH,ZI,ZJ,reduceCtorEq,ZK,↓zU,↓zD,zV,zT,zW,xR]
 refine xV (fun x:QP=>[(20,.int .i64 x.a),(19,.int .i64 p.see.length),(8,rP x.kO x.a),(2,.int .i64 t),(1,.sl 3 (chR l)),(0,.ptr [.int .i64 p.F,.sl 1 (us p.init),.sl 1 (us p.see),.sl 1 (mvR p.moves),.sl 1 (cdR p.code),.sl 1 (rr sts)])]) (fun x=>⟨x.nx,x.objs⟩)
  (fun x=>IG (fun a=>rows .i64 (mvG p l sts t a sts.length)) p.see.length 0 x/\∀ a r,a<x.a->r<sts.length->0<=aYh l a (hisT p sts t a r)) (fun x=>p.see.length-x.a) ⟨0,0,0,[],[]⟩
  ⟨⟨Nat.zero_le _,Nat.zero_le _,.inr rfl,rfl,by simp,.nil,fun h=>absurd rfl h,fun h=>absurd rfl h⟩,fun a r ha=>absurd ha (Nat.not_lt_zero _)⟩ ?_ ?_
 ·(refine xM.same ?_; simp [xS,Fr.get,rP])
 rintro ⟨a,nx,kO,ks,objs⟩ ⟨hI,hpos⟩;obtain⟨ha,n0,hkO,hkl,hks,hnd,hno',hnst⟩:=id hI;simp only at ha n0 hkO hkl hks hnd hno' hnst hpos;refine xQ mixed ?_;by_cases hal:a<p.see.length
 case neg=>
  have hd:¬ ((a:Int)<(p.see.length:Int)):=by omega
  obtain rfl:a=p.see.length:=by omega
  have ha0:p.see.length≠0:=by omega
  have hB:chsB p l sts t=true:=by
   unfold chsB;rw [List.all_eq_true];intro a ha;rw [List.all_eq_true];intro r hr;exact decide_eq_true (hpos a r (List.mem_range.1 ha) (List.mem_range.1 hr))
  obtain⟨rfl,rfl⟩:=hyes hB;unfold rP;rw [if_neg ha0];simp only [ZA,ZB,ZC,ZD,ZE,↓reduceIte,ZF,ZG,ZH,ZI,ZJ,reduceCtorEq,ZK,↓zU,↓zD,zV,zT,zW,hd];have hn:=hnst ha0;rw [show (List.range p.see.length).map (fun a=>rows .i64 (mvG p l sts t a sts.length))= (chsM p l sts t).map (rows .i64) by simp only [chsM,List.map_map]; rfl] at hn;have hl2:((chsM p l sts t).map (rows .i64)).length=p.see.length:=by simp [chsM]
  have hr:=nA.nst (nx:=nx) hn hl2.symm hnd (hno' ha0) fun e he r hr=>(uI e he r hr).2;rw [hl2] at hr;exact nA.tup1 hr true
 have hd:((a:Int)<(p.see.length:Int)):=by omega
 have hown:(mvG p l sts t a sts.length).length=sts.length:=by simp [mvG]
 have howg:∀ r,r<sts.length->(mvG p l sts t a sts.length).getD r 0=mvC l a (hisT p sts t a r):=fun r hr=>by simp [mvG,List.getD,hr]
 have hstep:=fun kI kN n2 ob=>@IG.step (fun a=>rows .i64 (mvG p l sts t a sts.length)) p.see.length 0 ⟨a,nx,kO,ks,objs⟩ hI hal kI kN n2 ob;simp only at hstep;have hha:=fun r hr=>hh a r hal hr;have hfa:=fun r hr=>hfalse a r hal hr;generalize mvG p l sts t a sts.length=own at *;simp only [ZA,ZB,ZC,ZD,ZE,↓reduceIte,ZF,ZG,ZH,ZI,ZJ,reduceCtorEq,ZK,↓zU,↓zD,zV,zT,zW,hd,yF]
 (repeat refine sd ?_)
 refine xV (fun x:OP=>[(28,.int .i64 x.j),(27,.int .i64 sts.length),(20,.int .i64 a),(19,.int .i64 p.see.length),(10,rP x.kW x.j),(9,.ref nx 1 0 0),(8,rP kO a),(2,.int .i64 t),(1,.sl 3 (chR l)),(0,.ptr [.int .i64 p.F,.sl 1 (us p.init),.sl 1 (us p.see),.sl 1 (mvR p.moves),.sl 1 (cdR p.code),.sl 1 (rr sts)])]) (fun x=>⟨x.m,x.ob⟩)
  (fun x=>IO ((nx,⟨1,[[.int .i64 a]]⟩) :: objs) (nx+1) own x/\∀ r,r<x.j->0<=aYh l a (hisT p sts t a r)) (fun x=>sts.length-x.j) ⟨0,nx+1,0,(nx,⟨1,[[.int .i64 a]]⟩) :: objs⟩
  ⟨⟨Nat.zero_le _,Nat.le_refl _,fun h=>absurd rfl h,fun _ _=>rfl⟩,fun r hr=>absurd hr (Nat.not_lt_zero _)⟩ ?_ ?_
 ·(refine xM.same ?_; simp only [xS,Fr.get,↓reduceIte,reduceIte,Nat.reduceEqDiff,reduceCtorEq,D.int.injEq,D.bool.injEq,D.sl.injEq,and_true,true_and,and_self,show rP 0 0=D.nils from rfl])
  rfl
 rintro ⟨r,m,kW,ob⟩ ⟨⟨hr,hm,hkW,hold⟩,hpr⟩;simp only at hr hm hkW hold hpr;have gx:St.look ob nx=some ⟨1,[[.int .i64 a]]⟩:=by rw [hold nx (by omega),xY,if_pos rfl]
 have hold2:∀ k,k<nx->St.look ob k=St.look objs k:=fun k hk=>by rw [hold k (by omega),xY,if_neg (by omega)]
 refine xQ mixed ?_;by_cases hrl:r<sts.length
 case neg=>
  have hd2:¬ ((r:Int)<(sts.length:Int)):=by omega
  obtain rfl:r=sts.length:=by omega
  have hj0:sts.length≠0:=by omega
  obtain⟨w1,w2,w3⟩:=hkW hj0;rw [List.take_of_length_le (by omega)] at w3;rw [show rP kW sts.length = .osl kW 1 sts.length by unfold rP; rw [if_neg hj0]]
  have hpos2:∀ a' r,a'<a+1->r<sts.length->0<=aYh l a' (hisT p sts t a' r):=fun a' r ha' hr'=>by
   by_cases e:a'=a
   ·subst e; exact hpr r hr'
   ·exact hpos a' r (by omega) hr'
  by_cases ha0:a=0
  ·subst ha0;obtain rfl:ks = []:=List.eq_nil_of_length_eq_zero hkl;rw [show rP kO 0=D.nils from rfl];simp only [ZA,ZB,ZC,ZD,ZE,↓reduceIte,ZF,ZG,ZH,ZI,ZJ,reduceCtorEq,ZK,↓zU,↓zD,zV,zT,zW,hd2]
   (repeat refine sd ?_)
   refine⟨⟨0+1,m+1+1,m+1,[] ++ [kW],(m+1,⟨1,[[.osl kW 1 sts.length]]⟩) :: (m,⟨1,[[.osl kW 1 sts.length]]⟩) :: ob⟩,⟨hstep kW (m+1) (m+1+1) _ ⟨by omega,by omega⟩ ⟨by omega,by omega⟩ (by omega) ?_ ?_ ?_,hpos2⟩,?_,by show p.see.length-(0+1)<_; omega⟩
   ·rw [xY,if_pos rfl];simp [sZ,xF,hown]
   ·rw [xY,if_neg (by omega),xY,if_neg (by omega)];exact w3
   ·intro k hk _;rw [xY,if_neg (by omega),xY,if_neg (by omega)];exact hold2 k hk
   ·rw [show rP (m+1) (0+1)= .osl (m+1) 1 1 from rfl]
    (refine xM.same ?_; simp only [xS,Fr.get,↓reduceIte,reduceIte,Nat.reduceEqDiff,reduceCtorEq,D.int.injEq,D.bool.injEq,D.sl.injEq,and_true,true_and,and_self])
    rfl
  ·have hkO2:kO<nx:=hkO.resolve_right ha0;have hn:=hnst ha0;have ho:=hn.out;have ho2:=(hold2 kO hkO2).trans ho;have q2:¬ (m=kO):=by omega
   have hnl:=vO hn.len;rw [List.length_map,List.length_range] at hnl;have htk:(sZ ks ((List.range a).map fun a=>rows .i64 (mvG p l sts t a sts.length))).take a=sZ ks ((List.range a).map fun a=>rows .i64 (mvG p l sts t a sts.length)):=List.take_of_length_le (by omega);have hsn:=jF hn.len kW (rows .i64 own);rw [xF,hown] at hsn;rw [show rP kO a = .osl kO 1 a by unfold rP; rw [if_neg ha0]];simp only [ZA,ZB,ZC,ZD,ZE,↓reduceIte,ZF,ZG,ZH,ZI,ZJ,reduceCtorEq,ZK,↓zU,↓zD,zV,zT,zW,hd2,q2,ho2,hnl,htk]
   (repeat refine sd ?_)
   refine⟨⟨a+1,m+1+1,m+1,ks ++ [kW],(m+1,⟨1,sZ ks ((List.range a).map fun a=>rows .i64 (mvG p l sts t a sts.length))++ [[.osl kW 1 sts.length]]⟩) :: (m,⟨1,[[.osl kW 1 sts.length]]⟩) :: yR ob kO⟩,⟨hstep kW (m+1) (m+1+1) _ ⟨by omega,by omega⟩ ⟨by omega,by omega⟩ (by omega) ?_ ?_ ?_,hpos2⟩,?_,by show p.see.length-(a+1)<_; omega⟩
   ·rw [xY,if_pos rfl,hsn]
   ·rw [xY,if_neg (by omega),xY,if_neg (by omega),xL,if_neg (by omega)];exact w3
   ·intro k hk hk2;rw [xY,if_neg (by omega),xY,if_neg (by omega),xL,if_neg (fun e=>(hk2.resolve_left ha0) e.symm)];exact hold2 k hk
   ·rw [show rP (m+1) (a+1)= .osl (m+1) 1 (a+1) by unfold rP; rw [if_neg (by omega)]]
    (refine xM.same ?_; simp only [xS,Fr.get,↓reduceIte,reduceIte,Nat.reduceEqDiff,reduceCtorEq,D.int.injEq,D.bool.injEq,D.sl.injEq,and_true,true_and,and_self])
    exact wQ (by omega)
 have hd2:((r:Int)<(sts.length:Int)):=by omega
 have h75:=hha r hrl;have hfr:=hfa r hrl;have hwg:=howg r hrl;have htk:=yE (d:=0) (show r<own.length by omega);rw [hwg] at htk
 have hpr2:0<=aYh l a (hisT p sts t a r)->∀ r',r'<r+1->0<=aYh l a (hisT p sts t a r'):=fun h r' hr'=>by
  by_cases e:r'=r
  ·subst e; exact h
  ·exact hpr r' (by omega)
 have hmvE:mvC l a (hisT p sts t a r)= (l.getD (aYh l a (hisT p sts t a r)).toNat ch0).mv:=rfl;have hix:=fun h0=>@aQn l a (hisT p sts t a r) h0;have q1:¬ (m=nx):=by omega
 have hidx:=aVz (σ:=⟨m+1,(m,⟨1,[[.sl 1 (us (hisT p sts t a r))]]⟩) :: ob⟩) (g:=137) (caps:=[.ref nx 1 0 0,.ref m 1 0 0]) (c:=l) (f:=lH a (hisT p sts t a r)) hll
  fun d _=>aO8 (by rw [xY,if_neg q1]; exact gx) (by rw [xY,if_pos rfl]) d
 rw [show ixF (lH a (hisT p sts t a r)) l 0=aYh l a (hisT p sts t a r) from rfl] at hidx;generalize aYh l a (hisT p sts t a r)= ix at *;generalize hisT p sts t a r=h at *
 by_cases hix0:ix<0
 ·obtain⟨rfl,rfl⟩:=hno (hfr hix0);simp only [ZA,ZB,ZC,ZD,ZE,↓reduceIte,ZF,ZG,ZH,ZI,ZJ,reduceCtorEq,ZK,↓zU,↓zD,zV,zT,zW,hd2,gx]
  (repeat refine sd ?_)
  refine .go (cr h75) ?_;simp only [ZA,ZB,ZC,ZD,ZE,↓reduceIte,ZF,ZG,ZH,ZI,ZJ,reduceCtorEq,ZK,↓zU,↓zD,zV,zT,zW,q1]
  (repeat refine sd ?_)
  refine .go hidx ?_;simp only [ZA,ZB,ZC,ZD,ZE,↓reduceIte,ZF,ZG,ZH,ZI,ZJ,reduceCtorEq,ZK,↓zU,↓zD,zV,zT,zW,hix0];exact .drop (by simp) (by simp [vw,vwL])
 obtain⟨x1,x2⟩:=hix (by omega);have hgc:=eE l x1;have hmv2:=hmvE;unfold ChA.row at hgc;rw [<- hmv2] at hgc;have hixp:0<=ix:=by omega
 generalize mvC l a h=z at *;generalize l.getD ix.toNat ch0=c at *
 by_cases hj0:r=0
 ·subst hj0;have hd20:(0:Int)<(sts.length:Int):=by omega
  rw [show rP kW 0=D.nils from rfl];simp only [ZA,ZB,ZC,ZD,ZE,↓reduceIte,ZF,ZG,ZH,ZI,ZJ,reduceCtorEq,ZK,↓zU,↓zD,zV,zT,zW,hd20,gx]
  (repeat refine sd ?_)
  refine .go (cr h75) ?_;simp only [ZA,ZB,ZC,ZD,ZE,↓reduceIte,ZF,ZG,ZH,ZI,ZJ,reduceCtorEq,ZK,↓zU,↓zD,zV,zT,zW,q1]
  (repeat refine sd ?_)
  refine .go hidx ?_;simp only [ZA,ZB,ZC,ZD,ZE,↓reduceIte,ZF,ZG,ZH,ZI,ZJ,reduceCtorEq,ZK,↓zU,↓zD,zV,zT,zW,hix0,wS,x2,hgc]
  (repeat refine sd ?_)
  refine⟨⟨0+1,m+1+1,m+1,(m+1,⟨1,[[.int .i64 z]]⟩) :: (m,⟨1,[[.sl 1 (us h)]]⟩) :: ob⟩,⟨⟨by show 0+1<=_; omega,by show nx+1<=m+1+1; omega,fun _=>⟨by show nx+1<=m+1; omega,by show m+1<m+1+1; omega,?_⟩,fun k hk=>?_⟩,hpr2 hixp⟩,?_,by show sts.length-(0+1)<_; omega⟩
  ·show St.look ((m+1,_) :: _) (m+1)= _;rw [xY,if_pos rfl];show _=some (Ob.mk 1 (rows .i64 (own.take (0+1))));rw [htk]; rfl
  ·show St.look ((m+1,_) :: (m,_) :: ob) k=_;rw [xY,if_neg (by omega),xY,if_neg (by omega)];exact hold k hk
  ·rw [show rP (m+1) (0+1)= .osl (m+1) 1 1 from rfl]
   (refine xM.same ?_; simp only [xS,Fr.get,↓reduceIte,reduceIte,Nat.reduceEqDiff,reduceCtorEq,D.int.injEq,D.bool.injEq,D.sl.injEq,and_true,true_and,and_self])
   rfl
 ·obtain⟨w1,w2,w3⟩:=hkW hj0;have q2:¬ (m=kW):=by omega
  have q3:¬ (m+1=kW):=by omega
  have hol:(own.take r).length=r:=by rw [List.length_take]; omega
  have htt:(own.take r).take r=own.take r:=by rw [List.take_take,Nat.min_self]
  rw [show rP kW r = .osl kW 1 r by unfold rP; rw [if_neg hj0]];simp only [ZA,ZB,ZC,ZD,ZE,↓reduceIte,ZF,ZG,ZH,ZI,ZJ,reduceCtorEq,ZK,↓zU,↓zD,zV,zT,zW,hd2,gx]
  (repeat refine sd ?_)
  refine .go (cr h75) ?_;simp only [ZA,ZB,ZC,ZD,ZE,↓reduceIte,ZF,ZG,ZH,ZI,ZJ,reduceCtorEq,ZK,↓zU,↓zD,zV,zT,zW,q1]
  (repeat refine sd ?_)
  refine .go hidx ?_;simp only [ZA,ZB,ZC,ZD,ZE,↓reduceIte,ZF,ZG,ZH,ZI,ZJ,reduceCtorEq,ZK,↓zU,↓zD,zV,zT,zW,hix0,wS,x2,hgc,q1,q2,q3,w3,xF,hol,htt]
  (repeat refine sd ?_)
  refine⟨⟨r+1,m+1+1,m+1,(m+1,⟨1,rows .i64 (own.take r ++ [z])⟩) :: (m,⟨1,[[.sl 1 (us h)]]⟩) :: yR ob kW⟩,⟨⟨by show r+1<=_; omega,by show nx+1<=m+1+1; omega,fun _=>⟨by show nx+1<=m+1; omega,by show m+1<m+1+1; omega,?_⟩,fun k hk=>?_⟩,hpr2 hixp⟩,?_,by show sts.length-(r+1)<_; omega⟩
  ·show St.look ((m+1,_) :: _) (m+1)= _;rw [xY,if_pos rfl];show _=some (Ob.mk 1 (rows .i64 (own.take (r+1))));rw [htk]
  ·show St.look ((m+1,_) :: (m,_) :: yR ob kW) k=_;rw [xY,if_neg (by omega),xY,if_neg (by omega),xL,if_neg (by omega)];exact hold k hk
  ·rw [show rP (m+1) (r+1)= .osl (m+1) 1 (r+1) by unfold rP; rw [if_neg (by omega)]]
   (refine xM.same ?_; simp only [xS,Fr.get,↓reduceIte,reduceIte,Nat.reduceEqDiff,reduceCtorEq,D.int.injEq,D.bool.injEq,D.sl.injEq,and_true,true_and,and_self])
   exact wQ (by omega)
end Go.Pd
