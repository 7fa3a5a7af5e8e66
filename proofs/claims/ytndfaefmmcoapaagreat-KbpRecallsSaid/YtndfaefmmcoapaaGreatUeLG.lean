/- Part LG. -/
import Derived.Test.YtndfaefmmcoapaaGreatUeXE
set_option linter.unusedSectionVars false
set_option linter.unusedVariables false
set_option linter.unusedSimpArgs false
set_option linter.defProp false
set_option maxRecDepth 20000
set_option maxHeartbeats 1000000
namespace Go.Pd
open Go Go.Proofs
open BitVec renaming isValue -> ZA
open Rs Fm Ru Te Kb
namespace Kb
def aW6 (l:List ChA) (a:Nat) (h:List (BitVec 64)):Int:=ixF (iY a h) l 0
def mvC (l:List ChA) (a:Nat) (h:List (BitVec 64)):Int:=(l.getD (aW6 l a h).toNat ch0).mv
def iS (p:PrA) (sts:List (List (BitVec 64))) (t a r:Nat):List (BitVec 64):=rC p.see (stR sts r) a t
def mvG (p:PrA) (l:List ChA) (sts:List (List (BitVec 64))) (t a n:Nat):List Int:=(List.range n).map fun r=>mvC l a (iS p sts t a r)
def qM (p:PrA) (l:List ChA) (sts:List (List (BitVec 64))) (t:Nat):List (List Int):=(List.range p.see.length).map fun a=>mvG p l sts t a sts.length
def jA (p:PrA) (l:List ChA) (sts:List (List (BitVec 64))) (t:Nat):Bool:=(List.range p.see.length).all fun a=>(List.range sts.length).all fun r=>decide (0<=aW6 l a (iS p sts t a r))
theorem aZm {α:Type} {f:α->Bool}:∀ {c:List α} {i:Int},0<=i->(ixF f c i = -1\/(i<=ixF f c i/\ixF f c i<i+c.length))
 | [],i,_=>.inl rfl
 | x :: r,i,hi=>by
  unfold ixF
  by_cases h:f x=true
  ·rw [if_pos h]; exact .inr ⟨Int.le_refl _,by simp; omega⟩
  ·rw [if_neg h]
   rcases aZm (c:=r) (i:=i+1) (by omega) with h1 | h1
   ·exact .inl h1
   ·exact .inr ⟨by omega,by simp; omega⟩
theorem aMe {l:List ChA} {a:Nat} {h:List (BitVec 64)} (h0:0<=aW6 l a h):(aW6 l a h).toNat<l.length/\aW6 l a h<l.length:=by
 rcases aZm (f:=iY a h) (c:=l) (i:=0) (Int.le_refl 0) with h1 | h1
 ·unfold aW6 at h0; omega
 ·unfold aW6 at h0 ⊢; omega
structure IG (E : Nat -> List (List D)) (A n0 : Nat) (x : QP) : Prop where
 ha:x.a<=A
 hn:n0<=x.nx
 kO:x.kO<x.nx\/x.a=0
 kl:x.ks.length=x.a
 ks:∀ k ∈ x.ks,k<x.nx
 nd:x.ks.Nodup
 no:x.a≠0->x.kO ∉ x.ks
 nst:x.a≠0->Nst x.xS x.kO x.ks ((List.range x.a).map E)
theorem IG.step {E:Nat->List (List D)} {A n0:Nat} {x:QP} (h:IG E A n0 x) (hal:x.a<A) {kI kN n2:Nat} {ob:List (Nat × Ob)} (h1:x.nx<=kI/\kI<n2) (h2:x.nx<=kN/\kN<n2) (hne:kI≠kN)
  (hout:St.look ob kN=some ⟨1,rQ (x.ks ++ [kI]) ((List.range x.a).map E ++ [E x.a])⟩) (hnew:St.look ob kI=some ⟨1,E x.a⟩) (hold:∀ k,k<x.nx->(x.a=0\/k≠x.kO)->St.look ob k=St.look x.xS k) :
  IG E A n0 ⟨x.a+1,n2,kN,x.ks ++ [kI],ob⟩:=by
 have hn:=h.hn
 refine⟨by show x.a+1<=_; omega,by show n0<=n2; omega,.inl h2.2,by simp [h.kl],fun k hk=>?_,?_,fun _ hk=>?_,fun _=>?_⟩
 ·show k<n2
  rcases List.mem_append.1 hk with hk | hk
  ·have:=h.ks k hk; omega
  ·rw [List.mem_singleton.1 hk]; exact h1.2
 ·refine List.nodup_append.2 ⟨h.nd,by simp,fun k hk j hj e=>?_⟩;have:=h.ks k hk;rw [List.mem_singleton.1 hj] at e;omega
 ·have hk:kN ∈ x.ks ++ [kI]:=hk
  rcases List.mem_append.1 hk with hk | hk
  ·have:=h.ks _ hk; omega
  ·exact hne (List.mem_singleton.1 hk).symm
 ·show Nst ob kN (x.ks ++ [kI]) ((List.range (x.a+1)).map E);rw [List.range_succ,List.map_append];have h0:(List.range x.a).map E ≠ []->x.a≠0:=fun c e=>c (by rw [e]; rfl);refine Nst.grow (fun c=>h.nst (h0 c)) (by rw [h.kl]; simp) hout hnew fun k hk=>?_;refine hold k (h.ks k hk) ?_
  by_cases c:x.a=0
  ·exact .inl c
  ·exact .inr fun e=>h.no c (e ▸ hk)
end Kb
theorem nB.bVy {n0:Nat} {σ1 σ':St} {d1 d:D} (h:nB n0 σ1 d1 σ' d) (b:Bool):nB n0 σ1 (.tup [d1,.bool b]) σ' (.tup [d,.bool b]):=by
 rcases h with ⟨rfl,rfl⟩ | ⟨ρ,r1,r2,r3,r4,r5⟩
 ·exact .inl ⟨rfl,rfl⟩
 ·refine .inr ⟨ρ,r1,r2,?_,r4,r5⟩;simp only [vw,vwL];exact⟨rfl,r3,trivial,trivial⟩
theorem aRg {p:PrA} {l:List ChA} (hll:l.length<=2000000) {sts:List (List (BitVec 64))} {t:Nat} (hA:1<=p.see.length/\p.see.length<=4) (hR:1<=sts.length/\sts.length<=16) (hl:∀ st ∈ sts,t<st.length) (ht:t<=1000) {d:D} {σ':St}
  (hyes:jA p l sts t=true->d = .tup [.osl 0 1 p.see.length,.bool true]/\σ'=⟨1+p.see.length,aR1 ((qM p l sts t).map (rows .i64))⟩) (hno:jA p l sts t=false->d = .tup [.xH,.bool false]/\σ'=St0) :
  xX Tryz.prog 84 [plD p sts,.sl 3 (chR l),.int .i64 t] St0 d σ':=by
 have hh:∀ a r,a<p.see.length->r<sts.length->yV Tryz.prog 75 [plD p sts,.int .i64 a,.int .i64 r,.int .i64 t] (.sl 1 (us (iS p sts t a r))):=fun a r ha hr=> pL (pH p ha hr (hl _ (xN (d:=[]) hr)) ht)
 have hfalse:∀ a r,a<p.see.length->r<sts.length->aW6 l a (iS p sts t a r)<0->jA p l sts t=false:=fun a r ha hr h=>by unfold jA;rw [List.all_eq_false];refine⟨a,List.mem_range.2 ha,?_⟩;rw [Bool.not_eq_true,List.all_eq_false];exact⟨r,List.mem_range.2 hr,by simpa using h⟩
 unfold plD plC at *;refine xX.xP mixed Tryz.func84 k84 (by simp) fun hf=>?_;simp only [simprocAttr,-ZA,↓zU,↓zD,zV,zT,zW,xO]
 refine xW (fun x:QP=>[(20,.int .i64 x.a),(19,.int .i64 p.see.length),(8,qH x.kO x.a),(2,.int .i64 t),(1,.sl 3 (chR l)),(0,.ptr [.int .i64 p.F,.sl 1 (us p.init),.sl 1 (us p.see),.sl 1 (mvR p.xL),.sl 1 (cdR p.code),.sl 1 (rr sts)])]) (fun x=>⟨x.nx,x.xS⟩)
  (fun x=>IG (fun a=>rows .i64 (mvG p l sts t a sts.length)) p.see.length 0 x/\∀ a r,a<x.a->r<sts.length->0<=aW6 l a (iS p sts t a r)) (fun x=>p.see.length-x.a) ⟨0,0,0,[],[]⟩
  ⟨⟨Nat.zero_le _,Nat.zero_le _,.inr rfl,rfl,by simp,.nil,fun h=>absurd rfl h,fun h=>absurd rfl h⟩,fun a r ha=>absurd ha (Nat.not_lt_zero _)⟩ ?_ ?_
 ·(refine xI.same ?_; simp [xR,Fr.get,qH])
 rintro ⟨a,nx,kO,ks,xS⟩ ⟨hI,hpos⟩;obtain⟨ha,n0,hkO,hkl,hks,hnd,hno',hnst⟩:=id hI;simp only at ha n0 hkO hkl hks hnd hno' hnst hpos;refine xQ mixed ?_;by_cases hal:a<p.see.length
 case neg=>
  have hd:¬ ((a:Int)<(p.see.length:Int)):=by omega
  obtain rfl:a=p.see.length:=by omega
  have ha0:p.see.length≠0:=by omega
  have hB:jA p l sts t=true:=by unfold jA;rw [List.all_eq_true];intro a ha;rw [List.all_eq_true];intro r hr;exact decide_eq_true (hpos a r (List.mem_range.1 ha) (List.mem_range.1 hr))
  obtain⟨rfl,rfl⟩:=hyes hB;unfold qH;rw [if_neg ha0];simp only [simprocAttr,-ZA,↓zU,↓zD,zV,zT,zW,hd];have hn:=hnst ha0;rw [show (List.range p.see.length).map (fun a=>rows .i64 (mvG p l sts t a sts.length))= (qM p l sts t).map (rows .i64) by simp only [qM,List.map_map]; rfl] at hn;have hl2:((qM p l sts t).map (rows .i64)).length=p.see.length:=by simp [qM]
  have hr:=nB.nst (nx:=nx) hn hl2.symm hnd (hno' ha0) fun e he r hr=>(tJ e he r hr).2;rw [hl2] at hr;exact nB.bVy hr true
 have hd:((a:Int)<(p.see.length:Int)):=by omega
 have hown:(mvG p l sts t a sts.length).length=sts.length:=by simp [mvG]
 have howg:∀ r,r<sts.length->(mvG p l sts t a sts.length).getD r 0=mvC l a (iS p sts t a r):=fun r hr=>by simp [mvG,List.getD,hr]
 have hstep:=fun kI kN n2 ob=>@IG.step (fun a=>rows .i64 (mvG p l sts t a sts.length)) p.see.length 0 ⟨a,nx,kO,ks,xS⟩ hI hal kI kN n2 ob;simp only at hstep;have hha:=fun r hr=>hh a r hal hr;have hfa:=fun r hr=>hfalse a r hal hr;generalize mvG p l sts t a sts.length=own at *;simp only [simprocAttr,-ZA,↓zU,↓zD,zV,zT,zW,hd,zM]
 (repeat refine sd ?_)
 refine xW (fun x:OP=>[(28,.int .i64 x.j),(27,.int .i64 sts.length),(20,.int .i64 a),(19,.int .i64 p.see.length),(10,qH x.kW x.j),(9,.ref nx 1 0 0),(8,qH kO a),(2,.int .i64 t),(1,.sl 3 (chR l)),(0,.ptr [.int .i64 p.F,.sl 1 (us p.init),.sl 1 (us p.see),.sl 1 (mvR p.xL),.sl 1 (cdR p.code),.sl 1 (rr sts)])]) (fun x=>⟨x.m,x.ob⟩)
  (fun x=>IO ((nx,⟨1,[[.int .i64 a]]⟩) :: xS) (nx+1) own x/\∀ r,r<x.j->0<=aW6 l a (iS p sts t a r)) (fun x=>sts.length-x.j) ⟨0,nx+1,0,(nx,⟨1,[[.int .i64 a]]⟩) :: xS⟩
  ⟨⟨Nat.zero_le _,Nat.le_refl _,fun h=>absurd rfl h,fun _ _=>rfl⟩,fun r hr=>absurd hr (Nat.not_lt_zero _)⟩ ?_ ?_
 ·(refine xI.same ?_; simp only [xR,Fr.get,simprocAttr,-ZA,zS,show qH 0 0=D.xH from rfl])
  all_goals rfl
 rintro ⟨r,m,kW,ob⟩ ⟨⟨hr,hm,hkW,hold⟩,hpr⟩;simp only at hr hm hkW hold hpr;have gx:St.look ob nx=some ⟨1,[[.int .i64 a]]⟩:=by rw [hold nx (by omega),xY,if_pos rfl]
 have hold2:∀ k,k<nx->St.look ob k=St.look xS k:=fun k hk=>by rw [hold k (by omega),xY,if_neg (by omega)]
 refine xQ mixed ?_;by_cases hrl:r<sts.length
 case neg=>
  have hd2:¬ ((r:Int)<(sts.length:Int)):=by omega
  obtain rfl:r=sts.length:=by omega
  have hj0:sts.length≠0:=by omega
  obtain⟨w1,w2,w3⟩:=hkW hj0;rw [List.take_of_length_le (by omega)] at w3;rw [show qH kW sts.length = .osl kW 1 sts.length by unfold qH; rw [if_neg hj0]]
  have hpos2:∀ a' r,a'<a+1->r<sts.length->0<=aW6 l a' (iS p sts t a' r):=fun a' r ha' hr'=>by
   by_cases e:a'=a
   ·subst e; exact hpr r hr'
   ·exact hpos a' r (by omega) hr'
  by_cases ha0:a=0
  ·subst ha0;obtain rfl:ks = []:=List.eq_nil_of_length_eq_zero hkl;rw [show qH kO 0=D.xH from rfl];simp only [simprocAttr,-ZA,↓zU,↓zD,zV,zT,zW,hd2]
   (repeat refine sd ?_)
   refine⟨⟨0+1,m+1+1,m+1,[] ++ [kW],(m+1,⟨1,[[.osl kW 1 sts.length]]⟩) :: (m,⟨1,[[.osl kW 1 sts.length]]⟩) :: ob⟩,⟨hstep kW (m+1) (m+1+1) _ ⟨by omega,by omega⟩ ⟨by omega,by omega⟩ (by omega) ?_ ?_ ?_,hpos2⟩,?_,by show p.see.length-(0+1)<_; omega⟩
   ·rw [xY,if_pos rfl];simp [rQ,xE,hown]
   ·rw [xY,if_neg (by omega),xY,if_neg (by omega)];exact w3
   ·intro k hk _;rw [xY,if_neg (by omega),xY,if_neg (by omega)];exact hold2 k hk
   ·rw [show qH (m+1) (0+1)= .osl (m+1) 1 1 from rfl]
    (refine xI.same ?_; simp only [xR,Fr.get,simprocAttr,-ZA,zS])
    all_goals rfl
  ·have hkO2:kO<nx:=hkO.resolve_right ha0;have hn:=hnst ha0;have ho:=hn.out;have ho2:=(hold2 kO hkO2).trans ho;have q2:¬ (m=kO):=by omega
   have hnl:=uU hn.len;rw [List.length_map,List.length_range] at hnl;have htk:(rQ ks ((List.range a).map fun a=>rows .i64 (mvG p l sts t a sts.length))).take a=rQ ks ((List.range a).map fun a=>rows .i64 (mvG p l sts t a sts.length)):=List.take_of_length_le (by omega);have hsn:=fS hn.len kW (rows .i64 own);rw [xE,hown] at hsn;rw [show qH kO a = .osl kO 1 a by unfold qH; rw [if_neg ha0]];simp only [simprocAttr,-ZA,↓zU,↓zD,zV,zT,zW,hd2,q2,ho2,hnl,htk]
   (repeat refine sd ?_)
   refine⟨⟨a+1,m+1+1,m+1,ks ++ [kW],(m+1,⟨1,rQ ks ((List.range a).map fun a=>rows .i64 (mvG p l sts t a sts.length))++ [[.osl kW 1 sts.length]]⟩) :: (m,⟨1,[[.osl kW 1 sts.length]]⟩) :: yG ob kO⟩,⟨hstep kW (m+1) (m+1+1) _ ⟨by omega,by omega⟩ ⟨by omega,by omega⟩ (by omega) ?_ ?_ ?_,hpos2⟩,?_,by show p.see.length-(a+1)<_; omega⟩
   ·rw [xY,if_pos rfl,hsn]
   ·rw [xY,if_neg (by omega),xY,if_neg (by omega),xF,if_neg (by omega)];exact w3
   ·intro k hk hk2;rw [xY,if_neg (by omega),xY,if_neg (by omega),xF,if_neg (fun e=>(hk2.resolve_left ha0) e.symm)];exact hold2 k hk
   ·rw [show qH (m+1) (a+1)= .osl (m+1) 1 (a+1) by unfold qH; rw [if_neg (by omega)]]
    (refine xI.same ?_; simp only [xR,Fr.get,simprocAttr,-ZA,zS])
    exact wI (by omega)
 have hd2:((r:Int)<(sts.length:Int)):=by omega
 have h75:=hha r hrl;have hfr:=hfa r hrl;have hwg:=howg r hrl;have htk:=yB (d:=0) (show r<own.length by omega);rw [hwg] at htk
 have hpr2:0<=aW6 l a (iS p sts t a r)->∀ r',r'<r+1->0<=aW6 l a (iS p sts t a r'):=fun h r' hr'=>by
  by_cases e:r'=r
  ·subst e; exact h
  ·exact hpr r' (by omega)
 have hmvE:mvC l a (iS p sts t a r)= (l.getD (aW6 l a (iS p sts t a r)).toNat ch0).mv:=rfl;have hix:=fun h0=>@aMe l a (iS p sts t a r) h0;have q1:¬ (m=nx):=by omega
 have hidx:=aS0 (σ:=⟨m+1,(m,⟨1,[[.sl 1 (us (iS p sts t a r))]]⟩) :: ob⟩) (g:=137) (caps:=[.ref nx 1 0 0,.ref m 1 0 0]) (c:=l) (f:=iY a (iS p sts t a r)) hll
  fun d _=>aK9 (by rw [xY,if_neg q1]; exact gx) (by rw [xY,if_pos rfl]) d
 rw [show ixF (iY a (iS p sts t a r)) l 0=aW6 l a (iS p sts t a r) from rfl] at hidx;generalize aW6 l a (iS p sts t a r)= ix at *;generalize iS p sts t a r=h at *
 by_cases hix0:ix<0
 ·obtain⟨rfl,rfl⟩:=hno (hfr hix0);simp only [simprocAttr,-ZA,↓zU,↓zD,zV,zT,zW,hd2,gx]
  (repeat refine sd ?_)
  refine .go (cr h75) ?_;simp only [simprocAttr,-ZA,↓zU,↓zD,zV,zT,zW,q1]
  (repeat refine sd ?_)
  refine .go hidx ?_;simp only [simprocAttr,-ZA,↓zU,↓zD,zV,zT,zW,hix0];exact .drop (by simp) (by simp [vw,vwL])
 obtain⟨x1,x2⟩:=hix (by omega);have hgc:=aQ l x1;have hmv2:=hmvE;unfold ChA.row at hgc;rw [<- hmv2] at hgc;have hixp:0<=ix:=by omega
 generalize mvC l a h=z at *;generalize l.getD ix.toNat ch0=c at *
 by_cases hj0:r=0
 ·subst hj0;have hd20:(0:Int)<(sts.length:Int):=by omega
  rw [show qH kW 0=D.xH from rfl];simp only [simprocAttr,-ZA,↓zU,↓zD,zV,zT,zW,hd20,gx]
  (repeat refine sd ?_)
  refine .go (cr h75) ?_;simp only [simprocAttr,-ZA,↓zU,↓zD,zV,zT,zW,q1]
  (repeat refine sd ?_)
  refine .go hidx ?_;simp only [simprocAttr,-ZA,↓zU,↓zD,zV,zT,zW,hix0,vX,x2,hgc]
  (repeat refine sd ?_)
  refine⟨⟨0+1,m+1+1,m+1,(m+1,⟨1,[[.int .i64 z]]⟩) :: (m,⟨1,[[.sl 1 (us h)]]⟩) :: ob⟩,⟨⟨by show 0+1<=_; omega,by show nx+1<=m+1+1; omega,fun _=>⟨by show nx+1<=m+1; omega,by show m+1<m+1+1; omega,?_⟩,fun k hk=>?_⟩,hpr2 hixp⟩,?_,by show sts.length-(0+1)<_; omega⟩
  ·show St.look ((m+1,_) :: _) (m+1)= _;rw [xY,if_pos rfl];show _=some (Ob.mk 1 (rows .i64 (own.take (0+1))));rw [htk]; rfl
  ·show St.look ((m+1,_) :: (m,_) :: ob) k=_;rw [xY,if_neg (by omega),xY,if_neg (by omega)];exact hold k hk
  ·rw [show qH (m+1) (0+1)= .osl (m+1) 1 1 from rfl]
   (refine xI.same ?_; simp only [xR,Fr.get,simprocAttr,-ZA,zS])
   all_goals rfl
 ·obtain⟨w1,w2,w3⟩:=hkW hj0;have q2:¬ (m=kW):=by omega
  have q3:¬ (m+1=kW):=by omega
  have hol:(own.take r).length=r:=by rw [List.length_take]; omega
  have htt:(own.take r).take r=own.take r:=by rw [List.take_take,Nat.min_self]
  rw [show qH kW r = .osl kW 1 r by unfold qH; rw [if_neg hj0]];simp only [simprocAttr,-ZA,↓zU,↓zD,zV,zT,zW,hd2,gx]
  (repeat refine sd ?_)
  refine .go (cr h75) ?_;simp only [simprocAttr,-ZA,↓zU,↓zD,zV,zT,zW,q1]
  (repeat refine sd ?_)
  refine .go hidx ?_;simp only [simprocAttr,-ZA,↓zU,↓zD,zV,zT,zW,hix0,vX,x2,hgc,q1,q2,q3,w3,xE,hol,htt]
  (repeat refine sd ?_)
  refine⟨⟨r+1,m+1+1,m+1,(m+1,⟨1,rows .i64 (own.take r ++ [z])⟩) :: (m,⟨1,[[.sl 1 (us h)]]⟩) :: yG ob kW⟩,⟨⟨by show r+1<=_; omega,by show nx+1<=m+1+1; omega,fun _=>⟨by show nx+1<=m+1; omega,by show m+1<m+1+1; omega,?_⟩,fun k hk=>?_⟩,hpr2 hixp⟩,?_,by show sts.length-(r+1)<_; omega⟩
  ·show St.look ((m+1,_) :: _) (m+1)= _;rw [xY,if_pos rfl];show _=some (Ob.mk 1 (rows .i64 (own.take (r+1))));rw [htk]
  ·show St.look ((m+1,_) :: (m,_) :: yG ob kW) k=_;rw [xY,if_neg (by omega),xY,if_neg (by omega),xF,if_neg (by omega)];exact hold k hk
  ·rw [show qH (m+1) (r+1)= .osl (m+1) 1 (r+1) by unfold qH; rw [if_neg (by omega)]]
   (refine xI.same ?_; simp only [xR,Fr.get,simprocAttr,-ZA,zS])
   exact wI (by omega)
open Rs Fm Ru Te Kb
namespace Kb
def lA (p:PrA) (l:List ChA):Nat->Option (List (List (BitVec 64)))
 | 0=>some (bF p)
 | n+1=>match lA p l n with
  | none=>none
  | some sts=>if jA p l sts n=true then some (kZ p sts (qM p l sts n)) else none
def uD (p:PrA) (l:List ChA) (n:Nat):List (List (BitVec 64)):=(lA p l n).getD []
theorem lO {p:PrA} {l:List ChA} {n:Nat} (h:(lA p l (n+1)).isSome=true):(lA p l n).isSome=true/\jA p l (uD p l n) n=true/\uD p l (n+1)= kZ p (uD p l n) (qM p l (uD p l n) n):=by
 unfold lA at h;unfold uD
 cases e:lA p l n with
 | none=>rw [e] at h; cases h
 | some sts=>
  rw [e] at h;simp only at h
  by_cases c:jA p l sts n=true
  ·refine⟨rfl,c,?_⟩;show (lA p l (n+1)).getD []=_;unfold lA;rw [e];simp only [c,↓reduceIte];rfl
  ·rw [if_neg c] at h; cases h
theorem aBn {p:PrA} {l:List ChA} {n:Nat} (h:(lA p l n).isSome=true):(lA p l (n+1)).isSome=jA p l (uD p l n) n/\(jA p l (uD p l n) n=true->uD p l (n+1)= kZ p (uD p l n) (qM p l (uD p l n) n)):=by
 cases e:lA p l n with
 | none=>rw [e] at h; cases h
 | some sts=>
  have e2:uD p l n=sts:=by unfold uD; rw [e]; rfl
  rw [e2]
  have e3:lA p l (n+1)= if jA p l sts n=true then some (kZ p sts (qM p l sts n)) else none:=by show (match lA p l n with | none=>none | some sts=>_)= _;rw [e]
  unfold uD;rw [e3]
  cases c:jA p l sts n with
  | true=>exact⟨rfl,fun _=>rfl⟩
  | false=>exact⟨rfl,fun h=>by cases h⟩
theorem fF {p:PrA} {l:List ChA} {n:Nat}:∀ {m:Nat},n<=m->(lA p l n).isSome=false->(lA p l m).isSome=false
 | 0,h,hn=>by
  have:n=0:=by omega
  rw [this] at hn;exact hn
 | m+1,h,hn=>by
  by_cases e:n=m+1
  ·rw [<- e]; exact hn
  ·have ih:=fF (m:=m) (by omega) hn
   cases c:(lA p l (m+1)).isSome with
   | false=>rfl
   | true=>rw [(lO c).1] at ih; cases ih
theorem aFe {p:PrA} {l:List ChA} (h:wU p l=0):∀ i,i<l.length->chE p l i=0:=fun i hi=>sS.1 h i (List.mem_range.2 hi)
theorem bZc {p:PrA} {l:List ChA} (h:wU p l=0) {c:ChA} (hc:c ∈ l):c.mv<p.xL.length /\ -1<=c.mv:=by
 obtain⟨i,hi,rfl⟩:=List.getElem_of_mem hc;have h1:=aFe h i hi;unfold chE at h1;have e:l.getD i ch0=l[i]:=by simp [List.getD,hi]
 rw [e] at h1
 split at h1
 ·cases h1
 ·rename_i hb;have hb:aOp p l[i]=false:=by simpa using hb
  unfold aOp at hb;simp only [Bool.or_eq_false_iff,decide_eq_false_iff_not] at hb;omega
theorem aXq (p:PrA) (l:List ChA) (sts:List (List (BitVec 64))) (t:Nat):(qM p l sts t).length=p.see.length:=by simp [qM]
theorem aRf {p:PrA} {l:List ChA} {sts:List (List (BitVec 64))} {t:Nat}:∀ m ∈ qM p l sts t,m.length=sts.length:=fun m hm=>by simp only [qM,List.mem_map] at hm;obtain⟨a,_,rfl⟩:=hm;simp [mvG]
theorem aMk {p:PrA} {l:List ChA} (h:wU p l=0) {sts:List (List (BitVec 64))} {t:Nat} (hB:jA p l sts t=true):∀ m ∈ qM p l sts t,∀ k ∈ m,k<p.xL.length:=fun m hm k hk=>by simp only [qM,List.mem_map,List.mem_range] at hm;obtain⟨a,ha,rfl⟩:=hm;simp only [mvG,List.mem_map,List.mem_range] at hk;obtain⟨r,hr,rfl⟩:=hk;unfold jA at hB;rw [List.all_eq_true] at hB;have h1:=hB a (List.mem_range.2 ha);rw [List.all_eq_true] at h1;have h2:=of_decide_eq_true (h1 r (List.mem_range.2 hr));exact(bZc h (xN (aMe h2).1)).1
theorem aYm {p:PrA} {F:Nat} (hv:PrV p F) {l:List ChA} (hc:wU p l=0):∀ n,(lA p l n).isSome=true->PlS p F (uD p l n) n
 | 0,_=>PlS.beg hv
 | n+1,h=>by obtain⟨h1,h2,h3⟩:=lO h;rw [h3];exact PlS.step hv (aYm hv hc n h1) aRf (aMk hc h2)
def dY (p:PrA) (l:List ChA) (n:Int):Int:=if jB p n≠0 then jB p n else if wU p l≠0 then wU p l else if (lA p l (n.toNat-1)).isSome=true then 0 else 6
theorem aZt {p:PrA} {l:List ChA} {n:Int} (h:dY p l n=0):∃ F k:Nat,PrV p F/\n=((k+1:Nat):Int)/\ k<=5/\wU p l=0/\(lA p l k).isSome=true:=by
 unfold dY at h
 split at h
 ·rename_i h1; exact absurd h h1
 ·rename_i h1
  split at h
  ·rename_i h2; exact absurd h h2
  ·rename_i h2
   split at h
   ·rename_i h3;obtain⟨F,k,hv,rfl,hk⟩:=Kb.oW (show jB p n=0 by simpa using h1);rw [Int.toNat_natCast,Nat.add_sub_cancel] at h3;exact⟨F,k,hv,rfl,hk,by simpa using h2,h3⟩
   ·cases h
def aVb (p:PrA) (l:List ChA) (n:Int):D:=if dY p l n=0 then plD p (uD p l (n.toNat-1)) else .oE
end Kb
theorem eE {p:PrA} {l:List ChA} (hll:l.length<=2000000) {sts:List (List (BitVec 64))} {t:Nat} (hA:1<=p.see.length/\p.see.length<=4) (hR:1<=sts.length/\sts.length<=16) (hl:∀ st ∈ sts,t<st.length) (ht:t<=1000) {nx:Nat} {ob:List (Nat × Ob)} {x:D}
  (hx:Seen ⟨nx,ob⟩ (fun _=>False) x (plD p sts)) (hB:jA p l sts t=true):xX Tryz.prog 84 [x,.sl 3 (chR l),.int .i64 t] ⟨nx,ob⟩ (.tup [.sl 1 (rl (qM p l sts t)),.bool true]) ⟨nx+(1+p.see.length),ob⟩:=by
 have hc:=aRg hll hA hR hl ht (d:=.tup [.osl 0 1 p.see.length,.bool true]) (σ':=⟨1+p.see.length,aR1 ((qM p l sts t).map (rows .i64))⟩) (fun _=>⟨rfl,rfl⟩) (fun h=>by rw [hB] at h; cases h);refine xX.aSx hc ⟨hx,.pure rfl,.pure rfl,trivial⟩ (by simp [D.fl]) (aN2 aSm) ?_;have hN:=Nst.shift (c:=nx) (r:=ob) (aXa ((qM p l sts t).map (rows .i64))) fun e he r hr=>(tJ e he r hr).2
 have:=Nst.seen (nx:=nx+(1+p.see.length)) (K:=fun k=>k<nx) (n:=p.see.length) hN (by rw [List.length_map,aXq]) (by omega) (fun k hk=>by simp only [List.mem_map] at hk;obtain⟨j,_,rfl⟩:=hk;omega) tJ
 rw [aNe] at this;simp only [D.shift,D.wZ];exact Seen.tup ⟨this,.pure rfl,trivial⟩
theorem aU4 {p:PrA} {l:List ChA} (hll:l.length<=2000000) {sts:List (List (BitVec 64))} {t:Nat} (hA:1<=p.see.length/\p.see.length<=4) (hR:1<=sts.length/\sts.length<=16) (hl:∀ st ∈ sts,t<st.length) (ht:t<=1000) {nx:Nat} {ob:List (Nat × Ob)} {x:D}
  (hx:Seen ⟨nx,ob⟩ (fun _=>False) x (plD p sts)) (hB:jA p l sts t=false):xX Tryz.prog 84 [x,.sl 3 (chR l),.int .i64 t] ⟨nx,ob⟩ (.tup [.xH,.bool false]) ⟨nx,ob⟩:=by
 have hc:=aRg hll hA hR hl ht (d:=.tup [.xH,.bool false]) (σ':=St0) (fun h=>by rw [hB] at h; cases h) (fun _=>⟨rfl,rfl⟩);exact xX.bXq hc ⟨hx,.pure rfl,.pure rfl,trivial⟩ (by simp [D.flat,D.aO2])
theorem bV (p:PrA) (sm:qO p) (l:List ChA) (sc:aYr l) (n:Int):yV Tryz.prog 82 [p.d,.sl 3 (chR l),.int .i64 n] (.tup [aVb p l n,.int .i64 (dY p l n)]):=by
 have hQ:=fX p sm n;have hC:=aP2 p l sc;have hll:=sc.len;by_cases c:jB p n=0
 case neg=>
  have c':(jB p n != 0)= true:=by simpa using c
  have e1:dY p l n=jB p n:=by unfold dY; rw [if_pos c]
  have e2:aVb p l n = .oE:=by unfold aVb; rw [e1,if_neg c]
  rw [e1,e2];unfold PrA.d PrA.cells at *;refine xX.xP mixed Tryz.func82 k82 (by simp) fun hf=>?_;simp only [simprocAttr,-ZA,↓zU,↓zD,zV,zT,zW]
  (repeat refine sd ?_)
  refine .go (cr hQ) ?_;simp only [simprocAttr,-ZA,↓zU,↓zD,zV,zT,zW,c'];exact .drop (by simp) (by simp [vw,vwL])
 have c':(jB p n != 0)= false:=by simpa using c
 by_cases c2:wU p l=0
 case neg=>
  have c2':(wU p l != 0)= true:=by simpa using c2
  have e1:dY p l n=wU p l:=by unfold dY; rw [if_neg (by simpa using c),if_pos c2]
  have e2:aVb p l n = .oE:=by unfold aVb; rw [e1,if_neg c2]
  rw [e1,e2];unfold PrA.d PrA.cells at *;refine xX.xP mixed Tryz.func82 k82 (by simp) fun hf=>?_;simp only [simprocAttr,-ZA,↓zU,↓zD,zV,zT,zW]
  (repeat refine sd ?_)
  refine .go (cr hQ) ?_;simp only [simprocAttr,-ZA,↓zU,↓zD,zV,zT,zW,c'];refine .go (cr hC) ?_;simp only [simprocAttr,-ZA,↓zU,↓zD,zV,zT,zW,c2'];exact .drop (by simp) (by simp [vw,vwL])
 have c2':(wU p l != 0)= false:=by simpa using c2
 obtain⟨F,k,hv,rfl,hk⟩:=Kb.oW c
 have hgE:dY p l ((k+1:Nat):Int)= if (lA p l k).isSome=true then 0 else 6:=by unfold dY;rw [if_neg (by simpa using c),if_neg (by simpa using c2),Int.toNat_natCast,Nat.add_sub_cancel]
 have hgD:aVb p l ((k+1:Nat):Int)= if (lA p l k).isSome=true then plD p (uD p l k) else .oE:=by unfold aVb;rw [hgE,Int.toNat_natCast,Nat.add_sub_cancel];split <;> rfl
 have hB:=aRn hv;have hI:=hv.hI;have hA:=hv.hA;have hw:IntKind.i64.wrap (((k+1:Nat):Int)-1)= (k:Int):=by rw [wrap_i64 (by omega)]; omega
 have hB1:=xX.own (σ:=⟨1,[(0,⟨5,[p.cells]⟩)]⟩) hB (by simp [D.xU,D.xG,PrA.d,PrA.cells]);have hPS:=(kH p (Nat.le_refl 2) (bF p)).shift (c:=1) (r:=[(0,⟨5,[p.cells]⟩)]);have hbl:(bF p).length=p.init.length:=by simp [bF]
 have hD:p.d = .agg [.int .i64 p.F,.sl 1 (us p.init),.sl 1 (us p.see),.sl 1 (mvR p.xL),.sl 1 (cdR p.code)]:=rfl;rw [hgE,hgD];unfold PrA.cells at hB1 hPS;rw [hD] at *;refine xX.xP mixed Tryz.func82 k82 (by simp) fun hf=>?_;simp only [simprocAttr,-ZA,↓zU,↓zD,zV,zT,zW]
 (repeat refine sd ?_)
 refine .go (cr hQ) ?_;simp only [simprocAttr,-ZA,↓zU,↓zD,zV,zT,zW,c'];refine .go (cr hC) ?_;simp only [simprocAttr,-ZA,↓zU,↓zD,zV,zT,zW,c2'];refine .go hB1 ?_;simp only [simprocAttr,-ZA,↓zU,↓zD,zV,zT,zW,hw]
 refine sW (fun t:Nat=>[(30,.int .i64 t),(29,.int .i64 k),(10,.ref 0 6 0 0),(1,.sl 3 (chR l))]) (fun t=>⟨2+(uD p l t).length,plL p 2 (uD p l t)⟩) (fun t=>t<=k/\(lA p l t).isSome=true) (fun t=>k-t) 0 ⟨Nat.zero_le _,rfl⟩ ?_ ?_
 ·refine xI.aE3 hPS (Nat.le_refl _) (Nat.zero_le _) (fun k hk=>absurd hk (Nat.not_lt_zero _)) ?_;simp only [vwF,vw,Fr.get,↓reduceIte,reduceIte,Nat.reduceEqDiff,D.shift,and_true,true_and];exact⟨rfl,by omega,rfl⟩
 intro t ⟨ht,hsome⟩;refine xQ mixed ?_;have hS:=aYm hv c2 t hsome;have hl:=hS.len;obtain⟨u1,u2⟩:=aBn hsome;by_cases htn:t<k
 case neg=>
  have hd:¬ ((t:Int)<(k:Int)):=by omega
  obtain rfl:t=k:=by omega
  rw [if_pos hsome,if_pos hsome];simp only [simprocAttr,-ZA,↓zU,↓zD,zV,zT,zW,hd]
  refine .go [(10,plD p (uD p l t))] ⟨2+(uD p l t).length,[]⟩ ?_ ?_
  ·refine xI.deep (fun _=>False) trivial ⟨.inr ?_,trivial⟩;exact iK (Nat.le_refl 2) fun _ h=>h
  simp only [simprocAttr,-ZA,↓zU,↓zD,zV,zT,zW];exact .drop (by simp) (by simp [vw,vwL,plD])
 have hd:((t:Int)<(k:Int)):=by omega
 have hseen:Seen ⟨2+(uD p l t).length,plL p 2 (uD p l t)⟩ (fun _=>False) (.ref 0 6 0 0) (plD p (uD p l t)):=iK (Nat.le_refl 2) fun _ h=>h
 cases hcb:jA p l (uD p l t) t with
 | false=> have hno:=aU4 hll hA (by rw [hl]; exact hI) (fun st hs=>by rw [hS.run st hs]; omega) (by omega) hseen hcb;have hnk:(lA p l k).isSome=false:=fF (show t+1<=k by omega) (by rw [u1,hcb]);rw [hnk,if_neg (by simp),if_neg (by simp)];simp only [simprocAttr,-ZA,↓zU,↓zD,zV,zT,zW,hd];refine .go hno ?_;simp only [simprocAttr,-ZA,↓zU,↓zD,zV,zT,zW];refine .wY ?_;simp only [simprocAttr,-ZA,↓zU,↓zD,zV,zT,zW];exact .drop (by simp) (by simp [vw,vwL])
 | true=>
  have hyes:=eE hll hA (by rw [hl]; exact hI) (fun st hs=>by rw [hS.run st hs]; omega) (by omega) hseen hcb;have hpl:=aXq p l (uD p l t) t;have h121:=bK hv (sts:=uD p l t) (by rw [hl]; exact hI) (fun st hs=>by rw [hS.run st hs]; omega) hS.val (mv:=qM p l (uD p l t) t) (by rw [hpl]; omega) aRf (aMk c2 hcb) (nx:=2+(uD p l t).length+(1+p.see.length)) (by omega);have hnext:=u2 hcb;have hsl:(kZ p (uD p l t) (qM p l (uD p l t) t)).length=(uD p l t).length:=by simp [kZ]
  have hPI:=kH p (b:=2+(uD p l t).length+(1+p.see.length)) (by omega) (kZ p (uD p l t) (qM p l (uD p l t) t));simp only [simprocAttr,-ZA,↓zU,↓zD,zV,zT,zW,hd];refine .go hyes ?_;simp only [simprocAttr,-ZA,↓zU,↓zD,zV,zT,zW];refine .go h121 ?_;simp only [simprocAttr,-ZA,↓zU,↓zD,zV,zT,zW];refine⟨t+1,⟨by omega,by rw [u1,hcb]⟩,?_,by omega⟩;rw [hnext];refine xI.aE3 hPI (Nat.le_refl _) (Nat.zero_le _) (fun k hk=>absurd hk (Nat.not_lt_zero _)) ?_;simp only [vwF,vw,Fr.get,↓reduceIte,reduceIte,Nat.reduceEqDiff,and_true,true_and];exact⟨by rw [wrap_i64 (by omega)]; rfl,by omega,rfl⟩
end Go.Pd
