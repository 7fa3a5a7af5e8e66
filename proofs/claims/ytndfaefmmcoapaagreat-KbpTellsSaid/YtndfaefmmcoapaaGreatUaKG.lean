/- Part KG. -/
import Derived.Test.YtndfaefmmcoapaaGreatUaKD
import Derived.Test.YtndfaefmmcoapaaGreatUaKF
import Derived.Test.YtndfaefmmcoapaaGreatUaS1
set_option linter.unusedSectionVars false
set_option linter.unusedVariables false
set_option linter.unusedSimpArgs false
set_option linter.defProp false
set_option maxRecDepth 20000
set_option maxHeartbeats 1000000
namespace Go.Pd
open Go Go.Proofs
open BitVec renaming isValue -> ZA
open Rs Fm Ru Kb
namespace Kb
def sR (see st:List (BitVec 64)) (a t:Nat):List (BitVec 64):=(st.take (t+1)).map fun s=>s &&& see.getD a 0
theorem aX1 {see st:List (BitVec 64)} {a t:Nat} (h:t<st.length):(sR see st a t).length=t+1:=by simp [sR]; omega
theorem aAa {see st:List (BitVec 64)} {a t:Nat} (h:t<st.length):sR see st a t ≠ []:=fun c=>by have:=aX1 (see:=see) (a:=a) h;rw [c] at this; cases this
def plC (p:PrA) (sts:List (List (BitVec 64))):List D:=[.int .i64 p.F,.sl 1 (us p.init),.sl 1 (us p.see),.sl 1 (mvR p.xN),.sl 1 (cdR p.code),.sl 1 (rr sts)]
def plD (p:PrA) (sts:List (List (BitVec 64))):D:=.ptr (plC p sts)
end Kb
theorem oS {g:FuncId} {args:List D} {l:List (BitVec 64)} (h:xX Tryz.prog g args St0 (.osl 0 1 l.length) ⟨1,[(0,⟨1,us l⟩)]⟩):yU Tryz.prog g args (.sl 1 (us l)):= xX.ret h (.drop (Nat.zero_le _) (aSy (by decide) (tE l) (xR l).symm))
theorem oO (p:PrA) {sts:List (List (BitVec 64))} {a r t:Nat} (ha:a<p.see.length) (hr:r<sts.length) (ht:t<(sts.getD r []).length) (hl:t<=1000) :
  xX Tryz.prog 75 [plD p sts,.int .i64 a,.int .i64 r,.int .i64 t] St0 (.osl 0 1 (sR p.see (sts.getD r []) a t).length) ⟨1,[(0,⟨1,us (sR p.see (sts.getD r []) a t)⟩)]⟩:=by
 have hg:=nG sts hr;have hne:=aAa (see:=p.see) (a:=a) ht;have hL:=aX1 (see:=p.see) (a:=a) ht;have hga:=zH p.see ha;have hha:((a:Int)<(p.see.length:Int)):=by omega
 have hhr:((r:Int)<(sts.length:Int)):=by omega
 unfold sR at hne hL ⊢;generalize sts.getD r []=st at *;generalize p.see.getD a 0=m at *;have hu:(us st).take (t+1)= us (st.take (t+1)):=aNz _ _;have hw:IntKind.i64.wrap ((t:Int)+ 1)= ((t+1:Nat):Int):=by rw [wrap_i64 (by omega)]; rfl
 have hst:(st.take (t+1)).length=t+1:=by rw [List.length_take]; omega
 unfold plD plC;refine xX.xQ mixed Tryz.func75 k75 (by simp) fun hf=>?_;simp only [simprocAttr,-ZA,↓zU,↓zD,zV,zT,zW,zK,hhr,hg,hw]
 (repeat refine sd ?_)
 refine⟨0,((t+1:Nat):Int),rfl,rfl,by omega,by omega,by omega,?_⟩;simp only [Int.toNat_natCast,Int.toNat_zero,List.drop_zero,hu];generalize st.take (t+1)= q at *;simp only [simprocAttr,-ZA,↓zU,↓zD,zV,zT,zW,xR,hst]
 refine xW (fun k:Nat=>[(23,.int .i64 k),(22,.int .i64 ((t+1:Nat):Int)),(21,.sl 1 (us q)),(9,xA 0 1 (us ((q.take k).map fun s=>s &&& m))),(1,.int .i64 a),(0,plD p sts)]) (fun k=>⟨1,yY 0 1 (us ((q.take k).map fun s=>s &&& m))⟩) (fun k=>k<=t+1) (fun k=>t+1-k) 0 (Nat.zero_le _) ?_ ?_
 ·unfold plD plC
  (refine xH.ren [] [] (by simp) (by simp) (by decide) ?_; simp only [yZ,vwL,vw,vwF,sw,St.get,St.look,Fr.get,simprocAttr,-ZA,exists_eq_left',ne_eq,zR,List.take_zero,List.map_nil,cA,zM,zN])
 intro k hk;refine xP mixed ?_;unfold plD plC
 by_cases hh:k<t+1
 ·have hd:((k:Int)<((t+1:Nat):Int)):=by omega
  have hgq:=zH q (show k<q.length by omega);have ht2:(q.take (k+1)).map (fun s=>s &&& m)= (q.take k).map (fun s=>s &&& m)++ [q.getD k 0 &&& m]:=by rw [zP (d:=0) (by omega)]; simp
  have hkl:((q.take k).map fun s=>s &&& m).length=k:=by simp; omega
  generalize (q.take k).map (fun s=>s &&& m)= acc at hkl ht2 ⊢;generalize q.getD k 0=x at hgq ht2;simp only [simprocAttr,-ZA,↓zU,↓zD,zV,zT,zW,hd,xR,hst,hgq,hha,hga]
  (repeat refine sd ?_)
  refine⟨k+1,by omega,?_,by omega⟩;rw [ht2]
  (refine xH.ren [(0,1)] [0] (by simp) (by simp) (by decide) ?_; simp only [yZ,vwL,vw,vwF,sw,St.get,St.look,Fr.get,simprocAttr,-ZA,exists_eq_left',ne_eq,zR])
  exact wrap_i64 (by omega)
 ·have hd:¬ ((k:Int)<((t+1:Nat):Int)):=by omega
  rw [gU (show k=q.length by omega)];generalize q.map (fun s=>s &&& m)= acc at *;rw [aRm (by intro c; apply hne; cases acc with | nil=>rfl | cons x r=>cases c),aRl (by intro c; apply hne; cases acc with | nil=>rfl | cons x r=>cases c),xR];simp only [simprocAttr,-ZA,↓zU,↓zD,zV,zT,zW,hd];exact .same
section
open Ru
end
section
open Ru
theorem iX {nx n key sz:Nat} {xS:List (Nat × Ob)} {els:List (List D)} (hs:0<sz) (hp:∀ e ∈ els,D.xV e=true) (h:St.look xS key=vL sz els) {ρ:Nat->Nat}:vw ⟨nx,xS⟩ ⟨n,[]⟩ ρ (xA key sz els) (.sl sz els):=by
 cases els with
 | nil=>simp [xA,vw]
 | cons e r=> simp only [xA,vw];refine⟨trivial,hs,by simp,⟨sz,e :: r⟩,?_,rfl,by simp,by simp,hp⟩;show St.look xS key=_;rw [h]; rfl
namespace Ru
def ptR (l:List (Nat × Nat)):List (List D):=l.map fun p=>[.int .i64 (p.1:Int),.int .i64 (p.2:Int)]
theorem mX (l:List (Nat × Nat)):(ptR l).length=l.length:=by simp [ptR]
theorem aUb (l:List (Nat × Nat)) {i:Nat} (h:i<l.length):(ptR l).getD i [] = [.int .i64 ((l.getD i (0,0)).1:Int),.int .i64 ((l.getD i (0,0)).2:Int)]:=by simp [ptR,List.getD,h]
theorem aGh (l:List (Nat × Nat)):∀ e ∈ ptR l,D.xV e=true:=by intro e he;simp only [ptR,List.mem_map] at he;obtain⟨r,_,rfl⟩:=he;rfl
theorem aZo (l:List (Nat × Nat)):uD (ptR l)= True:=eq_true (aGh l)
theorem aGg (l:List (Nat × Nat)) (a b:Nat):ptR l ++ [[.int .i64 (a:Int),.int .i64 (b:Int)]]=ptR (l ++ [(a,b)]):=by simp [ptR]
theorem aC4 : ptR [] = []:=rfl
def ptN (T n:Nat):List (Nat × Nat):=(List.range n).map fun i=>(i / T,i % T)
theorem qE (T n:Nat):(ptN T n).length=n:=by simp [ptN]
theorem aC5 (T:Nat) {n i:Nat} (h:i<n):(ptN T n).getD i (0,0)= (i / T,i % T):=by simp [ptN,List.getD,h]
theorem aGi (T r t:Nat) (ht:t<T):ptN T (r*T+(t+1))= ptN T (r*T+t)++ [(r,t)]:=by
 rw [show r*T+(t+1)= (r*T+t)+ 1 by omega];unfold ptN;rw [List.range_succ,List.map_append,List.map_singleton]
 have e1:(r*T+t)/ T=r:=by rw [Nat.mul_comm,Nat.mul_add_div (by omega),Nat.div_eq_of_lt ht]; rfl
 have e2:(r*T+t) % T=t:=by rw [Nat.mul_comm,Nat.mul_add_mod,Nat.mod_eq_of_lt ht]
 rw [e1,e2]
structure Ok (s : pF) (A F T : Nat) : Prop where
 ag:s.ag=A
 fa:s.fa=F
 ln:s.ln=T
 hA:A<=4
 hF:F<=8
 hT:1<=T/\T<=16
 hR:1<=s.rs.length/\s.rs.length<=64
 hP:s.rs.length*T<=512
 loc:∀ r ∈ s.rs,r.loc.length=T
 fac:∀ r ∈ s.rs,r.fac.length=T
 row:∀ r ∈ s.rs,∀ l ∈ r.loc,l.length=A
 val:∀ r ∈ s.rs,∀ f ∈ r.fac,f >>> F=0#64
theorem aF4 {s:pF} (h:chk s=0):∃ A F T,Ok s A F T:=by
 unfold chk at h
 split at h
 ·cases h
 rename_i h1
 split at h
 ·cases h
 rename_i h2
 split at h
 ·cases h
 rename_i h3
 split at h
 ·cases h
 rename_i h4
 split at h
 ·cases h
 rename_i h5;obtain⟨A,hA⟩:=Int.eq_ofNat_of_zero_le (show 0<=s.ag by omega);obtain⟨F,hF⟩:=Int.eq_ofNat_of_zero_le (show 0<=s.fa by omega);obtain⟨T,hT⟩:=Int.eq_ofNat_of_zero_le (show 0<=s.ln by omega);have h4':∀ r ∈ s.rs,aVo s r=false:=fun r hr=>by simpa using List.any_eq_false.1 (by simpa using h4) r hr
 have h5':∀ r ∈ s.rs,aIl s r=false:=fun r hr=>by simpa using List.any_eq_false.1 (by simpa using h5) r hr
 have hb:∀ r ∈ s.rs,r.loc.length=T/\r.fac.length=T/\∀ l ∈ r.loc,l.length=A:=fun r hr=>by have:=h4' r hr;simp only [aVo,Bool.or_eq_false_iff,Bool.not_eq_false',decide_eq_true_eq,List.any_eq_false,hT,hA] at this;refine⟨by omega,by omega,fun l hl=>?_⟩;have:=this.2 l hl;simp at this;omega
 refine⟨A,F,T,hA,hF,hT,by omega,by omega,by omega,by omega,?_,fun r hr=>(hb r hr).1,fun r hr=>(hb r hr).2.1,fun r hr=>(hb r hr).2.2,fun r hr f hf=>?_⟩
 ·have:((s.rs.length*T:Nat):Int)<=512:=by rw [Int.natCast_mul,<- hT]; omega
  omega
 ·have:=h5' r hr;simp only [aIl,List.any_eq_false] at this;have:=this f hf;rw [hF,Int.toNat_natCast] at this;simpa using this
end Ru
end
section
namespace Ru
def wE (rs:List zG) (a:Nat) (p:Nat × Nat):Int:=((rs.getD p.1 qK).loc.getD p.2 []).getD a 0
def aYo (rs:List zG) (p:Nat × Nat):BitVec 64:=(rs.getD p.1 qK).fac.getD p.2 0
def rD (rs:List zG) (l:List (Nat × Nat)) (f:Nat):Nat->BitVec 64
 | 0=>0#64
 | k+1=>rD rs l f k ||| (if (aYo rs (l.getD k (0,0))).getLsbD f then 1#64 <<< k else 0#64)
def gG (rs:List zG) (l:List (Nat × Nat)) (a:Nat) (x:Int):Nat->BitVec 64
 | 0=>0#64
 | k+1=>gG rs l a x k ||| (if wE rs a (l.getD k (0,0))= x then 1#64 <<< k else 0#64)
def mG (rs:List zG) (l:List (Nat × Nat)) (F:Nat):List (BitVec 64):=(List.range F).map fun f=>rD rs l f l.length
def rI (rs:List zG) (l:List (Nat × Nat)) (a:Nat):List (BitVec 64):=l.map fun p=>gG rs l a (wE rs a p) l.length
def rC (rs:List zG) (l:List (Nat × Nat)) (A:Nat):List (List (BitVec 64)):=(List.range A).map (rI rs l)
def aIi (rs:List zG) (l:List (Nat × Nat)) (A F:Nat):D:=.agg [.int .i64 (l.length:Int),.sl 1 (us (mG rs l F)),.sl 1 (rr (rC rs l A))]
structure OkR (rs : List zG) (A F T : Nat) : Prop where
 hA:A<=4
 hF:F<=8
 hT:1<=T/\T<=16
 hR:1<=rs.length/\rs.length<=64
 hP:rs.length*T<=512
 loc:∀ r ∈ rs,r.loc.length=T
 fac:∀ r ∈ rs,r.fac.length=T
 row:∀ r ∈ rs,∀ l ∈ r.loc,l.length=A
 val:∀ r ∈ rs,∀ f ∈ r.fac,f >>> F=0#64
theorem aAo {s:pF} (h:chk s=0):∃ (A F T:Nat) (rs:List zG),s=⟨A,F,T,rs⟩/\ OkR rs A F T:=by obtain⟨A,F,T,ok⟩:=aF4 h;obtain⟨ag,fa,ln,rs⟩:=s;obtain⟨h1,h2,h3,h4,h5,h6,h7,h8,h9,h10,h11,h12⟩:=ok;simp only at h1 h2 h3 h7 h8 h9 h10 h11 h12;subst h1 h2 h3;exact⟨A,F,T,rs,rfl,⟨h4,h5,h6,h7,h8,h9,h10,h11,h12⟩⟩
def Inb (rs:List zG) (T:Nat) (l:List (Nat × Nat)):Prop:=∀ p ∈ l,p.1<rs.length/\p.2<T
theorem bZd {rs:List zG} {T n:Nat} (hT:1<=T) (hn:n<=rs.length*T):Inb rs T (ptN T n):=fun p hp=>by simp only [ptN,List.mem_map,List.mem_range] at hp;obtain⟨i,hi,rfl⟩:=hp;refine⟨(Nat.div_lt_iff_lt_mul (by omega)).2 (by omega),Nat.mod_lt _ (by omega)⟩
def sD (A F T:Nat) (rs:List zG):D:=.agg [.int .i64 (A:Int),.int .i64 (F:Int),.int .i64 (T:Int),.sl 2 (uE rs)]
def mU (u:List (Int × BitVec 64)):List (Int × D):=u.map fun p=>(p.1,.int .u64 (ui p.2))
def ulk (x:Int):List (Int × BitVec 64)->BitVec 64
 | []=>0#64
 | (k,v) :: r=>if x=k then v else ulk x r
def aEp (x:Int) (v:BitVec 64):List (Int × BitVec 64)->List (Int × BitVec 64)
 | []=>[(x,v)]
 | (k,w) :: r=>if x=k then(x,v) :: r else(k,w) :: aEp x v r
theorem aN1 (x y:Int) (v:BitVec 64):∀ u,ulk y (aEp x v u)= if y=x then v else ulk y u
 | []=>by simp [aEp,ulk]
 | (k,w) :: r=>by
  unfold aEp
  by_cases h:x=k
  ·rw [if_pos h];subst h
   by_cases e:y=x
   ·simp [ulk,e]
   ·simp [ulk,e]
  ·rw [if_neg h,ulk,aN1 x y v r]
   by_cases e:y=k
   ·subst e;rw [if_pos rfl,if_neg (fun e=>h e.symm)];simp [ulk]
   ·rw [if_neg e];simp [ulk,e]
theorem tU (x:Int):∀ (l:List (Int × D)) (i:Nat),uC x l i=(uC x l 0).map fun p=>(p.1+i,p.2)
 | [],i=>rfl
 | (k,d) :: r,i=>by
  unfold uC
  by_cases h:x=k
  ·rw [if_pos h,if_pos h]; simp
  ·rw [if_neg h,if_neg h,tU x r (i+1),tU x r (0+1)]
   cases uC x r 0 with
   | none=>rfl
   | some p=>simp; omega
theorem aUi (x:Int):∀ u,iE false (.int .u64 (ui 0#64)) (uC x (mU u) 0)= .int .u64 (ui (ulk x u))
 | []=>rfl
 | (k,v) :: r=>by
  show iE false _ (uC x ((k,.int .u64 (ui v)) :: mU r) 0)= _;unfold uC ulk
  by_cases h:x=k
  ·rw [if_pos h,if_pos h]; rfl
  ·rw [if_neg h,if_neg h,<- aUi x r,tU]
   cases uC x (mU r) 0 with
   | none=>rfl
   | some p=>rfl
theorem aM6 (x:Int) (v:BitVec 64):∀ u,aEt (mU u) x (.int .u64 (ui v))= mU (aEp x v u)
 | []=>rfl
 | (k,w) :: r=>by
  have ih:=aM6 x v r;show aEt ((k,.int .u64 (ui w)) :: mU r) x _=_;unfold aEt at ih ⊢;unfold uC aEp
  by_cases h:x=k
  ·rw [if_pos h,if_pos h]; rfl
  ·rw [if_neg h,if_neg h,tU]
   cases hf:uC x (mU r) 0 with
   | none=>rw [hf] at ih; simp only [Option.map_none] at ih ⊢; rw [List.cons_append,ih]; rfl
   | some p=>rw [hf] at ih; simp only [Option.map_some] at ih ⊢; rw [List.set_cons_succ,ih]; rfl
def uK (rs:List zG) (l:List (Nat × Nat)) (a:Nat):Nat->List (Int × BitVec 64)
 | 0=>[]
 | k+1=>aEp (wE rs a (l.getD k (0,0))) (ulk (wE rs a (l.getD k (0,0))) (uK rs l a k) ||| 1#64 <<< k) (uK rs l a k)
theorem aNi (rs:List zG) (l:List (Nat × Nat)) (a:Nat) (x:Int):∀ k,ulk x (uK rs l a k)= gG rs l a x k
 | 0=>rfl
 | k+1=>by
  unfold uK gG;rw [aN1,aNi rs l a x k]
  by_cases e:x=wE rs a (l.getD k (0,0))
  ·rw [if_pos e,if_pos e.symm,<- e,aNi rs l a x k]
  ·rw [if_neg e,if_neg (fun h=>e h.symm),BitVec.or_zero]
end Ru
open Ru
theorem aBx {rs:List zG} {A F T:Nat} (ok:OkR rs A F T) {a:Nat} (ha:a<A) {p:Nat × Nat} (hp:p.1<rs.length/\p.2<T):yU Tryz.prog 94 [sD A F T rs,.int .i64 a,.agg [.int .i64 (p.1:Int),.int .i64 (p.2:Int)]] (.int .i64 (wE rs a p)):=by
 have hm:=xK (d:=qK) hp.1;have hg:=rQ rs hp.1;have h1:=ok.loc _ hm;have h2:=ok.row _ hm _ (xK (d:=[]) (show p.2<(rs.getD p.1 qK).loc.length by omega));unfold wE sD;generalize rs.getD p.1 qK=r at hg h1 h2;have hg2:=iN r.loc (show p.2<r.loc.length by omega);generalize r.loc.getD p.2 []=x at hg2 h2;have hg3:=yB .i64 x (show a<x.length by omega);refine xX.xQ mixed Tryz.func94 k94 (by simp) fun hf=>?_;simp only [simprocAttr,-ZA,↓zU,↓zD,zV,zT,zW,yD,hg,zG.row,vR,hg2,yX,hg3]
 (repeat refine sd ?_)
 exact .dv
end
open Ru
namespace Ru
def cO (F:Nat) (g h:Nat->BitVec 64) (i:Nat):List (BitVec 64):=(List.range F).map fun f=>if f<i then g f else h f
theorem lL (F:Nat) (g h:Nat->BitVec 64) (i:Nat):(cO F g h i).length=F:=by simp [cO]
theorem eQ (F:Nat) (g h:Nat->BitVec 64):cO F g h 0=(List.range F).map h:=by simp [cO]
theorem aXw (F:Nat) (g h:Nat->BitVec 64) {i:Nat} (hi:F<=i):cO F g h i=(List.range F).map g:=by refine List.map_congr_left fun f hf=>?_;rw [if_pos (by have:=List.mem_range.1 hf; omega)]
theorem aXv {F:Nat} (g h:Nat->BitVec 64) {i:Nat} (hi:i<F):(cO F g h i).getD i 0=h i:=by simp [cO,List.getD,hi]
theorem aXu (F:Nat) (g h:Nat->BitVec 64) (i:Nat):(cO F g h i).set i (g i)= cO F g h (i+1):=by
 refine List.ext_getElem (by simp [cO]) fun k h1 h2=>?_;rw [List.getElem_set];simp only [cO,List.getElem_map,List.getElem_range]
 by_cases e:i=k
 ·subst e; rw [if_pos rfl,if_pos (by omega)]
 ·rw [if_neg e]
  by_cases hk:k<i
  ·rw [if_pos hk,if_pos (by omega)]
  ·rw [if_neg hk,if_neg (by omega)]
theorem aM3 (x:BitVec 64) (f w:Nat):(x >>> f &&& 1#64) <<< w=if x.getLsbD f then 1#64 <<< w else 0#64:=by
 rw [aYa]
 split
 ·rfl
 ·exact BitVec.zero_shiftLeft _
theorem aXp (u:List (Int × BitVec 64)):uD (cR .i64 (mU u))= True:=eq_true (aPd fun p hp=>by simp only [mU,List.mem_map] at hp;obtain⟨q,_,rfl⟩:=hp;rfl)
end Ru
theorem aGj {rs:List zG} {A F T:Nat} (ok:OkR rs A F T) {l:List (Nat × Nat)} (hl:l.length<=64) (hin:Inb rs T l):yU Tryz.prog 89 [sD A F T rs,.sl 2 (ptR l)] (aIi rs l A F):=by
 have hA:=ok.hA;have hF:=ok.hF;have hloc:=fun(a:Nat) (ha:a<A) (p:Nat × Nat) (hp:p.1<rs.length/\p.2<T)=>aBx ok ha hp;unfold sD aIi at *;refine xX.xQ mixed Tryz.func89 k89 (by simp) fun hf=>?_
 have hz:List.replicate F [D.int .u64 (ui 0#64)]=us ((List.range F).map fun f=>rD rs l f 0):=by simp only [rD,us,List.map_map];refine List.ext_getElem (by simp) fun i h1 h2=>?_;simp
 simp only [simprocAttr,-ZA,↓zU,↓zD,zV,zT,zW,mX]
 (repeat refine sd ?_)
 refine xW (fun w:Nat=>[(24,.int .i64 w),(23,.int .i64 l.length),(22,.sl 2 (ptR l)),(5,.ref 3 3 0 0),(4,.ref 1 3 0 0),(2,.ref 0 4 0 0),(1,.sl 2 (ptR l))])
  (fun w=>⟨4,[(3,⟨3,[[.int .i64 l.length,.osl 2 1 F,.xL]]⟩),(2,⟨1,us ((List.range F).map fun f=>rD rs l f w)⟩),(1,⟨3,[[.int .i64 0,.xL,.xL]]⟩),(0,⟨4,[[.int .i64 A,.int .i64 F,.int .i64 T,.sl 2 (uE rs)]]⟩)]⟩)
  (fun w=>w<=l.length) (fun w=>l.length-w) 0 (Nat.zero_le _) ?_ ?_
 ·rw [<- hz]
  (refine xH.same ?_; simp [xO,Fr.get])
 intro w hw;refine xP mixed ?_
 by_cases hwl:w<l.length
 ·have hd:((w:Int)<(l.length:Int)):=by omega
  have hp:=hin _ (xK (d:=(0,0)) hwl);have hpg:=aUb l hwl;have hv:∀ f,rD rs l f (w+1)= rD rs l f w ||| (if (aYo rs (l.getD w (0,0))).getLsbD f then 1#64 <<< w else 0#64):=fun f=>rfl;generalize l.getD w (0,0)= q at hp hpg hv;obtain⟨q1,q2⟩:=q;have hm:=xK (d:=qK) hp.1;have hg:=rQ rs hp.1;have h1:=ok.fac _ hm;unfold aYo at hv;simp only at hp hpg hv hm hg h1;generalize rs.getD q1 qK=r at hg h1 hv;have hg2:=zH r.fac (show q2<r.fac.length by omega);generalize r.fac.getD q2 0=x at hg2 hv;simp only [simprocAttr,-ZA,↓zU,↓zD,zV,zT,zW,hd,mX,hpg]
  (repeat refine sd ?_)
  refine xW (fun i:Nat=>[(32,.int .i64 i),(31,.int .i64 F),(24,.int .i64 w),(23,.int .i64 l.length),(22,.sl 2 (ptR l)),(7,.ref 4 2 0 0),(6,.int .i64 w),(5,.ref 3 3 0 0),(4,.ref 1 3 0 0),(2,.ref 0 4 0 0),(1,.sl 2 (ptR l))])
   (fun i=>⟨5,[(4,⟨2,[[.int .i64 q1,.int .i64 q2]]⟩),(3,⟨3,[[.int .i64 l.length,.osl 2 1 F,.xL]]⟩),(2,⟨1,us (cO F (fun f=>rD rs l f (w+1)) (fun f=>rD rs l f w) i)⟩),(1,⟨3,[[.int .i64 0,.xL,.xL]]⟩),(0,⟨4,[[.int .i64 A,.int .i64 F,.int .i64 T,.sl 2 (uE rs)]]⟩)]⟩)
   (fun i=>i<=F) (fun i=>F-i) 0 (Nat.zero_le _) ?_ ?_
  ·rw [eQ]
   (refine xH.same ?_; simp [xO,Fr.get])
  intro i hi;refine xP mixed ?_
  by_cases hil:i<F
  ·have hd2:((i:Int)<(F:Int)):=by omega
   have hmg:=zH (cO F (fun f=>rD rs l f (w+1)) (fun f=>rD rs l f w) i) (show i<_ by rw [lL]; exact hil);rw [aXv _ _ hil] at hmg;have hms:=aXu F (fun f=>rD rs l f (w+1)) (fun f=>rD rs l f w) i;simp only [hv i] at hms;have hml:=lL F (fun f=>rD rs l f (w+1)) (fun f=>rD rs l f w) i;generalize cO F (fun f=>rD rs l f (w+1)) (fun f=>rD rs l f w) i=M at hmg hms hml;simp only [simprocAttr,-ZA,↓zU,↓zD,zV,zT,zW,hd2,xR,hml,hmg,yD,hg,zG.row,h1,hg2,aM3,nH,hms]
   (repeat refine sd ?_)
   refine⟨i+1,by omega,?_,by omega⟩
   (refine xH.same ?_; simp only [xO,Fr.get,simprocAttr,-ZA,zS])
   exact wrap_i64 (by omega)
  ·have hd2:¬ ((i:Int)<(F:Int)):=by omega
   rw [aXw _ _ _ (by omega:F<=i)];simp only [simprocAttr,-ZA,↓zU,↓zD,zV,zT,zW,hd2]
   (repeat refine sd ?_)
   refine⟨w+1,by omega,?_,by omega⟩
   (refine xH.ren [] [3,2,1,0] (by simp) (by simp) (by decide) ?_; simp only [yZ,vwL,vw,vwF,sw,St.get,St.look,Fr.get,simprocAttr,-ZA,exists_eq_left',ne_eq,zR,yW])
   exact wrap_i64 (by omega)
 have hd:¬ ((w:Int)<(l.length:Int)):=by omega
 obtain rfl:w=l.length:=by omega
 rw [show ((List.range F).map fun f=>rD rs l f l.length)= mG rs l F from rfl];simp only [simprocAttr,-ZA,↓zU,↓zD,zV,zT,zW,hd]
 refine xW (fun a:Nat=>[(62,.int .i64 a),(61,.int .i64 A),(5,.ref 3 3 0 0),(4,.ref 1 3 0 0),(2,.ref 0 4 0 0),(1,.sl 2 (ptR l))])
  (fun a=>⟨5,yY 4 1 (rr (rC rs l a))++ [(3,⟨3,[[.int .i64 l.length,.osl 2 1 F,xA 4 1 (rr (rC rs l a))]]⟩),(2,⟨1,us (mG rs l F)⟩),(1,⟨3,[[.int .i64 0,.xL,.xL]]⟩),(0,⟨4,[[.int .i64 A,.int .i64 F,.int .i64 T,.sl 2 (uE rs)]]⟩)]⟩)
  (fun a=>a<=A) (fun a=>A-a) 0 (Nat.zero_le _) ?_ ?_
 ·(refine xH.ren [] [3,2,1,0] (by simp) (by simp) (by decide) ?_; simp only [yZ,vwL,vw,vwF,sw,St.get,St.look,Fr.get,simprocAttr,-ZA,exists_eq_left',ne_eq,zR,rC,List.range_zero,List.map_nil,zM,zN,List.nil_append,yW,show rr [] = [] from rfl])
 intro a ha;refine xP mixed ?_;by_cases hal:a<A
 case neg=>
  have hd2:¬ ((a:Int)<(A:Int)):=by omega
  rw [show a=A by omega];rw [show a=A by omega] at hd2;have hvl:(us (mG rs l F)).length=F:=by simp [us,mG]
  simp only [simprocAttr,-ZA,↓zU,↓zD,zV,zT,zW,hd2]
  (refine nC.ren [] [] (by simp) (by simp) (by decide) ?_; simp only [yZ,vwL,vw,vwF,sw,St.get,St.look,Fr.get,simprocAttr,-ZA,exists_eq_left',ne_eq,zR,yW,wB])
  exact⟨fun _ h=>h.elim,by omega,(List.take_of_length_le (by omega)).symm,tE _⟩
 have hd2:((a:Int)<(A:Int)):=by omega
 have hrel:rC rs l (a+1)= rC rs l a ++ [rI rs l a]:=by unfold rC; rw [List.range_succ,List.map_append]; rfl
 generalize hRL:rC rs l a=RL at hrel;simp only [simprocAttr,-ZA,↓zU,↓zD,zV,zT,zW,hd2,mX]
 (repeat refine sd ?_)
 refine xW (fun w:Nat=>[(68,.int .i64 w),(67,.int .i64 l.length),(66,.sl 2 (ptR l)),(62,.int .i64 a),(61,.int .i64 A),(10,.vC 5),(9,.int .i64 a),(5,.ref 3 3 0 0),(4,.ref 1 3 0 0),(2,.ref 0 4 0 0),(1,.sl 2 (ptR l))])
  (fun w=>⟨6,(5,⟨0,cR .i64 (mU (uK rs l a w))⟩) :: (yY 4 1 (rr RL)++ [(3,⟨3,[[.int .i64 l.length,.osl 2 1 F,xA 4 1 (rr RL)]]⟩),(2,⟨1,us (mG rs l F)⟩),(1,⟨3,[[.int .i64 0,.xL,.xL]]⟩),(0,⟨4,[[.int .i64 A,.int .i64 F,.int .i64 T,.sl 2 (uE rs)]]⟩)])⟩)
  (fun w=>w<=l.length) (fun w=>l.length-w) 0 (Nat.zero_le _) ?_ ?_
 ·(refine xH.ren [] [5,4,3,2,1,0] (by simp) (by simp) (by decide) ?_; simp only [yZ,vwL,vw,vwF,sw,St.get,St.look,Fr.get,simprocAttr,-ZA,exists_eq_left',ne_eq,zR,uK,mU,List.map_nil,aG4,yW,wB])
 intro w hw;refine xP mixed ?_
 by_cases hwl:w<l.length
 ·have hd3:((w:Int)<(l.length:Int)):=by omega
  have hp:=hin _ (xK (d:=(0,0)) hwl);have hpg:=aUb l hwl;have hS:uK rs l a (w+1)= aEp (wE rs a (l.getD w (0,0))) (ulk (wE rs a (l.getD w (0,0))) (uK rs l a w) ||| 1#64 <<< w) (uK rs l a w):=rfl;have hlc:=hloc a hal _ hp;generalize l.getD w (0,0)= q at hp hpg hS hlc;obtain⟨q1,q2⟩:=q;simp only at hpg hlc;generalize wE rs a (q1,q2)= x at hS hlc;generalize uK rs l a w=u at hS;simp only [simprocAttr,-ZA,↓zU,↓zD,zV,zT,zW,hd3,mX,hpg]
  (repeat refine sd ?_)
  refine .go (cr hlc) ?_;simp only [simprocAttr,-ZA,↓zU,↓zD,zV,zT,zW,aUi,aM6]
  (repeat refine sd ?_)
  refine⟨w+1,by omega,?_,by omega⟩;rw [hS]
  (refine xH.ren [] [5,4,3,2,1,0] (by simp) (by simp) (by decide) ?_; simp only [yZ,vwL,vw,vwF,sw,St.get,St.look,Fr.get,simprocAttr,-ZA,exists_eq_left',ne_eq,zR,yW,wB,aXp])
  exact wrap_i64 (by omega)
 have hd3:¬ ((w:Int)<(l.length:Int)):=by omega
 obtain rfl:w=l.length:=by omega
 have hu:=fun x=>aNi rs l a x l.length;generalize uK rs l a l.length=u at hu;simp only [simprocAttr,-ZA,↓zU,↓zD,zV,zT,zW,hd3,mX]
 refine uX (fun w:Nat=>[(85,.int .i64 w),(84,.int .i64 l.length),(83,.sl 2 (ptR l)),(62,.int .i64 a),(61,.int .i64 A),(13,xA 6 1 (us ((rI rs l a).take w))),(10,.vC 5),(9,.int .i64 a),(5,.ref 3 3 0 0),(4,.ref 1 3 0 0),(2,.ref 0 4 0 0),(1,.sl 2 (ptR l))])
  (fun w=>⟨7,yY 6 1 (us ((rI rs l a).take w))++ ((5,⟨0,cR .i64 (mU u)⟩) :: (yY 4 1 (rr RL)++ [(3,⟨3,[[.int .i64 l.length,.osl 2 1 F,xA 4 1 (rr RL)]]⟩),(2,⟨1,us (mG rs l F)⟩),(1,⟨3,[[.int .i64 0,.xL,.xL]]⟩),(0,⟨4,[[.int .i64 A,.int .i64 F,.int .i64 T,.sl 2 (uE rs)]]⟩)]))⟩)
  (fun w=>w<=l.length) (fun w=>l.length-w) 0 (Nat.zero_le _) ?_ ?_
 ·(refine xH.ren [] [5,4,3,2,1,0] (by simp) (by simp) (by decide) ?_; simp only [yZ,vwL,vw,vwF,sw,St.get,St.look,Fr.get,simprocAttr,-ZA,exists_eq_left',ne_eq,zR,List.take_zero,cA,zM,zN,List.nil_append,yW,wB,aXp])
 intro w hw;refine xP mixed ?_;have hrl:=(show (rI rs l a).length=l.length by simp [rI])
 by_cases hwl:w<l.length
 ·have hd3:((w:Int)<(l.length:Int)):=by omega
  have hp:=hin _ (xK (d:=(0,0)) hwl);have hpg:=aUb l hwl
  have hrg:(rI rs l a).take (w+1)= (rI rs l a).take w ++ [ulk (wE rs a (l.getD w (0,0))) u]:=by rw [zP (d:=0#64) (by omega),hu];congr 1;simp [rI,List.getD,hwl]
  have hlc:=hloc a hal _ hp;generalize l.getD w (0,0)= q at hp hpg hrg hlc;obtain⟨q1,q2⟩:=q;simp only at hpg hlc;generalize wE rs a (q1,q2)= x at hrg hlc;have htl:((rI rs l a).take w).length=w:=by rw [List.length_take]; omega
  generalize (rI rs l a).take w=rw' at hrg htl;simp only [simprocAttr,-ZA,↓zU,↓zD,zV,zT,zW,hd3,mX,hpg]
  (repeat refine sd ?_)
  refine .go (cr hlc) ?_;simp only [simprocAttr,-ZA,↓zU,↓zD,zV,zT,zW,aUi,xR,htl]
  (repeat refine sd ?_)
  refine⟨w+1,by omega,?_,by omega⟩;rw [hrg]
  (refine xH.ren [(6,8)] [6,5,4,3,2,1,0] (by simp) (by simp) (by decide) ?_; simp only [yZ,vwL,vw,vwF,sw,St.get,St.look,Fr.get,simprocAttr,-ZA,exists_eq_left',ne_eq,zR,yW,wB,aXp])
  exact wrap_i64 (by omega)
 have hd3:¬ ((w:Int)<(l.length:Int)):=by omega
 rw [show (rI rs l a).take w=rI rs l a by rw [show w=(rI rs l a).length by omega,List.take_length]];simp only [simprocAttr,-ZA,↓zU,↓zD,zV,zT,zW,hd3]
 refine .go [(62,.int .i64 a),(61,.int .i64 A),(13,.sl 1 (us (rI rs l a))),(9,.int .i64 a),(5,.ref 3 3 0 0),(4,.ref 1 3 0 0),(2,.ref 0 4 0 0),(1,.sl 2 (ptR l))]
  ⟨5,yY 4 1 (rr RL)++ [(3,⟨3,[[.int .i64 l.length,.osl 2 1 F,xA 4 1 (rr RL)]]⟩),(2,⟨1,us (mG rs l F)⟩),(1,⟨3,[[.int .i64 0,.xL,.xL]]⟩),(0,⟨4,[[.int .i64 A,.int .i64 F,.int .i64 T,.sl 2 (uE rs)]]⟩)]⟩ ?_ ?_
 ·(refine xH.ren [] [4,3,2,1,0] (by simp) (by simp) (by decide) ?_; simp only [yZ,vwL,vw,vwF,sw,St.get,St.look,Fr.get,simprocAttr,-ZA,exists_eq_left',ne_eq,zR,yW,wB])
 have hRLl:RL.length=a:=by rw [<- hRL]; simp [rC]
 simp only [simprocAttr,-ZA,↓zU,↓zD,zV,zT,zW,zK,hRLl]
 (repeat refine sd ?_)
 refine⟨a+1,by omega,?_,by omega⟩;rw [hrel]
 (refine xH.ren [(4,6)] [4,3,2,1,0] (by simp) (by simp) (by decide) ?_; simp only [yZ,vwL,vw,vwF,sw,St.get,St.look,Fr.get,simprocAttr,-ZA,exists_eq_left',ne_eq,zR,yW,wB])
 exact wrap_i64 (by omega)
end Go.Pd
