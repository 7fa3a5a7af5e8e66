/- Part KG. -/
import Derived.Test.YtndfaefmmcoapaaGreatUdKB
import Derived.Test.YtndfaefmmcoapaaGreatUdKF
import Derived.Test.YtndfaefmmcoapaaGreatUdS1
set_option linter.unusedSectionVars false
set_option linter.unusedVariables false
set_option linter.unusedSimpArgs false
set_option linter.defProp false
set_option maxRecDepth 20000
set_option maxHeartbeats 1000000
namespace Go.Pd
open Go Go.Proofs
open BitVec renaming isValue -> ZA
open Rs Fm Ru Kb
namespace Kb
def nJ (see st:List (BitVec 64)) (a t:Nat):List (BitVec 64):=(st.take (t+1)).map fun s=>s &&& see.getD a 0
theorem aYb {see st:List (BitVec 64)} {a t:Nat} (h:t<st.length):(nJ see st a t).length=t+1:=by simp [nJ]; omega
theorem aA5 {see st:List (BitVec 64)} {a t:Nat} (h:t<st.length):nJ see st a t ≠ []:=fun c=>by have:=aYb (see:=see) (a:=a) h;rw [c] at this; cases this
def plC (p:PrA) (sts:List (List (BitVec 64))):List D:=[.int .i64 p.F,.sl 1 (us p.init),.sl 1 (us p.see),.sl 1 (mvR p.xF),.sl 1 (cdR p.code),.sl 1 (rr sts)]
def plD (p:PrA) (sts:List (List (BitVec 64))):D:=.ptr (plC p sts)
end Kb
theorem eU {g:FuncId} {args:List D} {l:List (BitVec 64)} (h:xY Tryz.prog g args St0 (.osl 0 1 l.length) ⟨1,[(0,⟨1,us l⟩)]⟩):yB Tryz.prog g args (.sl 1 (us l)):= xY.ret h (.drop (Nat.zero_le _) (aRn (by decide) (rN l) (xK l).symm))
theorem eJ (p:PrA) {sts:List (List (BitVec 64))} {a r t:Nat} (ha:a<p.see.length) (hr:r<sts.length) (ht:t<(sts.getD r []).length) (hl:t<=1000) :
  xY Tryz.prog 75 [plD p sts,.int .i64 a,.int .i64 r,.int .i64 t] St0 (.osl 0 1 (nJ p.see (sts.getD r []) a t).length) ⟨1,[(0,⟨1,us (nJ p.see (sts.getD r []) a t)⟩)]⟩:=by
 have hg:=nD sts hr;have hne:=aA5 (see:=p.see) (a:=a) ht;have hL:=aYb (see:=p.see) (a:=a) ht;have hga:=uW p.see ha;have hha:((a:Int)<(p.see.length:Int)):=by omega
 have hhr:((r:Int)<(sts.length:Int)):=by omega
 unfold nJ at hne hL ⊢;generalize sts.getD r []=st at *;generalize p.see.getD a 0=m at *;have hu:(us st).take (t+1)= us (st.take (t+1)):=aMh _ _;have hw:IntKind.i64.wrap ((t:Int)+ 1)= ((t+1:Nat):Int):=by rw [wrap_i64 (by omega)]; rfl
 have hst:(st.take (t+1)).length=t+1:=by rw [List.length_take]; omega
 unfold plD plC;refine xY.xR mixed Tryz.func75 k75 (by simp) fun hf=>?_;simp only [simprocAttr,-ZA,↓zU,↓zD,zV,zT,zW,zP,hhr,hg,hw]
 (repeat refine sd ?_)
 refine⟨0,((t+1:Nat):Int),rfl,rfl,by omega,by omega,by omega,?_⟩;simp only [Int.toNat_natCast,Int.toNat_zero,List.drop_zero,hu];generalize st.take (t+1)= q at *;simp only [simprocAttr,-ZA,↓zU,↓zD,zV,zT,zW,xK,hst]
 refine xQ (fun k:Nat=>[(23,.int .i64 k),(22,.int .i64 ((t+1:Nat):Int)),(21,.sl 1 (us q)),(9,xA 0 1 (us ((q.take k).map fun s=>s &&& m))),(1,.int .i64 a),(0,plD p sts)]) (fun k=>⟨1,yY 0 1 (us ((q.take k).map fun s=>s &&& m))⟩) (fun k=>k<=t+1) (fun k=>t+1-k) 0 (Nat.zero_le _) ?_ ?_
 ·unfold plD plC
  (refine xM.ren [] [] (by simp) (by simp) (by decide) ?_; simp only [yK,vwL,vw,vwF,sw,St.get,St.look,Fr.get,simprocAttr,-ZA,exists_eq_left',ne_eq,zR,List.take_zero,List.map_nil,aSm,zA,zB])
 intro k hk;refine xN mixed ?_;unfold plD plC
 by_cases hh:k<t+1
 ·have hd:((k:Int)<((t+1:Nat):Int)):=by omega
  have hgq:=uW q (show k<q.length by omega);have ht2:(q.take (k+1)).map (fun s=>s &&& m)= (q.take k).map (fun s=>s &&& m)++ [q.getD k 0 &&& m]:=by rw [wT (d:=0) (by omega)]; simp
  have hkl:((q.take k).map fun s=>s &&& m).length=k:=by simp; omega
  generalize (q.take k).map (fun s=>s &&& m)= acc at hkl ht2 ⊢;generalize q.getD k 0=x at hgq ht2;simp only [simprocAttr,-ZA,↓zU,↓zD,zV,zT,zW,hd,xK,hst,hgq,hha,hga]
  (repeat refine sd ?_)
  refine⟨k+1,by omega,?_,by omega⟩;rw [ht2]
  (refine xM.ren [(0,1)] [0] (by simp) (by simp) (by decide) ?_; simp only [yK,vwL,vw,vwF,sw,St.get,St.look,Fr.get,simprocAttr,-ZA,exists_eq_left',ne_eq,zR])
  exact wrap_i64 (by omega)
 ·have hd:¬ ((k:Int)<((t+1:Nat):Int)):=by omega
  rw [oH (show k=q.length by omega)];generalize q.map (fun s=>s &&& m)= acc at *;rw [qG (by intro c; apply hne; cases acc with | nil=>rfl | cons x r=>cases c),aYc (by intro c; apply hne; cases acc with | nil=>rfl | cons x r=>cases c),xK];simp only [simprocAttr,-ZA,↓zU,↓zD,zV,zT,zW,hd];exact .same
section
open Ru
end
section
open Ru
theorem jE {nx n key sz:Nat} {xZ:List (Nat × Ob)} {els:List (List D)} (hs:0<sz) (hp:∀ e ∈ els,D.xU e=true) (h:St.look xZ key=uP sz els) {ρ:Nat->Nat}:vw ⟨nx,xZ⟩ ⟨n,[]⟩ ρ (xA key sz els) (.sl sz els):=by
 cases els with
 | nil=>simp [xA,vw]
 | cons e r=> simp only [xA,vw];refine⟨trivial,hs,by simp,⟨sz,e :: r⟩,?_,rfl,by simp,by simp,hp⟩;show St.look xZ key=_;rw [h]; rfl
namespace Ru
def ptR (l:List (Nat × Nat)):List (List D):=l.map fun p=>[.int .i64 (p.1:Int),.int .i64 (p.2:Int)]
theorem zY (l:List (Nat × Nat)):(ptR l).length=l.length:=by simp [ptR]
theorem qN (l:List (Nat × Nat)) {i:Nat} (h:i<l.length):(ptR l).getD i [] = [.int .i64 ((l.getD i (0,0)).1:Int),.int .i64 ((l.getD i (0,0)).2:Int)]:=by simp [ptR,List.getD,h]
theorem aX1 (l:List (Nat × Nat)):∀ e ∈ ptR l,D.xU e=true:=by intro e he;simp only [ptR,List.mem_map] at he;obtain⟨r,_,rfl⟩:=he;rfl
theorem eW (l:List (Nat × Nat)):tR (ptR l)= True:=eq_true (aX1 l)
theorem aG2 (l:List (Nat × Nat)) (a b:Nat):ptR l ++ [[.int .i64 (a:Int),.int .i64 (b:Int)]]=ptR (l ++ [(a,b)]):=by simp [ptR]
theorem aMz : ptR [] = []:=rfl
def ptN (T n:Nat):List (Nat × Nat):=(List.range n).map fun i=>(i / T,i % T)
theorem vN (T n:Nat):(ptN T n).length=n:=by simp [ptN]
theorem aUq (T:Nat) {n i:Nat} (h:i<n):(ptN T n).getD i (0,0)= (i / T,i % T):=by simp [ptN,List.getD,h]
theorem aRg (T r t:Nat) (ht:t<T):ptN T (r*T+(t+1))= ptN T (r*T+t)++ [(r,t)]:=by
 rw [show r*T+(t+1)= (r*T+t)+ 1 by omega];unfold ptN;rw [List.range_succ,List.map_append,List.map_singleton]
 have e1:(r*T+t)/ T=r:=by rw [Nat.mul_comm,Nat.mul_add_div (by omega),Nat.div_eq_of_lt ht]; rfl
 have e2:(r*T+t) % T=t:=by rw [Nat.mul_comm,Nat.mul_add_mod,Nat.mod_eq_of_lt ht]
 rw [e1,e2]
def cQ (s:tZ):List (Nat × Nat):=if chk s≠0 then [] else ptN s.ln.toNat (s.rs.length*s.ln.toNat)
structure Ok (s : tZ) (A F T : Nat) : Prop where
 ag:s.ag=A
 fa:s.fa=F
 ln:s.ln=T
 hA:A<=4
 hF:F<=8
 hT:1<=T/\T<=16
 hR:1<=s.rs.length/\s.rs.length<=64
 hP:s.rs.length*T<=512
 loc:∀ r ∈ s.rs,r.loc.length=T
 fac:∀ r ∈ s.rs,r.fac.length=T
 row:∀ r ∈ s.rs,∀ l ∈ r.loc,l.length=A
 val:∀ r ∈ s.rs,∀ f ∈ r.fac,f >>> F=0#64
theorem aQf {s:tZ} (h:chk s=0):∃ A F T,Ok s A F T:=by
 unfold chk at h
 split at h
 ·cases h
 rename_i h1
 split at h
 ·cases h
 rename_i h2
 split at h
 ·cases h
 rename_i h3
 split at h
 ·cases h
 rename_i h4
 split at h
 ·cases h
 rename_i h5;obtain⟨A,hA⟩:=Int.eq_ofNat_of_zero_le (show 0<=s.ag by omega);obtain⟨F,hF⟩:=Int.eq_ofNat_of_zero_le (show 0<=s.fa by omega);obtain⟨T,hT⟩:=Int.eq_ofNat_of_zero_le (show 0<=s.ln by omega);have h4':∀ r ∈ s.rs,aVw s r=false:=fun r hr=>by simpa using List.any_eq_false.1 (by simpa using h4) r hr
 have h5':∀ r ∈ s.rs,aI7 s r=false:=fun r hr=>by simpa using List.any_eq_false.1 (by simpa using h5) r hr
 have hb:∀ r ∈ s.rs,r.loc.length=T/\r.fac.length=T/\∀ l ∈ r.loc,l.length=A:=fun r hr=>by have:=h4' r hr;simp only [aVw,Bool.or_eq_false_iff,Bool.not_eq_false',decide_eq_true_eq,List.any_eq_false,hT,hA] at this;refine⟨by omega,by omega,fun l hl=>?_⟩;have:=this.2 l hl;simp at this;omega
 refine⟨A,F,T,hA,hF,hT,by omega,by omega,by omega,by omega,?_,fun r hr=>(hb r hr).1,fun r hr=>(hb r hr).2.1,fun r hr=>(hb r hr).2.2,fun r hr f hf=>?_⟩
 ·have:((s.rs.length*T:Nat):Int)<=512:=by rw [Int.natCast_mul,<- hT]; omega
  omega
 ·have:=h5' r hr;simp only [aI7,List.any_eq_false] at this;have:=this f hf;rw [hF,Int.toNat_natCast] at this;simpa using this
theorem aBy {s:tZ} {A F T:Nat} (h:Ok s A F T) (hz:chk s=0):cQ s=ptN T (s.rs.length*T):=by unfold cQ; rw [if_neg (by simpa using hz),h.ln,Int.toNat_natCast]
end Ru
theorem aYp (s:tZ):yB Tryz.prog 93 [s.d] (.sl 2 (ptR (cQ s))):=by
 have hD:s.d = .agg [.int .i64 s.ag,.int .i64 s.fa,.int .i64 s.ln,.sl 2 (vF s.rs)]:=rfl;have hC:=aXq s;rw [hD] at hC ⊢;refine xY.xR mixed Tryz.func93 k93 (by simp) fun hf=>?_;simp only [simprocAttr,-ZA,↓zU,↓zD,zV,zT,zW]
 (repeat refine sd ?_)
 refine .go (cq hC) ?_;by_cases hz:chk s=0
 case neg=>
  have e:(chk s != 0)= true:=by simpa using hz
  rw [show cQ s = [] by unfold cQ; rw [if_pos hz]];simp only [simprocAttr,-ZA,↓zU,↓zD,zV,zT,zW,e];exact .drop (by simp) (by simp [vw,ptR])
 have e:(chk s != 0)= false:=by simpa using hz
 obtain⟨A,F,T,ok⟩:=aQf hz;rw [aBy ok hz];obtain⟨T1,T16⟩:=ok.hT;obtain⟨R1,R64⟩:=ok.hR;simp only [simprocAttr,-ZA,↓zU,↓zD,zV,zT,zW,e,ok.ln,ok.ag,ok.fa,zQ]
 refine xQ (fun r:Nat=>[(12,.int .i64 r),(11,.int .i64 s.rs.length),(3,xA 1 2 (ptR (ptN T (r*T)))),(1,.ref 0 4 0 0)]) (fun r=>⟨2,yY 1 2 (ptR (ptN T (r*T)))++ [(0,⟨4,[[.int .i64 A,.int .i64 F,.int .i64 T,.sl 2 (vF s.rs)]]⟩)]⟩)
  (fun r=>r<=s.rs.length) (fun r=>s.rs.length-r) 0 (Nat.zero_le _) ?_ ?_
 ·rw [Nat.zero_mul]
  (refine xM.ren [] [0] (by simp) (by simp) (by decide) ?_; simp only [yK,vwL,vw,vwF,sw,St.get,St.look,Fr.get,simprocAttr,-ZA,exists_eq_left',ne_eq,zR,ptN,List.range_zero,List.map_nil,aMz,zA,zB,List.nil_append])
 intro r hr;refine xN mixed ?_;by_cases hrl:r<s.rs.length
 case neg=>
  have hd:¬ ((r:Int)<(s.rs.length:Int)):=by omega
  rw [show r=s.rs.length by omega] at hd ⊢;simp only [simprocAttr,-ZA,↓zU,↓zD,zV,zT,zW,hd];exact .drop (by simp) (jE (by decide) (aX1 _) (by simp [St.look,mK,yG]))
 have hd:((r:Int)<(s.rs.length:Int)):=by omega
 simp only [simprocAttr,-ZA,↓zU,↓zD,zV,zT,zW,hd]
 refine xQ (fun t:Nat=>[(17,.int .i64 t),(16,.int .i64 T),(12,.int .i64 r),(11,.int .i64 s.rs.length),(4,.int .i64 r),(3,xA 1 2 (ptR (ptN T (r*T+t)))),(1,.ref 0 4 0 0)]) (fun t=>⟨2,yY 1 2 (ptR (ptN T (r*T+t)))++ [(0,⟨4,[[.int .i64 A,.int .i64 F,.int .i64 T,.sl 2 (vF s.rs)]]⟩)]⟩)
  (fun t=>t<=T) (fun t=>T-t) 0 (Nat.zero_le _) ?_ ?_
 ·rw [Nat.add_zero]
  (refine xM.ren [] [1,0] (by simp) (by simp) (by decide) ?_; simp only [yK,vwL,vw,vwF,sw,St.get,St.look,Fr.get,simprocAttr,-ZA,exists_eq_left',ne_eq,zR,eW])
 intro t ht;refine xN mixed ?_;by_cases htl:t<T
 case neg=>
  have hd2:¬ ((t:Int)<(T:Int)):=by omega
  have et:t=T:=by omega
  simp only [simprocAttr,-ZA,↓zU,↓zD,zV,zT,zW,hd2]
  (repeat refine sd ?_)
  refine⟨r+1,by omega,?_,by omega⟩;rw [show (r+1)* T=r*T+t by rw [Nat.add_mul,et]; omega]
  (refine xM.ren [] [1,0] (by simp) (by simp) (by decide) ?_; simp only [yK,vwL,vw,vwF,sw,St.get,St.look,Fr.get,simprocAttr,-ZA,exists_eq_left',ne_eq,zR,eW])
  exact wrap_i64 (by omega)
 have hd2:((t:Int)<(T:Int)):=by omega
 have hlen:r*T+t<1024:=by
  have:r*T<=64*16-16:=by have:=Nat.mul_le_mul (show r<=63 by omega) T16;omega
  omega
 have hS:=aRg T r t htl;have hln:=vN T (r*T+t);have hw:IntKind.i64.wrap ((t:Int)+ 1)= ((t+1:Nat):Int):=wrap_i64 (by omega);generalize ptN T (r*T+t)= l at hS hln;simp only [simprocAttr,-ZA,↓zU,↓zD,zV,zT,zW,hd2,zY,hln]
 (repeat refine sd ?_)
 refine⟨t+1,by omega,?_,by omega⟩;rw [hS,aG2]
 (refine xM.ren [(1,2)] [1,0] (by simp) (by simp) (by decide) ?_; simp only [yK,vwL,vw,vwF,sw,St.get,St.look,Fr.get,simprocAttr,-ZA,exists_eq_left',ne_eq,zR,eW,hw])
end
section
namespace Ru
def yQ (rs:List xD) (a:Nat) (p:Nat × Nat):Int:=((rs.getD p.1 qT).loc.getD p.2 []).getD a 0
def aO9 (rs:List xD) (p:Nat × Nat):BitVec 64:=(rs.getD p.1 qT).fac.getD p.2 0
def cR (rs:List xD) (l:List (Nat × Nat)) (f:Nat):Nat->BitVec 64
 | 0=>0#64
 | k+1=>cR rs l f k ||| (if (aO9 rs (l.getD k (0,0))).getLsbD f then 1#64 <<< k else 0#64)
def aF (rs:List xD) (l:List (Nat × Nat)) (a:Nat) (x:Int):Nat->BitVec 64
 | 0=>0#64
 | k+1=>aF rs l a x k ||| (if yQ rs a (l.getD k (0,0))= x then 1#64 <<< k else 0#64)
def aH (rs:List xD) (l:List (Nat × Nat)) (F:Nat):List (BitVec 64):=(List.range F).map fun f=>cR rs l f l.length
def kE (rs:List xD) (l:List (Nat × Nat)) (a:Nat):List (BitVec 64):=l.map fun p=>aF rs l a (yQ rs a p) l.length
def mA (rs:List xD) (l:List (Nat × Nat)) (A:Nat):List (List (BitVec 64)):=(List.range A).map (kE rs l)
def bYj (rs:List xD) (l:List (Nat × Nat)) (A F:Nat):D:=.agg [.int .i64 (l.length:Int),.sl 1 (us (aH rs l F)),.sl 1 (rr (mA rs l A))]
structure OkR (rs : List xD) (A F T : Nat) : Prop where
 hA:A<=4
 hF:F<=8
 hT:1<=T/\T<=16
 hR:1<=rs.length/\rs.length<=64
 hP:rs.length*T<=512
 loc:∀ r ∈ rs,r.loc.length=T
 fac:∀ r ∈ rs,r.fac.length=T
 row:∀ r ∈ rs,∀ l ∈ r.loc,l.length=A
 val:∀ r ∈ rs,∀ f ∈ r.fac,f >>> F=0#64
theorem aXn {s:tZ} (h:chk s=0):∃ (A F T:Nat) (rs:List xD),s=⟨A,F,T,rs⟩/\ OkR rs A F T:=by obtain⟨A,F,T,ok⟩:=aQf h;obtain⟨ag,fa,ln,rs⟩:=s;obtain⟨h1,h2,h3,h4,h5,h6,h7,h8,h9,h10,h11,h12⟩:=ok;simp only at h1 h2 h3 h7 h8 h9 h10 h11 h12;subst h1 h2 h3;exact⟨A,F,T,rs,rfl,⟨h4,h5,h6,h7,h8,h9,h10,h11,h12⟩⟩
def Inb (rs:List xD) (T:Nat) (l:List (Nat × Nat)):Prop:=∀ p ∈ l,p.1<rs.length/\p.2<T
theorem nC {rs:List xD} {T n:Nat} (hT:1<=T) (hn:n<=rs.length*T):Inb rs T (ptN T n):=fun p hp=>by simp only [ptN,List.mem_map,List.mem_range] at hp;obtain⟨i,hi,rfl⟩:=hp;refine⟨(Nat.div_lt_iff_lt_mul (by omega)).2 (by omega),Nat.mod_lt _ (by omega)⟩
def sD (A F T:Nat) (rs:List xD):D:=.agg [.int .i64 (A:Int),.int .i64 (F:Int),.int .i64 (T:Int),.sl 2 (vF rs)]
theorem wD (x:Int):∀ (l:List (Int × D)) (i:Nat),wL x l i=(wL x l 0).map fun p=>(p.1+i,p.2)
 | [],i=>rfl
 | (k,d) :: r,i=>by
  unfold wL
  by_cases h:x=k
  ·rw [if_pos h,if_pos h]; simp
  ·rw [if_neg h,if_neg h,wD x r (i+1),wD x r (0+1)]
   cases wL x r 0 with
   | none=>rfl
   | some p=>simp; omega
end Ru
open Ru
theorem aM6 {rs:List xD} {A F T:Nat} (ok:OkR rs A F T) {a:Nat} (ha:a<A) {p:Nat × Nat} (hp:p.1<rs.length/\p.2<T):yB Tryz.prog 94 [sD A F T rs,.int .i64 a,.agg [.int .i64 (p.1:Int),.int .i64 (p.2:Int)]] (.int .i64 (yQ rs a p)):=by
 have hm:=xS (d:=qT) hp.1;have hg:=rW rs hp.1;have h1:=ok.loc _ hm;have h2:=ok.row _ hm _ (xS (d:=[]) (show p.2<(rs.getD p.1 qT).loc.length by omega));unfold yQ sD;generalize rs.getD p.1 qT=r at hg h1 h2;have hg2:=gC r.loc (show p.2<r.loc.length by omega);generalize r.loc.getD p.2 []=x at hg2 h2;have hg3:=yX .i64 x (show a<x.length by omega);refine xY.xR mixed Tryz.func94 k94 (by simp) fun hf=>?_;simp only [simprocAttr,-ZA,↓zU,↓zD,zV,zT,zW,zQ,hg,xD.row,tH,hg2,yW,hg3]
 (repeat refine sd ?_)
 exact .dv
end
open Ru
namespace Ru
def aY2 (F:Nat) (g h:Nat->BitVec 64) (i:Nat):List (BitVec 64):=(List.range F).map fun f=>if f<i then g f else h f
theorem aX6 (F:Nat) (g h:Nat->BitVec 64) (i:Nat):(aY2 F g h i).length=F:=by simp [aY2]
theorem aWe (F:Nat) (g h:Nat->BitVec 64):aY2 F g h 0=(List.range F).map h:=by simp [aY2]
theorem aRx (F:Nat) (g h:Nat->BitVec 64) {i:Nat} (hi:F<=i):aY2 F g h i=(List.range F).map g:=by refine List.map_congr_left fun f hf=>?_;rw [if_pos (by have:=List.mem_range.1 hf; omega)]
theorem aRw {F:Nat} (g h:Nat->BitVec 64) {i:Nat} (hi:i<F):(aY2 F g h i).getD i 0=h i:=by simp [aY2,List.getD,hi]
theorem aRv (F:Nat) (g h:Nat->BitVec 64) (i:Nat):(aY2 F g h i).set i (g i)= aY2 F g h (i+1):=by
 refine List.ext_getElem (by simp [aY2]) fun k h1 h2=>?_;rw [List.getElem_set];simp only [aY2,List.getElem_map,List.getElem_range]
 by_cases e:i=k
 ·subst e; rw [if_pos rfl,if_pos (by omega)]
 ·rw [if_neg e]
  by_cases hk:k<i
  ·rw [if_pos hk,if_pos (by omega)]
  ·rw [if_neg hk,if_neg (by omega)]
theorem bXt (x:BitVec 64) (f w:Nat):(x >>> f &&& 1#64) <<< w=if x.getLsbD f then 1#64 <<< w else 0#64:=by
 rw [aQi]
 split
 ·rfl
 ·exact BitVec.zero_shiftLeft _
end Ru
namespace Ru
structure nI where
 W:Int
 V:List (BitVec 64)
 R:List (List (BitVec 64))
def nI.d (m:nI):D:=.agg [.int .i64 m.W,.sl 1 (us m.V),.sl 1 (rr m.R)]
def pO (n:Nat):BitVec 64:=if 64<=n then 18446744073709551615#64 else 1#64 <<< n-1#64
def aVu (n:Nat) (x:BitVec 64):Bool:=!decide (x &&& ~~~(pO n)= 0#64)
structure lW (m : nI) (W : Nat) : Prop where
 w:m.W=W
 hW:1<=W/\W<=64
 hV:m.V.length<=8
 hR:m.R.length<=4
 row:∀ r ∈ m.R,r.length=W
 val:∀ x ∈ m.V,aVu W x=false
 rel:∀ r ∈ m.R,∀ x ∈ r,aVu W x=false
theorem rS {n:Nat} (hn:n<=64) {i:Nat} (hi:i<64):(pO n).getLsbD i=decide (i<n):=by
 unfold pO
 by_cases h:64<=n
 ·rw [if_pos h,show 18446744073709551615#64=BitVec.allOnes 64 from rfl,BitVec.getLsbD_allOnes];simp [hi]; omega
 ·rw [if_neg h];have:∀ n,n<64->∀ i,i<64->(1#64 <<< n-1#64).getLsbD i=decide (i<n):=by decide
  exact this n (by omega) i hi
theorem aUs {n:Nat} (hn:n<=64) {x:BitVec 64} (h:∀ i,x.getLsbD i=true->i<n):aVu n x=false:=by
 unfold aVu;rw [Bool.not_eq_false',decide_eq_true_iff];refine BitVec.eq_of_getLsbD_eq fun i hi=>?_;rw [BitVec.getLsbD_and,BitVec.getLsbD_not,rS hn hi,BitVec.getLsbD_zero]
 cases hx:x.getLsbD i
 ·rfl
 ·simp [h i hx]
end Ru
open Ru
theorem aAz {σ:St} {g:FuncId} {caps:List D} {f:List (BitVec 64)->Bool} {l:List (List (BitVec 64))} (hl:l.length<=1000) (h:∀ x ∈ l,xY Tryz.prog g ([.sl 1 (us x)]++caps) σ (.bool (f x)) σ):xY Tryz.prog 199 [.sl 1 (rr l),.fn g caps] σ (.int .i64 (ixF f l 0)) σ:=by
 refine xY.xR mixed Tryz.func199 bSk (by simp) fun hf=>?_;simp only [simprocAttr,-ZA,↓zU,↓zD,zV,zT,zW,zP]
 refine xQ (fun k:Nat=>[(8,.int .i64 k),(7,.int .i64 l.length),(1,.fn g caps),(0,.sl 1 (rr l))]) (fun _=>σ) (fun k=>k<=l.length/\ixF f l 0=ixF f (l.drop k) k) (fun k=>l.length-k) 0 ⟨Nat.zero_le _,rfl⟩ ?_ ?_
 ·(refine xM.same ?_; simp [xP,Fr.get])
 intro k ⟨hk,hi⟩;refine xN mixed ?_
 by_cases hh:k<l.length
 ·have hd:((k:Int)<(l.length:Int)):=by omega
  rw [drop_cons (d:=[]) hh,ixF] at hi;simp only [simprocAttr,-ZA,↓zU,↓zD,zV,zT,zW,hd,zP,nD _ hh]
  (repeat refine sd ?_)
  refine .go (h _ (xS hh)) ?_
  cases hx:f (l.getD k [])
  ·rw [hx,if_neg (by simp)] at hi;simp only [simprocAttr,-ZA,↓zU,↓zD,zV,zT,zW];refine⟨k+1,⟨by omega,hi⟩,?_,by omega⟩
   (refine xM.same ?_; simp only [xP,Fr.get,simprocAttr,-ZA,zS])
   exact wrap_i64 (by omega)
  ·rw [hx,if_pos rfl] at hi;simp only [simprocAttr,-ZA,↓zU,↓zD,zV,zT,zW];rw [hi];exact .same
 ·have hd:¬ ((k:Int)<(l.length:Int)):=by omega
  rw [List.drop_eq_nil_of_le (by omega),ixF] at hi;simp only [simprocAttr,-ZA,↓zU,↓zD,zV,zT,zW,hd];rw [hi];exact .same
theorem aOn {σ:St} {g:FuncId} {caps:List D} {f:List (BitVec 64)->Bool} {l:List (List (BitVec 64))} (hl:l.length<=1000) (h:∀ x ∈ l,xY Tryz.prog g ([.sl 1 (us x)]++caps) σ (.bool (f x)) σ):xY Tryz.prog 139 [.sl 1 (rr l),.fn g caps] σ (.bool (l.any f)) σ:=by
 refine xY.xR mixed Tryz.func139 bRl (by simp) fun hf=>?_;simp only [simprocAttr,-ZA,↓zU,↓zD,zV,zT,zW];refine .go (aAz hl h) ?_;have hx:=jP (f:=f) (c:=l) (i:=0) (Int.le_refl 0)
 cases ha:l.any f
 ·have h1:¬ 0<=ixF f l 0:=fun y=>by rw [hx.1 y] at ha; cases ha
  simp only [simprocAttr,-ZA,↓zU,↓zD,zV,zT,zW,h1];exact .same
 ·have h1:=hx.2 ha;simp only [simprocAttr,-ZA,↓zU,↓zD,zV,zT,zW,h1];exact .same
theorem bU8 (n:Nat):yB Tryz.prog 198 [.int .i64 n] (.int .u64 (ui (pO n))):=by
 refine xY.xR mixed Tryz.func198 bSl (by simp) fun hf=>?_;unfold pO
 by_cases h:64<=n
 ·have e:(64:Int)<=(n:Int):=by omega
  rw [if_pos h];simp only [simprocAttr,-ZA,↓zU,↓zD,zV,zT,zW,e];exact .same
 ·have e:¬ (64:Int)<=(n:Int):=by omega
  rw [if_neg h];simp only [simprocAttr,-ZA,↓zU,↓zD,zV,zT,zW,e]
  (repeat refine sd ?_)
  exact .same
theorem bUn {n nx:Nat} {xZ:List (Nat × Ob)} {k:Nat} (h0:St.look xZ k=some ⟨1,[[.int .i64 n]]⟩) (x:BitVec 64):xY Tryz.prog 197 ([.int .u64 (ui x)] ++ [.ref k 1 0 0]) ⟨nx,xZ⟩ (.bool (aVu n x)) ⟨nx,xZ⟩:=by
 refine xY.xR mixed Tryz.func197 bSm (by simp) fun hf=>?_;simp only [simprocAttr,-ZA,↓zU,↓zD,zV,zT,zW,h0]
 (repeat refine sd ?_)
 refine .go (cq (bU8 n)) ?_;simp only [simprocAttr,-ZA,↓zU,↓zD,zV,zT,zW];rw [show (x &&& ~~~(pO n) != 0#64)= aVu n x by unfold aVu; rw [bne]; congr 1];exact .same
theorem aZ9 {l:List (BitVec 64)} (hl:l.length<=1000) (n:Nat):yB Tryz.prog 138 [.sl 1 (us l),.int .i64 n] (.bool (l.any (aVu n))):=by refine xY.xR mixed Tryz.func138 bRm (by simp) fun hf=>?_;simp only [simprocAttr,-ZA,↓zU,↓zD,zV,zT,zW];refine .go (jA (caps:=[.ref 0 1 0 0]) hl fun x _=>bUn rfl x) ?_;simp only [simprocAttr,-ZA,↓zU,↓zD,zV,zT,zW];exact .dv
theorem bU1 {m:nI} {W:Nat} (hw:m.W=W) {nx:Nat} {xZ:List (Nat × Ob)} (h0:St.look xZ 0=some ⟨3,[[.int .i64 m.W,.sl 1 (us m.V),.sl 1 (rr m.R)]]⟩) {x:List (BitVec 64)} (hx:x.length<=1000):xY Tryz.prog 140 ([.sl 1 (us x)] ++ [.ref 0 3 0 0]) ⟨nx,xZ⟩ (.bool (x.any (aVu W))) ⟨nx,xZ⟩:=by
 refine xY.xR mixed Tryz.func140 bRk (by simp) fun hf=>?_;simp only [simprocAttr,-ZA,↓zU,↓zD,zV,zT,zW,h0,hw]
 (repeat refine sd ?_)
 refine .go (cr (aZ9 hx W)) ?_;simp only [simprocAttr,-ZA,↓zU,↓zD,zV,zT,zW];exact .same
theorem bB {m:nI} {W:Nat} (ok:lW m W):yB Tryz.prog 90 [m.d] (.int .i64 0):=by
 obtain⟨W1,W64⟩:=ok.hW;have h1:¬ (W:Int)<1:=by omega
 have h2:¬ (64:Int)<(W:Int):=by omega
 have h3:¬ (4:Int)<(m.R.length:Int):=by have:=ok.hR; omega
 have h4:¬ (8:Int)<(m.V.length:Int):=by have:=ok.hV; omega
 have hv:m.V.any (aVu W)= false:=List.any_eq_false.2 fun x hx=>by rw [ok.val x hx]; simp
 have hr:m.R.any (fun x=>x.any (aVu W))= false:=List.any_eq_false.2 fun x hx=>by rw [List.any_eq_false.2 fun y hy=>by rw [ok.rel x hx y hy]; simp]; simp
 have ho:=aZ9 (l:=m.V) (by have:=ok.hV; omega) W;have hc:=aOn (σ:=⟨1,[(0,⟨3,[[.int .i64 m.W,.sl 1 (us m.V),.sl 1 (rr m.R)]]⟩)]⟩) (g:=140) (caps:=[.ref 0 3 0 0]) (f:=fun x=>x.any (aVu W)) (l:=m.R) (by have:=ok.hR; omega) fun x hx=>bU1 ok.w rfl (by rw [ok.row x hx]; omega);rw [hv] at ho;rw [hr,ok.w] at hc;unfold nI.d;refine xY.xR mixed Tryz.func90 k90 (by simp) fun hf=>?_;simp only [simprocAttr,-ZA,↓zU,↓zD,zV,zT,zW,ok.w,h1,h2,zP,xK,h3,h4]
 refine xQ (fun k:Nat=>[(26,.int .i64 k),(25,.int .i64 m.R.length),(24,.sl 1 (rr m.R)),(1,.ref 0 3 0 0)]) (fun _=>⟨1,[(0,⟨3,[[.int .i64 W,.sl 1 (us m.V),.sl 1 (rr m.R)]]⟩)]⟩)
  (fun k=>k<=m.R.length) (fun k=>m.R.length-k) 0 (Nat.zero_le _) ?_ ?_
 ·(refine xM.same ?_; simp [xP,Fr.get])
 intro k hk;refine xN mixed ?_
 by_cases h:k<m.R.length
 ·have hd:((k:Int)<(m.R.length:Int)):=by omega
  have hrw:=ok.row _ (xS (d:=[]) h);have hg:=nD m.R h;generalize m.R.getD k []=r at hrw hg;have e:((r.length:Int) != (W:Int))= false:=by rw [hrw]; simp
  simp only [simprocAttr,-ZA,↓zU,↓zD,zV,zT,zW,hd,zP,hg,xK,e]
  (repeat refine sd ?_)
  refine⟨k+1,by omega,?_,by omega⟩
  (refine xM.same ?_; simp only [xP,Fr.get,simprocAttr,-ZA,zS])
  exact wrap_i64 (by omega)
 ·have hd:¬ ((k:Int)<(m.R.length:Int)):=by omega
  simp only [simprocAttr,-ZA,↓zU,↓zD,zV,zT,zW,hd];refine .go (cr ho) ?_;simp only [simprocAttr,-ZA,↓zU,↓zD,zV,zT,zW];refine .go hc ?_;simp only [simprocAttr,-ZA,↓zU,↓zD,zV,zT,zW];exact .dv
open Ru
theorem bW5 (s:BitVec 64):pT .xor .u64 (if IntKind.u64.signed=true then -1 else IntKind.u64.max) (ui s)= ui (~~~s):=by rw [if_neg (by decide),show IntKind.u64.max=ui (BitVec.allOnes 64) by decide +kernel,aDs];congr 1
theorem aMy (n:Nat):yB Tryz.prog 251 [.int .i64 n] (.int .u64 (ui (pO n))):=by
 refine xY.xR mixed Tryz.func251 bTy (by simp) fun hf=>?_;unfold pO
 by_cases h:64<=n
 ·have e:(64:Int)<=(n:Int):=by omega
  rw [if_pos h];simp only [simprocAttr,-ZA,↓zU,↓zD,zV,zT,zW,e];exact .same
 ·have e:¬ (64:Int)<=(n:Int):=by omega
  rw [if_neg h];simp only [simprocAttr,-ZA,↓zU,↓zD,zV,zT,zW,e]
  (repeat refine sd ?_)
  exact .same
namespace Ru
structure aPa (r : List (BitVec 64)) : Prop where
 len:r.length<=64
 ins:∀ x ∈ r,aVu r.length x=false
def aQx (r:List (BitVec 64)) (s:BitVec 64):Nat->BitVec 64
 | 0=>0#64
 | w+1=>if (r.getD w 0 &&& ~~~s==0#64)= true then aQx r s w ||| 1#64 <<< w else aQx r s w
def aY4 (r:List (BitVec 64)) (s:BitVec 64):BitVec 64:=aQx r s r.length
def bYn (r:List (BitVec 64)) (s:BitVec 64):BitVec 64:=pO r.length &&& ~~~(aY4 r (~~~s))
end Ru
theorem dU {r:List (BitVec 64)} (ok:aPa r):yB Tryz.prog 250 [.int .i64 r.length,.sl 1 (us r)] (.int .i64 0):=by
 have h1:¬ ((r.length:Int)<0):=by omega
 have h2:¬ ((64:Int)<(r.length:Int)):=by have:=ok.len; omega
 have h3:((r.length:Int) != (r.length:Int))= false:=by simp
 have ha:=aMy r.length;refine xY.xR mixed Tryz.func250 bTz (by simp) fun hf=>?_;simp only [simprocAttr,-ZA,↓zU,↓zD,zV,zT,zW,xK,h1,h2,h3]
 refine xQ (fun k:Nat=>[(19,.int .i64 k),(18,.int .i64 r.length),(17,.sl 1 (us r)),(0,.int .i64 r.length)]) (fun _=>⟨0,[]⟩) (fun k=>k<=r.length) (fun k=>r.length-k) 0 (Nat.zero_le _) ?_ ?_
 ·(refine xM.same ?_; simp [xP,Fr.get])
 intro k hk;refine xN mixed ?_
 by_cases h:k<r.length
 ·have hd:((k:Int)<(r.length:Int)):=by omega
  have hx:=ok.ins _ (xS (d:=0) h)
  have e:(r.getD k 0 &&& ~~~(pO r.length) != 0#64)= false:=by have:=hx;unfold aVu at this;rw [bne];simpa using this
  have hg:=uW r h;simp only [simprocAttr,-ZA,↓zU,↓zD,zV,zT,zW,hd,xK,hg]
  (repeat refine sd ?_)
  refine .go (cq ha) ?_;simp only [simprocAttr,-ZA,↓zU,↓zD,zV,zT,zW,e]
  (repeat refine sd ?_)
  refine⟨k+1,by omega,?_,by omega⟩
  (refine xM.same ?_; simp only [xP,Fr.get,simprocAttr,-ZA,zS])
  exact wrap_i64 (by omega)
 ·have hd:¬ ((k:Int)<(r.length:Int)):=by omega
  simp only [simprocAttr,-ZA,↓zU,↓zD,zV,zT,zW,hd];exact .same
theorem aZp {r:List (BitVec 64)} (ok:aPa r) (s:BitVec 64):yB Tryz.prog 214 [.sl 1 (us r),.int .u64 (ui s)] (.int .u64 (ui (aY4 r s))):=by
 have hc:=dU ok;have hl:=ok.len;refine xY.xR mixed Tryz.func214 bT8 (by simp) fun hf=>?_;simp only [simprocAttr,-ZA,↓zU,↓zD,zV,zT,zW,xK];refine .go (cr hc) ?_;simp only [simprocAttr,-ZA,↓zU,↓zD,zV,zT,zW,xK]
 refine xQ (fun k:Nat=>[(14,.int .i64 k),(13,.int .i64 r.length),(5,.int .u64 (ui (aQx r s k))),(1,.int .u64 (ui s)),(0,.sl 1 (us r))]) (fun _=>⟨0,[]⟩) (fun k=>k<=r.length) (fun k=>r.length-k) 0 (Nat.zero_le _) ?_ ?_
 ·(refine xM.same ?_; simp [xP,Fr.get])
  rfl
 intro k hk;refine xN mixed ?_
 by_cases h:k<r.length
 ·have hd:((k:Int)<(r.length:Int)):=by omega
  have hg:=uW r h;have hs:aQx r s (k+1)= if (r.getD k 0 &&& ~~~s==0#64)= true then aQx r s k ||| 1#64 <<< k else aQx r s k:=rfl
  cases e:(r.getD k 0 &&& ~~~s==0#64) with
  | true=>
   rw [e,if_pos rfl] at hs;simp only [simprocAttr,-ZA,↓zU,↓zD,zV,zT,zW,hd,xK,hg,e]
   (repeat refine sd ?_)
   refine⟨k+1,by omega,?_,by omega⟩;rw [hs]
   (refine xM.same ?_; simp only [xP,Fr.get,simprocAttr,-ZA,zS])
   exact wrap_i64 (by omega)
  | false=>
   rw [e,if_neg (by simp)] at hs;simp only [simprocAttr,-ZA,↓zU,↓zD,zV,zT,zW,hd,xK,hg,e]
   (repeat refine sd ?_)
   refine⟨k+1,by omega,?_,by omega⟩;rw [hs]
   (refine xM.same ?_; simp only [xP,Fr.get,simprocAttr,-ZA,zS])
   exact wrap_i64 (by omega)
 ·have hd:¬ ((k:Int)<(r.length:Int)):=by omega
  have hk':k=r.length:=by omega
  subst hk';simp only [simprocAttr,-ZA,↓zU,↓zD,zV,zT,zW,hd];exact .same
theorem aO2 {r:List (BitVec 64)} (ok:aPa r) (s:BitVec 64):yB Tryz.prog 215 [.sl 1 (us r),.int .u64 (ui s)] (.int .u64 (ui (bYn r s))):=by have hc:=dU ok;have ha:=aMy r.length;have hb:=aZp ok (~~~s);refine xY.xR mixed Tryz.func215 bT7 (by simp) fun hf=>?_;simp only [simprocAttr,-ZA,↓zU,↓zD,zV,zT,zW,xK];refine .go (cr hc) ?_;simp only [simprocAttr,-ZA,↓zU,↓zD,zV,zT,zW,xK];refine .go (cq ha) ?_;simp only [simprocAttr,-ZA,↓zU,↓zD,zV,zT,zW,bW5];refine .go (cr hb) ?_;simp only [simprocAttr,-ZA,↓zU,↓zD,zV,zT,zW];exact .drop (by simp) (by simp [vw,bYn])
end Go.Pd
