/- Part KG. -/
import Derived.Test.YtndfaefmmcoapaaGreatUcS1
import Derived.Test.YtndfaefmmcoapaaGreatUcSC
import Derived.Test.YtndfaefmmcoapaaGreatUcPQ
set_option linter.unusedSectionVars false
set_option linter.unusedVariables false
set_option linter.unusedSimpArgs false
set_option linter.defProp false
set_option maxRecDepth 20000
set_option maxHeartbeats 1000000
open Go.Proofs.Tryz
open List renaming mem_cons_of_mem->γ,mem_cons->δ,mem_range->ε,mem_map->ζ,mem_singleton->η,mem_append->θ,any_eq_false->κ,map_cons->μ,map_congr_left->ν,take_of_length_le->ξ,ext_getElem->ο,map_map->π,cons_append->τ,nil_append->υ,map_nil->χ,take_length->ω,getElem_map->Aa,countP_cons->Ab,map_append->Ac,length_singleton->Ad,set_cons_succ->Ae,getElem_range->Af,length_range->Ag,length_take->Ah,getElem_set->Ai,all_eq_true->Aj,range_zero->Ak,range_succ->Al,nodup_cons->Am,length_map->An,length_append->Ao,take_add_one->Ap
open Nat renaming zero_le->Aq,le_refl->Ar,mul_comm->As,div_eq_of_lt->Au,mul_add_div->Av,lt_succ_self->Aw,not_lt_zero->Ax,mul_le_mul_right->Ay,le_succ->Az
open Bool renaming or_eq_true->A0,eq_iff_iff->A3,not_eq_false'->A4,not_eq_true'->A5,and_eq_true->A6
open Int renaming eq_ofNat_of_zero_le->A7,toNat_natCast->A8
open Option renaming map_some->A9,map_none->Ba
namespace Go.Pd
open Go Go.Proofs
open BitVec renaming isValue -> ZA
open Rs Fm Ru Kb
namespace Kb
def rM (xK st:List (BitVec 64)) (a t:Nat):List (BitVec 64):=(st.take (t+1)).map λs=>s &&& xK.getD a 0
theorem rf {xK st:List (BitVec 64)} {a t:Nat} (h:t<st.length):(rM xK st a t).length=t+1:=by simp [rM]; omega
theorem O4 {xK st:List (BitVec 64)} {a t:Nat} (h:t<st.length):rM xK st a t ≠ []:=λc=>by have:=rf (xK:=xK) (a:=a) h;rw [c] at this; cases this
def Pj (p:yA) (sts:List (List (BitVec 64))):List D:=[.int .i64 p.F,.sl 1 (us p.init),.sl 1 (us p.xK),.sl 1 (oB p.xJ),.sl 1 (oA p.code),.sl 1 (rr sts)]
def wm (p:yA) (sts:List (List (BitVec 64))):D:=.ptr (Pj p sts)
end Kb
theorem xa {g:FuncId} {args:List D} {l:List (BitVec 64)} (h:xY prog g args gY (.yM 0 1 l.length) ⟨1,[(0,⟨1,us l⟩)]⟩):yU prog g args (.sl 1 (us l)):= xY.ret h (.drop (Aq _) (Xp (by decide) (pP l) (xI l).symm))
theorem yp (p:yA) {sts:List (List (BitVec 64))} {a r t:Nat} (ha:a<p.xK.length) (hr:r<sts.length) (ht:t<(sts.getD r []).length) (hl:t<=1000) :
  xY prog 75 [wm p sts,.int .i64 a,.int .i64 r,.int .i64 t] gY (.yM 0 1 (rM p.xK (sts.getD r []) a t).length) ⟨1,[(0,⟨1,us (rM p.xK (sts.getD r []) a t)⟩)]⟩:=by
 have hg:=nC sts hr;have hne:=O4 (xK:=p.xK) (a:=a) ht;have hL:=rf (xK:=p.xK) (a:=a) ht;have hga:=vX p.xK ha;have hha:((a:Int)<(p.xK.length:Int)):=by omega
 have hhr:((r:Int)<(sts.length:Int)):=by omega
 unfold rM at hne hL ⊢;generalize sts.getD r []=st at *;generalize p.xK.getD a 0=m at *;have hu:(us st).take (t+1)= us (st.take (t+1)):=WO _ _;have hw:IntKind.i64.wrap ((t:Int)+ 1)= ((t+1:Nat):Int):=by rw [wrap_i64 (by omega)]; rfl
 have hst:(st.take (t+1)).length=t+1:=by rw [Ah]; omega
 unfold wm Pj;refine xY.xN mixed func75 Fp (by simp) λhf=>?_;simp only [simprocAttr,-ZA,↓zU,↓zD,zV,zT,zW,zE,hhr,hg,hw]
 (repeat refine sd ?_)
 refine⟨0,((t+1:Nat):Int),rfl,rfl,by omega,by omega,by omega,?_⟩;simp only [A8,Int.toNat_zero,List.drop_zero,hu];generalize st.take (t+1)= q at *;simp only [simprocAttr,-ZA,↓zU,↓zD,zV,zT,zW,xI,hst]
 refine xP (λk:Nat=>[(23,.int .i64 k),(22,.int .i64 ((t+1:Nat):Int)),(21,.sl 1 (us q)),(9,xB 0 1 (us ((q.take k).map λs=>s &&& m))),(1,.int .i64 a),(0,wm p sts)]) (λk=>⟨1,yZ 0 1 (us ((q.take k).map λs=>s &&& m))⟩) (λk=>k<=t+1) (λk=>t+1-k) 0 (Aq _) ?_ ?_
 ·unfold wm Pj
  (refine xT.tP [] [] (by simp) (by simp) (by decide) ?_; simp only [yQ,zQ,simprocAttr,-ZA,exists_eq_left',ne_eq,zR,List.take_zero,χ,ud,wR,wS])
 intro k hk;refine xM mixed ?_;unfold wm Pj
 by_cases hh:k<t+1
 ·have hd:((k:Int)<((t+1:Nat):Int)):=by omega
  have hgq:=vX q (show k<q.length by omega);have ht2:(q.take (k+1)).map (λs=>s &&& m)= (q.take k).map (λs=>s &&& m)++ [q.getD k 0 &&& m]:=by rw [zA (d:=0) (by omega)]; simp
  have hkl:((q.take k).map λs=>s &&& m).length=k:=by simp; omega
  generalize (q.take k).map (λs=>s &&& m)= acc at hkl ht2 ⊢;generalize q.getD k 0=x at hgq ht2;simp only [simprocAttr,-ZA,↓zU,↓zD,zV,zT,zW,hd,xI,hst,hgq,hha,hga]
  (repeat refine sd ?_)
  refine⟨k+1,by omega,?_,by omega⟩;rw [ht2]
  (refine xT.tP [(0,1)] [0] (by simp) (by simp) (by decide) ?_; simp only [yQ,zQ,simprocAttr,-ZA,exists_eq_left',ne_eq,zR])
  exact wrap_i64 (by omega)
 ·have hd:¬ ((k:Int)<((t+1:Nat):Int)):=by omega
  rw [pM (show k=q.length by omega)];generalize q.map (λs=>s &&& m)= acc at *;rw [mP (by intro c; apply hne; cases acc with | nil=>rfl | cons x r=>cases c),qx (by intro c; apply hne; cases acc with | nil=>rfl | cons x r=>cases c),xI];simp only [simprocAttr,-ZA,↓zU,↓zD,zV,zT,zW,hd];exact .same
end Go.Pd

/- Part SQ. -/
namespace Go.Pd
open Go Go.Proofs
open BitVec renaming isValue -> ZA
section
open Ru
end
section
open Ru
theorem iO {nx n key sz:Nat} {xZ:List (Nat × Ob)} {xV:List (List D)} (hs:0<sz) (hp:∀ e ∈ xV,D.xR e=true) (h:St.look xZ key=wU sz xV) {ρ:Nat->Nat}:vw ⟨nx,xZ⟩ ⟨n,[]⟩ ρ (xB key sz xV) (.sl sz xV):=by
 cases xV with
 | nil=>simp [xB,vw]
 | cons e r=> simp only [xB,vw];refine⟨trivial,hs,by simp,⟨sz,e :: r⟩,?_,rfl,by simp,by simp,hp⟩;show St.look xZ key=_;rw [h]; rfl
namespace Ru
def pF (l:List (Nat × Nat)):List (List D):=l.map λp=>[.int .i64 (p.1:Int),.int .i64 (p.2:Int)]
theorem wM (l:List (Nat × Nat)):(pF l).length=l.length:=by simp [pF]
theorem lS (l:List (Nat × Nat)) {i:Nat} (h:i<l.length):(pF l).getD i [] = [.int .i64 ((l.getD i (0,0)).1:Int),.int .i64 ((l.getD i (0,0)).2:Int)]:=by simp [pF,List.getD,h]
theorem ry (l:List (Nat × Nat)):∀ e ∈ pF l,D.xR e=true:=by intro e he;simp only [pF,ζ] at he;obtain⟨r,_,rfl⟩:=he;rfl
theorem jO (l:List (Nat × Nat)):tW (pF l)= True:=eq_true (ry l)
theorem Xw (l:List (Nat × Nat)) (a b:Nat):pF l ++ [[.int .i64 (a:Int),.int .i64 (b:Int)]]=pF (l ++ [(a,b)]):=by simp [pF]
theorem WB : pF [] = []:=rfl
def rO (T n:Nat):List (Nat × Nat):=(List.range n).map λi=>(i / T,i % T)
theorem rV (T n:Nat):(rO T n).length=n:=by simp [rO]
theorem bu (T:Nat) {n i:Nat} (h:i<n):(rO T n).getD i (0,0)= (i / T,i % T):=by simp [rO,List.getD,h]
theorem Xv (T r t:Nat) (ht:t<T):rO T (r*T+(t+1))= rO T (r*T+t)++ [(r,t)]:=by
 rw [show r*T+(t+1)= (r*T+t)+ 1 by omega];unfold rO;rw [Al,Ac,List.map_singleton]
 have e1:(r*T+t)/ T=r:=by rw [As,Av (by omega),Au ht]; rfl
 have e2:(r*T+t) % T=t:=by rw [As,Nat.mul_add_mod,Nat.mod_eq_of_lt ht]
 rw [e1,e2]
def aC (s:tB):List (Nat × Nat):=if lY s≠0 then [] else rO s.ln.toNat (s.rs.length*s.ln.toNat)
structure Ok (s : tB) (A F T : Nat) : Prop where
 ag:s.ag=A
 fa:s.fa=F
 ln:s.ln=T
 hA:A<=4
 hF:F<=8
 hT:1<=T/\T<=16
 hR:1<=s.rs.length/\s.rs.length<=64
 hP:s.rs.length*T<=512
 loc:∀ r ∈ s.rs,r.loc.length=T
 nW:∀ r ∈ s.rs,r.nW.length=T
 row:∀ r ∈ s.rs,∀ l ∈ r.loc,l.length=A
 val:∀ r ∈ s.rs,∀ f ∈ r.nW,f >>> F=0#64
theorem XN {s:tB} (h:lY s=0):∃ A F T,Ok s A F T:=by
 unfold lY at h
 split at h
 ·cases h
 rename_i h1
 split at h
 ·cases h
 rename_i h2
 split at h
 ·cases h
 rename_i h3
 split at h
 ·cases h
 rename_i h4
 split at h
 ·cases h
 rename_i h5;obtain⟨A,hA⟩:=A7 (show 0<=s.ag by omega);obtain⟨F,hF⟩:=A7 (show 0<=s.fa by omega);obtain⟨T,hT⟩:=A7 (show 0<=s.ln by omega);have h4':∀ r ∈ s.rs,eF s r=false:=λr hr=>by simpa using κ.1 (by simpa using h4) r hr
 have h5':∀ r ∈ s.rs,ec s r=false:=λr hr=>by simpa using κ.1 (by simpa using h5) r hr
 have hb:∀ r ∈ s.rs,r.loc.length=T/\r.nW.length=T/\∀ l ∈ r.loc,l.length=A:=λr hr=>by have:=h4' r hr;simp only [eF,Bool.or_eq_false_iff,A4,decide_eq_true_eq,κ,hT,hA] at this;refine⟨by omega,by omega,λl hl=>?_⟩;have:=this.2 l hl;simp at this;omega
 refine⟨A,F,T,hA,hF,hT,by omega,by omega,by omega,by omega,?_,λr hr=>(hb r hr).1,λr hr=>(hb r hr).2.1,λr hr=>(hb r hr).2.2,λr hr f hf=>?_⟩
 ·have:((s.rs.length*T:Nat):Int)<=512:=by rw [Int.natCast_mul,<- hT]; omega
  omega
 ·have:=h5' r hr;simp only [ec,κ] at this;have:=this f hf;rw [hF,A8] at this;simpa using this
theorem On {s:tB} {A F T:Nat} (h:Ok s A F T) (hz:lY s=0):aC s=rO T (s.rs.length*T):=by unfold aC; rw [if_neg (by simpa using hz),h.ln,A8]
end Ru
theorem X0 (s:tB):yU prog 93 [s.d] (.sl 2 (pF (aC s))):=by
 have hD:s.d = .agg [.int .i64 s.ag,.int .i64 s.fa,.int .i64 s.ln,.sl 2 (zK s.rs)]:=rfl;have hC:=vg s;rw [hD] at hC ⊢;refine xY.xN mixed func93 Fz (by simp) λhf=>?_;simp only [simprocAttr,-ZA,↓zU,↓zD,zV,zT,zW]
 (repeat refine sd ?_)
 refine .go (cq hC) ?_;by_cases hz:lY s=0
 case neg=>
  have e:(lY s != 0)= true:=by simpa using hz
  rw [show aC s = [] by unfold aC; rw [if_pos hz]];simp only [simprocAttr,-ZA,↓zU,↓zD,zV,zT,zW,e];exact .drop (by simp) (by simp [vw,pF])
 have e:(lY s != 0)= false:=by simpa using hz
 obtain⟨A,F,T,ok⟩:=XN hz;rw [On ok hz];obtain⟨T1,T16⟩:=ok.hT;obtain⟨R1,R64⟩:=ok.hR;simp only [simprocAttr,-ZA,↓zU,↓zD,zV,zT,zW,e,ok.ln,ok.ag,ok.fa,wP]
 refine xP (λr:Nat=>[(12,.int .i64 r),(11,.int .i64 s.rs.length),(3,xB 1 2 (pF (rO T (r*T)))),(1,.ref 0 4 0 0)]) (λr=>⟨2,yZ 1 2 (pF (rO T (r*T)))++ [(0,⟨4,[[.int .i64 A,.int .i64 F,.int .i64 T,.sl 2 (zK s.rs)]]⟩)]⟩)
  (λr=>r<=s.rs.length) (λr=>s.rs.length-r) 0 (Aq _) ?_ ?_
 ·rw [Nat.zero_mul]
  (refine xT.tP [] [0] (by simp) (by simp) (by decide) ?_; simp only [yQ,zQ,simprocAttr,-ZA,exists_eq_left',ne_eq,zR,rO,Ak,χ,WB,wR,wS,υ])
 intro r hr;refine xM mixed ?_;by_cases hrl:r<s.rs.length
 case neg=>
  have hd:¬ ((r:Int)<(s.rs.length:Int)):=by omega
  rw [show r=s.rs.length by omega] at hd ⊢;simp only [simprocAttr,-ZA,↓zU,↓zD,zV,zT,zW,hd];exact .drop (by simp) (iO (by decide) (ry _) (by simp [St.look,fW,xA]))
 have hd:((r:Int)<(s.rs.length:Int)):=by omega
 simp only [simprocAttr,-ZA,↓zU,↓zD,zV,zT,zW,hd]
 refine xP (λt:Nat=>[(17,.int .i64 t),(16,.int .i64 T),(12,.int .i64 r),(11,.int .i64 s.rs.length),(4,.int .i64 r),(3,xB 1 2 (pF (rO T (r*T+t)))),(1,.ref 0 4 0 0)]) (λt=>⟨2,yZ 1 2 (pF (rO T (r*T+t)))++ [(0,⟨4,[[.int .i64 A,.int .i64 F,.int .i64 T,.sl 2 (zK s.rs)]]⟩)]⟩)
  (λt=>t<=T) (λt=>T-t) 0 (Aq _) ?_ ?_
 ·rw [Nat.add_zero]
  (refine xT.tP [] [1,0] (by simp) (by simp) (by decide) ?_; simp only [yQ,zQ,simprocAttr,-ZA,exists_eq_left',ne_eq,zR,jO])
 intro t ht;refine xM mixed ?_;by_cases htl:t<T
 case neg=>
  have hd2:¬ ((t:Int)<(T:Int)):=by omega
  have et:t=T:=by omega
  simp only [simprocAttr,-ZA,↓zU,↓zD,zV,zT,zW,hd2]
  (repeat refine sd ?_)
  refine⟨r+1,by omega,?_,by omega⟩;rw [show (r+1)* T=r*T+t by rw [Nat.add_mul,et]; omega]
  (refine xT.tP [] [1,0] (by simp) (by simp) (by decide) ?_; simp only [yQ,zQ,simprocAttr,-ZA,exists_eq_left',ne_eq,zR,jO])
  exact wrap_i64 (by omega)
 have hd2:((t:Int)<(T:Int)):=by omega
 have hlen:r*T+t<1024:=by
  have:r*T<=64*16-16:=by have:=Nat.mul_le_mul (show r<=63 by omega) T16;omega
  omega
 have hS:=Xv T r t htl;have hln:=rV T (r*T+t);have hw:IntKind.i64.wrap ((t:Int)+ 1)= ((t+1:Nat):Int):=wrap_i64 (by omega);generalize rO T (r*T+t)= l at hS hln;simp only [simprocAttr,-ZA,↓zU,↓zD,zV,zT,zW,hd2,wM,hln]
 (repeat refine sd ?_)
 refine⟨t+1,by omega,?_,by omega⟩;rw [hS,Xw]
 (refine xT.tP [(1,2)] [1,0] (by simp) (by simp) (by decide) ?_; simp only [yQ,zQ,simprocAttr,-ZA,exists_eq_left',ne_eq,zR,jO,hw])
end
section
namespace Ru
def yV (rs:List xC) (a:Nat) (p:Nat × Nat):Int:=((rs.getD p.1 uX).loc.getD p.2 []).getD a 0
def cA (rs:List xC) (p:Nat × Nat):BitVec 64:=(rs.getD p.1 uX).nW.getD p.2 0
def tO (rs:List xC) (l:List (Nat × Nat)) (f:Nat):Nat->BitVec 64
 | 0=>0#64
 | k+1=>tO rs l f k ||| (if (cA rs (l.getD k (0,0))).getLsbD f then 1#64 <<< k else 0#64)
def lF (rs:List xC) (l:List (Nat × Nat)) (a:Nat) (x:Int):Nat->BitVec 64
 | 0=>0#64
 | k+1=>lF rs l a x k ||| (if yV rs a (l.getD k (0,0))= x then 1#64 <<< k else 0#64)
def qE (rs:List xC) (l:List (Nat × Nat)) (F:Nat):List (BitVec 64):=(List.range F).map λf=>tO rs l f l.length
def uL (rs:List xC) (l:List (Nat × Nat)) (a:Nat):List (BitVec 64):=l.map λp=>lF rs l a (yV rs a p) l.length
def uY (rs:List xC) (l:List (Nat × Nat)) (A:Nat):List (List (BitVec 64)):=(List.range A).map (uL rs l)
def ez (rs:List xC) (l:List (Nat × Nat)) (A F:Nat):D:=.agg [.int .i64 (l.length:Int),.sl 1 (us (qE rs l F)),.sl 1 (rr (uY rs l A))]
structure jH (rs : List xC) (A F T : Nat) : Prop where
 hA:A<=4
 hF:F<=8
 hT:1<=T/\T<=16
 hR:1<=rs.length/\rs.length<=64
 hP:rs.length*T<=512
 loc:∀ r ∈ rs,r.loc.length=T
 nW:∀ r ∈ rs,r.nW.length=T
 row:∀ r ∈ rs,∀ l ∈ r.loc,l.length=A
 val:∀ r ∈ rs,∀ f ∈ r.nW,f >>> F=0#64
theorem Vt {s:tB} (h:lY s=0):∃ (A F T:Nat) (rs:List xC),s=⟨A,F,T,rs⟩/\ jH rs A F T:=by obtain⟨A,F,T,ok⟩:=XN h;obtain⟨ag,fa,ln,rs⟩:=s;obtain⟨h1,h2,h3,h4,h5,h6,h7,h8,h9,h10,h11,h12⟩:=ok;simp only at h1 h2 h3 h7 h8 h9 h10 h11 h12;subst h1 h2 h3;exact⟨A,F,T,rs,rfl,⟨h4,h5,h6,h7,h8,h9,h10,h11,h12⟩⟩
def NG (rs:List xC) (T:Nat) (l:List (Nat × Nat)):Prop:=∀ p ∈ l,p.1<rs.length/\p.2<T
theorem xq {rs:List xC} {T n:Nat} (hT:1<=T) (hn:n<=rs.length*T):NG rs T (rO T n):=λp hp=>by simp only [rO,ζ,ε] at hp;obtain⟨i,hi,rfl⟩:=hp;refine⟨(Nat.div_lt_iff_lt_mul (by omega)).2 (by omega),Nat.mod_lt _ (by omega)⟩
def sD (A F T:Nat) (rs:List xC):D:=.agg [.int .i64 (A:Int),.int .i64 (F:Int),.int .i64 (T:Int),.sl 2 (zK rs)]
def mU (u:List (Int × BitVec 64)):List (Int × D):=u.map λp=>(p.1,.int .u64 (ui p.2))
def YI (x:Int):List (Int × BitVec 64)->BitVec 64
 | []=>0#64
 | (k,v) :: r=>if x=k then v else YI x r
def s9 (x:Int) (v:BitVec 64):List (Int × BitVec 64)->List (Int × BitVec 64)
 | []=>[(x,v)]
 | (k,w) :: r=>if x=k then(x,v) :: r else(k,w) :: s9 x v r
theorem WM (x y:Int) (v:BitVec 64):∀ u,YI y (s9 x v u)= if y=x then v else YI y u
 | []=>by simp [s9,YI]
 | (k,w) :: r=>by
  unfold s9
  by_cases h:x=k
  ·rw [if_pos h];subst h
   by_cases e:y=x
   ·simp [YI,e]
   ·simp [YI,e]
  ·rw [if_neg h,YI,WM x y v r]
   by_cases e:y=k
   ·subst e;rw [if_pos rfl,if_neg (λe=>h e.symm)];simp [YI]
   ·rw [if_neg e];simp [YI,e]
theorem vA (x:Int):∀ (l:List (Int × D)) (i:Nat),wI x l i=(wI x l 0).map λp=>(p.1+i,p.2)
 | [],i=>rfl
 | (k,d) :: r,i=>by
  unfold wI
  by_cases h:x=k
  ·rw [if_pos h,if_pos h]; simp
  ·rw [if_neg h,if_neg h,vA x r (i+1),vA x r (0+1)]
   cases wI x r 0 with
   | none=>rfl
   | some p=>simp; omega
theorem bn (x:Int):∀ u,qC false (.int .u64 (ui 0#64)) (wI x (mU u) 0)= .int .u64 (ui (YI x u))
 | []=>rfl
 | (k,v) :: r=>by
  show qC false _ (wI x ((k,.int .u64 (ui v)) :: mU r) 0)= _;unfold wI YI
  by_cases h:x=k
  ·rw [if_pos h,if_pos h]; rfl
  ·rw [if_neg h,if_neg h,<- bn x r,vA]
   cases wI x (mU r) 0 with
   | none=>rfl
   | some p=>rfl
theorem Vo (x:Int) (v:BitVec 64):∀ u,eD (mU u) x (.int .u64 (ui v))= mU (s9 x v u)
 | []=>rfl
 | (k,w) :: r=>by
  have ih:=Vo x v r;show eD ((k,.int .u64 (ui w)) :: mU r) x _=_;unfold eD at ih ⊢;unfold wI s9
  by_cases h:x=k
  ·rw [if_pos h,if_pos h]; rfl
  ·rw [if_neg h,if_neg h,vA]
   cases hf:wI x (mU r) 0 with
   | none=>rw [hf] at ih; simp only [Ba] at ih ⊢; rw [τ,ih]; rfl
   | some p=>rw [hf] at ih; simp only [A9] at ih ⊢; rw [Ae,ih]; rfl
def uK (rs:List xC) (l:List (Nat × Nat)) (a:Nat):Nat->List (Int × BitVec 64)
 | 0=>[]
 | k+1=>s9 (yV rs a (l.getD k (0,0))) (YI (yV rs a (l.getD k (0,0))) (uK rs l a k) ||| 1#64 <<< k) (uK rs l a k)
theorem Y6 (rs:List xC) (l:List (Nat × Nat)) (a:Nat) (x:Int):∀ k,YI x (uK rs l a k)= lF rs l a x k
 | 0=>rfl
 | k+1=>by
  unfold uK lF;rw [WM,Y6 rs l a x k]
  by_cases e:x=yV rs a (l.getD k (0,0))
  ·rw [if_pos e,if_pos e.symm,<- e,Y6 rs l a x k]
  ·rw [if_neg e,if_neg (λh=>e h.symm),BitVec.or_zero]
end Ru
open Ru
theorem W4 {rs:List xC} {A F T:Nat} (ok:jH rs A F T) {a:Nat} (ha:a<A) {p:Nat × Nat} (hp:p.1<rs.length/\p.2<T):yU prog 94 [sD A F T rs,.int .i64 a,.agg [.int .i64 (p.1:Int),.int .i64 (p.2:Int)]] (.int .i64 (yV rs a p)):=by
 have hm:=xL (d:=uX) hp.1;have hg:=pL rs hp.1;have h1:=ok.loc _ hm;have h2:=ok.row _ hm _ (xL (d:=[]) (show p.2<(rs.getD p.1 uX).loc.length by omega));unfold yV sD;generalize rs.getD p.1 uX=r at hg h1 h2;have hg2:=pS r.loc (show p.2<r.loc.length by omega);generalize r.loc.getD p.2 []=x at hg2 h2;have hg3:=yP .i64 x (show a<x.length by omega);refine xY.xN mixed func94 Fy (by simp) λhf=>?_;simp only [simprocAttr,-ZA,↓zU,↓zD,zV,zT,zW,wP,hg,xC.row,wG,hg2,yO,hg3]
 (repeat refine sd ?_)
 exact .dv
end
open Ru
namespace Ru
def lD (F:Nat) (g h:Nat->BitVec 64) (i:Nat):List (BitVec 64):=(List.range F).map λf=>if f<i then g f else h f
theorem gG (F:Nat) (g h:Nat->BitVec 64) (i:Nat):(lD F g h i).length=F:=by simp [lD]
theorem yu (F:Nat) (g h:Nat->BitVec 64):lD F g h 0=(List.range F).map h:=by simp [lD]
theorem rk (F:Nat) (g h:Nat->BitVec 64) {i:Nat} (hi:F<=i):lD F g h i=(List.range F).map g:=by refine ν λf hf=>?_;rw [if_pos (by have:=ε.1 hf; omega)]
theorem rm {F:Nat} (g h:Nat->BitVec 64) {i:Nat} (hi:i<F):(lD F g h i).getD i 0=h i:=by simp [lD,List.getD,hi]
theorem rn (F:Nat) (g h:Nat->BitVec 64) (i:Nat):(lD F g h i).set i (g i)= lD F g h (i+1):=by
 refine ο (by simp [lD]) λk h1 h2=>?_;rw [Ai];simp only [lD,Aa,Af]
 by_cases e:i=k
 ·subst e; rw [if_pos rfl,if_pos (by omega)]
 ·rw [if_neg e]
  by_cases hk:k<i
  ·rw [if_pos hk,if_pos (by omega)]
  ·rw [if_neg hk,if_neg (by omega)]
theorem Vq (x:BitVec 64) (f w:Nat):(x >>> f &&& 1#64) <<< w=if x.getLsbD f then 1#64 <<< w else 0#64:=by
 rw [XK]
 split
 ·rfl
 ·exact BitVec.zero_shiftLeft _
theorem sb (u:List (Int × BitVec 64)):tW (uA .i64 (mU u))= True:=eq_true (ZN λp hp=>by simp only [mU,ζ] at hp;obtain⟨q,_,rfl⟩:=hp;rfl)
end Ru
theorem R8 {rs:List xC} {A F T:Nat} (ok:jH rs A F T) {l:List (Nat × Nat)} (hl:l.length<=64) (hin:NG rs T l):yU prog 89 [sD A F T rs,.sl 2 (pF l)] (ez rs l A F):=by
 have hA:=ok.hA;have hF:=ok.hF;have hloc:=λ(a:Nat) (ha:a<A) (p:Nat × Nat) (hp:p.1<rs.length/\p.2<T)=>W4 ok ha hp;unfold sD ez at *;refine xY.xN mixed func89 Ft (by simp) λhf=>?_
 have hz:List.replicate F [D.int .u64 (ui 0#64)]=us ((List.range F).map λf=>tO rs l f 0):=by simp only [tO,us,π];refine ο (by simp) λi h1 h2=>?_;simp
 simp only [simprocAttr,-ZA,↓zU,↓zD,zV,zT,zW,wM]
 (repeat refine sd ?_)
 refine xP (λw:Nat=>[(24,.int .i64 w),(23,.int .i64 l.length),(22,.sl 2 (pF l)),(5,.ref 3 3 0 0),(4,.ref 1 3 0 0),(2,.ref 0 4 0 0),(1,.sl 2 (pF l))])
  (λw=>⟨4,[(3,⟨3,[[.int .i64 l.length,.yM 2 1 F,.xO]]⟩),(2,⟨1,us ((List.range F).map λf=>tO rs l f w)⟩),(1,⟨3,[[.int .i64 0,.xO,.xO]]⟩),(0,⟨4,[[.int .i64 A,.int .i64 F,.int .i64 T,.sl 2 (zK rs)]]⟩)]⟩)
  (λw=>w<=l.length) (λw=>l.length-w) 0 (Aq _) ?_ ?_
 ·rw [<- hz]
  (refine xT.same ?_; simp [xS,Fr.get])
 intro w hw;refine xM mixed ?_
 by_cases hwl:w<l.length
 ·have hd:((w:Int)<(l.length:Int)):=by omega
  have hp:=hin _ (xL (d:=(0,0)) hwl);have hpg:=lS l hwl;have hv:∀ f,tO rs l f (w+1)= tO rs l f w ||| (if (cA rs (l.getD w (0,0))).getLsbD f then 1#64 <<< w else 0#64):=λf=>rfl;generalize l.getD w (0,0)= q at hp hpg hv;obtain⟨q1,q2⟩:=q;have hm:=xL (d:=uX) hp.1;have hg:=pL rs hp.1;have h1:=ok.nW _ hm;unfold cA at hv;simp only at hp hpg hv hm hg h1;generalize rs.getD q1 uX=r at hg h1 hv;have hg2:=vX r.nW (show q2<r.nW.length by omega);generalize r.nW.getD q2 0=x at hg2 hv;simp only [simprocAttr,-ZA,↓zU,↓zD,zV,zT,zW,hd,wM,hpg]
  (repeat refine sd ?_)
  refine xP (λi:Nat=>[(32,.int .i64 i),(31,.int .i64 F),(24,.int .i64 w),(23,.int .i64 l.length),(22,.sl 2 (pF l)),(7,.ref 4 2 0 0),(6,.int .i64 w),(5,.ref 3 3 0 0),(4,.ref 1 3 0 0),(2,.ref 0 4 0 0),(1,.sl 2 (pF l))])
   (λi=>⟨5,[(4,⟨2,[[.int .i64 q1,.int .i64 q2]]⟩),(3,⟨3,[[.int .i64 l.length,.yM 2 1 F,.xO]]⟩),(2,⟨1,us (lD F (λf=>tO rs l f (w+1)) (λf=>tO rs l f w) i)⟩),(1,⟨3,[[.int .i64 0,.xO,.xO]]⟩),(0,⟨4,[[.int .i64 A,.int .i64 F,.int .i64 T,.sl 2 (zK rs)]]⟩)]⟩)
   (λi=>i<=F) (λi=>F-i) 0 (Aq _) ?_ ?_
  ·rw [yu]
   (refine xT.same ?_; simp [xS,Fr.get])
  intro i hi;refine xM mixed ?_
  by_cases hil:i<F
  ·have hd2:((i:Int)<(F:Int)):=by omega
   have hmg:=vX (lD F (λf=>tO rs l f (w+1)) (λf=>tO rs l f w) i) (show i<_ by rw [gG]; exact hil);rw [rm _ _ hil] at hmg;have hms:=rn F (λf=>tO rs l f (w+1)) (λf=>tO rs l f w) i;simp only [hv i] at hms;have hml:=gG F (λf=>tO rs l f (w+1)) (λf=>tO rs l f w) i;generalize lD F (λf=>tO rs l f (w+1)) (λf=>tO rs l f w) i=M at hmg hms hml;simp only [simprocAttr,-ZA,↓zU,↓zD,zV,zT,zW,hd2,xI,hml,hmg,wP,hg,xC.row,h1,hg2,Vq,lA,hms]
   (repeat refine sd ?_)
   refine⟨i+1,by omega,?_,by omega⟩
   (refine xT.same ?_; simp only [xS,Fr.get,simprocAttr,-ZA,zS])
   exact wrap_i64 (by omega)
  ·have hd2:¬ ((i:Int)<(F:Int)):=by omega
   rw [rk _ _ _ (by omega:F<=i)];simp only [simprocAttr,-ZA,↓zU,↓zD,zV,zT,zW,hd2]
   (repeat refine sd ?_)
   refine⟨w+1,by omega,?_,by omega⟩
   (refine xT.tP [] [3,2,1,0] (by simp) (by simp) (by decide) ?_; simp only [yQ,zQ,simprocAttr,-ZA,exists_eq_left',ne_eq,zR,yJ])
   exact wrap_i64 (by omega)
 have hd:¬ ((w:Int)<(l.length:Int)):=by omega
 obtain rfl:w=l.length:=by omega
 rw [show ((List.range F).map λf=>tO rs l f l.length)= qE rs l F from rfl];simp only [simprocAttr,-ZA,↓zU,↓zD,zV,zT,zW,hd]
 refine xP (λa:Nat=>[(62,.int .i64 a),(61,.int .i64 A),(5,.ref 3 3 0 0),(4,.ref 1 3 0 0),(2,.ref 0 4 0 0),(1,.sl 2 (pF l))])
  (λa=>⟨5,yZ 4 1 (rr (uY rs l a))++ [(3,⟨3,[[.int .i64 l.length,.yM 2 1 F,xB 4 1 (rr (uY rs l a))]]⟩),(2,⟨1,us (qE rs l F)⟩),(1,⟨3,[[.int .i64 0,.xO,.xO]]⟩),(0,⟨4,[[.int .i64 A,.int .i64 F,.int .i64 T,.sl 2 (zK rs)]]⟩)]⟩)
  (λa=>a<=A) (λa=>A-a) 0 (Aq _) ?_ ?_
 ·(refine xT.tP [] [3,2,1,0] (by simp) (by simp) (by decide) ?_; simp only [yQ,zQ,simprocAttr,-ZA,exists_eq_left',ne_eq,zR,uY,Ak,χ,wR,wS,υ,yJ,show rr [] = [] from rfl])
 intro a ha;refine xM mixed ?_;by_cases hal:a<A
 case neg=>
  have hd2:¬ ((a:Int)<(A:Int)):=by omega
  rw [show a=A by omega];rw [show a=A by omega] at hd2;have hvl:(us (qE rs l F)).length=F:=by simp [us,qE]
  simp only [simprocAttr,-ZA,↓zU,↓zD,zV,zT,zW,hd2]
  (refine pC.tP [] [] (by simp) (by simp) (by decide) ?_; simp only [yQ,zQ,simprocAttr,-ZA,exists_eq_left',ne_eq,zR,yJ,uU])
  exact⟨λ_ h=>h.elim,by omega,(ξ (by omega)).symm,pP _⟩
 have hd2:((a:Int)<(A:Int)):=by omega
 have hrel:uY rs l (a+1)= uY rs l a ++ [uL rs l a]:=by unfold uY; rw [Al,Ac]; rfl
 generalize hRL:uY rs l a=RL at hrel;simp only [simprocAttr,-ZA,↓zU,↓zD,zV,zT,zW,hd2,wM]
 (repeat refine sd ?_)
 refine xP (λw:Nat=>[(68,.int .i64 w),(67,.int .i64 l.length),(66,.sl 2 (pF l)),(62,.int .i64 a),(61,.int .i64 A),(10,.yI 5),(9,.int .i64 a),(5,.ref 3 3 0 0),(4,.ref 1 3 0 0),(2,.ref 0 4 0 0),(1,.sl 2 (pF l))])
  (λw=>⟨6,(5,⟨0,uA .i64 (mU (uK rs l a w))⟩) :: (yZ 4 1 (rr RL)++ [(3,⟨3,[[.int .i64 l.length,.yM 2 1 F,xB 4 1 (rr RL)]]⟩),(2,⟨1,us (qE rs l F)⟩),(1,⟨3,[[.int .i64 0,.xO,.xO]]⟩),(0,⟨4,[[.int .i64 A,.int .i64 F,.int .i64 T,.sl 2 (zK rs)]]⟩)])⟩)
  (λw=>w<=l.length) (λw=>l.length-w) 0 (Aq _) ?_ ?_
 ·(refine xT.tP [] [5,4,3,2,1,0] (by simp) (by simp) (by decide) ?_; simp only [yQ,zQ,simprocAttr,-ZA,exists_eq_left',ne_eq,zR,uK,mU,χ,Qe,yJ,uU])
 intro w hw;refine xM mixed ?_
 by_cases hwl:w<l.length
 ·have hd3:((w:Int)<(l.length:Int)):=by omega
  have hp:=hin _ (xL (d:=(0,0)) hwl);have hpg:=lS l hwl;have hS:uK rs l a (w+1)= s9 (yV rs a (l.getD w (0,0))) (YI (yV rs a (l.getD w (0,0))) (uK rs l a w) ||| 1#64 <<< w) (uK rs l a w):=rfl;have hlc:=hloc a hal _ hp;generalize l.getD w (0,0)= q at hp hpg hS hlc;obtain⟨q1,q2⟩:=q;simp only at hpg hlc;generalize yV rs a (q1,q2)= x at hS hlc;generalize uK rs l a w=u at hS;simp only [simprocAttr,-ZA,↓zU,↓zD,zV,zT,zW,hd3,wM,hpg]
  (repeat refine sd ?_)
  refine .go (cr hlc) ?_;simp only [simprocAttr,-ZA,↓zU,↓zD,zV,zT,zW,bn,Vo]
  (repeat refine sd ?_)
  refine⟨w+1,by omega,?_,by omega⟩;rw [hS]
  (refine xT.tP [] [5,4,3,2,1,0] (by simp) (by simp) (by decide) ?_; simp only [yQ,zQ,simprocAttr,-ZA,exists_eq_left',ne_eq,zR,yJ,uU,sb])
  exact wrap_i64 (by omega)
 have hd3:¬ ((w:Int)<(l.length:Int)):=by omega
 obtain rfl:w=l.length:=by omega
 have hu:=λx=>Y6 rs l a x l.length;generalize uK rs l a l.length=u at hu;simp only [simprocAttr,-ZA,↓zU,↓zD,zV,zT,zW,hd3,wM]
 refine uZ (λw:Nat=>[(85,.int .i64 w),(84,.int .i64 l.length),(83,.sl 2 (pF l)),(62,.int .i64 a),(61,.int .i64 A),(13,xB 6 1 (us ((uL rs l a).take w))),(10,.yI 5),(9,.int .i64 a),(5,.ref 3 3 0 0),(4,.ref 1 3 0 0),(2,.ref 0 4 0 0),(1,.sl 2 (pF l))])
  (λw=>⟨7,yZ 6 1 (us ((uL rs l a).take w))++ ((5,⟨0,uA .i64 (mU u)⟩) :: (yZ 4 1 (rr RL)++ [(3,⟨3,[[.int .i64 l.length,.yM 2 1 F,xB 4 1 (rr RL)]]⟩),(2,⟨1,us (qE rs l F)⟩),(1,⟨3,[[.int .i64 0,.xO,.xO]]⟩),(0,⟨4,[[.int .i64 A,.int .i64 F,.int .i64 T,.sl 2 (zK rs)]]⟩)]))⟩)
  (λw=>w<=l.length) (λw=>l.length-w) 0 (Aq _) ?_ ?_
 ·(refine xT.tP [] [5,4,3,2,1,0] (by simp) (by simp) (by decide) ?_; simp only [yQ,zQ,simprocAttr,-ZA,exists_eq_left',ne_eq,zR,List.take_zero,ud,wR,wS,υ,yJ,uU,sb])
 intro w hw;refine xM mixed ?_;have hrl:=(show (uL rs l a).length=l.length by simp [uL])
 by_cases hwl:w<l.length
 ·have hd3:((w:Int)<(l.length:Int)):=by omega
  have hp:=hin _ (xL (d:=(0,0)) hwl);have hpg:=lS l hwl
  have hrg:(uL rs l a).take (w+1)= (uL rs l a).take w ++ [YI (yV rs a (l.getD w (0,0))) u]:=by rw [zA (d:=0#64) (by omega),hu];congr 1;simp [uL,List.getD,hwl]
  have hlc:=hloc a hal _ hp;generalize l.getD w (0,0)= q at hp hpg hrg hlc;obtain⟨q1,q2⟩:=q;simp only at hpg hlc;generalize yV rs a (q1,q2)= x at hrg hlc;have htl:((uL rs l a).take w).length=w:=by rw [Ah]; omega
  generalize (uL rs l a).take w=rw' at hrg htl;simp only [simprocAttr,-ZA,↓zU,↓zD,zV,zT,zW,hd3,wM,hpg]
  (repeat refine sd ?_)
  refine .go (cr hlc) ?_;simp only [simprocAttr,-ZA,↓zU,↓zD,zV,zT,zW,bn,xI,htl]
  (repeat refine sd ?_)
  refine⟨w+1,by omega,?_,by omega⟩;rw [hrg]
  (refine xT.tP [(6,8)] [6,5,4,3,2,1,0] (by simp) (by simp) (by decide) ?_; simp only [yQ,zQ,simprocAttr,-ZA,exists_eq_left',ne_eq,zR,yJ,uU,sb])
  exact wrap_i64 (by omega)
 have hd3:¬ ((w:Int)<(l.length:Int)):=by omega
 rw [show (uL rs l a).take w=uL rs l a by rw [show w=(uL rs l a).length by omega,ω]];simp only [simprocAttr,-ZA,↓zU,↓zD,zV,zT,zW,hd3]
 refine .go [(62,.int .i64 a),(61,.int .i64 A),(13,.sl 1 (us (uL rs l a))),(9,.int .i64 a),(5,.ref 3 3 0 0),(4,.ref 1 3 0 0),(2,.ref 0 4 0 0),(1,.sl 2 (pF l))]
  ⟨5,yZ 4 1 (rr RL)++ [(3,⟨3,[[.int .i64 l.length,.yM 2 1 F,xB 4 1 (rr RL)]]⟩),(2,⟨1,us (qE rs l F)⟩),(1,⟨3,[[.int .i64 0,.xO,.xO]]⟩),(0,⟨4,[[.int .i64 A,.int .i64 F,.int .i64 T,.sl 2 (zK rs)]]⟩)]⟩ ?_ ?_
 ·(refine xT.tP [] [4,3,2,1,0] (by simp) (by simp) (by decide) ?_; simp only [yQ,zQ,simprocAttr,-ZA,exists_eq_left',ne_eq,zR,yJ,uU])
 have hRLl:RL.length=a:=by rw [<- hRL]; simp [uY]
 simp only [simprocAttr,-ZA,↓zU,↓zD,zV,zT,zW,zE,hRLl]
 (repeat refine sd ?_)
 refine⟨a+1,by omega,?_,by omega⟩;rw [hrel]
 (refine xT.tP [(4,6)] [4,3,2,1,0] (by simp) (by simp) (by decide) ?_; simp only [yQ,zQ,simprocAttr,-ZA,exists_eq_left',ne_eq,zR,yJ,uU])
 exact wrap_i64 (by omega)
end Go.Pd

/- Part S7. -/
namespace Go.Pd
open Go Go.Proofs
open BitVec renaming isValue -> ZA
namespace Ru
structure tZ where
 W:Int
 V:List (BitVec 64)
 R:List (List (BitVec 64))
def tZ.d (m:tZ):D:=.agg [.int .i64 m.W,.sl 1 (us m.V),.sl 1 (rr m.R)]
def sL (n:Nat):BitVec 64:=if 64<=n then 18446744073709551615#64 else 1#64 <<< n-1#64
def eH (n:Nat) (x:BitVec 64):Bool:=!decide (x &&& ~~~(sL n)= 0#64)
structure lW (m : tZ) (W : Nat) : Prop where
 w:m.W=W
 hW:1<=W/\W<=64
 hV:m.V.length<=8
 hR:m.R.length<=4
 row:∀ r ∈ m.R,r.length=W
 val:∀ x ∈ m.V,eH W x=false
 rel:∀ r ∈ m.R,∀ x ∈ r,eH W x=false
theorem oG {n:Nat} (hn:n<=64) {i:Nat} (hi:i<64):(sL n).getLsbD i=decide (i<n):=by
 unfold sL
 by_cases h:64<=n
 ·rw [if_pos h,show 18446744073709551615#64=BitVec.allOnes 64 from rfl,BitVec.getLsbD_allOnes];simp [hi]; omega
 ·rw [if_neg h];have:∀ n,n<64->∀ i,i<64->(1#64 <<< n-1#64).getLsbD i=decide (i<n):=by decide
  exact this n (by omega) i hi
theorem bq {n:Nat} (hn:n<=64) {x:BitVec 64} (h:∀ i,x.getLsbD i=true->i<n):eH n x=false:=by
 unfold eH;rw [A4,decide_eq_true_iff];refine BitVec.eq_of_getLsbD_eq λi hi=>?_;rw [BitVec.getLsbD_and,BitVec.getLsbD_not,oG hn hi,BitVec.getLsbD_zero]
 cases hx:x.getLsbD i
 ·rfl
 ·simp [h i hx]
end Ru
open Ru
theorem O9 {σ:St} {g:FuncId} {caps:List D} {f:List (BitVec 64)->Bool} {l:List (List (BitVec 64))} (hl:l.length<=1000) (h:∀ x ∈ l,xY prog g ([.sl 1 (us x)]++caps) σ (.bool (f x)) σ):xY prog 199 [.sl 1 (rr l),.fn g caps] σ (.int .i64 (fQ f l 0)) σ:=by
 refine xY.xN mixed func199 J6 (by simp) λhf=>?_;simp only [simprocAttr,-ZA,↓zU,↓zD,zV,zT,zW,zE]
 refine xP (λk:Nat=>[(8,.int .i64 k),(7,.int .i64 l.length),(1,.fn g caps),(0,.sl 1 (rr l))]) (λ_=>σ) (λk=>k<=l.length/\fQ f l 0=fQ f (l.drop k) k) (λk=>l.length-k) 0 ⟨Aq _,rfl⟩ ?_ ?_
 ·(refine xT.same ?_; simp [xS,Fr.get])
 intro k ⟨hk,hi⟩;refine xM mixed ?_
 by_cases hh:k<l.length
 ·have hd:((k:Int)<(l.length:Int)):=by omega
  rw [drop_cons (d:=[]) hh,fQ] at hi;simp only [simprocAttr,-ZA,↓zU,↓zD,zV,zT,zW,hd,zE,nC _ hh]
  (repeat refine sd ?_)
  refine .go (h _ (xL hh)) ?_
  cases hx:f (l.getD k [])
  ·rw [hx,if_neg (by simp)] at hi;simp only [simprocAttr,-ZA,↓zU,↓zD,zV,zT,zW];refine⟨k+1,⟨by omega,hi⟩,?_,by omega⟩
   (refine xT.same ?_; simp only [xS,Fr.get,simprocAttr,-ZA,zS])
   exact wrap_i64 (by omega)
  ·rw [hx,if_pos rfl] at hi;simp only [simprocAttr,-ZA,↓zU,↓zD,zV,zT,zW];rw [hi];exact .same
 ·have hd:¬ ((k:Int)<(l.length:Int)):=by omega
  rw [List.drop_eq_nil_of_le (by omega),fQ] at hi;simp only [simprocAttr,-ZA,↓zU,↓zD,zV,zT,zW,hd];rw [hi];exact .same
theorem Wv {σ:St} {g:FuncId} {caps:List D} {f:List (BitVec 64)->Bool} {l:List (List (BitVec 64))} (hl:l.length<=1000) (h:∀ x ∈ l,xY prog g ([.sl 1 (us x)]++caps) σ (.bool (f x)) σ):xY prog 139 [.sl 1 (rr l),.fn g caps] σ (.bool (l.any f)) σ:=by
 refine xY.xN mixed func139 Ia (by simp) λhf=>?_;simp only [simprocAttr,-ZA,↓zU,↓zD,zV,zT,zW];refine .go (O9 hl h) ?_;have hx:=fF (f:=f) (c:=l) (i:=0) (Int.le_refl 0)
 cases ha:l.any f
 ·have h1:¬ 0<=fQ f l 0:=λy=>by rw [hx.1 y] at ha; cases ha
  simp only [simprocAttr,-ZA,↓zU,↓zD,zV,zT,zW,h1];exact .same
 ·have h1:=hx.2 ha;simp only [simprocAttr,-ZA,↓zU,↓zD,zV,zT,zW,h1];exact .same
theorem Jp (n:Nat):yU prog 198 [.int .i64 n] (.int .u64 (ui (sL n))):=by
 refine xY.xN mixed func198 J5 (by simp) λhf=>?_;unfold sL
 by_cases h:64<=n
 ·have e:(64:Int)<=(n:Int):=by omega
  rw [if_pos h];simp only [simprocAttr,-ZA,↓zU,↓zD,zV,zT,zW,e];exact .same
 ·have e:¬ (64:Int)<=(n:Int):=by omega
  rw [if_neg h];simp only [simprocAttr,-ZA,↓zU,↓zD,zV,zT,zW,e]
  (repeat refine sd ?_)
  exact .same
theorem KE {n nx:Nat} {xZ:List (Nat × Ob)} {k:Nat} (h0:St.look xZ k=some ⟨1,[[.int .i64 n]]⟩) (x:BitVec 64):xY prog 197 ([.int .u64 (ui x)] ++ [.ref k 1 0 0]) ⟨nx,xZ⟩ (.bool (eH n x)) ⟨nx,xZ⟩:=by
 refine xY.xN mixed func197 J4 (by simp) λhf=>?_;simp only [simprocAttr,-ZA,↓zU,↓zD,zV,zT,zW,h0]
 (repeat refine sd ?_)
 refine .go (cq (Jp n)) ?_;simp only [simprocAttr,-ZA,↓zU,↓zD,zV,zT,zW];rw [show (x &&& ~~~(sL n) != 0#64)= eH n x by unfold eH; rw [bne]; congr 1];exact .same
theorem jc {l:List (BitVec 64)} (hl:l.length<=1000) (n:Nat):yU prog 138 [.sl 1 (us l),.int .i64 n] (.bool (l.any (eH n))):=by refine xY.xN mixed func138 IX (by simp) λhf=>?_;simp only [simprocAttr,-ZA,↓zU,↓zD,zV,zT,zW];refine .go (cJ (caps:=[.ref 0 1 0 0]) hl λx _=>KE rfl x) ?_;simp only [simprocAttr,-ZA,↓zU,↓zD,zV,zT,zW];exact .dv
theorem Jw {m:tZ} {W:Nat} (hw:m.W=W) {nx:Nat} {xZ:List (Nat × Ob)} (h0:St.look xZ 0=some ⟨3,[[.int .i64 m.W,.sl 1 (us m.V),.sl 1 (rr m.R)]]⟩) {x:List (BitVec 64)} (hx:x.length<=1000):xY prog 140 ([.sl 1 (us x)] ++ [.ref 0 3 0 0]) ⟨nx,xZ⟩ (.bool (x.any (eH W))) ⟨nx,xZ⟩:=by
 refine xY.xN mixed func140 Ib (by simp) λhf=>?_;simp only [simprocAttr,-ZA,↓zU,↓zD,zV,zT,zW,h0,hw]
 (repeat refine sd ?_)
 refine .go (cr (jc hx W)) ?_;simp only [simprocAttr,-ZA,↓zU,↓zD,zV,zT,zW];exact .same
theorem cP {m:tZ} {W:Nat} (ok:lW m W):yU prog 90 [m.d] (.int .i64 0):=by
 obtain⟨W1,W64⟩:=ok.hW;have h1:¬ (W:Int)<1:=by omega
 have h2:¬ (64:Int)<(W:Int):=by omega
 have h3:¬ (4:Int)<(m.R.length:Int):=by have:=ok.hR; omega
 have h4:¬ (8:Int)<(m.V.length:Int):=by have:=ok.hV; omega
 have hv:m.V.any (eH W)= false:=κ.2 λx hx=>by rw [ok.val x hx]; simp
 have hr:m.R.any (λx=>x.any (eH W))= false:=κ.2 λx hx=>by rw [κ.2 λy hy=>by rw [ok.rel x hx y hy]; simp]; simp
 have ho:=jc (l:=m.V) (by have:=ok.hV; omega) W;have hc:=Wv (σ:=⟨1,[(0,⟨3,[[.int .i64 m.W,.sl 1 (us m.V),.sl 1 (rr m.R)]]⟩)]⟩) (g:=140) (caps:=[.ref 0 3 0 0]) (f:=λx=>x.any (eH W)) (l:=m.R) (by have:=ok.hR; omega) λx hx=>Jw ok.w rfl (by rw [ok.row x hx]; omega);rw [hv] at ho;rw [hr,ok.w] at hc;unfold tZ.d;refine xY.xN mixed func90 Fu (by simp) λhf=>?_;simp only [simprocAttr,-ZA,↓zU,↓zD,zV,zT,zW,ok.w,h1,h2,zE,xI,h3,h4]
 refine xP (λk:Nat=>[(26,.int .i64 k),(25,.int .i64 m.R.length),(24,.sl 1 (rr m.R)),(1,.ref 0 3 0 0)]) (λ_=>⟨1,[(0,⟨3,[[.int .i64 W,.sl 1 (us m.V),.sl 1 (rr m.R)]]⟩)]⟩)
  (λk=>k<=m.R.length) (λk=>m.R.length-k) 0 (Aq _) ?_ ?_
 ·(refine xT.same ?_; simp [xS,Fr.get])
 intro k hk;refine xM mixed ?_
 by_cases h:k<m.R.length
 ·have hd:((k:Int)<(m.R.length:Int)):=by omega
  have hrw:=ok.row _ (xL (d:=[]) h);have hg:=nC m.R h;generalize m.R.getD k []=r at hrw hg;have e:((r.length:Int) != (W:Int))= false:=by rw [hrw]; simp
  simp only [simprocAttr,-ZA,↓zU,↓zD,zV,zT,zW,hd,zE,hg,xI,e]
  (repeat refine sd ?_)
  refine⟨k+1,by omega,?_,by omega⟩
  (refine xT.same ?_; simp only [xS,Fr.get,simprocAttr,-ZA,zS])
  exact wrap_i64 (by omega)
 ·have hd:¬ ((k:Int)<(m.R.length:Int)):=by omega
  simp only [simprocAttr,-ZA,↓zU,↓zD,zV,zT,zW,hd];refine .go (cr ho) ?_;simp only [simprocAttr,-ZA,↓zU,↓zD,zV,zT,zW];refine .go hc ?_;simp only [simprocAttr,-ZA,↓zU,↓zD,zV,zT,zW];exact .dv
open Ru
theorem Lf (s:BitVec 64):tY .xor .u64 (if IntKind.u64.signed=true then -1 else IntKind.u64.max) (ui s)= ui (~~~s):=by rw [if_neg (by decide),show IntKind.u64.max=ui (BitVec.allOnes 64) by decide +kernel,Sr];congr 1
theorem WC (n:Nat):yU prog 251 [.int .i64 n] (.int .u64 (ui (sL n))):=by
 refine xY.xN mixed func251 JR (by simp) λhf=>?_;unfold sL
 by_cases h:64<=n
 ·have e:(64:Int)<=(n:Int):=by omega
  rw [if_pos h];simp only [simprocAttr,-ZA,↓zU,↓zD,zV,zT,zW,e];exact .same
 ·have e:¬ (64:Int)<=(n:Int):=by omega
  rw [if_neg h];simp only [simprocAttr,-ZA,↓zU,↓zD,zV,zT,zW,e]
  (repeat refine sd ?_)
  exact .same
namespace Ru
structure jv (r : List (BitVec 64)) : Prop where
 len:r.length<=64
 ins:∀ x ∈ r,eH r.length x=false
def xz (r:List (BitVec 64)) (s:BitVec 64):Nat->BitVec 64
 | 0=>0#64
 | w+1=>if (r.getD w 0 &&& ~~~s==0#64)= true then xz r s w ||| 1#64 <<< w else xz r s w
def gV (r:List (BitVec 64)) (s:BitVec 64):BitVec 64:=xz r s r.length
def VQ (r:List (BitVec 64)) (s:BitVec 64):BitVec 64:=sL r.length &&& ~~~(gV r (~~~s))
end Ru
theorem zd {r:List (BitVec 64)} (ok:jv r):yU prog 250 [.int .i64 r.length,.sl 1 (us r)] (.int .i64 0):=by
 have h1:¬ ((r.length:Int)<0):=by omega
 have h2:¬ ((64:Int)<(r.length:Int)):=by have:=ok.len; omega
 have h3:((r.length:Int) != (r.length:Int))= false:=by simp
 have ha:=WC r.length;refine xY.xN mixed func250 JQ (by simp) λhf=>?_;simp only [simprocAttr,-ZA,↓zU,↓zD,zV,zT,zW,xI,h1,h2,h3]
 refine xP (λk:Nat=>[(19,.int .i64 k),(18,.int .i64 r.length),(17,.sl 1 (us r)),(0,.int .i64 r.length)]) (λ_=>⟨0,[]⟩) (λk=>k<=r.length) (λk=>r.length-k) 0 (Aq _) ?_ ?_
 ·(refine xT.same ?_; simp [xS,Fr.get])
 intro k hk;refine xM mixed ?_
 by_cases h:k<r.length
 ·have hd:((k:Int)<(r.length:Int)):=by omega
  have hx:=ok.ins _ (xL (d:=0) h)
  have e:(r.getD k 0 &&& ~~~(sL r.length) != 0#64)= false:=by have:=hx;unfold eH at this;rw [bne];simpa using this
  have hg:=vX r h;simp only [simprocAttr,-ZA,↓zU,↓zD,zV,zT,zW,hd,xI,hg]
  (repeat refine sd ?_)
  refine .go (cq ha) ?_;simp only [simprocAttr,-ZA,↓zU,↓zD,zV,zT,zW,e]
  (repeat refine sd ?_)
  refine⟨k+1,by omega,?_,by omega⟩
  (refine xT.same ?_; simp only [xS,Fr.get,simprocAttr,-ZA,zS])
  exact wrap_i64 (by omega)
 ·have hd:¬ ((k:Int)<(r.length:Int)):=by omega
  simp only [simprocAttr,-ZA,↓zU,↓zD,zV,zT,zW,hd];exact .same
theorem tj {r:List (BitVec 64)} (ok:jv r) (s:BitVec 64):yU prog 214 [.sl 1 (us r),.int .u64 (ui s)] (.int .u64 (ui (gV r s))):=by
 have hc:=zd ok;have hl:=ok.len;refine xY.xN mixed func214 JE (by simp) λhf=>?_;simp only [simprocAttr,-ZA,↓zU,↓zD,zV,zT,zW,xI];refine .go (cr hc) ?_;simp only [simprocAttr,-ZA,↓zU,↓zD,zV,zT,zW,xI]
 refine xP (λk:Nat=>[(14,.int .i64 k),(13,.int .i64 r.length),(5,.int .u64 (ui (xz r s k))),(1,.int .u64 (ui s)),(0,.sl 1 (us r))]) (λ_=>⟨0,[]⟩) (λk=>k<=r.length) (λk=>r.length-k) 0 (Aq _) ?_ ?_
 ·(refine xT.same ?_; simp [xS,Fr.get])
  rfl
 intro k hk;refine xM mixed ?_
 by_cases h:k<r.length
 ·have hd:((k:Int)<(r.length:Int)):=by omega
  have hg:=vX r h;have hs:xz r s (k+1)= if (r.getD k 0 &&& ~~~s==0#64)= true then xz r s k ||| 1#64 <<< k else xz r s k:=rfl
  cases e:(r.getD k 0 &&& ~~~s==0#64) with
  | true=>
   rw [e,if_pos rfl] at hs;simp only [simprocAttr,-ZA,↓zU,↓zD,zV,zT,zW,hd,xI,hg,e]
   (repeat refine sd ?_)
   refine⟨k+1,by omega,?_,by omega⟩;rw [hs]
   (refine xT.same ?_; simp only [xS,Fr.get,simprocAttr,-ZA,zS])
   exact wrap_i64 (by omega)
  | false=>
   rw [e,if_neg (by simp)] at hs;simp only [simprocAttr,-ZA,↓zU,↓zD,zV,zT,zW,hd,xI,hg,e]
   (repeat refine sd ?_)
   refine⟨k+1,by omega,?_,by omega⟩;rw [hs]
   (refine xT.same ?_; simp only [xS,Fr.get,simprocAttr,-ZA,zS])
   exact wrap_i64 (by omega)
 ·have hd:¬ ((k:Int)<(r.length:Int)):=by omega
  have hk':k=r.length:=by omega
  subst hk';simp only [simprocAttr,-ZA,↓zU,↓zD,zV,zT,zW,hd];exact .same
theorem Wg {r:List (BitVec 64)} (ok:jv r) (s:BitVec 64):yU prog 215 [.sl 1 (us r),.int .u64 (ui s)] (.int .u64 (ui (VQ r s))):=by have hc:=zd ok;have ha:=WC r.length;have hb:=tj ok (~~~s);refine xY.xN mixed func215 JF (by simp) λhf=>?_;simp only [simprocAttr,-ZA,↓zU,↓zD,zV,zT,zW,xI];refine .go (cr hc) ?_;simp only [simprocAttr,-ZA,↓zU,↓zD,zV,zT,zW,xI];refine .go (cq ha) ?_;simp only [simprocAttr,-ZA,↓zU,↓zD,zV,zT,zW,Lf];refine .go (cr hb) ?_;simp only [simprocAttr,-ZA,↓zU,↓zD,zV,zT,zW];exact .drop (by simp) (by simp [vw,VQ])
section
open Rs Fm Ru
namespace Te
def aI (l:List Bool):List (List D):=l.map λb=>[.bool b]
def tD (R T:Nat) (φ:Nat × Nat->Bool):List (List D):=(List.range R).map λi=>[.sl 1 (aI ((List.range T).map λt=>φ (i,t)))]
def nj (T:Nat) (kr:Nat->Nat) (r i:Nat):List D:=if i<r then [.yM (kr i) 1 T] else [.xO]
def pV (R T:Nat) (kr:Nat->Nat) (r:Nat):List (List D):=(List.range R).map (nj T kr r)
theorem jh (R T:Nat) (kr:Nat->Nat) (r:Nat):(pV R T kr r).length=R:=by simp [pV]
theorem Uq {R T:Nat} {kr:Nat->Nat} {r i:Nat} (hi:i<R) (h:i<r):(pV R T kr r).getD i [] = [.yM (kr i) 1 T]:=by simp [pV,nj,List.getD,hi,h]
theorem Ur {R T:Nat} {kr:Nat->Nat} {i:Nat} (hi:i<R):(pV R T kr i).getD i [] = [.xO]:=by simp [pV,nj,List.getD,hi]
theorem Us {R T:Nat} {kr:Nat->Nat} {r n:Nat}:(pV R T kr r).set r [.yM n 1 T]=pV R T (λi=>if i=r then n else kr i) (r+1):=by
 refine ο (by simp [pV]) λk h1 h2=>?_;rw [Ai];simp only [pV,Aa,Af,nj]
 by_cases e:r=k
 ·subst e; rw [if_pos rfl,if_pos (by omega),if_pos rfl]
 ·rw [if_neg e]
  by_cases hk:k<r
  ·rw [if_pos hk,if_pos (by omega),if_neg (by omega)]
  ·rw [if_neg hk,if_neg (by omega)]
theorem Zd (R T:Nat) (kr:Nat->Nat):pV R T kr 0=List.replicate R [.xO]:=by refine ο (by simp [pV]) λk h1 h2=>by simp [pV,nj]
structure TI (R T nb r : Nat) (kr : Nat -> Nat) (v : Nat -> Nat -> Bool) (nx : Nat) (objs0 xZ : List (Nat × Ob)) : Prop where
 n1:nb<nx
 sO:∀ k,k<nb->St.look xZ k=St.look objs0 k
 lo:St.look xZ nb=some ⟨1,pV R T kr r⟩
 lr:∀ i,i<r->nb<kr i/\kr i<nx/\St.look xZ (kr i)= some ⟨1,aI ((List.range T).map (v i))⟩
 dr:∀ i j,i<r->j<r->kr i=kr j->i=j
theorem TI.row {R T nb r:Nat} {kr:Nat->Nat} {v:Nat->Nat->Bool} {nx nx' n:Nat} {objs0 xZ objs':List (Nat × Ob)} (h:TI R T nb r kr v nx objs0 xZ) (hn:nx<=n/\n<nx')
  (hs:∀ k,k<nx->k≠nb->St.look objs' k=St.look xZ k) (ho:St.look objs' nb=some ⟨1,pV R T (λi=>if i=r then n else kr i) (r+1)⟩) (hx:St.look objs' n=some ⟨1,aI ((List.range T).map (v r))⟩) :
  TI R T nb (r+1) (λi=>if i=r then n else kr i) v nx' objs0 objs':=by
 have n1:=h.n1
 refine⟨by omega,λk hk=>by rw [hs k (by omega) (by omega),h.sO k hk],ho,λi hi=>?_,λi j hi hj e=>?_⟩
 ·by_cases e:i=r
  ·subst e; simp only [if_true]; exact⟨by omega,hn.2,hx⟩
  ·simp only [if_neg e];obtain⟨a,b,c⟩:=h.lr i (by omega);exact⟨a,by omega,by rw [hs _ b (by omega)]; exact c⟩
 ·by_cases ei:i=r <;> by_cases ej:j=r
  ·omega
  ·subst ei; simp only [if_true,if_neg ej] at e;have:=h.lr j (by omega); omega
  ·subst ej; simp only [if_true,if_neg ei] at e;have:=h.lr i (by omega); omega
  ·simp only [if_neg ei,if_neg ej] at e;exact h.dr i j (by omega) (by omega) e
theorem TI.Jg {R T nb r:Nat} {kr:Nat->Nat} {v v':Nat->Nat->Bool} {nx nx':Nat} {objs0 xZ objs':List (Nat × Ob)} (h:TI R T nb r kr v nx objs0 xZ) (hn:nx<=nx') {i:Nat} (hi:i<r)
  (hv:∀ j t,j<r->t<T->j≠i->v j t=v' j t) (hs:∀ k,k<nx->k≠kr i->St.look objs' k=St.look xZ k) (hx:St.look objs' (kr i)= some ⟨1,aI ((List.range T).map (v' i))⟩):TI R T nb r kr v' nx' objs0 objs':=by
 have n1:=h.n1;obtain⟨q1,q2,q3⟩:=h.lr i hi;refine⟨by omega,λk hk=>by rw [hs k (by omega) (by omega),h.sO k hk],by rw [hs nb n1 (by omega)]; exact h.lo,λj hj=>?_,h.dr⟩;obtain⟨a,b,c⟩:=h.lr j hj;refine⟨a,by omega,?_⟩
 by_cases e:j=i
 ·subst e; exact hx
 ·rw [hs _ b (λe2=>e (h.dr j i hj hi e2)),c];congr 3;exact ν λt ht=>hv j t hj (ε.1 ht) e
end Te
end
section
open Rs Fm Ru Te
mutual
theorem Zl {n m:Nat} (hm:n<=m):∀ {d:D},d.under n->d.under m
 | .top,_ | .tF,_ | .int _ _,_ | .bool _,_ | .str _,_ | .sl _ _,_ | .xO,_ | .emp,_ | .ptr _,_ | .oM,_ | .qY,_ | .sP,_ | .aG _,_=>by simp only [D.under]
 | .agg cs,h=>by simp only [D.under] at h ⊢; exact qK hm h
 | .wK cs,h=>by simp only [D.under] at h ⊢; exact qK hm h
 | .fn _ cs,h=>by simp only [D.under] at h ⊢; exact qK hm h
 | .ref _ _ _ _,h=>by simp only [D.under] at h ⊢; omega
 | .yM _ _ _,h=>by simp only [D.under] at h ⊢; omega
 | .sub _ _ _ _,h=>by simp only [D.under] at h ⊢; omega
 | .yI _,h=>by simp only [D.under] at h ⊢; omega
theorem qK {n m:Nat} (hm:n<=m):∀ {cs:List D},D.vK n cs->D.vK m cs
 | [],_=>by simp only [D.vK]
 | d :: r,h=>by simp only [D.vK] at h ⊢; exact⟨Zl hm h.1,qK hm h.2⟩
end
theorem oQ {σ σ':St} {ρ:Nat->Nat} {α:Type} {f g:α->List D}:∀ {l:List α},(∀ i ∈ l,(f i).length=(g i).length/\vI σ σ' ρ (f i) (g i))->u6 σ σ' ρ (l.map f) (l.map g)
 | [],_=>.nil
 | x :: l,h=>.cons (h x (by simp)).1 (h x (by simp)).2 (oQ λi hi=>h i (γ _ hi))
mutual
theorem MT {σ σ':St} {ρ:Nat->Nat} {n:Nat} (hn:n<=σ'.nx) (hρ:∀ k,k<n->ρ k=k):∀ {d:D},d.under n->vw σ σ' ρ d d
 | .top,_=>by simp only [vw]
 | .tF,_=>by simp only [vw]
 | .int _ _,_=>by simp only [vw]
 | .bool _,_=>by simp only [vw]
 | .str _,_=>by simp only [vw]
 | .sl _ _,_=>by simp only [vw]; exact⟨trivial,trivial⟩
 | .xO,_=>by simp only [vw]
 | .emp,_=>by simp only [vw]
 | .agg cs,h=>by simp only [vw]; simp only [D.under] at h; exact⟨trivial,bO hn hρ h⟩
 | .wK cs,h=>by simp only [vw]; simp only [D.under] at h; exact⟨trivial,bO hn hρ h⟩
 | .fn _ cs,h=>by simp only [vw]; simp only [D.under] at h; exact⟨trivial,trivial,bO hn hρ h⟩
 | .ref _ _ _ _,h=>by simp only [vw]; simp only [D.under] at h; rw [hρ _ h]; exact⟨by omega,rfl⟩
 | .yM _ _ _,h=>by simp only [vw]; simp only [D.under] at h; rw [hρ _ h]; exact⟨by omega,rfl⟩
 | .sub _ _ _ _,h=>by simp only [vw]; simp only [D.under] at h; rw [hρ _ h]; exact⟨by omega,rfl⟩
 | .ptr _,_=>by simp only [vw]; exact .inl trivial
 | .yI _,h=>by simp only [vw]; simp only [D.under] at h; rw [hρ _ h]; exact⟨by omega,rfl⟩
 | .oM,_=>by simp only [vw]
 | .qY,_=>by simp only [vw]
 | .sP,_=>by simp only [vw]
 | .aG _,_=>by simp only [vw]
theorem bO {σ σ':St} {ρ:Nat->Nat} {n:Nat} (hn:n<=σ'.nx) (hρ:∀ k,k<n->ρ k=k):∀ {cs:List D},D.vK n cs->vI σ σ' ρ cs cs
 | [],_=>by simp only [vI]
 | d :: r,h=>by simp only [vI]; simp only [D.vK] at h; exact⟨MT hn hρ h.1,bO hn hρ h.2⟩
end
theorem WR {σ σ':St} {ρ:Nat->Nat} {n:Nat} (hn:n<=σ'.nx) (hρ:∀ k,k<n->ρ k=k):∀ {xV:List (List D)},(∀ e ∈ xV,D.vK n e)->u6 σ σ' ρ xV xV
 | [],_=>.nil
 | e :: r,h=>.cons rfl (bO hn hρ (h e (by simp))) (WR hn hρ λx hx=>h x (γ _ hx))
namespace Te
def aB (nx R T:Nat) (φ:Nat × Nat->Bool):List (Nat × Ob):=(nx,⟨1,(List.range R).map λi=>[.yM (nx+1+i) 1 T]⟩) :: (List.range R).map λi=>(nx+1+i,⟨1,aI ((List.range T).map λt=>φ (i,t))⟩)
theorem mQ : ∀ {a b:List (Nat × Ob)} {k:Nat},St.look (a++b) k=(St.look a k).or (St.look b k)
 | [],_,_=>rfl
 | (j,o) :: r,b,k=>by
  rw [τ,xX,xX]
  by_cases e:j=k
  ·rw [if_pos e,if_pos e]; rfl
  ·rw [if_neg e,if_neg e,mQ]
theorem wx {c:Nat} {f:Nat->Ob} {k:Nat}:∀ {l:List Nat},(k ∈ l->St.look (l.map λi=>(c+i,f i)) (c+k)= some (f k))/\ (k ∉ l->St.look (l.map λi=>(c+i,f i)) (c+k)= none)
 | []=>⟨λh=>(by cases h),λ_=>rfl⟩
 | j :: l=>by
  have ih:=wx (c:=c) (f:=f) (k:=k) (l:=l);rw [μ,xX]
  by_cases e:j=k
  ·subst e; rw [if_pos rfl]; exact⟨λ_=>rfl,λh=>absurd (by simp) h⟩
  ·rw [if_neg (by omega)];refine⟨λh=>ih.1 ?_,λh=>ih.2 λh2=>h (γ _ h2)⟩
   rcases δ.1 h with h | h
   ·exact absurd h.symm e
   ·exact h
theorem iB {c:Nat} {f:Nat->Ob} {k:Nat} (h:k<c):∀ {l:List Nat},St.look (l.map λi=>(c+i,f i)) k=none
 | []=>rfl
 | j :: l=>by rw [μ,xX,if_neg (by omega)]; exact iB h
theorem R0 {nx R T k:Nat} {φ:Nat × Nat->Bool} (h:k<nx):St.look (aB nx R T φ) k=none:=by unfold aB;rw [xX,if_neg (by omega)];exact iB (by omega)
theorem R2 {nx R T i:Nat} {φ:Nat × Nat->Bool} (h:i<R):St.look (aB nx R T φ) (nx+1+i)= some ⟨1,aI ((List.range T).map λt=>φ (i,t))⟩:=by unfold aB;rw [xX,if_neg (by omega)];exact(wx (f:=λi=>⟨1,aI ((List.range T).map λt=>φ (i,t))⟩)).1 (ε.2 h)
theorem R3 {nx R T:Nat} {φ:Nat × Nat->Bool}:St.look (aB nx R T φ) nx=some ⟨1,(List.range R).map λi=>[.yM (nx+1+i) 1 T]⟩:=by unfold aB; rw [xX,if_pos rfl]
theorem TI.start {nx R T:Nat} {φ:Nat × Nat->Bool} {xZ:List (Nat × Ob)}:TI R T nx R (λi=>nx+1+i) (λi t=>φ (i,t)) (nx+1+R) xZ (aB nx R T φ++xZ):=by refine⟨by omega,λk hk=>by rw [mQ,R0 hk]; rfl,?_,λi hi=>⟨by omega,by omega,by rw [mQ,R2 hi]; rfl⟩,λi j _ _ e=>by omega⟩;rw [mQ,R3];show some _=_;congr 2;exact ν λi hi=>by unfold nj; rw [if_pos (ε.1 hi)]
end Te
theorem xY.alike {P:Program} {g:FuncId} {args:List D} {σ:St} {d:D} {nx:Nat} {xZ objs':List (Nat × Ob)} (hl:∀ k,St.look xZ k=St.look objs' k) (h:xY P g args σ d ⟨nx,objs'⟩):xY P g args σ d ⟨nx,xZ⟩:=by
 refine⟨h.ord,λM0 w ι vals hS hl' hv=>(h.run M0 w ι vals hS hl' hv).mono λe w' hh=>?_⟩;obtain⟨v,ι',h1,h2,h3,h4,h5,h6,h7⟩:=hh;have hg:∀ k,St.get ⟨nx,xZ⟩ k=St.get ⟨nx,objs'⟩ k:=λk=>hl k
 have hM:yG M0 ι' ⟨nx,xZ⟩= yG M0 ι' ⟨nx,objs'⟩:=by funext b;unfold yG;simp only [hg]
 refine⟨v,ι',h1,h2,⟨h3.sO,λk o hk=>?_,λk k' o o' a b=>?_,λk o hk=>?_,?_⟩,h4,h5,λk o hk=>h6 k o (by rw [<- hg]; exact hk),by rw [hM]; exact h7⟩
 ·rw [hM]; exact h3.holds k o (by rw [<- hg]; exact hk)
 ·exact h3.inj k k' o o' (by rw [<- hg]; exact a) (by rw [<- hg]; exact b)
 ·exact h3.notM k o (by rw [<- hg]; exact hk)
 ·rw [hM]; exact h3.pE
theorem Nu {P:Program} {g:FuncId} {args:List D} {nx nx2 R T:Nat} {xZ objs2:List (Nat × Ob)} {kr:Nat->Nat} {φ:Nat × Nat->Bool} (hR:1<=R) (ho:tJ P g) (hT:TI R T nx R kr (λi t=>φ (i,t)) nx2 xZ objs2)
  (h:xY P g args ⟨nx,xZ⟩ (.yM nx 1 R) ⟨nx2,objs2⟩):xY P g args ⟨nx,xZ⟩ (.sl 1 (tD R T φ)) ⟨nx,xZ⟩:=by
 refine xY.gS ho λhu=>xY.clean ?_;have n1:=hT.n1
 have h1:xY P g args ⟨nx,xZ⟩ (.yM nx 1 R) ⟨nx2,(nx,⟨1,tD R T φ⟩) :: YG xZ⟩:=by
  refine xY.ret h (.inr ⟨λk=>k,by show nx<=nx2; omega,λ_ _=>rfl,?_,?_,λp _ q _ e=>e⟩)
  ·simp only [vw]; exact⟨by omega,trivial⟩
  ·intro p hp
   rcases δ.1 hp with rfl | hp
   ·refine⟨by show nx<nx2; omega,_,hT.lo,rfl,?_⟩;refine oQ λi hi=>⟨by unfold nj; split <;> rfl,?_⟩;have hi':=ε.1 hi;obtain⟨b1,b2,b3⟩:=hT.lr i hi';unfold nj;rw [if_pos hi'];simp only [vI,vw,and_true]
    refine⟨trivial,by decide,λq hq=>?_,_,b3,rfl,by simp [aI],?_,?_⟩
    ·rcases δ.1 hq with rfl | hq
     ·show nx≠kr i; omega
     ·have:=(hu q.1 q.2 (iY hq)).1;simp only at this;omega
    ·rw [ξ (by simp [aI])]
    ·intro e he;simp only [aI,ζ] at he;obtain⟨b,_,rfl⟩:=he;rfl
   ·have hl:=iY hp;obtain⟨u1,u2⟩:=hu p.1 p.2 hl;simp only at u1 u2;refine⟨by show p.1<nx2; omega,p.2,?_,rfl,bB λe he=>qK (by show nx<=nx2; omega) (u2 e he)⟩;show St.look objs2 p.1=_;rw [hT.sO p.1 u1]; exact hl
 refine xY.ret h1 (.gone hu (λk o hk=>?_) ?_)
 ·have:=(hu k o hk).1;simp only at this;show St.look (_ :: _) k=_;rw [xX,if_neg (by omega),aT]; exact hk
 ·simp only [vw]
  refine⟨trivial,by decide,λq hq=>?_,_,by rw [Se,xX,if_pos rfl],rfl,by simp [tD],(pM (show R=(tD R T φ).length by simp [tD])).symm,?_⟩
  ·have:=(hu q.1 q.2 (iY hq)).1;simp only at this;omega
  ·intro e he;simp only [tD,ζ] at he;obtain⟨b,_,rfl⟩:=he;rfl
theorem Nq {nx kc:Nat} {xZ:List (Nat × Ob)} {rs:List xC} {A F T:Nat} {same:D} {g:FuncId} {caps:List D} {φ:Nat × Nat->Bool} (ok:jH rs A F T)
  (hc:St.look xZ kc=some ⟨6,[[.int .i64 (A:Int),.int .i64 (F:Int),.int .i64 (T:Int),.sl 2 (zK rs),.sl 2 (pF (rO T (rs.length*T))),same]]⟩)
  (hcl:∀ nx1 objs1 i t,nx<=nx1->(∀ k,k<nx->St.look objs1 k=St.look xZ k)->i<rs.length->t<T->xY prog g ([.agg [.int .i64 (i:Int),.int .i64 (t:Int)]]++caps) ⟨nx1,objs1⟩ (.bool (φ (i,t))) ⟨nx1,objs1⟩) :
  xY prog 153 [.ref kc 6 0 0,.fn g caps] ⟨nx,xZ⟩ (.yM nx 1 rs.length) ⟨nx+1+rs.length,aB nx rs.length T φ++xZ⟩:=by
 obtain⟨T1,T16⟩:=ok.hT;obtain⟨R1,R64⟩:=ok.hR;refine xY.gS ⟨_,func153,by kernel_rfl,by kernel_rfl⟩ λhu=>xY.alike (objs':=aB nx rs.length T φ++YG xZ) (λk=>by rw [mQ,mQ,aT]) ?_;have hkc:=(hu kc _ hc).1;simp only at hkc;refine xY.xN mixed func153 Io (by simp) λhf=>?_;have x1:¬ nx=kc:=by omega
 simp only [simprocAttr,-ZA,↓zU,↓zD,zV,zT,zW,hc,x1,wP]
 (repeat refine sd ?_)
 refine xP (λa:Nat × Nat × List (Nat × Ob)=>[(18,.int .i64 a.1),(17,.int .i64 rs.length),(5,.yM nx 1 rs.length),(1,.fn g caps),(0,.ref kc 6 0 0)]) (λa=>⟨a.2.1,a.2.2⟩)
  (λa=>a.1<=rs.length/\a.2.1<=nx+1+a.1/\∃ kr,TI rs.length T nx a.1 kr (λ_ _=>false) a.2.1 xZ a.2.2) (λa=>rs.length-a.1) (0,nx+1,(nx,⟨1,List.replicate rs.length [.xO]⟩) :: xZ) ⟨Aq _,by simp,λ_=>0,?_⟩ ?_ ?_
 ·refine⟨by simp only; omega,λk hk=>by simp only; rw [xX,if_neg (by omega)],?_,λi h=>absurd h (Ax _),λi j h=>absurd h (Ax _)⟩;rw [Zd]; simp only; rw [xX,if_pos rfl]
 ·(refine xT.same ?_; simp [xS,Fr.get])
 intro ⟨r,nx1,objs1⟩ ⟨hr,hn1,kr,hT⟩;simp only at hr hn1 hT ⊢;refine xM mixed ?_
 by_cases hrl:r<rs.length
 ·have hd:((r:Int)<(rs.length:Int)):=by omega
  have n1:=hT.n1;have hc1:St.look objs1 kc=_:=(hT.sO kc hkc).trans hc;have lo:=hT.lo;have y1:¬ nx1=kc:=by omega
  have y2:¬ nx1=nx:=by omega
  simp only [simprocAttr,-ZA,↓zU,↓zD,zV,zT,zW,hd,hc1,lo,y1,y2,jh]
  (repeat refine sd ?_)
  have hset:(pV rs.length T kr r).set r (((pV rs.length T kr r).getD r []).set 0 (D.yM nx1 1 T))= pV rs.length T (λi=>if i=r then nx1 else kr i) (r+1):=by rw [Ur hrl]; exact Us
  rw [hset];refine⟨(r+1,?zna,?zoa),?ze1,?ze2,by show rs.length-(r+1)<rs.length-r; omega⟩
  case ze2=>
   (refine xT.same ?_; simp only [xS,Fr.get,simprocAttr,-ZA,zS])
   exact wrap_i64 (by omega)
  case ze1=>
   refine⟨by show r+1<=rs.length; omega,by show nx1+1<=nx+1+(r+1); omega,_,hT.row (n:=nx1) ⟨Ar _,Aw _⟩ (λk hk hk2=>?_) ?_ ?_⟩
   ·show St.look (_ :: _) _=_;rw [xX,if_neg (by omega),xU,if_neg (by omega)]
   ·show St.look (_ :: _) _=_;rw [xX,if_neg (by omega),xU,if_pos rfl,lo]; rfl
   ·show St.look (_ :: _) _=_;rw [xX,if_pos rfl];congr 2;exact(ο (by simp [aI]) λk h1 h2=>by simp [aI])
 have hd:¬ ((r:Int)<(rs.length:Int)):=by omega
 obtain rfl:rs.length=r:=by omega
 have n1:=hT.n1;have hc1:St.look objs1 kc=_:=(hT.sO kc hkc).trans hc;have hin:NG rs T (rO T (rs.length*T)):=xq T1 (Ar _);have hln:=rV T (rs.length*T);have hlg:∀ w,w<rs.length*T->(rO T (rs.length*T)).getD w (0,0)= (w / T,w % T):=λw h=>bu T h;have hRT:=ok.hP;generalize rO T (rs.length*T)= l at hc hc1 hin hln hlg;simp only [simprocAttr,-ZA,↓zU,↓zD,zV,zT,zW,hd,hc1,wM]
 refine uZ (λa:Nat × Nat × List (Nat × Ob)=>[(36,.int .i64 a.1),(35,.int .i64 l.length),(34,.sl 2 (pF l)),(5,.yM nx 1 rs.length),(1,.fn g caps)]) (λa=>⟨a.2.1,a.2.2⟩)
  (λa=>a.1<=l.length/\a.2.1<=nx1+a.1/\nx1<=a.2.1/\∃ kr,TI rs.length T nx rs.length kr (λi t=>decide (i*T+t<a.1)&& φ (i,t)) a.2.1 xZ a.2.2) (λa=>l.length-a.1) (0,nx1,objs1) ⟨Aq _,by simp,Ar _,kr,?_⟩ ?_ ?_
 ·have:(λi t=>decide (i*T+t<0)&& φ (i,t))= λ_ _=>false:=by funext i t; simp
  rw [this]; exact hT
 ·(refine xT.same ?_; simp [xS,Fr.get])
 clear hT hc1 n1;intro ⟨w,nx2,objs2⟩ ⟨hw,hn2,hn3,kr,hT⟩;simp only at hw hn2 hn3 hT ⊢;have n1:=hT.n1;refine xM mixed ?_
 by_cases hwl:w<l.length
 ·have hd3:((w:Int)<(l.length:Int)):=by omega
  have hp:=hin _ (xL (d:=(0,0)) hwl);have hpg:=lS l hwl;have hpe:=hlg w (by omega);have hwe:(w / T)* T+w % T=w:=by rw [As]; exact Nat.div_add_mod w T
  rw [hpe] at hp hpg;generalize w / T=i at hp hpg hwe;generalize w % T=t at hp hpg hwe;simp only at hp hpg;obtain⟨hp1,hp2⟩:=hp;obtain⟨a1,a2,a3⟩:=hT.lr i hp1;have lo:=hT.lo;have hrow:=Uq (T:=T) (kr:=kr) hp1 hp1;have hk1:=hcl (nx2+1) ((nx2,⟨2,[[.int .i64 i,.int .i64 t]]⟩) :: objs2) i t (by omega) (λk hk=>by rw [xX,if_neg (by omega),hT.sO k hk]) hp1 hp2;simp only [τ,υ] at hk1;have y1:¬ nx2=nx:=by omega
  have y2:¬ nx2=kr i:=by omega
  have hrl:∀ v:List Bool,(aI v).length=v.length:=λv=>by simp [aI]
  simp only [simprocAttr,-ZA,↓zU,↓zD,zV,zT,zW,hd3,wM,hpg,lo,a3,hrow,jh,hrl,An,Ag,y1,y2]
  (repeat refine sd ?_)
  refine .go hk1 ?_;simp only [simprocAttr,-ZA,↓zU,↓zD,zV,zT,zW,a3,y1,y2,hrl,An,Ag]
  (repeat refine sd ?_)
  have hset:(aI (List.map (λt=>decide (i*T+t<w)&& φ (i,t)) (List.range T))).set t (((aI (List.map (λt=>decide (i*T+t<w)&& φ (i,t)) (List.range T))).getD t []).set 0 (D.bool (φ (i,t))))= aI (List.map (λt=>decide (i*T+t<w+1)&& φ (i,t)) (List.range T)):=by
   have hg:(aI (List.map (λt=>decide (i*T+t<w)&& φ (i,t)) (List.range T))).getD t [] = [.bool (decide (i*T+t<w)&& φ (i,t))]:=by simp [aI,List.getD,hp2]
   rw [hg];refine ο (by simp [aI]) λk h1 h2=>?_;rw [Ai]
   by_cases e:t=k
   ·subst e;rw [if_pos rfl];simp [aI,hwe]
   ·rw [if_neg e]
    have:decide (i*T+k<w)= decide (i*T+k<w+1):=by rw [A3,decide_eq_true_iff,decide_eq_true_iff]; omega
    simp only [aI,Aa,Af,this]
  rw [hset];refine⟨(w+1,?znb,?zob),?zg1,?zg2,by show l.length-(w+1)<l.length-w; omega⟩
  case zg2=>
   (refine xT.same ?_; simp only [xS,Fr.get,simprocAttr,-ZA,zS])
   exact wrap_i64 (by omega)
  case zg1=>
   refine⟨by show w+1<=l.length; omega,by show nx2+1<=nx1+(w+1); omega,by show nx1<=nx2+1; omega,kr,hT.Jg (Az _) hp1 (λj u hj hu hne=>?_) (λk hk hk2=>?_) ?_⟩
   ·have hne':j*T+u≠w:=λe=>hne (by
     have h1:(j*T+u)/ T=j:=by rw [As,Av (by omega),Au hu]; rfl
     have h2:(i*T+t)/ T=i:=by rw [As,Av (by omega),Au hp2]; rfl
     rw [e] at h1;rw [hwe] at h2;omega)
    have:decide (j*T+u<w)= decide (j*T+u<w+1):=by rw [A3,decide_eq_true_iff,decide_eq_true_iff]; omega
    simp only [this]
   ·show St.look (_ :: _) _=_;rw [xX,if_neg (by omega),xU,if_neg (λe=>hk2 e.symm)]
   ·show St.look (_ :: _) _=_;rw [xX,if_neg (by omega),xU,if_pos rfl,a3]; rfl
 have hd3:¬ ((w:Int)<(l.length:Int)):=by omega
 have hv:∀ i t,i<rs.length->t<T->(decide (i*T+t<w)&& φ (i,t))= φ (i,t):=λi t hi ht=>by have:=Ay T (show i+1<=rs.length from hi);rw [Nat.succ_mul] at this;rw [decide_eq_true (by omega)]; rfl
 simp only [simprocAttr,-ZA,↓zU,↓zD,zV,zT,zW,hd3];refine .yD ?_;simp only [simprocAttr,-ZA,↓zU,↓zD,zV,zT,zW];have hlow:∀ k,k<nx->(if nx+1<=k/\k<nx+1+rs.length then kr (k-(nx+1)) else k)= k:=λk hk=>if_neg (by omega)
 refine .inr ⟨λk=>if nx+1<=k/\k<nx+1+rs.length then kr (k-(nx+1)) else k,by show nx<=nx+1+rs.length; omega,hlow,?_,?_,?_⟩
 ·simp only [vw];exact⟨by omega,by rw [if_neg (by omega)]⟩
 ·intro p hp
  rcases θ.1 hp with hp | hp
  ·unfold aB at hp
   rcases δ.1 hp with rfl | hp
   ·refine⟨by show nx<nx+1+rs.length; omega,⟨1,pV rs.length T kr rs.length⟩,?_,rfl,oQ λi hi=>⟨?_,?_⟩⟩
    ·show St.look objs2 (if _ then _ else _)= _;rw [if_neg (by simp only; omega)]; exact hT.lo
    ·unfold nj; split <;> rfl
    ·have hi':=ε.1 hi;unfold nj;rw [if_pos hi'];simp only [vI,vw,and_true];refine⟨by omega,?_⟩;rw [if_pos (by omega),show nx+1+i-(nx+1)= i by omega]
   ·simp only [ζ,ε] at hp;obtain⟨i,hi,rfl⟩:=hp;obtain⟨b1,b2,b3⟩:=hT.lr i hi
    refine⟨by show nx+1+i<nx+1+rs.length; omega,_,?_,rfl,.same ?_⟩
    ·show St.look objs2 (if _ then _ else _)= _;rw [if_pos (by simp only; omega),show nx+1+i-(nx+1)= i by omega,b3];congr 3;exact ν λt ht=>hv i t hi (ε.1 ht)
    ·intro e he;simp only [aI,ζ] at he;obtain⟨b,_,rfl⟩:=he;rfl
  ·have hl:=iY hp;obtain⟨u1,u2⟩:=hu p.1 p.2 hl;simp only at u1 u2
   refine⟨by show p.1<nx+1+rs.length; omega,p.2,?_,rfl,?_⟩
   ·show St.look objs2 (if _ then _ else _)= _;rw [hlow p.1 u1,hT.sO p.1 u1]; exact hl
   ·have hself:∀ xV:List (List D),(∀ e ∈ xV,D.vK nx e)->u6 ⟨nx2,objs2⟩ ⟨nx+1+rs.length,aB nx rs.length T φ++YG xZ⟩ (λk=>if nx+1<=k/\k<nx+1+rs.length then kr (k-(nx+1)) else k) xV xV:=λxV he=>WR (n:=nx) (by show nx<=nx+1+rs.length; omega) hlow he;exact hself _ u2
 ·intro p hp q hq e
  have hin:∀ p ∈ aB nx rs.length T φ++YG xZ,p.1<nx+1+rs.length:=λp hp=>by
   rcases θ.1 hp with hp | hp
   ·unfold aB at hp
    rcases δ.1 hp with rfl | hp
    ·show nx<_; omega
    ·simp only [ζ,ε] at hp;obtain⟨i,hi,rfl⟩:=hp;show nx+1+i<_; omega
   ·have:=(hu p.1 p.2 (iY hp)).1;simp only at this;omega
  have h1:=hin p hp;have h2:=hin q hq;simp only at e
  split at e <;> split at e
  ·have:=hT.dr _ _ (by omega) (by omega) e;omega
  ·have:=(hT.lr (p.1-(nx+1)) (by omega)).1;omega
  ·have:=(hT.lr (q.1-(nx+1)) (by omega)).1;omega
  ·exact e
theorem Sa {nx kc:Nat} {xZ:List (Nat × Ob)} {rs:List xC} {A F T:Nat} {same:D} {g:FuncId} {caps:List D} {φ:Nat × Nat->Bool} (ok:jH rs A F T)
  (hc:St.look xZ kc=some ⟨6,[[.int .i64 (A:Int),.int .i64 (F:Int),.int .i64 (T:Int),.sl 2 (zK rs),.sl 2 (pF (rO T (rs.length*T))),same]]⟩)
  (hcl:∀ nx1 objs1 i t,nx<=nx1->(∀ k,k<nx->St.look objs1 k=St.look xZ k)->i<rs.length->t<T->xY prog g ([.agg [.int .i64 (i:Int),.int .i64 (t:Int)]]++caps) ⟨nx1,objs1⟩ (.bool (φ (i,t))) ⟨nx1,objs1⟩) :
  xY prog 153 [.ref kc 6 0 0,.fn g caps] ⟨nx,xZ⟩ (.sl 1 (tD rs.length T φ)) ⟨nx,xZ⟩:=
 Nu (ok.hR.1) ⟨_,func153,by kernel_rfl,by kernel_rfl⟩ (TI.start (xZ:=xZ)) (Nq ok hc hcl)
end
section
open Rs Fm Ru Te
end
section
open Rs Fm Ru Te
namespace Te
theorem mW (R T:Nat) (φ:Nat × Nat->Bool):(tD R T φ).length=R:=by simp [tD]
theorem sq {R T:Nat} {φ:Nat × Nat->Bool} {i:Nat} (h:i<R):(tD R T φ).getD i [] = [.sl 1 (aI ((List.range T).map λt=>φ (i,t)))]:=by simp [tD,List.getD,h]
theorem bw {T i t:Nat} {φ:Nat × Nat->Bool} (h:t<T):(aI ((List.range T).map λt=>φ (i,t))).getD t [] = [.bool (φ (i,t))]:=by simp [aI,List.getD,h]
theorem fJ (l:List Bool):(aI l).length=l.length:=by simp [aI]
end Te
end
section
open Rs Fm Ru Te
namespace Te
def GK (T:Nat) (s:Int) (φ:Nat × Nat->Bool) (p:Nat × Nat):Bool:=decide (0<=(p.2:Int)+ s)&& (decide ((p.2:Int)+ s<T)&& φ (p.1,((p.2:Int)+ s).toNat))
end Te
end
section
open Rs Fm Ru Te
end
section
open Rs Fm Ru
namespace Te
abbrev nI :=Nat × Nat->Bool
section
variable (rs : List xC) (A T : Nat)
def wD : List (Nat × Nat):=rO T (rs.length*T)
def nE (a:Nat) (x:nI) (p:Nat × Nat):Bool:=(wD rs T).all λq=>!decide (yV rs a q=yV rs a p) || x q
def mY (g:Nat) (x:nI) (p:Nat × Nat):Bool:=(List.range A).all λa=>!g.testBit a || nE rs T a x p
def PX (g:Nat) (p q:Nat × Nat):Bool:=(List.range A).all λa=>!g.testBit a || decide (yV rs a p=yV rs a q)
def N4 (g:Nat) (x:nI) (p:Nat × Nat):Bool:=(wD rs T).all λq=>!PX rs A g p q || x q
def TD (g:Nat) (x y now:nI):nI:=mY rs A T g λq=>!x q || (y q&&now q)
def lX (g:Nat) (x y:nI):Nat->nI
 | 0=>λ_=>true
 | n+1=>TD rs A T g x y (lX g x y n)
def aw (g:Nat) (x y:nI):nI:=lX rs A T g x y (rs.length*T)
end
def GM (T:Nat) (s:Int) (k:Nat):Nat:=if 0<s then T-1-k else k
def Ku (T:Nat) (s:Int) (x y:nI) (i:Nat):Nat->Bool
 | 0=>false
 | k+1=>y (i,GM T s k) || (x (i,GM T s k)&& Ku T s x y i k)
def Kw (T:Nat) (s:Int) (x y:nI) (p:Nat × Nat):Bool:=Ku T s x y p.1 (if 0<s then T-p.2 else p.2+1)
def bR (rs:List xC) (n:Nd) (x y:nI) (p:Nat × Nat):Bool:=
 if n.op=1 then true else if n.op=3 then(cA rs p).getLsbD n.i.toNat else if n.op=4 then !x p else if n.op=5 then x p&&y p else if n.op=6 then x p || y p
 else if n.op=7 then !x p || y p else if n.op=8 then x p==y p else false
def rG (rs:List xC) (A T:Nat) (n:Nd) (x y:nI):nI:=
 if n.op=9 then nE rs T n.i.toNat x else if n.op=10 then λp=>!nE rs T n.i.toNat (λq=>!x q) p else if n.op=11 then mY rs A T n.g.toNat x
 else if n.op=12 then N4 rs A T n.g.toNat x else if n.op=13 then aw rs A T n.g.toNat x y else if n.op=18 then GK T 1 x else if n.op=20 then GK T (-1) x
 else if n.op=19 then Kw T 1 x y else if n.op=21 then Kw T (-1) x y else bR rs n x y
def wC (rs:List xC) (A T:Nat) (f:List Nd):Nat->List nI
 | 0=>[]
 | k+1=>wC rs A T f k ++ [rG rs A T (f.getD k wA) ((wC rs A T f k).getD (f.getD k wA).x.toNat λ_=>false) ((wC rs A T f k).getD (f.getD k wA).y.toNat λ_=>false)]
theorem xh (rs:List xC) (A T:Nat) (f:List Nd):∀ k,(wC rs A T f k).length=k
 | 0=>rfl
 | k+1=>by simp [wC,xh rs A T f k]
section
variable {rs : List xC} {A T : Nat}
theorem aq {α:Type} {l:List α} {f g:α->Bool} (h:∀ q ∈ l,f q=g q):l.all f=l.all g:=by
 induction l with
 | nil=>rfl
 | cons a r ih=>rw [List.all_cons,List.all_cons,h a (by simp),ih λq hq=>h q (γ _ hq)]
theorem Yi {a:Nat} {x y:nI} {p:Nat × Nat} (h:∀ q ∈ wD rs T,x q=y q):nE rs T a x p=nE rs T a y p:=aq λq hq=>by rw [h q hq]
theorem v8 {g:Nat} {x y:nI} {p:Nat × Nat} (h:∀ q ∈ wD rs T,x q=y q):mY rs A T g x p=mY rs A T g y p:=aq λa _=>by rw [Yi h]
theorem Ys {g:Nat} {x y n m:nI} {p:Nat × Nat} (h:∀ q ∈ wD rs T,n q=m q):TD rs A T g x y n p=TD rs A T g x y m p:=v8 λq hq=>by rw [h q hq]
theorem Yd {g:Nat} {x y:nI} {p:Nat × Nat} (h:∀ q ∈ wD rs T,x q=true->y q=true) (hp:mY rs A T g x p=true):mY rs A T g y p=true:=by
 unfold mY nE at hp ⊢;simp only [Aj,A0] at hp ⊢;intro a ha
 rcases hp a ha with h1 | h1
 ·exact .inl h1
 ·refine .inr λq hq=>?_
  rcases h1 q hq with h2 | h2
  ·exact .inl h2
  ·exact .inr (h q hq h2)
theorem gf (g:Nat) (x y:nI):∀ (n:Nat) (p:Nat × Nat),lX rs A T g x y (n+1) p=true->lX rs A T g x y n p=true
 | 0,_,_=>rfl
 | n+1,p,h=>Yd (λq _ hq=>by
   simp only [A0,A6] at hq ⊢
   rcases hq with h1 | ⟨h1,h2⟩
   ·exact .inl h1
   ·exact .inr ⟨h1,gf g x y n q h2⟩) h
theorem yf {g:Nat} {x y:nI} {n:Nat} (h:∀ p ∈ wD rs T,lX rs A T g x y (n+1) p=lX rs A T g x y n p):∀ (m:Nat) (p:Nat × Nat),p ∈ wD rs T->lX rs A T g x y (n+m) p=lX rs A T g x y n p
 | 0,_,_=>rfl
 | m+1,p,hp=>by rw [<- h p hp];exact Ys λq hq=>yf h m q hq
theorem countP_le {α:Type} {f g:α->Bool}:∀ {l:List α},(∀ q ∈ l,f q=true->g q=true)->l.countP f<=l.countP g
 | [],_=>by simp
 | a :: r,h=>by
  have ih:=countP_le (l:=r) λq hq=>h q (γ _ hq);rw [Ab,Ab];have:=h a (by simp)
  by_cases e:f a=true
  ·rw [if_pos e,if_pos (this e)]; omega
  ·rw [if_neg e]; omega
theorem wo {α:Type} {f g:α->Bool}:∀ {l:List α},(∀ q ∈ l,f q=true->g q=true)->(∃ q ∈ l,f q≠g q)->l.countP f<l.countP g
 | [],_,h=>by obtain⟨q,hq,_⟩:=h; cases hq
 | a :: r,h,⟨q,hq,hne⟩=>by
  have h':∀ q ∈ r,f q=true->g q=true:=λq hq=>h q (γ _ hq);have ih:=countP_le h';rw [Ab,Ab];have ha:=h a (by simp)
  by_cases e2:f a=g a
  ·have hr:∃ q ∈ r,f q≠g q:=by
    rcases δ.1 hq with e | e
    ·subst e; exact absurd e2 hne
    ·exact⟨q,e,hne⟩
   have:=wo h' hr;rw [e2]; omega
  ·have h1:f a=false:=by cases e3:f a with
    | false=>rfl
    | true=>exact absurd (e3.trans (ha e3).symm) e2
   have h2:g a=true:=by cases e3:g a with
    | true=>rfl
    | false=>exact absurd (h1.trans e3.symm) e2
   rw [h1,h2];simp only [Bool.false_eq_true,if_false,if_true];omega
def VP (rs:List xC) (A T g:Nat) (x y:nI) (n:Nat):Nat:=(wD rs T).countP (lX rs A T g x y n)
theorem Tq (g:Nat) (x y:nI):VP rs A T g x y 0=rs.length*T:=by unfold VP wD;rw [show lX rs A T g x y 0=λ_=>true from rfl,List.countP_true,rV]
theorem fz {g:Nat} {x y:nI} {n:Nat} (h:∃ p ∈ wD rs T,lX rs A T g x y (n+1) p≠lX rs A T g x y n p):VP rs A T g x y (n+1)<VP rs A T g x y n:= wo (λq _ hq=>gf g x y n q hq) h
def YD (rs:List xC) (A g:Nat) (p q:Nat × Nat):Bool:=(List.range A).any λa=>g.testBit a&&decide (yV rs a p=yV rs a q)
theorem Z1 {g:Nat} {x:nI} {p:Nat × Nat}:mY rs A T g x p=true ↔ ∀ q ∈ wD rs T,YD rs A g p q=true->x q=true:=by
 unfold mY nE YD;simp only [Aj,List.any_eq_true,A0,A6,A5,decide_eq_true_eq,decide_eq_false_iff_not]
 constructor
 ·rintro h q hq ⟨a,ha,h1,h2⟩
  rcases h a ha with h3 | h3
  ·rw [h1] at h3; cases h3
  ·rcases h3 q hq with h4 | h4
   ·exact absurd h2.symm h4
   ·exact h4
 ·intro h a ha
  cases e:g.testBit a with
  | false=>exact .inl rfl
  | true=>
   refine .inr λq hq=>?_
   by_cases e2:yV rs a q=yV rs a p
   ·exact .inr (h q hq ⟨a,ha,e,e2.symm⟩)
   ·exact .inl e2
theorem Q2 (g:Nat) (x y:nI):∃ n,n<=rs.length*T/\∀ p ∈ wD rs T,lX rs A T g x y (n+1) p=lX rs A T g x y n p:=by
 have key:∀ (m n:Nat),VP rs A T g x y n<=m->n+VP rs A T g x y n<=rs.length*T->∃ n,n<=rs.length*T/\∀ p ∈ wD rs T,lX rs A T g x y (n+1) p=lX rs A T g x y n p:=by
  intro m
  induction m with
  | zero=> intro n h1 h2;refine⟨n,by omega,λp hp=>Decidable.byContradiction λh=>?_⟩;have:=fz (rs:=rs) (A:=A) (T:=T) ⟨p,hp,h⟩;omega
  | succ m ih=>
   intro n h1 h2
   by_cases h:∃ p ∈ wD rs T,lX rs A T g x y (n+1) p≠lX rs A T g x y n p
   ·have:=fz h;exact ih (n+1) (by omega) (by omega)
   ·exact⟨n,by omega,λp hp=>Decidable.byContradiction λh'=>h ⟨p,hp,h'⟩⟩
 exact key _ 0 (Ar _) (by rw [Tq]; omega)
end
end Te
end
section
open Rs Fm Ru Te
namespace Te
abbrev Pt :=Nat × Nat
def YK (x:Int) (p:Pt):List (Int × List Pt)->List (Int × List Pt)
 | []=>[(x,[p])]
 | (y,l) :: r=>if x=y then(y,l ++ [p]) :: r else(y,l) :: YK x p r
def mz (f:Pt->Int):Nat->List Pt->List (Int × List Pt)
 | 0,_=>[]
 | k+1,l=>YK (f (l.getD k (0,0))) (l.getD k (0,0)) (mz f k l)
structure Jh (f : Pt -> Int) (l : List Pt) (G : List (Int × List Pt)) : Prop where
 nd:(G.map (·.1)).Nodup
 eq:∀ e ∈ G,∀ q,q ∈ e.2 ↔ (q ∈ l/\f q=e.1)
 has:∀ q ∈ l,∃ e ∈ G,e.1=f q
 ln:∀ e ∈ G,e.2.length<=l.length
theorem su (x:Int) (p:Pt):∀ G,(YK x p G).map (·.1)= if x ∈ G.map (·.1) then G.map (·.1) else G.map (·.1)++ [x]
 | []=>by simp [YK]
 | (y,l) :: r=>by
  unfold YK
  by_cases h:x=y
  ·rw [if_pos h]; subst h; simp
  ·rw [if_neg h,μ,su x p r];simp only [μ,δ,h,false_or];split <;> simp
theorem ct {x:Int} {p:Pt} {e:Int × List Pt}:∀ {G:List (Int × List Pt)},(G.map (·.1)).Nodup->e ∈ YK x p G->(e ∈ G/\e.1≠x)\/(e.1=x/\((∃ l,(x,l)∈ G/\e.2=l ++ [p])\/(x ∉ G.map (·.1)/\ e.2 = [p])))
 | [],_,h=>by simp only [YK,η] at h;subst h;exact .inr ⟨rfl,.inr ⟨by simp,rfl⟩⟩
 | (y,l) :: r,hn,h=>by
  rw [μ,Am] at hn;unfold YK at h
  by_cases hx:x=y
  ·rw [if_pos hx] at h;subst hx
   rcases δ.1 h with rfl | h
   ·exact .inr ⟨rfl,.inl ⟨l,by simp,rfl⟩⟩
   ·refine .inl ⟨γ _ h,λe1=>hn.1 ?_⟩;rw [ζ]; exact⟨e,h,e1⟩
  ·rw [if_neg hx] at h
   rcases δ.1 h with rfl | h
   ·exact .inl ⟨by simp,λe=>hx e.symm⟩
   ·rcases ct hn.2 h with ⟨h1,h2⟩ | ⟨h1,h2⟩
    ·exact .inl ⟨γ _ h1,h2⟩
    ·refine .inr ⟨h1,?_⟩
     rcases h2 with ⟨l',h2,h3⟩ | ⟨h2,h3⟩
     ·exact .inl ⟨l',γ _ h2,h3⟩
     ·exact .inr ⟨by simp only [μ,δ,not_or]; exact⟨hx,h2⟩,h3⟩
theorem l6 {x:Int} {p:Pt} {y:Int} {G:List (Int × List Pt)} (h:y ∈ G.map (·.1)\/y=x):y ∈ (YK x p G).map (·.1):=by
 rw [su]
 split
 ·rename_i h1
  rcases h with h | rfl
  ·exact h
  ·exact h1
 ·rcases h with h | rfl
  ·exact List.mem_append_left _ h
  ·simp
theorem Jh.step {f:Pt->Int} {l:List Pt} {G:List (Int × List Pt)} (h:Jh f l G) (p:Pt):Jh f (l ++ [p]) (YK (f p) p G) where
 nd:=by
  rw [su]
  split
  ·exact h.nd
  ·rename_i hx;rw [List.nodup_append];refine⟨h.nd,by simp,λa ha b hb=>?_⟩;rw [η] at hb;subst hb;intro e; subst e; exact hx ha
 eq :=by
  intro e he q
  rcases ct h.nd he with ⟨h1,h2⟩ | ⟨h1,h2⟩
  ·rw [h.eq e h1 q];simp only [θ,η]
   constructor
   ·rintro ⟨a,b⟩; exact⟨.inl a,b⟩
   ·rintro ⟨a | rfl,b⟩
    ·exact⟨a,b⟩
    ·exact absurd b.symm h2
  ·rcases h2 with ⟨l',h2,h3⟩ | ⟨h2,h3⟩
   ·rw [h3];have:=h.eq _ h2 q;simp only at this;simp only [θ,η,this,h1]
    constructor
    ·rintro (⟨a,b⟩ | rfl)
     ·exact⟨.inl a,b⟩
     ·exact⟨.inr rfl,rfl⟩
    ·rintro ⟨a | rfl,b⟩
     ·exact .inl ⟨a,b⟩
     ·exact .inr rfl
   ·rw [h3];simp only [θ,η,h1]
    constructor
    ·rintro rfl; exact⟨.inr rfl,rfl⟩
    ·rintro ⟨a | rfl,b⟩
     ·obtain⟨e',he',e2⟩:=h.has q a;exact absurd (by rw [ζ]; exact⟨e',he',e2.trans b⟩) h2
     ·rfl
 has:=by
  intro q hq
  have:f q ∈ (YK (f p) p G).map (·.1):=by
   rcases θ.1 hq with hq | hq
   ·obtain⟨e,he,e1⟩:=h.has q hq;exact l6 (.inl (by rw [ζ]; exact⟨e,he,e1⟩))
   ·rw [η] at hq; subst hq; exact l6 (.inr rfl)
  rw [ζ] at this;obtain⟨e,he,e1⟩:=this;exact⟨e,he,e1⟩
 ln :=by
  intro e he;rw [Ao,Ad]
  rcases ct h.nd he with ⟨h1,h2⟩ | ⟨h1,h2⟩
  ·have:=h.ln e h1; omega
  ·rcases h2 with ⟨l',h2,h3⟩ | ⟨h2,h3⟩
   ·have:=h.ln _ h2;simp only at this;rw [h3,Ao,Ad]; omega
   ·rw [h3,Ad]; omega
theorem iX (f:Pt->Int) (l:List Pt):∀ k,k<=l.length->Jh f (l.take k) (mz f k l)
 | 0,_=>⟨by simp [mz],by simp [mz],by simp,by simp [mz]⟩
 | k+1,h=>by
  have ih:=(iX f l k (by omega)).step (l.getD k (0,0))
  have e:l.take (k+1)= l.take k ++ [l.getD k (0,0)]:=by rw [Ap];congr 1;simp [List.getD,show k<l.length by omega]
  rw [e];exact ih
abbrev EM :=List (Int × Nat × List Pt)
def mE (E:EM):List (Int × D):=E.map λe=>(e.1,.yM e.2.1 2 e.2.2.length)
def gE (E:EM):List (Int × List Pt):=E.map λe=>(e.1,e.2.2)
def mG (G:List (Int × List Pt)):List (Int × D):=G.map λe=>(e.1,.sl 2 (pF e.2))
def TU (x:Int):EM->Option (Nat × List Pt)
 | []=>none
 | (y,k,l) :: r=>if x=y then some (k,l) else TU x r
def YJ (x:Int) (n:Nat) (p:Pt):EM->EM
 | []=>[(x,n,[p])]
 | (y,k,l) :: r=>if x=y then(y,n,l ++ [p]) :: r else(y,k,l) :: YJ x n p r
theorem T5 (x:Int) (n:Nat) (p:Pt):∀ E,gE (YJ x n p E)= YK x p (gE E)
 | []=>rfl
 | (y,k,l) :: r=>by
  show gE (YJ x n p ((y,k,l) :: r))= YK x p ((y,l) :: gE r);unfold YJ YK
  by_cases h:x=y
  ·rw [if_pos h,if_pos h]; rfl
  ·rw [if_neg h,if_neg h,<- T5 x n p r]; rfl
theorem W6 (x:Int):∀ E,qC false .xO (wI x (mE E) 0)= match TU x E with | none=>.xO | some e=>.yM e.1 2 e.2.length
 | []=>rfl
 | (y,k,l) :: r=>by
  show qC false _ (wI x ((y,.yM k 2 l.length) :: mE r) 0)= _;unfold wI TU
  by_cases h:x=y
  ·rw [if_pos h,if_pos h]; rfl
  ·rw [if_neg h,if_neg h,<- W6 x r,Ru.vA]
   cases wI x (mE r) 0 with
   | none=>rfl
   | some p=>rfl
def VS (x:Int) (E:EM):Nat:=match TU x E with | none=>0 | some e=>e.2.length
theorem ar (x:Int) (n:Nat) (p:Pt):∀ E,eD (mE E) x (.yM n 2 (VS x E+1))= mE (YJ x n p E)
 | []=>rfl
 | (y,k,l) :: r=>by
  have ih:=ar x n p r;show eD ((y,.yM k 2 l.length) :: mE r) x _=_;unfold eD VS at ih ⊢;unfold wI YJ TU
  by_cases h:x=y
  ·subst h; rw [if_pos rfl,if_pos rfl,if_pos rfl]; simp [mE]
  ·rw [if_neg h,if_neg h,if_neg h,Ru.vA]
   cases hf:wI x (mE r) 0 with
   | none=>rw [hf] at ih; simp only [Ba] at ih ⊢; rw [τ,ih]; rfl
   | some p=>rw [hf] at ih; simp only [A9] at ih ⊢; rw [Ae,ih]; rfl
theorem bG {x:Int} {k:Nat} {l:List Pt}:∀ {E:EM},TU x E=some (k,l)->(x,k,l)∈ E
 | [],h=>by cases h
 | (y,k',l') :: r,h=>by
  unfold TU at h
  by_cases e:x=y
  ·rw [if_pos e] at h; cases h; subst e; simp
  ·rw [if_neg e] at h; exact γ _ (bG h)
theorem vu {x:Int} {n:Nat} {p:Pt} {e:Int × Nat × List Pt}:∀ {E:EM},((gE E).map (·.1)).Nodup->e ∈ YJ x n p E->(e ∈ E/\e.1≠x)\/(e.1=x/\e.2.1=n/\e.2.2=(match TU x E with | none=>[] | some q=>q.2)++ [p])
 | [],_,h=>by simp only [YJ,η] at h;subst h;exact .inr ⟨rfl,rfl,rfl⟩
 | (y,k,l) :: r,hn,h=>by
  have hn':((y :: (gE r).map (·.1))).Nodup:=hn;rw [Am] at hn';unfold YJ at h;unfold TU
  by_cases hx:x=y
  ·rw [if_pos hx] at h ⊢;subst hx
   rcases δ.1 h with rfl | h
   ·exact .inr ⟨rfl,rfl,rfl⟩
   ·refine .inl ⟨γ _ h,λe1=>hn'.1 ?_⟩;simp only [gE,π,ζ];exact⟨e,h,e1⟩
  ·rw [if_neg hx] at h ⊢
   rcases δ.1 h with rfl | h
   ·exact .inl ⟨by simp,λe=>hx e.symm⟩
   ·rcases vu hn'.2 h with ⟨h1,h2⟩ | h2
    ·exact .inl ⟨γ _ h1,h2⟩
    ·exact .inr h2
structure MI (km : Nat) (E : EM) (nx : Nat) (objs0 xZ : List (Nat × Ob)) : Prop where
 n1:km<nx
 sO:∀ k,k<km->St.look xZ k=St.look objs0 k
 mp:St.look xZ km=some ⟨0,uA .i64 (mE E)⟩
 ob:∀ e ∈ E,km<e.2.1/\e.2.1<nx/\St.look xZ e.2.1=some ⟨2,pF e.2.2⟩
 ds:∀ e ∈ E,∀ e' ∈ E,e.2.1=e'.2.1->e.1=e'.1
theorem MI.step {km:Nat} {E:EM} {nx nx' n:Nat} {objs0 xZ objs':List (Nat × Ob)} (h:MI km E nx objs0 xZ) (hnd:((gE E).map (·.1)).Nodup) {x:Int} {p:Pt} (hn:nx<=n/\n<nx')
  (hs:∀ k,k<nx->k≠km->(∀ q,TU x E=some q->k≠q.1)->St.look objs' k=St.look xZ k) (hm:St.look objs' km=some ⟨0,uA .i64 (mE (YJ x n p E))⟩)
  (ho:St.look objs' n=some ⟨2,pF ((match TU x E with | none=>[] | some q=>q.2)++ [p])⟩):MI km (YJ x n p E) nx' objs0 objs':=by
 have n1:=h.n1
 refine⟨by omega,λk hk=>?_,hm,λe he=>?_,λe he e' he' hee=>?_⟩
 ·rw [hs k (by omega) (by omega) λq hq=>?_,h.sO k hk];have:=(h.ob _ (bG hq)).1;simp only at this;omega
 ·rcases vu hnd he with ⟨h1,h2⟩ | ⟨h1,h2,h3⟩
  ·obtain⟨a,b,c⟩:=h.ob e h1;refine⟨a,by omega,?_⟩
   rw [hs _ b (by omega) λq hq hh=>?_]
   ·exact c
   ·exact h2 (h.ds e h1 _ (bG hq) hh)
  ·rw [h2,h3]; exact⟨by omega,hn.2,ho⟩
 ·rcases vu hnd he with ⟨h1,h2⟩ | ⟨h1,h2,h3⟩ <;> rcases vu hnd he' with ⟨k1,k2⟩ | ⟨k1,k2,k3⟩
  ·exact h.ds e h1 e' k1 hee
  ·have:=(h.ob e h1).2.1; omega
  ·have:=(h.ob e' k1).2.1; omega
  ·rw [h1,k1]
def MX (rs:List xC) (A F T:Nat) (a:Nat):Ob:=⟨6,[[.int .i64 (A:Int),.int .i64 (F:Int),.int .i64 (T:Int),.sl 2 (zK rs),.sl 2 (pF (wD rs T)),xB 2 1 ((List.range a).map λi=>[.yI (3+i)])]]⟩
def mC (rs:List xC) (T:Nat) (i:Nat):List (Int × List Pt):=mz (yV rs i) (wD rs T).length (wD rs T)
def uj (rs:List xC) (T:Nat) (i:Nat):Nat × Ob:=(3+i,⟨0,uA .i64 (mG (mC rs T i))⟩)
def lC (rs:List xC) (A F T:Nat) (a:Nat):List (Nat × Ob):=(0,⟨4,[[.int .i64 (A:Int),.int .i64 (F:Int),.int .i64 (T:Int),.sl 2 (zK rs)]]⟩) :: (1,MX rs A F T a) :: (yZ 2 1 ((List.range a).map λi=>[.yI (3+i)])++ (List.range a).map (uj rs T))
theorem iw {rs:List xC} {T:Nat}:∀ {l:List Nat} {i:Nat},i ∈ l->St.look (l.map (uj rs T)) (3+i)= some ⟨0,uA .i64 (mG (mC rs T i))⟩
 | [],i,h=>by cases h
 | j :: l,i,h=>by
  rw [μ];unfold uj;rw [xX]
  by_cases e:j=i
  ·subst e; rw [if_pos rfl]
  ·rw [if_neg (by omega)]
   rcases δ.1 h with h | h
   ·exact absurd h.symm e
   ·exact iw h
theorem fR {rs:List xC} {T:Nat} {k:Nat}:∀ {l:List Nat},(∀ i ∈ l,3+i≠k)->St.look (l.map (uj rs T)) k=none
 | [],h=>rfl
 | j :: l,h=>by rw [μ];unfold uj;rw [xX,if_neg (h j (by simp))];exact fR λi hi=>h i (γ _ hi)
theorem qo {rs:List xC} {A F T a i:Nat} (h:i<a):St.look (lC rs A F T a) (3+i)= some ⟨0,uA .i64 (mG (mC rs T i))⟩:=by unfold lC;rw [xX,if_neg (by omega),xX,if_neg (by omega),xA,if_neg (by omega)];exact iw (ε.2 h)
theorem ye {rs:List xC} {A F T a:Nat}:St.look (lC rs A F T a) 2=wU 1 ((List.range a).map λi=>[.yI (3+i)]):=by unfold lC;rw [xX,if_neg (by omega),xX,if_neg (by omega),xA,if_pos rfl,fR (λi _=>by omega)];exact Option.or_none
end Te
end
section
open Rs Fm Ru Te
namespace Te
theorem af {n k s:Nat} {xV:List (List D)} (h:k<n):D.under n (xB k s xV):=by cases xV <;> simp [xB,D.under,h]
theorem iK {rs:List xC} {A F T a:Nat}:∀ p ∈ lC rs A F T a,p.1<3+a/\St.look (lC rs A F T a) p.1=some p.2/\∀ e ∈ p.2.xV,D.vK (3+a) e:=by
 intro p hp;unfold lC at hp
 rcases δ.1 hp with rfl | hp
 ·refine⟨by show 0<3+a; omega,rfl,λe he=>?_⟩;simp only [η] at he;subst he;simp [D.vK,D.under]
 rcases δ.1 hp with rfl | hp
 ·refine⟨by show 1<3+a; omega,rfl,λe he=>?_⟩;simp only [MX,η] at he;subst he;simp only [D.vK,D.under,true_and,and_true];exact af (by omega)
 rcases θ.1 hp with hp | hp
 ·have hk:p=(2,⟨1,(List.range a).map λi=>[.yI (3+i)]⟩):=by revert hp;generalize ((List.range a).map λi=>[D.yI (3+i)])= xV;cases xV <;> simp [yZ]
  have hg:wU 1 ((List.range a).map λi=>[D.yI (3+i)])= some p.2:=by rw [hk];revert hp;rw [hk];generalize ((List.range a).map λi=>[D.yI (3+i)])= xV;cases xV <;> simp [yZ,wU]
  rw [<- hg,hk];refine⟨by show 2<3+a; omega,ye,λe he=>?_⟩;simp only [ζ,ε] at he;obtain⟨i,hi,rfl⟩:=he;simp only [D.vK,D.under,and_true]; omega
 ·simp only [ζ,ε] at hp;obtain⟨i,hi,rfl⟩:=hp;refine⟨by show 3+i<3+a; omega,qo hi,λe he=>?_⟩;simp only [uj,uA,mG,π,ζ] at he;obtain⟨g,_,rfl⟩:=he;simp [D.vK,D.under]
end Te
theorem ZM {rs:List xC} {A F T:Nat} (hz:lY ⟨A,F,T,rs⟩= 0) (ok:jH rs A F T):xY prog 102 [sD A F T rs] gY (.ref 1 6 0 0) ⟨3+A,lC rs A F T A⟩:=by
 obtain⟨T1,T16⟩:=ok.hT;obtain⟨R1,R64⟩:=ok.hR;have hA4:=ok.hA;have hRT:=ok.hP;have hP:=X0 ⟨A,F,T,rs⟩;have ep:aC ⟨A,F,T,rs⟩= wD rs T:=by unfold aC; rw [if_neg (by simpa using hz)]; rfl
 rw [ep] at hP;have hD:tB.d ⟨A,F,T,rs⟩= .agg [.int .i64 (A:Int),.int .i64 (F:Int),.int .i64 (T:Int),.sl 2 (zK rs)]:=rfl;rw [hD] at hP;unfold sD;refine xY.xN mixed func102 I6 (by simp) λhf=>?_;simp only [simprocAttr,-ZA,↓zU,↓zD,zV,zT,zW]
 (repeat refine sd ?_)
 refine .go (cq hP) ?_;simp only [simprocAttr,-ZA,↓zU,↓zD,zV,zT,zW]
 (repeat refine sd ?_)
 refine xP (λa:Nat=>[(16,.int .i64 a),(15,.int .i64 A),(3,.ref 1 6 0 0),(1,.ref 0 4 0 0)]) (λa=>⟨3+a,lC rs A F T a⟩) (λa=>a<=A) (λa=>A-a) 0 (Aq _) ?_ ?_
 ·(refine xT.tP [] [0,1] (by simp) (by simp) (by decide) ?_; simp only [yQ,zQ,simprocAttr,-ZA,exists_eq_left',ne_eq,zR,lC,MX,Ak,χ,wR,wS,υ])
 intro a ha;refine xM mixed ?_;have l0:St.look (lC rs A F T a) 0=some ⟨4,[[.int .i64 (A:Int),.int .i64 (F:Int),.int .i64 (T:Int),.sl 2 (zK rs)]]⟩:=rfl;have l1:St.look (lC rs A F T a) 1=some ⟨6,[[.int .i64 (A:Int),.int .i64 (F:Int),.int .i64 (T:Int),.sl 2 (zK rs),.sl 2 (pF (wD rs T)),xB 2 1 ((List.range a).map λi=>[.yI (3+i)])]]⟩:=rfl;by_cases hal:a<A
 case neg=>
  have hd:¬ ((a:Int)<(A:Int)):=by omega
  obtain rfl:a=A:=by omega
  simp only [simprocAttr,-ZA,↓zU,↓zD,zV,zT,zW,hd];exact .same
 have hd:((a:Int)<(A:Int)):=by omega
 have y1:¬ 3+a=1:=by omega
 have hin:NG rs T (wD rs T):=xq T1 (Ar _);have hln:(wD rs T).length=rs.length*T:=rV _ _;have hlr:=iK (rs:=rs) (A:=A) (F:=F) (T:=T) (a:=a);simp only [simprocAttr,-ZA,↓zU,↓zD,zV,zT,zW,hd,l0,l1,y1]
 (repeat refine sd ?_)
 refine uZ (λb:Nat × Nat × List (Nat × Ob)=>[(25,.int .i64 b.1),(24,.int .i64 (wD rs T).length),(23,.sl 2 (pF (wD rs T))),(16,.int .i64 a),(15,.int .i64 A),(5,.yI (3+a)),(4,.int .i64 a),(3,.ref 1 6 0 0),(1,.ref 0 4 0 0)])
  (λb=>⟨b.2.1,b.2.2⟩) (λb=>b.1<=(wD rs T).length/\∃ E,MI (3+a) E b.2.1 (lC rs A F T a) b.2.2/\gE E=mz (yV rs a) b.1 (wD rs T)) (λb=>(wD rs T).length-b.1) (0,3+a+1,(3+a,⟨0,[]⟩) :: lC rs A F T a) ⟨Aq _,[],⟨by simp only; omega,λk hk=>?_,?_,by simp,by simp⟩,rfl⟩ ?_ ?_
 ·show St.look (_ :: _) k=_;rw [xX,if_neg (by omega)]
 ·show St.look (_ :: _) _=_;rw [xX,if_pos rfl]; rfl
 ·(refine xT.same ?_; simp [xS,Fr.get,wM])
 intro ⟨w,nx,xZ⟩ ⟨hw,E,hM,hg⟩;simp only at hw hM hg ⊢;refine xM mixed ?_;have n1:=hM.n1;have l0':St.look xZ 0=_:=(hM.sO 0 (by omega)).trans l0;have l1':St.look xZ 1=_:=(hM.sO 1 (by omega)).trans l1;have lm:=hM.mp;by_cases hwl:w<(wD rs T).length
 case neg=>
  have hd2:¬ ((w:Int)<((wD rs T).length:Int)):=by omega
  obtain rfl:w=(wD rs T).length:=by omega
  simp only [simprocAttr,-ZA,↓zU,↓zD,zV,zT,zW,hd2]
  refine .go [(16,.int .i64 a),(15,.int .i64 A),(5,.yI (3+a)),(3,.ref 1 6 0 0),(1,.ref 0 4 0 0)] ⟨3+(a+1),(3+a,⟨0,uA .i64 (mG (mC rs T a))⟩) :: lC rs A F T a⟩ (xT.view (λk=>k) (Aq _) (λ_ _=>rfl) ?_ ?_ (λp _ q _ e=>e)) ?_
  ·simp only [YR,vw,Fr.get,reduceIte,Nat.reduceEqDiff,and_true,true_and];omega
  ·intro p hp
   rcases δ.1 hp with rfl | hp
   ·refine⟨by show 3+a<3+(a+1); omega,_,lm,rfl,?_⟩;have:gE E=mC rs T a:=hg;rw [<- this];unfold uA mE mG gE;rw [π,π,π];refine oQ λe he=>⟨rfl,?_⟩;obtain⟨b1,b2,b3⟩:=hM.ob e he;simp only [Function.comp,vI,vw,true_and,and_true];refine⟨by decide,λq hq=>?_,_,b3,rfl,by rw [wM]; exact Ar _,by rw [ξ (by rw [wM]; exact Ar _)],ry _⟩
    rcases δ.1 hq with rfl | hq
    ·show 3+a≠e.2.1; omega
    ·have:=(hlr q hq).1; omega
   ·obtain⟨u1,u2,u3⟩:=hlr p hp;exact⟨by show p.1<3+(a+1); omega,p.2,(hM.sO p.1 (by omega)).trans u2,rfl,bB λe he=>qK (by show 3+a<=3+(a+1); omega) (u3 e he)⟩
  have ls:=ye (rs:=rs) (A:=A) (F:=F) (T:=T) (a:=a);have w1:¬ 3+a=1:=by omega
  have w2:¬ 3+a=2:=by omega
  have w3:¬ 3+(a+1)= 1:=by omega
  have w4:¬ 3+(a+1)= 2:=by omega
  have hL:((List.range a).map λi=>[D.yI (3+i)]).length=a:=by simp
  have hLs:((List.range a).map λi=>[D.yI (3+i)])++ [[D.yI (3+a)]]=(List.range (a+1)).map λi=>[D.yI (3+i)]:=by rw [Al,Ac]; rfl
  have le1:St.look (yC (lC rs A F T a) 2) 1=St.look (lC rs A F T a) 1:=by rw [xF,if_neg (by omega)]
  rw [l1] at le1;have w5:¬ 3+(a+1)+ 1=1:=by omega
  simp only [simprocAttr,-ZA,↓zU,↓zD,zV,zT,zW,l1,ls,w1,w2,w3,w4,w5,hL,hLs,le1]
  (repeat refine sd ?_)
  refine⟨a+1,by omega,xT.view (λk=>if k=2 then 3+(a+1)+ 1 else k) (Aq _) (λk hk=>absurd hk (Ax _)) ?_ ?_ ?_,by omega⟩
  ·simp only [YR,vw,Fr.get,reduceIte,Nat.reduceEqDiff,and_true,true_and,D.int.injEq];exact⟨vP (by omega),by omega,by omega⟩
  ·have hLn:((List.range (a+1)).map λi=>[D.yI (3+i)])≠ []:=by simp
   intro p hp;have hpu:=iK (rs:=rs) (A:=A) (F:=F) (T:=T) (a:=a+1) p hp;unfold lC at hp
   rcases δ.1 hp with rfl | hp
   ·refine⟨by show 0<3+(a+1); omega,⟨4,[[.int .i64 (A:Int),.int .i64 (F:Int),.int .i64 (T:Int),.sl 2 (zK rs)]]⟩,?_,rfl,.same (by simp [D.xR,D.xD])⟩;show St.look _ 0=_;rw [xA,if_neg (by omega),xX,if_neg (by omega),xX,if_neg (by omega),xU,if_neg (by omega),xF,if_neg (by omega)]; exact l0
   rcases δ.1 hp with rfl | hp
   ·refine⟨by show 1<3+(a+1); omega,⟨6,[[.int .i64 (A:Int),.int .i64 (F:Int),.int .i64 (T:Int),.sl 2 (zK rs),.sl 2 (pF (wD rs T)),xB (3+(a+1)+ 1) 1 ((List.range (a+1)).map λi=>[D.yI (3+i)])]]⟩,?_,rfl,.cons rfl ?_ .nil⟩
    ·show St.look _ 1=_;rw [xA,if_neg (by omega),xX,if_neg (by omega),xX,if_neg (by omega),xU,if_pos rfl,le1]; rfl
    ·simp only [vI,vw,and_true,true_and,WS,reduceIte];exact .inr (by omega)
   rcases θ.1 hp with hp | hp
   ·rw [qx hLn,η] at hp;subst hp
    refine⟨by show 2<3+(a+1); omega,⟨1,(List.range (a+1)).map λi=>[.yI (3+i)]⟩,?_,rfl,oQ λi hi=>⟨rfl,?_⟩⟩
    ·show St.look _ (if 2=2 then _ else _)= _;rw [if_pos rfl,xA,if_pos rfl,qy hLn]; rfl
    ·have:=ε.1 hi;simp only [vI,vw,and_true];exact⟨by omega,by rw [if_neg (by omega)]⟩
   ·simp only [ζ,ε] at hp;obtain⟨i,hi,rfl⟩:=hp;refine⟨hpu.1,_,?_,rfl,.same λe he=>?_⟩
    rotate_left
    ·simp only [uj,uA,mG,π,ζ] at he;obtain⟨g,_,rfl⟩:=he;rfl
    show St.look _ (if 3+i=2 then _ else 3+i)= _;rw [if_neg (by omega),xA,if_neg (by omega),xX,if_neg (by omega),xX]
    by_cases e:i=a
    ·subst e; rw [if_pos rfl]; rfl
    ·rw [if_neg (by omega),xU,if_neg (by omega),xF,if_neg (by omega),qo (by omega)]; rfl
  ·intro p hp q hq e;have h1:=(iK p hp).1;have h2:=(iK q hq).1;simp only at e;split at e <;> split at e <;> omega
 have hd2:((w:Int)<((wD rs T).length:Int)):=by omega
 have hp:=hin _ (xL (d:=(0,0)) hwl);have hpg:=lS (wD rs T) hwl;have hgo:=(iX (yV rs a) (wD rs T) w hw).nd;have hgl:=(iX (yV rs a) (wD rs T) w hw).ln;rw [<- hg] at hgl;rw [<- hg] at hgo;have hgn:mz (yV rs a) (w+1) (wD rs T)= YK (yV rs a ((wD rs T).getD w (0,0))) ((wD rs T).getD w (0,0)) (gE E):=by rw [hg]; rfl
 generalize (wD rs T).getD w (0,0)= p at hp hpg hgn;have hm:=xL (d:=uX) hp.1;have hgr:=pL rs hp.1;have h1:=ok.loc _ hm;have h2:=ok.row _ hm _ (xL (d:=[]) (show p.2<(rs.getD p.1 uX).loc.length by omega));have hx:((rs.getD p.1 uX).loc.getD p.2 []).getD a 0=yV rs a p:=rfl;generalize rs.getD p.1 uX=r at hgr h1 h2 hx;have hg2:=pS r.loc (show p.2<r.loc.length by omega);generalize r.loc.getD p.2 []=x at hg2 h2 hx;have hg3:=yP .i64 x (show a<x.length by omega);rw [hx] at hg3;have z0:¬ nx=0:=by omega
 have zm:¬ nx=3+a:=by omega
 generalize yV rs a p=v at hg3 hgn;have hmr:=W6 v E
 cases hk:TU v E with
 | none=>
  rw [hk] at hmr;simp only at hmr
  have hap:eD (mE E) v (.yM (nx+1) 2 1)= mE (YJ v (nx+1) p E):=by have:=ar v (nx+1) p E;rw [show VS v E=0 by unfold VS; rw [hk]] at this;exact this
  have zm1:¬ nx+1=3+a:=by omega
  simp only [simprocAttr,-ZA,↓zU,↓zD,zV,zT,zW,hd2,wM,hpg,wP,hgr,xC.row,wG,hg2,yO,hg3,l0',lm,z0,zm,zm1,hmr,hap]
  (repeat refine sd ?_)
  refine⟨(w+1,?zna,?zoa),⟨by show w+1<=_; omega,YJ v (nx+1) p E,?ze1,?ze3⟩,?ze2,by show (wD rs T).length-(w+1)<(wD rs T).length-w; omega⟩
  case ze2=>
   (refine xT.same ?_; simp only [xS,Fr.get,simprocAttr,-ZA,zS])
   exact vP (by omega)
  case ze3=>rw [T5,hgn]
  case ze1=>
   refine hM.step hgo (n:=nx+1) ⟨by omega,Aw _⟩ (λk h1 h2 h3=>?_) ?_ ?_
   ·show St.look (_ :: _ :: _) k=_;rw [xX,if_neg (by omega),xX,if_neg (by omega),xU,if_neg (by omega)]
   ·show St.look (_ :: _ :: _) _=_;rw [xX,if_neg (by omega),xX,if_neg (by omega),xU,if_pos rfl,lm]; rfl
   ·show St.look (_ :: _ :: _) _=_;rw [xX,if_pos rfl,hk]; rfl
 | some q=>
  obtain⟨kq,lq⟩:=q;rw [hk] at hmr;simp only at hmr;obtain⟨q1,q2,q3⟩:=hM.ob _ (bG hk);simp only at q1 q2 q3;have zq:¬ nx=kq:=by omega
  have hap:eD (mE E) v (.yM (nx+1) 2 (lq.length+1))= mE (YJ v (nx+1) p E):=by have:=ar v (nx+1) p E;rw [show VS v E=lq.length by unfold VS; rw [hk]] at this;exact this
  have zm1:¬ nx+1=3+a:=by omega
  have zq1:¬ kq=3+a:=by omega
  have htk:(pF lq).take lq.length=pF lq:=ξ (by rw [wM]; omega)
  have hbl:lq.length<=512:=by have:=hgl (v,lq) (by simp only [gE,ζ]; exact⟨_,bG hk,rfl⟩);simp only [Ah] at this;omega
  have hle:St.look (yC xZ kq) (3+a)= some ⟨0,uA .i64 (mE E)⟩:=by rw [xF,if_neg zq1]; exact lm
  simp only [simprocAttr,-ZA,↓zU,↓zD,zV,zT,zW,hd2,wM,hpg,wP,hgr,xC.row,wG,hg2,yO,hg3,l0',lm,z0,zm,zm1,zq,zq1,hmr,q3,hap,htk,hle]
  (repeat refine sd ?_)
  refine⟨(w+1,?znb,?zob),⟨by show w+1<=_; omega,YJ v (nx+1) p E,?zf1,?zf3⟩,?zf2,by show (wD rs T).length-(w+1)<(wD rs T).length-w; omega⟩
  case zf2=>
   (refine xT.same ?_; simp only [xS,Fr.get,simprocAttr,-ZA,zS])
   exact vP (by omega)
  case zf3=>rw [T5,hgn]
  case zf1=>
   refine hM.step hgo (n:=nx+1) ⟨by omega,Aw _⟩ (λk h1 h2 h3=>?_) ?_ ?_
   ·have h3':=h3 _ hk;simp only at h3';show St.look (_ :: _ :: _) k=_;rw [xX,if_neg (by omega),xX,if_neg (by omega),xU,if_neg (by omega),xF,if_neg (by omega)]
   ·show St.look (_ :: _ :: _) _=_;rw [xX,if_neg (by omega),xX,if_neg (by omega),xU,if_pos rfl,hle]; rfl
   ·show St.look (_ :: _ :: _) _=_;rw [xX,if_pos rfl,hk];simp only [pF,Ac,μ,χ]
end
section
open Rs Fm Ru Te
namespace Te
def mB (u:List (Int × Bool)):List (Int × D):=u.map λp=>(p.1,.bool p.2)
def nU (x:Int):List (Int × Bool)->Bool
 | []=>false
 | (k,v) :: r=>if x=k then v else nU x r
def s8 (x:Int) (v:Bool):List (Int × Bool)->List (Int × Bool)
 | []=>[(x,v)]
 | (k,w) :: r=>if x=k then(x,v) :: r else(k,w) :: s8 x v r
theorem Vr (x y:Int) (v:Bool):∀ u,nU y (s8 x v u)= if y=x then v else nU y u
 | []=>by simp [s8,nU]
 | (k,w) :: r=>by
  unfold s8
  by_cases h:x=k
  ·rw [if_pos h];subst h
   by_cases e:y=x
   ·simp [nU,e]
   ·simp [nU,e]
  ·rw [if_neg h,nU,Vr x y v r]
   by_cases e:y=k
   ·subst e;rw [if_pos rfl,if_neg (λe=>h e.symm)];simp [nU]
   ·rw [if_neg e];simp [nU,e]
theorem W5 (x:Int):∀ u,qC false (.bool false) (wI x (mB u) 0)= .bool (nU x u)
 | []=>rfl
 | (k,v) :: r=>by
  show qC false _ (wI x ((k,.bool v) :: mB r) 0)= _;unfold wI nU
  by_cases h:x=k
  ·rw [if_pos h,if_pos h]; rfl
  ·rw [if_neg h,if_neg h,<- W5 x r,Ru.vA]
   cases wI x (mB r) 0 with
   | none=>rfl
   | some p=>rfl
theorem Vn (x:Int) (v:Bool):∀ u,eD (mB u) x (.bool v)= mB (s8 x v u)
 | []=>rfl
 | (k,w) :: r=>by
  have ih:=Vn x v r;show eD ((k,.bool w) :: mB r) x _=_;unfold eD at ih ⊢;unfold wI s8
  by_cases h:x=k
  ·rw [if_pos h,if_pos h]; rfl
  ·rw [if_neg h,if_neg h,Ru.vA]
   cases hf:wI x (mB r) 0 with
   | none=>rw [hf] at ih; simp only [Ba] at ih ⊢; rw [τ,ih]; rfl
   | some p=>rw [hf] at ih; simp only [A9] at ih ⊢; rw [Ae,ih]; rfl
theorem Zh {R T:Nat} {φ ψ:Nat × Nat->Bool} (h:∀ i t,i<R->t<T->φ (i,t)= ψ (i,t)):tD R T φ=tD R T ψ:=by unfold tD;refine ν λi hi=>?_;congr 3;exact ν λt ht=>h i t (ε.1 hi) (ε.1 ht)
theorem OG {rs:List xC} {T:Nat} (hT:1<=T) {i t:Nat} (hi:i<rs.length) (ht:t<T):(i,t)∈ wD rs T:=by
 unfold wD rO;rw [ζ]
 refine⟨i*T+t,ε.2 ?_,?_⟩
 ·have:=Ay T (show i+1<=rs.length from hi);rw [Nat.succ_mul] at this;omega
 ·have e1:(i*T+t)/ T=i:=by rw [As,Av (by omega),Au ht]; rfl
  have e2:(i*T+t) % T=t:=by rw [As,Nat.mul_add_mod,Nat.mod_eq_of_lt ht]
  rw [e1,e2]
theorem MA {rs:List xC} {T:Nat} (hT:1<=T) {p:Nat × Nat} (h:p ∈ wD rs T):p.1<rs.length/\p.2<T:=xq hT (Ar _) p h
structure jD (rs : List xC) (A F T kc ks : Nat) (km : Nat -> Nat) (xZ : List (Nat × Ob)) : Prop where
 c:St.look xZ kc=some ⟨6,[[.int .i64 (A:Int),.int .i64 (F:Int),.int .i64 (T:Int),.sl 2 (zK rs),.sl 2 (pF (rO T (rs.length*T))),xB ks 1 ((List.range A).map λi=>[.yI (km i)])]]⟩
 s:0<A->St.look xZ ks=some ⟨1,(List.range A).map λi=>[.yI (km i)]⟩
 m:∀ i,i<A->St.look xZ (km i)= some ⟨0,uA .i64 (mG (mC rs T i))⟩
theorem jD.mono {rs:List xC} {A F T kc ks:Nat} {km:Nat->Nat} {xZ objs':List (Nat × Ob)} (h:jD rs A F T kc ks km xZ) (hk:∀ k o,St.look xZ k=some o->St.look objs' k=some o):jD rs A F T kc ks km objs':=⟨hk _ _ h.c,λa=>hk _ _ (h.s a),λi hi=>hk _ _ (h.m i hi)⟩
theorem jD.start {rs:List xC} {A F T:Nat}:jD rs A F T 1 2 (λi=>3+i) (lC rs A F T A):=⟨rfl,λh=>by rw [ye]; exact qy (by simp; omega),λi hi=>qo hi⟩
end Te
theorem OE {nx k7 kk k3 k4 kc:Nat} {xZ:List (Nat × Ob)} {rs:List xC} {A F T a:Nat} {pts:List (Nat × Nat)} {same:D} {u:List (Int × Bool)} (ok:jH rs A F T) (ha:a<A)
  (h7:St.look xZ k7=some ⟨1,[[.yI kk]]⟩) (hk:St.look xZ kk=some ⟨0,uA .i64 (mB u)⟩) (h3:St.look xZ k3=some ⟨1,[[.ref kc 6 0 0]]⟩) (h4:St.look xZ k4=some ⟨1,[[.int .i64 (a:Int)]]⟩)
  (hc:St.look xZ kc=some ⟨6,[[.int .i64 (A:Int),.int .i64 (F:Int),.int .i64 (T:Int),.sl 2 (zK rs),.sl 2 (pF pts),same]]⟩) {i t:Nat} (hi:i<rs.length) (ht:t<T) :
  xY prog 205 ([.agg [.int .i64 (i:Int),.int .i64 (t:Int)]] ++ [.ref k7 1 0 0,.ref k3 1 0 0,.ref k4 1 0 0]) ⟨nx,xZ⟩ (.bool (nU (yV rs a (i,t)) u)) ⟨nx,xZ⟩:=by
 obtain⟨T1,T16⟩:=ok.hT;refine xY.gS ⟨_,func205,by kernel_rfl,by kernel_rfl⟩ λhu=>xY.clean ?_;have y7:¬ nx=k7:=by have:=(hu k7 _ h7).1; simp only at this; omega
 have yk:¬ nx=kk:=by have:=(hu kk _ hk).1; simp only at this; omega
 have y3:¬ nx=k3:=by have:=(hu k3 _ h3).1; simp only at this; omega
 have y4:¬ nx=k4:=by have:=(hu k4 _ h4).1; simp only at this; omega
 have yc:¬ nx=kc:=by have:=(hu kc _ hc).1; simp only at this; omega
 have hkeep:∀ (ob:Ob) k o,St.look xZ k=some o->St.get ⟨nx+1,(nx,ob) :: xZ⟩ k=some o:=λob k o hk=>by have:=(hu k o hk).1;simp only at this;show St.look (_ :: _) k=_;rw [xX,if_neg (by omega)]; exact hk
 have hm:=xL (d:=uX) hi;have hgr:=pL rs hi;have h1:=ok.loc _ hm;have h2:=ok.row _ hm _ (xL (d:=[]) (show t<(rs.getD i uX).loc.length by omega));have hx:((rs.getD i uX).loc.getD t []).getD a 0=yV rs a (i,t):=rfl;generalize rs.getD i uX=r at hgr h1 h2 hx;have hg2:=pS r.loc (show t<r.loc.length by omega);generalize r.loc.getD t []=x at hg2 h2 hx;have hg3:=yP .i64 x (show a<x.length by omega);rw [hx] at hg3;generalize yV rs a (i,t)= v at hg3;have hmr:=W5 v u;refine xY.xN mixed func205 JC (by simp) λhf=>?_;simp only [simprocAttr,-ZA,↓zU,↓zD,zV,zT,zW,h7,hk,h3,h4,hc,y7,yk,y3,y4,yc,wP,hgr,xC.row,wG,hg2,yO,hg3,hmr]
 (repeat refine sd ?_)
 exact .gone hu (hkeep _) (by simp only [vw])
end
section
open Rs Fm Ru Te
namespace Te
def L6 (φ:Nat × Nat->Bool) (G:List (Int × List (Nat × Nat))) (seen:List Nat) (u:List (Int × Bool)):Prop:=∀ i ∈ seen,nU (G.getD i (0,[])).1 u=(G.getD i (0,[])).2.all φ
theorem Qo {G:List (Int × List (Nat × Nat))} (h:(G.map (·.1)).Nodup) {i j:Nat} (hi:i<G.length) (hj:j<G.length) (e:(G.getD i (0,[])).1=(G.getD j (0,[])).1):i=j:=by
 have h1:(G.map (·.1))[i]'(by simpa using hi)= (G.map (·.1))[j]'(by simpa using hj):=by simp only [Aa];simpa [List.getD,hi,hj] using e
 exact(List.getElem_inj h).1 h1
theorem L6.step {φ:Nat × Nat->Bool} {G:List (Int × List (Nat × Nat))} {seen:List Nat} {u:List (Int × Bool)} (h:L6 φ G seen u) (hn:(G.map (·.1)).Nodup) (hs:∀ j ∈ seen,j<G.length) {i:Nat} (hi:i<G.length) (hni:i ∉ seen) :
  L6 φ G (seen ++ [i]) (s8 (G.getD i (0,[])).1 ((G.getD i (0,[])).2.all φ) u):=by
 intro j hj;rw [Vr]
 rcases θ.1 hj with hj | hj
 ·rw [if_neg λe=>hni (by rw [<- Qo hn (hs j hj) hi e]; exact hj)];exact h j hj
 ·rw [η] at hj;subst hj;rw [if_pos rfl]
theorem L6.Kp {φ:Nat × Nat->Bool} {rs:List xC} {T a:Nat} {seen:List Nat} {u:List (Int × Bool)} (h:L6 φ (mC rs T a) seen u) (hall:∀ i,i<(mC rs T a).length->i ∈ seen) {p:Nat × Nat} (hp:p ∈ wD rs T) :
  nU (yV rs a p) u=nE rs T a φ p:=by
 have hg:=iX (yV rs a) (wD rs T) (wD rs T).length (Ar _);rw [ω] at hg;obtain⟨e,he,e1⟩:=hg.has p hp;obtain⟨i,hi,rfl⟩:=List.getElem_of_mem he;have h2:=h i (hall i hi)
 have h3:(mC rs T a).getD i (0,[])= (mz (yV rs a) (wD rs T).length (wD rs T))[i]:=by show (mz (yV rs a) (wD rs T).length (wD rs T)).getD i (0,[])= _;simp [List.getD,hi]
 rw [h3,e1] at h2;rw [h2,A3];unfold nE;simp only [Aj,A0,A5,decide_eq_false_iff_not]
 constructor
 ·intro h q hq
  by_cases e:yV rs a q=yV rs a p
  ·exact .inr (h q ((hg.eq _ he q).2 ⟨hq,by rw [e1]; exact e⟩))
  ·exact .inl e
 ·intro h q hq;obtain⟨h4,h5⟩:=(hg.eq _ he q).1 hq
  rcases h q h4 with h6 | h6
  ·exact absurd (h5.trans e1) h6
  ·exact h6
theorem Qd {kk:IntKind} {l:List (Int × D)} {i:Nat} (h:i<l.length):(uA kk l).getD i [] = [.int kk (l.getD i (0,.top)).1,(l.getD i (0,.top)).2]:=by simp [uA,List.getD,h]
theorem Lv {G:List (Int × List (Nat × Nat))} {i:Nat} (h:i<G.length):(mG G).getD i (0,.top)= ((G.getD i (0,[])).1,.sl 2 (pF (G.getD i (0,[])).2)):=by simp [mG,List.getD,h]
theorem Y0 (G:List (Int × List (Nat × Nat))):(mG G).length=G.length:=by simp [mG]
theorem O0 {rs:List xC} {T a i:Nat} (h:i<(mC rs T a).length):∀ q ∈ ((mC rs T a).getD i (0,[])).2,q ∈ wD rs T:=by have hg:=iX (yV rs a) (wD rs T) (wD rs T).length (Ar _);rw [ω] at hg;have hm:(mC rs T a).getD i (0,[])∈ mC rs T a:=xL h;exact λq hq=>((hg.eq _ hm q).1 hq).1
theorem QD {rs:List xC} {T a i:Nat} (h:i<(mC rs T a).length):((mC rs T a).getD i (0,[])).2.length<=rs.length*T:=by have hg:=iX (yV rs a) (wD rs T) (wD rs T).length (Ar _);rw [ω] at hg;have hm:(mC rs T a).getD i (0,[])∈ mC rs T a:=xL h;have:=hg.ln _ hm;rw [show (wD rs T).length=rs.length*T from rV _ _] at this;exact this
theorem O3 (rs:List xC) (T a:Nat):((mC rs T a).map (·.1)).Nodup:=(iX (yV rs a) (wD rs T) (wD rs T).length (Ar _)).nd
theorem LX {n:Nat} {l:List Nat} (hd:l.Nodup) (h:∀ x ∈ l,x<n) (hl:l.length=n):∀ i,i<n->i ∈ l:=λi hi=>by
 refine Classical.byContradiction λhno=>?_
 have:=lM n (i :: l) (Am.2 ⟨hno,hd⟩) λx hx=>by
  rcases δ.1 hx with rfl | hx
  ·exact hi
  ·exact h x hx
 rw [List.length_cons] at this;omega
structure Kz (nx a kc : Nat) (xZ : List (Nat × Ob)) (u : List (Int × Bool)) (nx' : Nat) (objs' : List (Nat × Ob)) : Prop where
 n1:nx+1+1+1<nx'
 sO:∀ k,k<nx->St.look objs' k=St.look xZ k
 k0:St.look objs' nx=some ⟨1,[[.ref kc 6 0 0]]⟩
 k1:St.look objs' (nx+1)= some ⟨1,[[.int .i64 (a:Int)]]⟩
 k2:St.look objs' (nx+1+1)= some ⟨0,uA .i64 (mB u)⟩
 k3:St.look objs' (nx+1+1+1)= some ⟨1,[[.yI (nx+1+1)]]⟩
theorem Kz.more {nx a kc nx' nx'':Nat} {xZ objs' objs'':List (Nat × Ob)} {u:List (Int × Bool)} (h:Kz nx a kc xZ u nx' objs') (hn:nx'<=nx'') (hl:∀ k,k<nx'->St.look objs'' k=St.look objs' k):Kz nx a kc xZ u nx'' objs'':=by have n1:=h.n1;exact⟨by omega,λk hk=>by rw [hl k (by omega)]; exact h.sO k hk,by rw [hl _ (by omega)]; exact h.k0,by rw [hl _ (by omega)]; exact h.k1,by rw [hl _ (by omega)]; exact h.k2,by rw [hl _ (by omega)]; exact h.k3⟩
end Te
theorem Lq {nx kc ks:Nat} {km:Nat->Nat} {xZ:List (Nat × Ob)} {rs:List xC} {A F T a:Nat} {φ:Nat × Nat->Bool} (ok:jH rs A F T) (hS:jD rs A F T kc ks km xZ) (ha:a<A) :
  xY prog 151 [.ref kc 6 0 0,.int .i64 (a:Int),.sl 1 (tD rs.length T φ)] ⟨nx,xZ⟩ (.sl 1 (tD rs.length T (nE rs T a φ))) ⟨nx,xZ⟩:=by
 obtain⟨T1,T16⟩:=ok.hT;obtain⟨R1,R64⟩:=ok.hR;have hA4:=ok.hA;have hRT:=ok.hP;refine xY.gS ⟨_,func151,by kernel_rfl,by kernel_rfl⟩ λhu=>xY.clean ?_;have hc:=hS.c;have hs:=hS.s (by omega);have hm:=hS.m a ha;have bc:=(hu _ _ hc).1;have bs:=(hu _ _ hs).1;have bm:=(hu _ _ hm).1;simp only at bc bs bm;have hL:((List.range A).map λi=>[D.yI (km i)]).length=A:=by simp
 have hne:((List.range A).map λi=>[D.yI (km i)])≠ []:=λe=>by rw [e] at hL; simp at hL; omega
 have hLg:((List.range A).map λi=>[D.yI (km i)]).getD a [] = [D.yI (km a)]:=by simp [List.getD,ha]
 rw [mP hne,hL] at hc;have y1:¬ nx+1+1+1=kc:=by omega
 have y2:¬ nx+1+1=kc:=by omega
 have y3:¬ nx+1=kc:=by omega
 have y4:¬ nx=kc:=by omega
 have z1:¬ nx+1+1+1=ks:=by omega
 have z2:¬ nx+1+1=ks:=by omega
 have z3:¬ nx+1=ks:=by omega
 have z4:¬ nx=ks:=by omega
 have w1:¬ nx+1+1+1=nx:=by omega
 have w2:¬ nx+1+1=nx:=by omega
 have w3:¬ nx+1=nx:=by omega
 have w4:¬ nx+1+1+1=nx+1:=by omega
 have w5:¬ nx+1+1=nx+1:=by omega
 refine xY.xN mixed func151 Im (by simp) λhf=>?_;simp only [simprocAttr,-ZA,↓zU,↓zD,zV,zT,zW,hc,hs,hL,hLg,y1,y2,y3,y4,z1,z2,z3,z4,w1,w2,w3,w4,w5]
 (repeat refine sd ?_)
 have hk1:∀ {objs':List (Nat × Ob)},(∀ k,k<nx->St.look objs' k=St.look xZ k)->jD rs A F T kc ks km objs':=λh=>hS.mono λk o hk=>by have:=(hu k o hk).1;simp only at this;rw [h k this]; exact hk
 refine Qa mixed (km a) (uA .i64 (mG (mC rs T a))) (by simp [rB,Fr.get]) (by show St.look _ (km a)= _; rw [xX,if_neg (by omega),xX,if_neg (by omega),xX,if_neg (by omega),xX,if_neg (by omega)]; exact hm)
  (λ(_:List Nat) (_:List (Int × Bool) × Nat × List (Nat × Ob))=>[(7,.ref (nx+1+1+1) 1 0 0),(4,.ref (nx+1) 1 0 0),(3,.ref nx 1 0 0),(2,.sl 1 (tD rs.length T φ))]) (λ_ a=>⟨a.2.1,a.2.2⟩)
  (λseen b=>Kz nx a kc xZ b.1 b.2.1 b.2.2/\L6 φ (mC rs T a) seen b.1) ([],nx+1+1+1+1,(nx+1+1+1,⟨1,[[.yI (nx+1+1)]]⟩) :: (nx+1+1,⟨0,[]⟩) :: (nx+1,⟨1,[[.int .i64 (a:Int)]]⟩) :: (nx,⟨1,[[.ref kc 6 0 0]]⟩) :: xZ) ⟨⟨by simp only; omega,λk hk=>?_,?_,?_,?_,?_⟩,λi hi=>absurd hi (by simp)⟩ ?_ ?_ ?_ ?_
 ·simp only; rw [xX,if_neg (by omega),xX,if_neg (by omega),xX,if_neg (by omega),xX,if_neg (by omega)]
 ·simp only; rw [xX,if_neg (by omega),xX,if_neg (by omega),xX,if_neg (by omega),xX,if_pos rfl]
 ·simp only; rw [xX,if_neg (by omega),xX,if_neg (by omega),xX,if_pos rfl]
 ·simp only; rw [xX,if_neg (by omega),xX,if_pos rfl]; rfl
 ·simp only; rw [xX,if_pos rfl]
 ·intro b
  (refine xT.same ?_; simp [xS,Fr.get])
 ·intro seen b ⟨hI,_⟩;exact(hI.sO _ bm).trans hm
 ·rintro b seen ⟨u,nx',objs'⟩ ⟨hI,hJ⟩ hnd hlt hall;simp only at hI hJ ⊢;rw [Xk,Y0] at hlt hall;have hS':=hk1 hI.sO;have e3:=hI.k3;have e0:=hI.k0;have n1:=hI.n1
  have hfill:=Sa (nx:=nx') (kc:=kc) (xZ:=objs') (g:=205) (caps:=[.ref (nx+1+1+1) 1 0 0,.ref nx 1 0 0,.ref (nx+1) 1 0 0]) (φ:=λp=>nU (yV rs a p) u) ok hS'.c (λnx1 objs1 i t h1 h2 hi ht=> OE ok ha (by rw [h2 _ (by omega)]; exact hI.k3) (by rw [h2 _ (by omega)]; exact hI.k2) (by rw [h2 _ (by omega)]; exact hI.k0) (by rw [h2 _ (by omega)]; exact hI.k1) (by rw [h2 _ (by omega)]; exact hS'.c) hi ht)
  rw [Zh (ψ:=nE rs T a φ) λi t hi ht=>hJ.Kp (λi hi=>LX hnd hlt hall i hi) (OG T1 hi ht)] at hfill;simp only [simprocAttr,-ZA,↓zU,↓zD,zV,zT,zW,e0]
  (repeat refine sd ?_)
  refine .go hfill ?_;simp only [simprocAttr,-ZA,↓zU,↓zD,zV,zT,zW];refine .gone hu (λk o hk=>?_) (by simp only [vw]; exact⟨trivial,trivial⟩);have:=(hu k o hk).1;simp only at this;show St.look objs' k=_;rw [hI.sO k this]; exact hk
 rintro b seen ⟨u,nx',objs'⟩ i ⟨hI,hJ⟩ hnd hlt hi hni;simp only at hI hJ ⊢;rw [Xk,Y0] at hlt hi;have hgi:=Qd (kk:=.i64) (l:=mG (mC rs T a)) (by rw [Y0]; exact hi);rw [Lv hi] at hgi;have hstep:=hJ.step (O3 rs T a) hlt hi hni;have hin:=O0 hi;have hgl:=QD hi;generalize (mC rs T a).getD i (0,[])= g at hgi hstep hin hgl;obtain⟨x,l⟩:=g;simp only at hgi hstep hin hgl;rw [hgi];simp only [simprocAttr,-ZA,↓zU,↓zD,zV,zT,zW]
 (repeat refine sd ?_)
 refine UR mixed ?_;simp only [simprocAttr,-ZA,↓zU,↓zD,zV,zT,zW,wM]
 (repeat refine sd ?_)
 refine xP (λc:Nat × Nat × List (Nat × Ob)=>[(29,.int .i64 c.1),(28,.int .i64 l.length),(27,.sl 2 (pF l)),(10,.bool ((l.take c.1).all φ)),(8,.int .i64 x),(21,.aG b),(7,.ref (nx+1+1+1) 1 0 0),(4,.ref (nx+1) 1 0 0),(3,.ref nx 1 0 0),(2,.sl 1 (tD rs.length T φ))])
  (λc=>⟨c.2.1,c.2.2⟩) (λc=>c.1<=l.length/\Kz nx a kc xZ u c.2.1 c.2.2) (λc=>l.length-c.1) (0,nx',objs') ⟨Aq _,hI⟩ ?_ ?_
 ·(refine xT.same ?_; simp [xS,Fr.get])
 clear hI;rintro ⟨w,nx2,objs2⟩ ⟨hw,hI⟩;simp only at hw hI ⊢;refine xM mixed ?_;by_cases hwl:w<l.length
 case neg=>
  have hd:¬ ((w:Int)<(l.length:Int)):=by omega
  have hall:l.take w=l:=ξ (by omega);have e2:=hI.k2;have e3:=hI.k3;have hap:=Vn x (l.all φ) u;simp only [simprocAttr,-ZA,↓zU,↓zD,zV,zT,zW,hd,hall,e2,e3,hap]
  (repeat refine sd ?_)
  have n1:=hI.n1;refine⟨(s8 x (l.all φ) u,nx2,?zo0),⟨⟨n1,λk hk=>?_,?_,?_,?_,?_⟩,hstep⟩,?zw⟩
  case zw=>(refine xT.same ?_; simp [xS,Fr.get])
  all_goals simp only
  ·rw [xU,if_neg (by omega)]; exact hI.sO k hk
  ·rw [xU,if_neg (by omega)]; exact hI.k0
  ·rw [xU,if_neg (by omega)]; exact hI.k1
  ·rw [xU,if_pos rfl,e2]; rfl
  ·rw [xU,if_neg (by omega)]; exact hI.k3
 have hd:((w:Int)<(l.length:Int)):=by omega
 have hpg:=lS l hwl;have hp:=MA T1 (hin _ (xL (d:=(0,0)) hwl))
 have htk:l.take (w+1)= l.take w ++ [l.getD w (0,0)]:=by rw [Ap];congr 1;simp [List.getD,hwl]
 generalize l.getD w (0,0)= p at hpg hp htk;have hall:(l.take (w+1)).all φ=((l.take w).all φ&&φ p):=by rw [htk,List.all_append]; simp
 generalize (l.take w).all φ=c at hall;have g1:=sq (T:=T) (φ:=φ) hp.1;have g2:=bw (i:=p.1) (φ:=φ) hp.2
 cases c with
 | true=>
  simp only [simprocAttr,-ZA,↓zU,↓zD,zV,zT,zW,hd,wM,hpg,mW,g1,fJ,An,Ag,g2]
  (repeat refine sd ?_)
  refine⟨(w+1,nx2+1,?zo1),⟨by show w+1<=l.length; omega,hI.more (Az _) λk hk=>?_⟩,?zx,by show l.length-(w+1)<l.length-w; omega⟩
  case zx=>
   (refine xT.same ?_; simp only [xS,Fr.get,simprocAttr,-ZA,zS,hall,Bool.true_and,Bool.false_and])
   exact vP (by omega)
  ·simp only; rw [xX,if_neg (by omega)]
 | false=>
  simp only [simprocAttr,-ZA,↓zU,↓zD,zV,zT,zW,hd,wM,hpg]
  (repeat refine sd ?_)
  refine⟨(w+1,nx2+1,?zo2),⟨by show w+1<=l.length; omega,hI.more (Az _) λk hk=>?_⟩,?zy,by show l.length-(w+1)<l.length-w; omega⟩
  case zy=>
   (refine xT.same ?_; simp only [xS,Fr.get,simprocAttr,-ZA,zS,hall,Bool.true_and,Bool.false_and])
   exact vP (by omega)
  ·simp only; rw [xX,if_neg (by omega)]
end
end Go.Pd
