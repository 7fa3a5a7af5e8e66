/- Part SQ. -/
import Derived.Test.YtccobgpcnfjbhaaZcX9
set_option linter.unusedSectionVars false
set_option linter.unusedVariables false
set_option linter.unusedSimpArgs false
set_option linter.defProp false
set_option maxRecDepth 20000
set_option maxHeartbeats 1000000
open Go.Proofs.Try
open List renaming drop_eq_nil_of_le->γ,any_eq_false->δ,any_cons->ε,all_cons->ζ,any_nil->η,all_nil->θ
open Bool renaming false_and->μ,true_and->ν,false_or->ξ,true_or->ο,or_eq_false_iff->π,not_eq_false'->τ
open Nat renaming zero_le->υ
open Int renaming eq_ofNat_of_zero_le->χ,toNat_natCast->ψ
namespace Go.Pd
open Go Go.Proofs
open BitVec renaming isValue -> ZA
section
open Ru
theorem uR (s:wQ):yA prog 56 [s.d] (.int .i64 (uJ s)):=by
 have hD:s.d = .agg [.int .i64 s.ag,.int .i64 s.fa,.int .i64 s.ln,.sl 2 (xK s.rs)]:=rfl;rw [hD];refine zL func56 Sa λhf=>?_
 by_cases a1:s.ag<0
 ·rw [show uJ s=2 by unfold uJ; rw [if_pos (.inl a1)]];refine vY a1 ?_;exact .dv
 by_cases a2:4<s.ag
 ·rw [show uJ s=2 by unfold uJ; rw [if_pos (by omega)]];refine uA a1 a2 ?_;exact .dv
 by_cases a3:s.fa<0
 ·rw [show uJ s=2 by unfold uJ; rw [if_pos (by omega)]];refine cX a1 a2 a3 ?_;exact .dv
 by_cases a4:8<s.fa
 ·rw [show uJ s=2 by unfold uJ; rw [if_pos (by omega)]];refine p4 a1 a2 a3 a4 ?_;exact .dv
 by_cases a5:s.ln<1
 ·rw [show uJ s=2 by unfold uJ; rw [if_pos (by omega)]];refine p5 a1 a2 a3 a4 a5 ?_;exact .dv
 by_cases a6:16<s.ln
 ·rw [show uJ s=2 by unfold uJ; rw [if_pos (by omega)]];refine ZZ a1 a2 a3 a4 a5 a6 ?_;exact .dv
 have e0:uJ s=if 64<(s.rs.length:Int)\/512<(s.rs.length:Int)* s.ln then 8 else
  if s.rs.length=0 then 3 else if s.rs.any (sT s)= true then 3 else if s.rs.any (kF s)= true then 2 else 0:=by
  unfold uJ; rw [if_neg (by omega)]
 by_cases b1:64<(s.rs.length:Int)
 ·rw [e0,if_pos (.inl b1)];refine WQ a1 a2 a3 a4 a5 a6 xV b1 ?_;exact .dv
 have hm:(s.rs.length:Int)* s.ln<=64*16:=Int.mul_le_mul (by omega) (by omega) (by omega) (by omega);have hm0:0<=(s.rs.length:Int)* s.ln:=Int.mul_nonneg (by omega) (by omega);have hw:IntKind.i64.wrap ((s.rs.length:Int)* s.ln)= (s.rs.length:Int)* s.ln:=wrap_i64 (by omega)
 by_cases b2:512<(s.rs.length:Int)* s.ln
 ·rw [e0,if_pos (.inr b2)];refine Y1 a1 a2 a3 a4 a5 a6 xV b1 hw b2 ?_;exact .dv
 rw [e0,if_neg (by omega)]
 by_cases b3:s.rs.length=0
 ·rw [if_pos b3];have b3':((s.rs.length:Int)== 0)= true:=by rw [b3]; rfl
  refine qi a1 a2 a3 a4 a5 a6 xV b1 hw b2 b3' ?_;exact .dv
 rw [if_neg b3];have b3':((s.rs.length:Int)== 0)= false:=by rw [beq_eq_false_iff_ne]; omega
 refine qi a1 a2 a3 a4 a5 a6 xV b1 hw b2 b3' ?_
 refine xO (λk:Nat=>[(3,.int .i64 k),(1,.ref 0 4 0 0)]) (λ_=>⟨1,[(0,⟨4,[[.int .i64 s.ag,.int .i64 s.fa,.int .i64 s.ln,.sl 2 (xK s.rs)]]⟩)]⟩)
  (λk=>k<=s.rs.length/\s.rs.any (sT s)= (s.rs.drop k).any (sT s)) (λk=>s.rs.length-k) 0 ⟨υ _,rfl⟩ ?_ ?_
 ·exact wI
 intro k ⟨hk,hi⟩;refine xE mixed ?_;by_cases hkl:k<s.rs.length
 case neg=>
  have hd:¬ ((k:Int)<(s.rs.length:Int)):=by omega
  rw [γ (by omega),η] at hi;rw [if_neg (by rw [hi]; simp)];refine uA hd xV ?_
  refine xO (λk:Nat=>[(5,.int .i64 k),(1,.ref 0 4 0 0)]) (λ_=>⟨1,[(0,⟨4,[[.int .i64 s.ag,.int .i64 s.fa,.int .i64 s.ln,.sl 2 (xK s.rs)]]⟩)]⟩)
   (λk=>k<=s.rs.length/\s.rs.any (kF s)= (s.rs.drop k).any (kF s)) (λk=>s.rs.length-k) 0 ⟨υ _,rfl⟩ ?_ ?_
  ·exact wI
  intro k ⟨hk,hv⟩;refine xE mixed ?_;by_cases hkl:k<s.rs.length
  case neg=>
   have hd:¬ ((k:Int)<(s.rs.length:Int)):=by omega
   rw [γ (by omega),η] at hv;rw [if_neg (by rw [hv]; simp)];refine uA hd xV ?_;exact .dv
  have hd:((k:Int)<(s.rs.length:Int)):=by omega
  rw [drop_cons (d:=yF) hkl,ε] at hv
  have hnb:sT s (s.rs.getD k yF)= false:=by have:=δ.1 hi _ (yX (d:=yF) hkl);simpa using this
  have hg:=wE s.rs hkl;generalize s.rs.getD k yF=r at hg hv hnb
  have hfl:(r.zM.length:Int)= s.ln:=by simp only [sT,π,τ,decide_eq_true_eq] at hnb;exact hnb.1.2
  refine uA hd xV ?_
  refine xO (λt:Nat=>[(6,.int .i64 t),(5,.int .i64 k),(1,.ref 0 4 0 0)]) (λ_=>⟨1,[(0,⟨4,[[.int .i64 s.ag,.int .i64 s.fa,.int .i64 s.ln,.sl 2 (xK s.rs)]]⟩)]⟩)
   (λt=>t<=r.zM.length/\kF s r=(r.zM.drop t).any (λf=>!decide (f >>> s.fa.toNat=0#64))) (λt=>r.zM.length-t) 0 ⟨υ _,rfl⟩ ?_ ?_
  ·exact wI
  intro t ⟨ht,hb⟩;refine xE mixed ?_;by_cases htl:t<r.zM.length
  case neg=>
   have hd2:¬ ((t:Int)<s.ln):=by omega
   rw [γ (by omega),η] at hb;refine lR hd2 xV ?_
   refine⟨k+1,⟨by omega,?_⟩,?_,by omega⟩
   ·rw [hv,hb,ξ]
   exact sW
  have hd2:((t:Int)<s.ln):=by omega
  rw [drop_cons (d:=0) htl,ε] at hb;have hgu:=gL r.zM htl;generalize r.zM.getD t 0=x at hgu hb
  by_cases hx:x >>> s.fa.toNat=0#64
  ·have ex:(x >>> s.fa.toNat != 0#64)= false:=by simpa using hx
   rw [decide_eq_true hx,Bool.not_true,ξ] at hb;simp only [simprocAttr,-ZA,↓zU,↓zD,zV,zT,zW,hd2,xV,hd,hg,xN.row,zB,hgu,ex]
   (repeat refine sd ?_)
   refine⟨t+1,⟨by omega,hb⟩,?_,by omega⟩;exact sW
  ·have ex:(x >>> s.fa.toNat != 0#64)= true:=by simpa using hx
   rw [decide_eq_false hx,Bool.not_false,ο] at hb;rw [if_pos (by rw [hv,hb,ο])];simp only [simprocAttr,-ZA,↓zU,↓zD,zV,zT,zW,hd2,xV,hd,hg,xN.row,zB,hgu,ex]
   (repeat refine sd ?_)
   exact .dv
 have hd:((k:Int)<(s.rs.length:Int)):=by omega
 rw [drop_cons (d:=yF) hkl,ε] at hi;have hg:=wE s.rs hkl;generalize s.rs.getD k yF=r at hg hi;have hend:sT s r=true->s.rs.any (sT s)= true:=λh=>by rw [hi,h,ο]
 by_cases c1:(r.loc.length:Int)= s.ln
 case neg=>
  have e1:((r.loc.length:Int) != s.ln)= true:=by simpa using c1
  rw [if_pos (hend (by unfold sT; simp [c1]))];simp only [simprocAttr,-ZA,↓zU,↓zD,zV,zT,zW,hd,xV,hg,xN.row,xP,e1]
  (repeat refine sd ?_)
  exact .dv
 have e1:((r.loc.length:Int) != s.ln)= false:=by simpa using c1
 by_cases c2:(r.zM.length:Int)= s.ln
 case neg=>
  have e2:((r.zM.length:Int) != s.ln)= true:=by simpa using c2
  rw [if_pos (hend (by unfold sT; simp [c2]))];simp only [simprocAttr,-ZA,↓zU,↓zD,zV,zT,zW,hd,xV,hg,xN.row,xP,e1,zB,e2]
  (repeat refine sd ?_)
  exact .dv
 have e2:((r.zM.length:Int) != s.ln)= false:=by simpa using c2
 have hbf:sT s r=r.loc.any λl=>!decide ((l.length:Int)= s.ag):=by unfold sT; simp [c1,c2]
 simp only [simprocAttr,-ZA,↓zU,↓zD,zV,zT,zW,hd,xV,hg,xN.row,xP,e1,zB,e2]
 (repeat refine sd ?_)
 refine xO (λt:Nat=>[(4,.int .i64 t),(3,.int .i64 k),(1,.ref 0 4 0 0)]) (λ_=>⟨1,[(0,⟨4,[[.int .i64 s.ag,.int .i64 s.fa,.int .i64 s.ln,.sl 2 (xK s.rs)]]⟩)]⟩)
  (λt=>t<=r.loc.length/\sT s r=(r.loc.drop t).any (λl=>!decide ((l.length:Int)= s.ag))) (λt=>r.loc.length-t) 0 ⟨υ _,hbf⟩ ?_ ?_
 ·exact wI
 intro t ⟨ht,hb⟩;refine xE mixed ?_;by_cases htl:t<r.loc.length
 case neg=>
  have hd2:¬ ((t:Int)<s.ln):=by omega
  rw [γ (by omega),η] at hb;refine pZ hd2 ?_
  refine⟨k+1,⟨by omega,?_⟩,?_,by omega⟩
  ·rw [hi,hb,ξ]
  exact sW
 have hd2:((t:Int)<s.ln):=by omega
 rw [drop_cons (d:=[]) htl,ε] at hb;have hgu:=wG r.loc htl;generalize r.loc.getD t []=x at hgu hb
 by_cases hx:(x.length:Int)= s.ag
 ·have ex:((x.length:Int) != s.ag)= false:=by simpa using hx
  rw [decide_eq_true hx,Bool.not_true,ξ] at hb;simp only [simprocAttr,-ZA,↓zU,↓zD,zV,zT,zW,hd2,xV,hd,hg,xN.row,xP,hgu,xF,ex]
  (repeat refine sd ?_)
  refine⟨t+1,⟨by omega,hb⟩,?_,by omega⟩;exact sW
 ·have ex:((x.length:Int) != s.ag)= true:=by simpa using hx
  rw [decide_eq_false hx,Bool.not_false,ο] at hb;rw [if_pos (hend hb)];simp only [simprocAttr,-ZA,↓zU,↓zD,zV,zT,zW,hd2,xV,hd,hg,xN.row,xP,hgu,xF,ex]
  (repeat refine sd ?_)
  exact .dv
end
section
open Ru
theorem lV {nx n key sz:Nat} {xW:List (Nat × Ob)} {xX:List (List D)} (hs:0<sz) (hp:∀ e ∈ xX,D.xT e=true) (h:St.look xW key=zN sz xX) {ρ:Nat->Nat}:vw ⟨nx,xW⟩ ⟨n,[]⟩ ρ (xI key sz xX) (.sl sz xX):=by
 cases xX with
 | nil=>simp [xI,vw]
 | cons e r=> simp only [xI,vw];refine⟨trivial,hs,by simp,⟨sz,e :: r⟩,?_,rfl,by simp,by simp,hp⟩;show St.look xW key=_;rw [h]; rfl
namespace Ru
def mT (l:List (Nat × Nat)):List (List D):=l.map λp=>[.int .i64 (p.1:Int),.int .i64 (p.2:Int)]
theorem uC (l:List (Nat × Nat)):(mT l).length=l.length:=by simp [mT]
theorem hU (l:List (Nat × Nat)) {i:Nat} (h:i<l.length):(mT l).getD i [] = [.int .i64 ((l.getD i (0,0)).1:Int),.int .i64 ((l.getD i (0,0)).2:Int)]:=by simp [mT,List.getD,h]
theorem fO (l:List (Nat × Nat)):∀ e ∈ mT l,D.xT e=true:=by intro e he;simp only [mT,List.mem_map] at he;obtain⟨r,_,rfl⟩:=he;rfl
theorem rG (l:List (Nat × Nat)):tS (mT l)= True:=eq_true (fO l)
theorem zk (l:List (Nat × Nat)) (a b:Nat):mT l ++ [[.int .i64 (a:Int),.int .i64 (b:Int)]]=mT (l ++ [(a,b)]):=by simp [mT]
theorem pn : mT [] = []:=rfl
def oE (T n:Nat):List (Nat × Nat):=(List.range n).map λi=>(i / T,i % T)
theorem hE (T n:Nat):(oE T n).length=n:=by simp [oE]
theorem pk (T:Nat) {n i:Nat} (h:i<n):(oE T n).getD i (0,0)= (i / T,i % T):=by simp [oE,List.getD,h]
theorem zj (T r t:Nat) (ht:t<T):oE T (r*T+(t+1))= oE T (r*T+t)++ [(r,t)]:=by
 rw [show r*T+(t+1)= (r*T+t)+ 1 by omega];unfold oE;rw [List.range_succ,List.map_append,List.map_singleton]
 have e1:(r*T+t)/ T=r:=by rw [Nat.mul_comm,Nat.mul_add_div (by omega),Nat.div_eq_of_lt ht]; rfl
 have e2:(r*T+t) % T=t:=by rw [Nat.mul_comm,Nat.mul_add_mod,Nat.mod_eq_of_lt ht]
 rw [e1,e2]
def kJ (s:wQ):List (Nat × Nat):=if uJ s≠0 then [] else oE s.ln.toNat (s.rs.length*s.ln.toNat)
structure Ok (s : wQ) (A F T : Nat) : Prop where
 ag:s.ag=A
 fa:s.fa=F
 ln:s.ln=T
 hA:A<=4
 hF:F<=8
 hT:1<=T/\T<=16
 hR:1<=s.rs.length/\s.rs.length<=64
 hP:s.rs.length*T<=512
 loc:∀ r ∈ s.rs,r.loc.length=T
 zM:∀ r ∈ s.rs,r.zM.length=T
 row:∀ r ∈ s.rs,∀ l ∈ r.loc,l.length=A
 val:∀ r ∈ s.rs,∀ f ∈ r.zM,f >>> F=0#64
theorem eY {s:wQ} (h:uJ s=0):∃ A F T,Ok s A F T:=by
 unfold uJ at h
 split at h
 ·cases h
 rename_i h1
 split at h
 ·cases h
 rename_i h2
 split at h
 ·cases h
 rename_i h3
 split at h
 ·cases h
 rename_i h4
 split at h
 ·cases h
 rename_i h5;obtain⟨A,hA⟩:=χ (show 0<=s.ag by omega);obtain⟨F,hF⟩:=χ (show 0<=s.fa by omega);obtain⟨T,hT⟩:=χ (show 0<=s.ln by omega);have h4':∀ r ∈ s.rs,sT s r=false:=λr hr=>by simpa using δ.1 (by simpa using h4) r hr
 have h5':∀ r ∈ s.rs,kF s r=false:=λr hr=>by simpa using δ.1 (by simpa using h5) r hr
 have hb:∀ r ∈ s.rs,r.loc.length=T/\r.zM.length=T/\∀ l ∈ r.loc,l.length=A:=λr hr=>by have:=h4' r hr;simp only [sT,π,τ,decide_eq_true_eq,δ,hT,hA] at this;refine⟨by omega,by omega,λl hl=>?_⟩;have:=this.2 l hl;simp at this;omega
 refine⟨A,F,T,hA,hF,hT,by omega,by omega,by omega,by omega,?_,λr hr=>(hb r hr).1,λr hr=>(hb r hr).2.1,λr hr=>(hb r hr).2.2,λr hr f hf=>?_⟩
 ·have:((s.rs.length*T:Nat):Int)<=512:=by rw [Int.natCast_mul,<- hT]; omega
  omega
 ·have:=h5' r hr;simp only [kF,δ] at this;have:=this f hf;rw [hF,ψ] at this;simpa using this
theorem po {s:wQ} {A F T:Nat} (h:Ok s A F T) (hz:uJ s=0):kJ s=oE T (s.rs.length*T):=by unfold kJ; rw [if_neg (by simpa using hz),h.ln,ψ]
end Ru
theorem s7 (s:wQ):yA prog 48 [s.d] (.sl 2 (mT (kJ s))):=by
 have hD:s.d = .agg [.int .i64 s.ag,.int .i64 s.fa,.int .i64 s.ln,.sl 2 (xK s.rs)]:=rfl;have hC:=nC s;rw [hD] at hC ⊢;refine zL func48 SZ λhf=>?_;refine uB ?_;refine .go (cq hC) ?_;by_cases hz:uJ s=0
 case neg=>
  have e:(uJ s != 0)= true:=by simpa using hz
  rw [show kJ s = [] by unfold kJ; rw [if_pos hz]];refine vY e ?_;exact .drop (by simp) (by simp [vw,mT])
 have e:(uJ s != 0)= false:=by simpa using hz
 obtain⟨A,F,T,ok⟩:=eY hz;rw [po ok hz];obtain⟨T1,T16⟩:=ok.hT;obtain⟨R1,R64⟩:=ok.hR;simp only [simprocAttr,-ZA,↓zU,↓zD,zV,zT,zW,e,ok.ln,ok.ag,ok.fa,xV]
 refine xO (λr:Nat=>[(12,.int .i64 r),(11,.int .i64 s.rs.length),(3,xI 1 2 (mT (oE T (r*T)))),(1,.ref 0 4 0 0)]) (λr=>⟨2,xM 1 2 (mT (oE T (r*T)))++ [(0,⟨4,[[.int .i64 A,.int .i64 F,.int .i64 T,.sl 2 (xK s.rs)]]⟩)]⟩)
  (λr=>r<=s.rs.length) (λr=>s.rs.length-r) 0 (υ _) ?_ ?_
 ·rw [Nat.zero_mul]
  (refine lP [] [0] ?_; simp only [vX,zQ,simprocAttr,-ZA,exists_eq_left',ne_eq,zR,oE,List.range_zero,List.map_nil,pn,wK,wL,List.nil_append])
 intro r hr;refine xE mixed ?_;by_cases hrl:r<s.rs.length
 case neg=>
  have hd:¬ ((r:Int)<(s.rs.length:Int)):=by omega
  rw [show r=s.rs.length by omega] at hd ⊢;refine vY hd ?_;exact .drop (by simp) (lV (by decide) (fO _) (by simp [St.look,qI,xQ]))
 have hd:((r:Int)<(s.rs.length:Int)):=by omega
 refine vY hd ?_
 refine xO (λt:Nat=>[(17,.int .i64 t),(16,.int .i64 T),(12,.int .i64 r),(11,.int .i64 s.rs.length),(4,.int .i64 r),(3,xI 1 2 (mT (oE T (r*T+t)))),(1,.ref 0 4 0 0)]) (λt=>⟨2,xM 1 2 (mT (oE T (r*T+t)))++ [(0,⟨4,[[.int .i64 A,.int .i64 F,.int .i64 T,.sl 2 (xK s.rs)]]⟩)]⟩)
  (λt=>t<=T) (λt=>T-t) 0 (υ _) ?_ ?_
 ·rw [Nat.add_zero];exact aU [] [1,0] rG
 intro t ht;refine xE mixed ?_;by_cases htl:t<T
 case neg=>
  have hd2:¬ ((t:Int)<(T:Int)):=by omega
  have et:t=T:=by omega
  refine pZ hd2 ?_;refine⟨r+1,by omega,?_,by omega⟩;rw [show (r+1)* T=r*T+t by rw [Nat.add_mul,et]; omega];exact aU [] [1,0] rG
 have hd2:((t:Int)<(T:Int)):=by omega
 have hlen:r*T+t<1024:=by
  have:r*T<=64*16-16:=by have:=Nat.mul_le_mul (show r<=63 by omega) T16;omega
  omega
 have hS:=zj T r t htl;have hln:=hE T (r*T+t);have hw:IntKind.i64.wrap ((t:Int)+ 1)= ((t+1:Nat):Int):=wrap_i64 (by omega);generalize oE T (r*T+t)= l at hS hln;refine yz hd2 uC hln ?_;refine⟨t+1,by omega,?_,by omega⟩;rw [hS,zk];exact cY [(1,2)] [1,0] rG hw
end
section
namespace Ru
def iH (rs:List xN) (a:Nat) (p:Nat × Nat):Int:=((rs.getD p.1 yF).loc.getD p.2 []).getD a 0
structure lS (rs : List xN) (A F T : Nat) : Prop where
 hA:A<=4
 hF:F<=8
 hT:1<=T/\T<=16
 hR:1<=rs.length/\rs.length<=64
 hP:rs.length*T<=512
 loc:∀ r ∈ rs,r.loc.length=T
 zM:∀ r ∈ rs,r.zM.length=T
 row:∀ r ∈ rs,∀ l ∈ r.loc,l.length=A
 val:∀ r ∈ rs,∀ f ∈ r.zM,f >>> F=0#64
theorem xv {s:wQ} (h:uJ s=0):∃ (A F T:Nat) (rs:List xN),s=⟨A,F,T,rs⟩/\ lS rs A F T:=by obtain⟨A,F,T,ok⟩:=eY h;obtain⟨ag,fa,ln,rs⟩:=s;obtain⟨h1,h2,h3,h4,h5,h6,h7,h8,h9,h10,h11,h12⟩:=ok;simp only at h1 h2 h3 h7 h8 h9 h10 h11 h12;subst h1 h2 h3;exact⟨A,F,T,rs,rfl,⟨h4,h5,h6,h7,h8,h9,h10,h11,h12⟩⟩
def Tn (rs:List xN) (T:Nat) (l:List (Nat × Nat)):Prop:=∀ p ∈ l,p.1<rs.length/\p.2<T
theorem ft {rs:List xN} {T n:Nat} (hT:1<=T) (hn:n<=rs.length*T):Tn rs T (oE T n):=λp hp=>by simp only [oE,List.mem_map,List.mem_range] at hp;obtain⟨i,hi,rfl⟩:=hp;refine⟨(Nat.div_lt_iff_lt_mul (by omega)).2 (by omega),Nat.mod_lt _ (by omega)⟩
def sD (A F T:Nat) (rs:List xN):D:=.agg [.int .i64 (A:Int),.int .i64 (F:Int),.int .i64 (T:Int),.sl 2 (xK rs)]
end Ru
open Ru
theorem YW {rs:List xN} {A F T:Nat} (ok:lS rs A F T) {a:Nat} (ha:a<A) {p:Nat × Nat} (hp:p.1<rs.length/\p.2<T):yA prog 55 [sD A F T rs,.int .i64 a,.agg [.int .i64 (p.1:Int),.int .i64 (p.2:Int)]] (.int .i64 (iH rs a p)):=by
 have hm:=yX (d:=yF) hp.1;have hg:=wE rs hp.1;have h1:=ok.loc _ hm;have h2:=ok.row _ hm _ (yX (d:=[]) (show p.2<(rs.getD p.1 yF).loc.length by omega));unfold iH sD;generalize rs.getD p.1 yF=r at hg h1 h2;have hg2:=wG r.loc (show p.2<r.loc.length by omega);generalize r.loc.getD p.2 []=x at hg2 h2;have hg3:=yU .i64 x (show a<x.length by omega);refine zL func55 SX λhf=>?_;simp only [simprocAttr,-ZA,↓zU,↓zD,zV,zT,zW,xV,hg,xN.row,xP,hg2,xF,hg3]
 (repeat refine sd ?_)
 exact .dv
end
open Ru
namespace Ru
end Ru
namespace Ru
end Ru
open Ru
open Ru
namespace Ru
end Ru
namespace Ru
def pV (r:xN):Bool:=decide (r.loc.length<=20)&& decide (r.zM.length<=20)&& r.loc.all λl=>decide (l.length<=10)
def n9 (s:wQ):Bool:=if (10<s.rs.length/\s.rs.length<=64)\/70<s.rs.length then false else s.rs.all pV
end Ru
theorem Sl (s:wQ):yA prog 14 [s.d] (.bool (n9 s)):=by
 have hD:s.d = .agg [.int .i64 s.ag,.int .i64 s.fa,.int .i64 s.ln,.sl 2 (xK s.rs)]:=rfl;rw [hD];refine zL func14 SR λhf=>?_
 by_cases h0:(10<s.rs.length/\s.rs.length<=64)\/70<s.rs.length
 ·rw [show n9 s=false from if_pos h0]
  by_cases a1:(10:Int)<(s.rs.length:Int)
  ·by_cases a2:(s.rs.length:Int)<=64
   ·refine cX xV a1 a2 ?_;exact .dv
   ·have a3:(70:Int)<(s.rs.length:Int):=by omega
    refine p4 xV a1 a2 a3 ?_;exact .dv
  ·exfalso; omega
 rw [show n9 s=s.rs.all pV from if_neg h0];have a3:¬ (70:Int)<(s.rs.length:Int):=by omega
 by_cases a1:(10:Int)<(s.rs.length:Int)
 case pos=>
  have a2:¬ (s.rs.length:Int)<=64:=by omega
  refine p4 xV a1 a2 a3 ?_
  refine xO (λk:Nat=>[(3,.int .i64 k),(1,.ref 0 4 0 0)]) (λ_=>⟨1,[(0,⟨4,[[.int .i64 s.ag,.int .i64 s.fa,.int .i64 s.ln,.sl 2 (xK s.rs)]]⟩)]⟩)
   (λk=>k<=s.rs.length/\s.rs.all pV=(s.rs.drop k).all pV) (λk=>s.rs.length-k) 0 ⟨υ _,rfl⟩ ?_ ?_
  ·exact wI
  intro k ⟨hk,hi⟩;refine xE mixed ?_;by_cases hkl:k<s.rs.length
  case neg=>
   have hd:¬ ((k:Int)<(s.rs.length:Int)):=by omega
   rw [γ (by omega),θ] at hi;rw [hi];refine uA xV hd ?_;exact .dv
  have hd:((k:Int)<(s.rs.length:Int)):=by omega
  rw [drop_cons (d:=yF) hkl,ζ] at hi;have hg:=wE s.rs hkl;generalize s.rs.getD k yF=r at hg hi
  by_cases c1:(20:Int)<(r.loc.length:Int)
  ·rw [show pV r=false by simp [pV]; omega,μ] at hi;rw [hi];simp only [simprocAttr,-ZA,↓zU,↓zD,zV,zT,zW,xV,hd,hg,xN.row,xP,c1]
   (repeat refine sd ?_)
   exact .dv
  by_cases c2:(20:Int)<(r.zM.length:Int)
  ·rw [show pV r=false by simp [pV]; omega,μ] at hi;rw [hi];simp only [simprocAttr,-ZA,↓zU,↓zD,zV,zT,zW,xV,hd,hg,xN.row,xP,c1,zB,c2]
   (repeat refine sd ?_)
   exact .dv
  have hfr:pV r=r.loc.all λl=>decide (l.length<=10):=by unfold pV; rw [decide_eq_true (by omega),decide_eq_true (by omega)]; rfl
  simp only [simprocAttr,-ZA,↓zU,↓zD,zV,zT,zW,xV,hd,hg,xN.row,xP,c1,zB,c2]
  (repeat refine sd ?_)
  refine xO (λt:Nat=>[(4,.int .i64 t),(3,.int .i64 k),(1,.ref 0 4 0 0)]) (λ_=>⟨1,[(0,⟨4,[[.int .i64 s.ag,.int .i64 s.fa,.int .i64 s.ln,.sl 2 (xK s.rs)]]⟩)]⟩)
   (λt=>t<=r.loc.length/\pV r=(r.loc.drop t).all λl=>decide (l.length<=10)) (λt=>r.loc.length-t) 0 ⟨υ _,hfr⟩ ?_ ?_
  ·exact wI
  intro t ⟨ht,hb⟩;refine xE mixed ?_;by_cases htl:t<r.loc.length
  case neg=>
   have hd2:¬ ((t:Int)<(r.loc.length:Int)):=by omega
   rw [γ (by omega),θ] at hb;simp only [simprocAttr,-ZA,↓zU,↓zD,zV,zT,zW,xV,hd,hg,xN.row,xP,hd2]
   (repeat refine sd ?_)
   refine⟨k+1,⟨by omega,by rw [hi,hb,ν]⟩,?_,by omega⟩;exact sW
  have hd2:((t:Int)<(r.loc.length:Int)):=by omega
  rw [drop_cons (d:=[]) htl,ζ] at hb;have hgu:=wG r.loc htl;generalize r.loc.getD t []=x at hgu hb
  by_cases hx:(10:Int)<(x.length:Int)
  ·rw [decide_eq_false (by omega),μ] at hb;rw [hi,hb,μ];simp only [simprocAttr,-ZA,↓zU,↓zD,zV,zT,zW,xV,hd,hg,xN.row,xP,hd2,hgu,xF,hx]
   (repeat refine sd ?_)
   exact .dv
  ·rw [decide_eq_true (by omega),ν] at hb;simp only [simprocAttr,-ZA,↓zU,↓zD,zV,zT,zW,xV,hd,hg,xN.row,xP,hd2,hgu,xF,hx]
   (repeat refine sd ?_)
   refine⟨t+1,⟨by omega,hb⟩,?_,by omega⟩;exact sW
 refine cX xV a1 a3 ?_
 refine xO (λk:Nat=>[(3,.int .i64 k),(1,.ref 0 4 0 0)]) (λ_=>⟨1,[(0,⟨4,[[.int .i64 s.ag,.int .i64 s.fa,.int .i64 s.ln,.sl 2 (xK s.rs)]]⟩)]⟩)
  (λk=>k<=s.rs.length/\s.rs.all pV=(s.rs.drop k).all pV) (λk=>s.rs.length-k) 0 ⟨υ _,rfl⟩ ?_ ?_
 ·exact wI
 intro k ⟨hk,hi⟩;refine xE mixed ?_;by_cases hkl:k<s.rs.length
 case neg=>
  have hd:¬ ((k:Int)<(s.rs.length:Int)):=by omega
  rw [γ (by omega),θ] at hi;rw [hi];refine uA xV hd ?_;exact .dv
 have hd:((k:Int)<(s.rs.length:Int)):=by omega
 rw [drop_cons (d:=yF) hkl,ζ] at hi;have hg:=wE s.rs hkl;generalize s.rs.getD k yF=r at hg hi
 by_cases c1:(20:Int)<(r.loc.length:Int)
 ·rw [show pV r=false by simp [pV]; omega,μ] at hi;rw [hi];simp only [simprocAttr,-ZA,↓zU,↓zD,zV,zT,zW,xV,hd,hg,xN.row,xP,c1]
  (repeat refine sd ?_)
  exact .dv
 by_cases c2:(20:Int)<(r.zM.length:Int)
 ·rw [show pV r=false by simp [pV]; omega,μ] at hi;rw [hi];simp only [simprocAttr,-ZA,↓zU,↓zD,zV,zT,zW,xV,hd,hg,xN.row,xP,c1,zB,c2]
  (repeat refine sd ?_)
  exact .dv
 have hfr:pV r=r.loc.all λl=>decide (l.length<=10):=by unfold pV; rw [decide_eq_true (by omega),decide_eq_true (by omega)]; rfl
 simp only [simprocAttr,-ZA,↓zU,↓zD,zV,zT,zW,xV,hd,hg,xN.row,xP,c1,zB,c2]
 (repeat refine sd ?_)
 refine xO (λt:Nat=>[(4,.int .i64 t),(3,.int .i64 k),(1,.ref 0 4 0 0)]) (λ_=>⟨1,[(0,⟨4,[[.int .i64 s.ag,.int .i64 s.fa,.int .i64 s.ln,.sl 2 (xK s.rs)]]⟩)]⟩)
  (λt=>t<=r.loc.length/\pV r=(r.loc.drop t).all λl=>decide (l.length<=10)) (λt=>r.loc.length-t) 0 ⟨υ _,hfr⟩ ?_ ?_
 ·exact wI
 intro t ⟨ht,hb⟩;refine xE mixed ?_;by_cases htl:t<r.loc.length
 case neg=>
  have hd2:¬ ((t:Int)<(r.loc.length:Int)):=by omega
  rw [γ (by omega),θ] at hb;simp only [simprocAttr,-ZA,↓zU,↓zD,zV,zT,zW,xV,hd,hg,xN.row,xP,hd2]
  (repeat refine sd ?_)
  refine⟨k+1,⟨by omega,by rw [hi,hb,ν]⟩,?_,by omega⟩;exact sW
 have hd2:((t:Int)<(r.loc.length:Int)):=by omega
 rw [drop_cons (d:=[]) htl,ζ] at hb;have hgu:=wG r.loc htl;generalize r.loc.getD t []=x at hgu hb
 by_cases hx:(10:Int)<(x.length:Int)
 ·rw [decide_eq_false (by omega),μ] at hb;rw [hi,hb,μ];simp only [simprocAttr,-ZA,↓zU,↓zD,zV,zT,zW,xV,hd,hg,xN.row,xP,hd2,hgu,xF,hx]
  (repeat refine sd ?_)
  exact .dv
 ·rw [decide_eq_true (by omega),ν] at hb;simp only [simprocAttr,-ZA,↓zU,↓zD,zV,zT,zW,xV,hd,hg,xN.row,xP,hd2,hgu,xF,hx]
  (repeat refine sd ?_)
  refine⟨t+1,⟨by omega,hb⟩,?_,by omega⟩;exact sW
open Ru
namespace Ru
end Ru
open Ru
open Ru
namespace Ru
def oY (rs:List xN) (n:Nat):List xN:=rs.map λr=>⟨r.loc.take n,r.zM.take n⟩
theorem uE (rs:List xN) (n:Nat):(oY rs n).length=rs.length:=by simp [oY]
theorem wg {rs:List xN} {n i:Nat} (h:i<rs.length):(oY rs n).getD i yF=⟨(rs.getD i yF).loc.take n,(rs.getD i yF).zM.take n⟩:=by simp [oY,List.getD,h]
end Ru
open Ru
namespace Ru
def uV : List Int->List Int->Int
 | [],[]=>0
 | [],_ :: _=>-1
 | _ :: _,[]=>1
 | x :: a,y :: b=>if x<y then -1 else if y<x then 1 else uV a b
theorem bL : ∀ a:List Int,uV a a=0
 | []=>rfl
 | x :: a=>by unfold uV; rw [if_neg (by omega),if_neg (by omega)]; exact bL a
theorem eJ : ∀ a b:List Int,uV a b = -1\/uV a b=0\/uV a b=1
 | [],[]=>.inr (.inl rfl)
 | [],_ :: _=>.inl rfl
 | _ :: _,[]=>.inr (.inr rfl)
 | x :: a,y :: b=>by
  unfold uV
  split
  ·exact .inl rfl
  ·split
   ·exact .inr (.inr rfl)
   ·exact eJ a b
theorem bM : ∀ {a b:List Int},uV a b=0->a=b
 | [],[],_=>rfl
 | [],_ :: _,h=>by simp [uV] at h
 | _ :: _,[],h=>by simp [uV] at h
 | x :: a,y :: b,h=>by
  unfold uV at h
  split at h
  ·omega
  ·split at h
   ·omega
   ·rw [bM h,show x=y by omega]
theorem bJ : ∀ a b:List Int,uV b a =-uV a b
 | [],[]=>rfl
 | [],_ :: _=>rfl
 | _ :: _,[]=>rfl
 | x :: a,y :: b=>by
  unfold uV
  by_cases h1:x<y
  ·rw [if_pos h1,if_neg (by omega),if_pos h1]; rfl
  ·by_cases h2:y<x
   ·rw [if_pos h2,if_neg h1,if_pos h2]
   ·rw [if_neg h2,if_neg h1,if_neg h1,if_neg h2]; exact bJ a b
theorem eK : ∀ {a b c:List Int},uV a b<0->uV b c<0->uV a c<0
 | [],[],_,h,_=>by simp [uV] at h
 | [],_ :: _,[],_,h=>by simp [uV] at h
 | [],_ :: _,_ :: _,_,_=>by simp [uV]
 | _ :: _,[],_,h,_=>by simp [uV] at h
 | _ :: _,_ :: _,[],_,h=>by simp [uV] at h
 | x :: a,y :: b,z :: c,h1,h2=>by
  unfold uV at h1 h2 ⊢
  by_cases hxy:x<y
  ·by_cases hyz:z<y
   ·rw [if_neg (by omega),if_pos hyz] at h2; omega
   ·rw [if_pos (by omega)]; omega
  ·rw [if_neg hxy] at h1
   by_cases hyx:y<x
   ·rw [if_pos hyx] at h1; omega
   ·rw [if_neg hyx] at h1
    by_cases hyz:y<z
    ·rw [if_pos (by omega)]; omega
    ·rw [if_neg hyz] at h2
     by_cases hzy:z<y
     ·rw [if_pos hzy] at h2; omega
     ·rw [if_neg hzy] at h2;rw [if_neg (by omega),if_neg (by omega)];exact eK h1 h2
theorem aj (b:List Int):uV [] b=if b.length=0 then 0 else -1:=by cases b <;> rfl
def kc (a b:List Int):Int:=if a.length<b.length then -1 else if b.length<a.length then 1 else uV a b
theorem gY (a:List Int):kc a a=0:=by unfold kc; rw [if_neg (by omega),if_neg (by omega)]; exact bL a
theorem wu (a b:List Int):kc a b = -1\/kc a b=0\/kc a b=1:=by
 have:=eJ a b
 unfold kc; split
 ·exact .inl rfl
 ·split
  ·exact .inr (.inr rfl)
  ·exact this
theorem gX {a b:List Int} (h:kc a b=0):a=b:=by
 unfold kc at h
 split at h
 ·omega
 ·split at h
  ·omega
  ·exact bM h
theorem oV (a b:List Int):kc b a =-kc a b:=by
 have:=bJ a b;unfold kc
 by_cases h1:a.length<b.length
 ·rw [if_neg (by omega),if_pos h1,if_pos h1]; rfl
 ·by_cases h2:b.length<a.length
  ·rw [if_pos h2,if_neg h1,if_pos h2]
  ·rw [if_neg h2,if_neg h1,if_neg h1,if_neg h2]; exact this
theorem wv {a b c:List Int} (h1:kc a b<0) (h2:kc b c<0):kc a c<0:=by
 have:=@eK a b c;unfold kc at h1 h2 ⊢
 by_cases x1:a.length<c.length
 ·rw [if_pos x1]; omega
 rw [if_neg x1]
 by_cases y1:a.length<b.length
 ·rw [if_neg (by omega),if_pos (by omega)] at h2; omega
 ·rw [if_neg y1] at h1
  by_cases y2:b.length<a.length
  ·rw [if_pos y2] at h1; omega
  ·rw [if_neg y2] at h1;rw [if_neg (by omega)] at h2
   by_cases y3:c.length<b.length
   ·rw [if_pos y3] at h2; omega
   ·rw [if_neg y3] at h2;rw [if_neg (by omega)];exact this h1 h2
theorem jN {a b c:List Int} (h1:¬ kc a b<0) (h2:¬ kc b c<0):¬ kc a c<0:=by
 intro h
 by_cases e1:kc a b=0
 ·rw [gX e1] at h; exact h2 h
 ·by_cases e2:kc b c=0
  ·rw [<- gX e2] at h; exact h1 h
  ·have r1:=wu a b;have r2:=wu b c;have a1:=oV a b;have a2:=oV b c;have a3:=oV a c;have:=wv (a:=c) (b:=b) (c:=a) (by omega) (by omega);omega
end Ru
theorem Zv (a:Int):yA prog 153 [.int .i64 a] (.bool false):=by refine zL func153 WM λhf=>?_;refine wU ?_;exact .same
theorem Zq (a b:Int):yA prog 136 [.int .i64 a,.int .i64 b] (.int .i64 (if a<b then -1 else if b<a then 1 else 0)):=by
 refine zL func136 WJ λhf=>?_;refine wU ?_;refine .go (cq (Zv a)) ?_;refine wU ?_;refine .go (cq (Zv b)) ?_
 by_cases h1:a<b
 ·refine vY h1 ?_;exact .same
 ·by_cases h2:b<a
  ·refine uA h1 h2 ?_;exact .same
  ·refine uA h1 h2 ?_;exact .same
theorem rv (x:Int) (a:List Int):uV (x :: a) []=1:=rfl
theorem bK (x y:Int) (a b:List Int):uV (x :: a) (y :: b)= if x<y then -1 else if y<x then 1 else uV a b:=rfl
theorem Vf (a b:List Int):yA prog 137 [.sl 1 (rows .i64 a),.sl 1 (rows .i64 b)] (.int .i64 (uV a b)):=by
 refine zL func137 WK λhf=>?_;simp only [D.uK,D.fact,xF] at hf;have hlen:=hf.1.1;refine wU ?_
 refine xO (λk:Nat=>[(11,.int .i64 k),(10,.int .i64 a.length),(9,.sl 1 (rows .i64 a)),(1,.sl 1 (rows .i64 b)),(0,.sl 1 (rows .i64 a))]) (λ_=>⟨0,[]⟩) (λk=>k<=a.length/\k<=b.length/\uV a b=uV (a.drop k) (b.drop k)) (λk=>a.length-k) 0 ⟨υ _,υ _,rfl⟩ ?_ ?_
 ·exact wI
 intro k ⟨hk,hk2,hi⟩;refine xE mixed ?_
 by_cases h:k<a.length
 ·have hd:((k:Int)<(a.length:Int)):=by omega
  have e1:a.drop k=a.getD k 0 :: a.drop (k+1):=by simp [List.getD,h]
  rw [e1] at hi
  by_cases h2:k<b.length
  ·have hd2:¬ ((b.length:Int)<=(k:Int)):=by omega
   have hd3:((k:Int)<(b.length:Int)):=by omega
   have e2:b.drop k=b.getD k 0 :: b.drop (k+1):=by simp [List.getD,h2]
   rw [e2,bK] at hi;simp only [simprocAttr,-ZA,↓zU,↓zD,zV,zT,zW,hd,yU .i64 a h,hd2,hd3,yU .i64 b h2]
   (repeat refine sd ?_)
   refine .go (xS.vV (Zq (a.getD k 0) (b.getD k 0)) rfl) ?_
   by_cases c1:a.getD k 0<b.getD k 0
   ·rw [if_pos c1] at hi ⊢;refine wU ?_;rw [hi];exact .same
   ·by_cases c2:b.getD k 0<a.getD k 0
    ·rw [if_neg c1,if_pos c2] at hi ⊢;refine wU ?_;rw [hi];exact .same
    ·rw [if_neg c1,if_neg c2] at hi ⊢;refine wU ?_;refine⟨k+1,⟨by omega,by omega,hi⟩,?_,by omega⟩;exact sW
  ·have hd2:((b.length:Int)<=(k:Int)):=by omega
   rw [γ (show b.length<=k by omega),rv] at hi;simp only [simprocAttr,-ZA,↓zU,↓zD,zV,zT,zW,hd,yU .i64 a h,hd2]
   (repeat refine sd ?_)
   rw [hi];exact .same
 ·have hd:¬ ((k:Int)<(a.length:Int)):=by omega
  rw [γ (show a.length<=k by omega),aj,List.length_drop] at hi
  by_cases c:a.length<b.length
  ·have c':(a.length:Int)<(b.length:Int):=by omega
   rw [if_neg (by omega)] at hi;refine uA hd c' ?_;rw [hi];exact .same
  ·have c':¬ (a.length:Int)<(b.length:Int):=by omega
   rw [if_pos (by omega)] at hi;refine uA hd c' ?_;rw [hi];exact .same
theorem YK (a b:List Int):yA prog 102 [.sl 1 (rows .i64 a),.sl 1 (rows .i64 b)] (.bool (decide (a=b))):=by
 refine zL func102 W5 λhf=>?_;simp only [D.uK,D.fact,xF] at hf;have hlen:=hf.1.1;by_cases h1:a.length=b.length
 case neg=>
  have h1':((a.length:Int) != (b.length:Int))= true:=by simp; omega
  refine vY h1' ?_;exact .drop (by simp) (by simp only [vw,D.bool.injEq]; symm; apply decide_eq_false; rintro rfl; exact h1 rfl)
 have h1':((a.length:Int) != (b.length:Int))= false:=by simp; omega
 refine vY h1' ?_
 refine xO (λk:Nat=>[(13,.int .i64 k),(12,.int .i64 a.length),(1,.sl 1 (rows .i64 b)),(0,.sl 1 (rows .i64 a))]) (λ_=>⟨0,[]⟩) (λk=>k<=a.length/\∀ i,i<k->a.getD i 0=b.getD i 0) (λk=>a.length-k) 0 ⟨υ _,λi hi=>by omega⟩ ?_ ?_
 ·exact wI
 intro k ⟨hk,hi⟩;refine xE mixed ?_
 by_cases h:k<a.length
 ·have hd:((k:Int)<(a.length:Int)):=by omega
  by_cases hb:a.getD k 0=b.getD k 0
  ·have hb1:(a.getD k 0 != b.getD k 0)= false:=by simp only [hb,bne_self_eq_false]
   simp only [simprocAttr,-ZA,↓zU,↓zD,zV,zT,zW,hd,yU _ _ h,yU .i64 b (show k<b.length by omega),hb1]
   (repeat refine sd ?_)
   refine⟨k+1,⟨by omega,λi hi2=>?_⟩,?_,by omega⟩
   ·by_cases ei:i=k
    ·rw [ei,hb]
    ·exact hi i (by omega)
   exact sW
  ·have hb1:(a.getD k 0 != b.getD k 0)= true:=bne_iff_ne.2 hb;simp only [simprocAttr,-ZA,↓zU,↓zD,zV,zT,zW,hd,yU _ _ h,yU .i64 b (show k<b.length by omega),hb1]
   (repeat refine sd ?_)
   exact .drop (by simp) (by simp only [vw,D.bool.injEq]; symm; apply decide_eq_false; rintro rfl; exact hb rfl)
 ·have hd:¬ ((k:Int)<(a.length:Int)):=by omega
  have hk':k=a.length:=by omega
  subst hk';refine vY hd ?_;refine .drop (by simp) ?_;simp only [vw,D.bool.injEq]; symm; apply decide_eq_true;refine List.ext_getElem h1 λi h2 h3=>?_;have:=hi i h2;simpa [List.getD,h2,h3] using this
theorem Ti (x y:Int):yA prog 135 [.sl 1 (rows .i64 [x,y])] (.int .i64 (if x≠0 then x else y)):=by
 refine zL func135 WI λhf=>?_;refine wU ?_
 refine xO (λk:Nat=>[(8,.int .i64 k),(7,.int .i64 2),(6,.sl 1 (rows .i64 [x,y])),(3,.int .i64 0)]) (λ_=>⟨0,[]⟩) (λk=>k<=2/\(0<k->x=0)/\ (1<k->y=0)) (λk=>2-k) 0 ⟨by omega,by omega,by omega⟩ ?_ ?_
 ·(refine yO.same ?_; simp [wZ,Fr.get,rows])
 intro k ⟨hk,h0,h1⟩;refine xE mixed ?_
 obtain rfl | rfl | rfl:k=0\/k=1\/k=2:=by omega
 ·by_cases e:x=0
  ·have e':(x != 0)= false:=by simpa using e
   refine pZ e' ?_;exact⟨1,⟨by omega,λ_=>e,by omega⟩,by(refine yO.same ?_; simp only [wZ,Fr.get,simprocAttr,-ZA,zS]); rfl,by omega⟩
  ·have e':(x != 0)= true:=by simpa using e
   refine pZ e' ?_;rw [if_pos e];exact .same
 ·have e0:=h0 (by omega);have c1:((1:Nat):Int)= 1:=rfl
  by_cases e:y=0
  ·have e':(y != 0)= false:=by simpa using e
   refine lR e' c1 ?_;exact⟨2,⟨by omega,λ_=>e0,λ_=>e⟩,by(refine yO.same ?_; simp only [wZ,Fr.get,simprocAttr,-ZA,zS]); rfl,by omega⟩
  ·have e':(y != 0)= true:=by simpa using e
   refine lR e' c1 ?_;rw [if_neg (by omega)];exact .same
 ·have e0:=h0 (by omega);have e1:=h1 (by omega);have c1:((2:Nat):Int)= 2:=rfl;refine vY c1 ?_;rw [if_neg (by omega),e1];exact .same
theorem jK (a b:List Int):yA prog 104 [.sl 1 (rows .i64 a),.sl 1 (rows .i64 b)] (.int .i64 (kc a b)):=by
 have h1:=Zq (a.length:Int) (b.length:Int);have h2:=Vf a b;have h3:=Ti (if (a.length:Int)<(b.length:Int) then -1 else if (b.length:Int)<(a.length:Int) then 1 else 0) (uV a b)
 have e:(if (if (a.length:Int)<(b.length:Int) then(-1:Int) else if (b.length:Int)<(a.length:Int) then 1 else 0)≠ 0 then(if (a.length:Int)<(b.length:Int) then(-1:Int) else if (b.length:Int)<(a.length:Int) then 1 else 0) else uV a b)= kc a b:=by
  unfold kc
  by_cases c1:a.length<b.length
  ·rw [if_pos (show (a.length:Int)<b.length by omega),if_pos c1]; rfl
  ·rw [if_neg (show ¬ (a.length:Int)<b.length by omega),if_neg c1]
   by_cases c2:b.length<a.length
   ·rw [if_pos (show (b.length:Int)<a.length by omega),if_pos c2]; rfl
   ·rw [if_neg (show ¬ (b.length:Int)<a.length by omega),if_neg c2]; rfl
 rw [e] at h3;simp only [jU,pI] at h3;generalize (if (a.length:Int)<(b.length:Int) then(-1:Int) else if (b.length:Int)<(a.length:Int) then 1 else 0)= z at h1 h3;refine zL func104 W6 λhf=>?_;refine wU ?_;refine .go (cq h1) ?_;refine wU ?_;refine .go (cr h2) ?_;refine wU ?_;refine⟨by simp [D.xT,D.xJ],?_⟩;refine .go (cr h3) ?_;refine wU ?_;exact .same
theorem Zt (a b:List Int):yA prog 106 [.sl 1 (rows .i64 a),.sl 1 (rows .i64 b)] (.bool (decide (a=b))):=by refine zL func106 W8 λhf=>?_;refine wU ?_;refine .go (cr (YK a b)) ?_;refine wU ?_;exact .same
end Go.Pd
