/- Part SQ. -/
import Derived.Test.YtccobgpcnfjbhaaDoorSlS1
set_option linter.unusedSectionVars false
set_option linter.unusedVariables false
set_option linter.unusedSimpArgs false
set_option linter.defProp false
set_option maxRecDepth 20000
set_option maxHeartbeats 1000000
open Go.Proofs.Tryd
open List renaming drop_eq_nil_of_le->γ,any_eq_false->δ,any_cons->ε,any_nil->ζ
open Bool renaming false_or->η,true_or->θ,or_eq_false_iff->κ,not_eq_false'->μ
open Int renaming eq_ofNat_of_zero_le->ν,toNat_natCast->ξ
open Nat renaming zero_le->ο
namespace Go.Pd
open Go Go.Proofs
open BitVec renaming isValue -> ZA
section
open Ru
theorem zt (s:vT):wP prog 6 [s.d] (.int .i64 (uA s)):=by
 have hD:s.d = .agg [.int .i64 s.ag,.int .i64 s.fa,.int .i64 s.ln,.sl 2 (yL s.rs)]:=rfl;rw [hD];refine wZ func6 k6 λhf=>?_
 by_cases a1:s.ag<0
 ·rw [show uA s=2 by unfold uA; rw [if_pos (.inl a1)]];refine wL a1 ?_;exact .dv
 by_cases a2:4<s.ag
 ·rw [show uA s=2 by unfold uA; rw [if_pos (by omega)]];refine rW a1 a2 ?_;exact .dv
 by_cases a3:s.fa<0
 ·rw [show uA s=2 by unfold uA; rw [if_pos (by omega)]];refine qi a1 a2 a3 ?_;exact .dv
 by_cases a4:8<s.fa
 ·rw [show uA s=2 by unfold uA; rw [if_pos (by omega)]];refine jt a1 a2 a3 a4 ?_;exact .dv
 by_cases a5:s.ln<1
 ·rw [show uA s=2 by unfold uA; rw [if_pos (by omega)]];refine u6 a1 a2 a3 a4 a5 ?_;exact .dv
 by_cases a6:16<s.ln
 ·rw [show uA s=2 by unfold uA; rw [if_pos (by omega)]];refine u7 a1 a2 a3 a4 a5 a6 ?_;exact .dv
 have e0:uA s=if 64<(s.rs.length:Int)\/512<(s.rs.length:Int)* s.ln then 8 else
  if s.rs.length=0 then 3 else if s.rs.any (uQ s)= true then 3 else if s.rs.any (lW s)= true then 2 else 0:=by
  unfold uA; rw [if_neg (by omega)]
 by_cases b1:64<(s.rs.length:Int)
 ·rw [e0,if_pos (.inl b1)];refine u9 a1 a2 a3 a4 a5 a6 xV b1 ?_;exact .dv
 have hm:(s.rs.length:Int)* s.ln<=64*16:=Int.mul_le_mul (by omega) (by omega) (by omega) (by omega);have hm0:0<=(s.rs.length:Int)* s.ln:=Int.mul_nonneg (by omega) (by omega);have hw:IntKind.i64.wrap ((s.rs.length:Int)* s.ln)= (s.rs.length:Int)* s.ln:=wrap_i64 (by omega)
 by_cases b2:512<(s.rs.length:Int)* s.ln
 ·rw [e0,if_pos (.inr b2)];refine eo a1 a2 a3 a4 a5 a6 xV b1 hw b2 ?_;exact .dv
 rw [e0,if_neg (by omega)]
 by_cases b3:s.rs.length=0
 ·rw [if_pos b3];have b3':((s.rs.length:Int)== 0)= true:=by rw [b3]; rfl
  refine wg a1 a2 a3 a4 a5 a6 xV b1 hw b2 b3' ?_;exact .dv
 rw [if_neg b3];have b3':((s.rs.length:Int)== 0)= false:=by rw [beq_eq_false_iff_ne]; omega
 refine wg a1 a2 a3 a4 a5 a6 xV b1 hw b2 b3' ?_
 refine xL (λk:Nat=>[(3,.int .i64 k),(1,.ref 0 4 0 0)]) (λ_=>⟨1,[(0,⟨4,[[.int .i64 s.ag,.int .i64 s.fa,.int .i64 s.ln,.sl 2 (yL s.rs)]]⟩)]⟩)
  (λk=>k<=s.rs.length/\s.rs.any (uQ s)= (s.rs.drop k).any (uQ s)) (λk=>s.rs.length-k) 0 ⟨ο _,rfl⟩ ?_ ?_
 ·exact uM
 intro k ⟨hk,hi⟩;refine yW mixed ?_;by_cases hkl:k<s.rs.length
 case neg=>
  have hd:¬ ((k:Int)<(s.rs.length:Int)):=by omega
  rw [γ (by omega),ζ] at hi;rw [if_neg (by rw [hi]; simp)];refine rW hd xV ?_
  refine xL (λk:Nat=>[(5,.int .i64 k),(1,.ref 0 4 0 0)]) (λ_=>⟨1,[(0,⟨4,[[.int .i64 s.ag,.int .i64 s.fa,.int .i64 s.ln,.sl 2 (yL s.rs)]]⟩)]⟩)
   (λk=>k<=s.rs.length/\s.rs.any (lW s)= (s.rs.drop k).any (lW s)) (λk=>s.rs.length-k) 0 ⟨ο _,rfl⟩ ?_ ?_
  ·exact uM
  intro k ⟨hk,hv⟩;refine yW mixed ?_;by_cases hkl:k<s.rs.length
  case neg=>
   have hd:¬ ((k:Int)<(s.rs.length:Int)):=by omega
   rw [γ (by omega),ζ] at hv;rw [if_neg (by rw [hv]; simp)];refine rW hd xV ?_;exact .dv
  have hd:((k:Int)<(s.rs.length:Int)):=by omega
  rw [drop_cons (d:=vH) hkl,ε] at hv
  have hnb:uQ s (s.rs.getD k vH)= false:=by have:=δ.1 hi _ (zF (d:=vH) hkl);simpa using this
  have hg:=uV s.rs hkl;generalize s.rs.getD k vH=r at hg hv hnb
  have hfl:(r.sK.length:Int)= s.ln:=by simp only [uQ,κ,μ,decide_eq_true_eq] at hnb;exact hnb.1.2
  refine rW hd xV ?_
  refine xL (λt:Nat=>[(6,.int .i64 t),(5,.int .i64 k),(1,.ref 0 4 0 0)]) (λ_=>⟨1,[(0,⟨4,[[.int .i64 s.ag,.int .i64 s.fa,.int .i64 s.ln,.sl 2 (yL s.rs)]]⟩)]⟩)
   (λt=>t<=r.sK.length/\lW s r=(r.sK.drop t).any (λf=>!decide (f >>> s.fa.toNat=0#64))) (λt=>r.sK.length-t) 0 ⟨ο _,rfl⟩ ?_ ?_
  ·exact uM
  intro t ⟨ht,hb⟩;refine yW mixed ?_;by_cases htl:t<r.sK.length
  case neg=>
   have hd2:¬ ((t:Int)<s.ln):=by omega
   rw [γ (by omega),ζ] at hb;refine cP hd2 xV ?_
   refine⟨k+1,⟨by omega,?_⟩,?_,by omega⟩
   ·rw [hv,hb,η]
   exact oA
  have hd2:((t:Int)<s.ln):=by omega
  rw [drop_cons (d:=0) htl,ε] at hb;have hgu:=pL r.sK htl;generalize r.sK.getD t 0=x at hgu hb
  by_cases hx:x >>> s.fa.toNat=0#64
  ·have ex:(x >>> s.fa.toNat != 0#64)= false:=by simpa using hx
   rw [decide_eq_true hx,Bool.not_true,η] at hb;simp only [simprocAttr,-ZA,↓zU,↓zD,zV,zT,zW,hd2,xV,hd,hg,xG.row,yB,hgu,ex]
   (repeat refine sd ?_)
   refine⟨t+1,⟨by omega,hb⟩,?_,by omega⟩;exact oA
  ·have ex:(x >>> s.fa.toNat != 0#64)= true:=by simpa using hx
   rw [decide_eq_false hx,Bool.not_false,θ] at hb;rw [if_pos (by rw [hv,hb,θ])];simp only [simprocAttr,-ZA,↓zU,↓zD,zV,zT,zW,hd2,xV,hd,hg,xG.row,yB,hgu,ex]
   (repeat refine sd ?_)
   exact .dv
 have hd:((k:Int)<(s.rs.length:Int)):=by omega
 rw [drop_cons (d:=vH) hkl,ε] at hi;have hg:=uV s.rs hkl;generalize s.rs.getD k vH=r at hg hi;have hend:uQ s r=true->s.rs.any (uQ s)= true:=λh=>by rw [hi,h,θ]
 by_cases c1:(r.loc.length:Int)= s.ln
 case neg=>
  have e1:((r.loc.length:Int) != s.ln)= true:=by simpa using c1
  rw [if_pos (hend (by unfold uQ; simp [c1]))];simp only [simprocAttr,-ZA,↓zU,↓zD,zV,zT,zW,hd,xV,hg,xG.row,yR,e1]
  (repeat refine sd ?_)
  exact .dv
 have e1:((r.loc.length:Int) != s.ln)= false:=by simpa using c1
 by_cases c2:(r.sK.length:Int)= s.ln
 case neg=>
  have e2:((r.sK.length:Int) != s.ln)= true:=by simpa using c2
  rw [if_pos (hend (by unfold uQ; simp [c2]))];simp only [simprocAttr,-ZA,↓zU,↓zD,zV,zT,zW,hd,xV,hg,xG.row,yR,e1,yB,e2]
  (repeat refine sd ?_)
  exact .dv
 have e2:((r.sK.length:Int) != s.ln)= false:=by simpa using c2
 have hbf:uQ s r=r.loc.any λl=>!decide ((l.length:Int)= s.ag):=by unfold uQ; simp [c1,c2]
 simp only [simprocAttr,-ZA,↓zU,↓zD,zV,zT,zW,hd,xV,hg,xG.row,yR,e1,yB,e2]
 (repeat refine sd ?_)
 refine xL (λt:Nat=>[(4,.int .i64 t),(3,.int .i64 k),(1,.ref 0 4 0 0)]) (λ_=>⟨1,[(0,⟨4,[[.int .i64 s.ag,.int .i64 s.fa,.int .i64 s.ln,.sl 2 (yL s.rs)]]⟩)]⟩)
  (λt=>t<=r.loc.length/\uQ s r=(r.loc.drop t).any (λl=>!decide ((l.length:Int)= s.ag))) (λt=>r.loc.length-t) 0 ⟨ο _,hbf⟩ ?_ ?_
 ·exact uM
 intro t ⟨ht,hb⟩;refine yW mixed ?_;by_cases htl:t<r.loc.length
 case neg=>
  have hd2:¬ ((t:Int)<s.ln):=by omega
  rw [γ (by omega),ζ] at hb;refine mD hd2 ?_
  refine⟨k+1,⟨by omega,?_⟩,?_,by omega⟩
  ·rw [hi,hb,η]
  exact oA
 have hd2:((t:Int)<s.ln):=by omega
 rw [drop_cons (d:=[]) htl,ε] at hb;have hgu:=lU r.loc htl;generalize r.loc.getD t []=x at hgu hb
 by_cases hx:(x.length:Int)= s.ag
 ·have ex:((x.length:Int) != s.ag)= false:=by simpa using hx
  rw [decide_eq_true hx,Bool.not_true,η] at hb;simp only [simprocAttr,-ZA,↓zU,↓zD,zV,zT,zW,hd2,xV,hd,hg,xG.row,yR,hgu,wF,ex]
  (repeat refine sd ?_)
  refine⟨t+1,⟨by omega,hb⟩,?_,by omega⟩;exact oA
 ·have ex:((x.length:Int) != s.ag)= true:=by simpa using hx
  rw [decide_eq_false hx,Bool.not_false,θ] at hb;rw [if_pos (hend hb)];simp only [simprocAttr,-ZA,↓zU,↓zD,zV,zT,zW,hd2,xV,hd,hg,xG.row,yR,hgu,wF,ex]
  (repeat refine sd ?_)
  exact .dv
end
section
open Ru
theorem iJ {nx n key sz:Nat} {xZ:List (Nat × Ob)} {xX:List (List D)} (hs:0<sz) (hp:∀ e ∈ xX,D.xR e=true) (h:St.look xZ key=vR sz xX) {ρ:Nat->Nat}:vw ⟨nx,xZ⟩ ⟨n,[]⟩ ρ (xI key sz xX) (.sl sz xX):=by
 cases xX with
 | nil=>simp [xI,vw]
 | cons e r=> simp only [xI,vw];refine⟨trivial,hs,by simp,⟨sz,e :: r⟩,?_,rfl,by simp,by simp,hp⟩;show St.look xZ key=_;rw [h]; rfl
namespace Ru
def pR (l:List (Nat × Nat)):List (List D):=l.map λp=>[.int .i64 (p.1:Int),.int .i64 (p.2:Int)]
theorem uW (l:List (Nat × Nat)):(pR l).length=l.length:=by simp [pR]
theorem kJ (l:List (Nat × Nat)) {i:Nat} (h:i<l.length):(pR l).getD i [] = [.int .i64 ((l.getD i (0,0)).1:Int),.int .i64 ((l.getD i (0,0)).2:Int)]:=by simp [pR,List.getD,h]
theorem bJ (l:List (Nat × Nat)):∀ e ∈ pR l,D.xR e=true:=by intro e he;simp only [pR,List.mem_map] at he;obtain⟨r,_,rfl⟩:=he;rfl
theorem rA (l:List (Nat × Nat)):vZ (pR l)= True:=eq_true (bJ l)
theorem bK (l:List (Nat × Nat)) (a b:Nat):pR l ++ [[.int .i64 (a:Int),.int .i64 (b:Int)]]=pR (l ++ [(a,b)]):=by simp [pR]
theorem vk : pR [] = []:=rfl
def qZ (T n:Nat):List (Nat × Nat):=(List.range n).map λi=>(i / T,i % T)
theorem uF (T n:Nat):(qZ T n).length=n:=by simp [qZ]
theorem kI (T:Nat) {n i:Nat} (h:i<n):(qZ T n).getD i (0,0)= (i / T,i % T):=by simp [qZ,List.getD,h]
theorem nf (T r t:Nat) (ht:t<T):qZ T (r*T+(t+1))= qZ T (r*T+t)++ [(r,t)]:=by
 rw [show r*T+(t+1)= (r*T+t)+ 1 by omega];unfold qZ;rw [List.range_succ,List.map_append,List.map_singleton]
 have e1:(r*T+t)/ T=r:=by rw [Nat.mul_comm,Nat.mul_add_div (by omega),Nat.div_eq_of_lt ht]; rfl
 have e2:(r*T+t) % T=t:=by rw [Nat.mul_comm,Nat.mul_add_mod,Nat.mod_eq_of_lt ht]
 rw [e1,e2]
def pZ (s:vT):List (Nat × Nat):=if uA s≠0 then [] else qZ s.ln.toNat (s.rs.length*s.ln.toNat)
structure Ok (s : vT) (A F T : Nat) : Prop where
 ag:s.ag=A
 fa:s.fa=F
 ln:s.ln=T
 hA:A<=4
 hF:F<=8
 hT:1<=T/\T<=16
 hR:1<=s.rs.length/\s.rs.length<=64
 hP:s.rs.length*T<=512
 loc:∀ r ∈ s.rs,r.loc.length=T
 sK:∀ r ∈ s.rs,r.sK.length=T
 row:∀ r ∈ s.rs,∀ l ∈ r.loc,l.length=A
 val:∀ r ∈ s.rs,∀ f ∈ r.sK,f >>> F=0#64
theorem aU {s:vT} (h:uA s=0):∃ A F T,Ok s A F T:=by
 unfold uA at h
 split at h
 ·cases h
 rename_i h1
 split at h
 ·cases h
 rename_i h2
 split at h
 ·cases h
 rename_i h3
 split at h
 ·cases h
 rename_i h4
 split at h
 ·cases h
 rename_i h5;obtain⟨A,hA⟩:=ν (show 0<=s.ag by omega);obtain⟨F,hF⟩:=ν (show 0<=s.fa by omega);obtain⟨T,hT⟩:=ν (show 0<=s.ln by omega);have h4':∀ r ∈ s.rs,uQ s r=false:=λr hr=>by simpa using δ.1 (by simpa using h4) r hr
 have h5':∀ r ∈ s.rs,lW s r=false:=λr hr=>by simpa using δ.1 (by simpa using h5) r hr
 have hb:∀ r ∈ s.rs,r.loc.length=T/\r.sK.length=T/\∀ l ∈ r.loc,l.length=A:=λr hr=>by have:=h4' r hr;simp only [uQ,κ,μ,decide_eq_true_eq,δ,hT,hA] at this;refine⟨by omega,by omega,λl hl=>?_⟩;have:=this.2 l hl;simp at this;omega
 refine⟨A,F,T,hA,hF,hT,by omega,by omega,by omega,by omega,?_,λr hr=>(hb r hr).1,λr hr=>(hb r hr).2.1,λr hr=>(hb r hr).2.2,λr hr f hf=>?_⟩
 ·have:((s.rs.length*T:Nat):Int)<=512:=by rw [Int.natCast_mul,<- hT]; omega
  omega
 ·have:=h5' r hr;simp only [lW,δ] at this;have:=this f hf;rw [hF,ξ] at this;simpa using this
theorem iq {s:vT} {A F T:Nat} (h:Ok s A F T) (hz:uA s=0):pZ s=qZ T (s.rs.length*T):=by unfold pZ; rw [if_neg (by simpa using hz),h.ln,ξ]
end Ru
theorem jy (s:vT):wP prog 15 [s.d] (.sl 2 (pR (pZ s))):=by
 have hD:s.d = .agg [.int .i64 s.ag,.int .i64 s.fa,.int .i64 s.ln,.sl 2 (yL s.rs)]:=rfl;have hC:=kE s;rw [hD] at hC ⊢;refine wZ func15 YF λhf=>?_;refine rZ ?_;refine .go (cq hC) ?_;by_cases hz:uA s=0
 case neg=>
  have e:(uA s != 0)= true:=by simpa using hz
  rw [show pZ s = [] by unfold pZ; rw [if_pos hz]];refine wL e ?_;exact .drop (by simp) (by simp [vw,pR])
 have e:(uA s != 0)= false:=by simpa using hz
 obtain⟨A,F,T,ok⟩:=aU hz;rw [iq ok hz];obtain⟨T1,T16⟩:=ok.hT;obtain⟨R1,R64⟩:=ok.hR;simp only [simprocAttr,-ZA,↓zU,↓zD,zV,zT,zW,e,ok.ln,ok.ag,ok.fa,xV]
 refine xL (λr:Nat=>[(12,.int .i64 r),(11,.int .i64 s.rs.length),(3,xI 1 2 (pR (qZ T (r*T)))),(1,.ref 0 4 0 0)]) (λr=>⟨2,xN 1 2 (pR (qZ T (r*T)))++ [(0,⟨4,[[.int .i64 A,.int .i64 F,.int .i64 T,.sl 2 (yL s.rs)]]⟩)]⟩)
  (λr=>r<=s.rs.length) (λr=>s.rs.length-r) 0 (ο _) ?_ ?_
 ·rw [Nat.zero_mul]
  (refine kQ [] [0] ?_; simp only [vS,zQ,simprocAttr,-ZA,exists_eq_left',ne_eq,zR,qZ,List.range_zero,List.map_nil,vk,wM,wN,List.nil_append])
 intro r hr;refine yW mixed ?_;by_cases hrl:r<s.rs.length
 case neg=>
  have hd:¬ ((r:Int)<(s.rs.length:Int)):=by omega
  rw [show r=s.rs.length by omega] at hd ⊢;refine wL hd ?_;exact .drop (by simp) (iJ (by decide) (bJ _) (by simp [St.look,pC,qL]))
 have hd:((r:Int)<(s.rs.length:Int)):=by omega
 refine wL hd ?_
 refine xL (λt:Nat=>[(17,.int .i64 t),(16,.int .i64 T),(12,.int .i64 r),(11,.int .i64 s.rs.length),(4,.int .i64 r),(3,xI 1 2 (pR (qZ T (r*T+t)))),(1,.ref 0 4 0 0)]) (λt=>⟨2,xN 1 2 (pR (qZ T (r*T+t)))++ [(0,⟨4,[[.int .i64 A,.int .i64 F,.int .i64 T,.sl 2 (yL s.rs)]]⟩)]⟩)
  (λt=>t<=T) (λt=>T-t) 0 (ο _) ?_ ?_
 ·rw [Nat.add_zero];exact qe [] [1,0] rA
 intro t ht;refine yW mixed ?_;by_cases htl:t<T
 case neg=>
  have hd2:¬ ((t:Int)<(T:Int)):=by omega
  have et:t=T:=by omega
  refine mD hd2 ?_;refine⟨r+1,by omega,?_,by omega⟩;rw [show (r+1)* T=r*T+t by rw [Nat.add_mul,et]; omega];exact qe [] [1,0] rA
 have hd2:((t:Int)<(T:Int)):=by omega
 have hlen:r*T+t<1024:=by
  have:r*T<=64*16-16:=by have:=Nat.mul_le_mul (show r<=63 by omega) T16;omega
  omega
 have hS:=nf T r t htl;have hln:=uF T (r*T+t);have hw:IntKind.i64.wrap ((t:Int)+ 1)= ((t+1:Nat):Int):=wrap_i64 (by omega);generalize qZ T (r*T+t)= l at hS hln;refine fF hd2 uW hln ?_;refine⟨t+1,by omega,?_,by omega⟩;rw [hS,bK];exact qf [(1,2)] [1,0] rA hw
end
section
namespace Ru
def rU (rs:List xG) (a:Nat) (p:Nat × Nat):Int:=((rs.getD p.1 vH).loc.getD p.2 []).getD a 0
def eX (rs:List xG) (p:Nat × Nat):BitVec 64:=(rs.getD p.1 vH).sK.getD p.2 0
def sM (rs:List xG) (l:List (Nat × Nat)) (f:Nat):Nat->BitVec 64
 | 0=>0#64
 | k+1=>sM rs l f k ||| (if (eX rs (l.getD k (0,0))).getLsbD f then 1#64 <<< k else 0#64)
def gZ (rs:List xG) (l:List (Nat × Nat)) (a:Nat) (x:Int):Nat->BitVec 64
 | 0=>0#64
 | k+1=>gZ rs l a x k ||| (if rU rs a (l.getD k (0,0))= x then 1#64 <<< k else 0#64)
def mE (rs:List xG) (l:List (Nat × Nat)) (F:Nat):List (BitVec 64):=(List.range F).map λf=>sM rs l f l.length
def uD (rs:List xG) (l:List (Nat × Nat)) (a:Nat):List (BitVec 64):=l.map λp=>gZ rs l a (rU rs a p) l.length
def nX (rs:List xG) (l:List (Nat × Nat)) (A:Nat):List (List (BitVec 64)):=(List.range A).map (uD rs l)
def jr (rs:List xG) (l:List (Nat × Nat)) (A F:Nat):D:=.agg [.int .i64 (l.length:Int),.sl 1 (us (mE rs l F)),.sl 1 (rr (nX rs l A))]
structure ew (rs : List xG) (A F T : Nat) : Prop where
 hA:A<=4
 hF:F<=8
 hT:1<=T/\T<=16
 hR:1<=rs.length/\rs.length<=64
 hP:rs.length*T<=512
 loc:∀ r ∈ rs,r.loc.length=T
 sK:∀ r ∈ rs,r.sK.length=T
 row:∀ r ∈ rs,∀ l ∈ r.loc,l.length=A
 val:∀ r ∈ rs,∀ f ∈ r.sK,f >>> F=0#64
theorem eD {s:vT} (h:uA s=0):∃ (A F T:Nat) (rs:List xG),s=⟨A,F,T,rs⟩/\ ew rs A F T:=by obtain⟨A,F,T,ok⟩:=aU h;obtain⟨ag,fa,ln,rs⟩:=s;obtain⟨h1,h2,h3,h4,h5,h6,h7,h8,h9,h10,h11,h12⟩:=ok;simp only at h1 h2 h3 h7 h8 h9 h10 h11 h12;subst h1 h2 h3;exact⟨A,F,T,rs,rfl,⟨h4,h5,h6,h7,h8,h9,h10,h11,h12⟩⟩
def Yn (rs:List xG) (T:Nat) (l:List (Nat × Nat)):Prop:=∀ p ∈ l,p.1<rs.length/\p.2<T
theorem ba {rs:List xG} {T n:Nat} (hT:1<=T) (hn:n<=rs.length*T):Yn rs T (qZ T n):=λp hp=>by simp only [qZ,List.mem_map,List.mem_range] at hp;obtain⟨i,hi,rfl⟩:=hp;refine⟨(Nat.div_lt_iff_lt_mul (by omega)).2 (by omega),Nat.mod_lt _ (by omega)⟩
def sD (A F T:Nat) (rs:List xG):D:=.agg [.int .i64 (A:Int),.int .i64 (F:Int),.int .i64 (T:Int),.sl 2 (yL rs)]
def mU (u:List (Int × BitVec 64)):List (Int × D):=u.map λp=>(p.1,.int .u64 (ui p.2))
def xq (x:Int):List (Int × BitVec 64)->BitVec 64
 | []=>0#64
 | (k,v) :: r=>if x=k then v else xq x r
def cN (x:Int) (v:BitVec 64):List (Int × BitVec 64)->List (Int × BitVec 64)
 | []=>[(x,v)]
 | (k,w) :: r=>if x=k then(x,v) :: r else(k,w) :: cN x v r
theorem vr (x y:Int) (v:BitVec 64):∀ u,xq y (cN x v u)= if y=x then v else xq y u
 | []=>by simp [cN,xq]
 | (k,w) :: r=>by
  unfold cN
  by_cases h:x=k
  ·rw [if_pos h];subst h
   by_cases e:y=x
   ·simp [xq,e]
   ·simp [xq,e]
  ·rw [if_neg h,xq,vr x y v r]
   by_cases e:y=k
   ·subst e;rw [if_pos rfl,if_neg (λe=>h e.symm)];simp [xq]
   ·rw [if_neg e];simp [xq,e]
theorem rX (x:Int):∀ (l:List (Int × D)) (i:Nat),tZ x l i=(tZ x l 0).map λp=>(p.1+i,p.2)
 | [],i=>rfl
 | (k,d) :: r,i=>by
  unfold tZ
  by_cases h:x=k
  ·rw [if_pos h,if_pos h]; simp
  ·rw [if_neg h,if_neg h,rX x r (i+1),rX x r (0+1)]
   cases tZ x r 0 with
   | none=>rfl
   | some p=>simp; omega
theorem eF (x:Int):∀ u,tR false (.int .u64 (ui 0#64)) (tZ x (mU u) 0)= .int .u64 (ui (xq x u))
 | []=>rfl
 | (k,v) :: r=>by
  show tR false _ (tZ x ((k,.int .u64 (ui v)) :: mU r) 0)= _;unfold tZ xq
  by_cases h:x=k
  ·rw [if_pos h,if_pos h]; rfl
  ·rw [if_neg h,if_neg h,<- eF x r,rX]
   cases tZ x (mU r) 0 with
   | none=>rfl
   | some p=>rfl
theorem uw (x:Int) (v:BitVec 64):∀ u,uc (mU u) x (.int .u64 (ui v))= mU (cN x v u)
 | []=>rfl
 | (k,w) :: r=>by
  have ih:=uw x v r;show uc ((k,.int .u64 (ui w)) :: mU r) x _=_;unfold uc at ih ⊢;unfold tZ cN
  by_cases h:x=k
  ·rw [if_pos h,if_pos h]; rfl
  ·rw [if_neg h,if_neg h,rX]
   cases hf:tZ x (mU r) 0 with
   | none=>rw [hf] at ih; simp only [Option.map_none] at ih ⊢; rw [List.cons_append,ih]; rfl
   | some p=>rw [hf] at ih; simp only [Option.map_some] at ih ⊢; rw [List.set_cons_succ,ih]; rfl
def uK (rs:List xG) (l:List (Nat × Nat)) (a:Nat):Nat->List (Int × BitVec 64)
 | 0=>[]
 | k+1=>cN (rU rs a (l.getD k (0,0))) (xq (rU rs a (l.getD k (0,0))) (uK rs l a k) ||| 1#64 <<< k) (uK rs l a k)
theorem xc (rs:List xG) (l:List (Nat × Nat)) (a:Nat) (x:Int):∀ k,xq x (uK rs l a k)= gZ rs l a x k
 | 0=>rfl
 | k+1=>by
  unfold uK gZ;rw [vr,xc rs l a x k]
  by_cases e:x=rU rs a (l.getD k (0,0))
  ·rw [if_pos e,if_pos e.symm,<- e,xc rs l a x k]
  ·rw [if_neg e,if_neg (λh=>e h.symm),BitVec.or_zero]
end Ru
open Ru
theorem gr {rs:List xG} {A F T:Nat} (ok:ew rs A F T) {a:Nat} (ha:a<A) {p:Nat × Nat} (hp:p.1<rs.length/\p.2<T):wP prog 30 [sD A F T rs,.int .i64 a,.agg [.int .i64 (p.1:Int),.int .i64 (p.2:Int)]] (.int .i64 (rU rs a p)):=by
 have hm:=zF (d:=vH) hp.1;have hg:=uV rs hp.1;have h1:=ok.loc _ hm;have h2:=ok.row _ hm _ (zF (d:=[]) (show p.2<(rs.getD p.1 vH).loc.length by omega));unfold rU sD;generalize rs.getD p.1 vH=r at hg h1 h2;have hg2:=lU r.loc (show p.2<r.loc.length by omega);generalize r.loc.getD p.2 []=x at hg2 h2;have hg3:=jH .i64 x (show a<x.length by omega);refine wZ func30 YO λhf=>?_;simp only [simprocAttr,-ZA,↓zU,↓zD,zV,zT,zW,xV,hg,xG.row,yR,hg2,wF,hg3]
 (repeat refine sd ?_)
 exact .dv
end
end Go.Pd
