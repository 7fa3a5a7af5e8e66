/- Part KG. -/
import Derived.Test.YtndfaefmmcoapaaGreatUbF18
import Derived.Test.YtndfaefmmcoapaaGreatUbSC
set_option linter.unusedSectionVars false
set_option linter.unusedVariables false
set_option linter.unusedSimpArgs false
set_option linter.defProp false
set_option maxRecDepth 20000
set_option maxHeartbeats 1000000
open Go.Proofs.Tryz
open List renaming any_eq_false->γ,drop_eq_nil_of_le->δ,any_cons->ε,map_nil->ζ,any_nil->η,nil_append->θ,mem_map->κ,length_take->μ,ext_getElem->ν
open Nat renaming zero_le->ξ
open Bool renaming false_or->ο,not_eq_false'->π,true_or->τ,or_eq_false_iff->υ
open Int renaming eq_ofNat_of_zero_le->χ,toNat_natCast->ω
namespace Go.Pd
open Go Go.Proofs
open BitVec renaming isValue -> ZA
open Rs Fm Ru Kb
namespace Kb
def mR (see st:List (BitVec 64)) (a t:Nat):List (BitVec 64):=(st.take (t+1)).map λs=>s &&& see.getD a 0
theorem bt {see st:List (BitVec 64)} {a t:Nat} (h:t<st.length):(mR see st a t).length=t+1:=by simp [mR]; omega
theorem QX {see st:List (BitVec 64)} {a t:Nat} (h:t<st.length):mR see st a t ≠ []:=λc=>by have:=bt (see:=see) (a:=a) h;rw [c] at this; cases this
def plC (p:PrA) (sts:List (List (BitVec 64))):List D:=[.int .i64 p.F,.sl 1 (us p.init),.sl 1 (us p.see),.sl 1 (mvR p.yW),.sl 1 (cdR p.code),.sl 1 (rr sts)]
def plD (p:PrA) (sts:List (List (BitVec 64))):D:=.ptr (plC p sts)
end Kb
theorem eK {g:FuncId} {args:List D} {l:List (BitVec 64)} (h:xY prog g args St0 (.osl 0 1 l.length) ⟨1,[(0,⟨1,us l⟩)]⟩):zX prog g args (.sl 1 (us l)):= xY.ret h (.drop (ξ _) (dh (by decide) (sF l) (xI l).symm))
theorem eB (p:PrA) {sts:List (List (BitVec 64))} {a r t:Nat} (ha:a<p.see.length) (hr:r<sts.length) (ht:t<(sts.getD r []).length) (hl:t<=1000) :
  xY prog 75 [plD p sts,.int .i64 a,.int .i64 r,.int .i64 t] St0 (.osl 0 1 (mR p.see (sts.getD r []) a t).length) ⟨1,[(0,⟨1,us (mR p.see (sts.getD r []) a t)⟩)]⟩:=by
 have hg:=mM sts hr;have hne:=QX (see:=p.see) (a:=a) ht;have hL:=bt (see:=p.see) (a:=a) ht;have hga:=vI p.see ha;have hha:((a:Int)<(p.see.length:Int)):=by omega
 have hhr:((r:Int)<(sts.length:Int)):=by omega
 unfold mR at hne hL ⊢;generalize sts.getD r []=st at *;generalize p.see.getD a 0=m at *;have hu:(us st).take (t+1)= us (st.take (t+1)):=YT _ _;have hw:IntKind.i64.wrap ((t:Int)+ 1)= ((t+1:Nat):Int):=by rw [wrap_i64 (by omega)]; rfl
 have hst:(st.take (t+1)).length=t+1:=by rw [μ]; omega
 unfold plD plC;refine xY.xP mixed func75 k75 (by simp) λhf=>?_;simp only [simprocAttr,-ZA,↓zU,↓zD,zV,zT,zW,zJ,hhr,hg,hw]
 (repeat refine sd ?_)
 refine⟨0,((t+1:Nat):Int),rfl,rfl,by omega,by omega,by omega,?_⟩;simp only [ω,Int.toNat_zero,List.drop_zero,hu];generalize st.take (t+1)= q at *;simp only [simprocAttr,-ZA,↓zU,↓zD,zV,zT,zW,xI,hst]
 refine xT (λk:Nat=>[(23,.int .i64 k),(22,.int .i64 ((t+1:Nat):Int)),(21,.sl 1 (us q)),(9,xD 0 1 (us ((q.take k).map λs=>s &&& m))),(1,.int .i64 a),(0,plD p sts)]) (λk=>⟨1,xA 0 1 (us ((q.take k).map λs=>s &&& m))⟩) (λk=>k<=t+1) (λk=>t+1-k) 0 (ξ _) ?_ ?_
 ·unfold plD plC
  (refine xN.ren [] [] (by simp) (by simp) (by decide) ?_; simp only [yT,zQ,simprocAttr,-ZA,exists_eq_left',ne_eq,zR,List.take_zero,ζ,uj,zM,zN])
 intro k hk;refine xO mixed ?_;unfold plD plC
 by_cases hh:k<t+1
 ·have hd:((k:Int)<((t+1:Nat):Int)):=by omega
  have hgq:=vI q (show k<q.length by omega);have ht2:(q.take (k+1)).map (λs=>s &&& m)= (q.take k).map (λs=>s &&& m)++ [q.getD k 0 &&& m]:=by rw [zK (d:=0) (by omega)]; simp
  have hkl:((q.take k).map λs=>s &&& m).length=k:=by simp; omega
  generalize (q.take k).map (λs=>s &&& m)= acc at hkl ht2 ⊢;generalize q.getD k 0=x at hgq ht2;simp only [simprocAttr,-ZA,↓zU,↓zD,zV,zT,zW,hd,xI,hst,hgq,hha,hga]
  (repeat refine sd ?_)
  refine⟨k+1,by omega,?_,by omega⟩;rw [ht2]
  (refine xN.ren [(0,1)] [0] (by simp) (by simp) (by decide) ?_; simp only [yT,zQ,simprocAttr,-ZA,exists_eq_left',ne_eq,zR])
  exact wrap_i64 (by omega)
 ·have hd:¬ ((k:Int)<((t+1:Nat):Int)):=by omega
  rw [tO (show k=q.length by omega)];generalize q.map (λs=>s &&& m)= acc at *;rw [pR (by intro c; apply hne; cases acc with | nil=>rfl | cons x r=>cases c),wc (by intro c; apply hne; cases acc with | nil=>rfl | cons x r=>cases c),xI];simp only [simprocAttr,-ZA,↓zU,↓zD,zV,zT,zW,hd];exact .same
section
open Ru
theorem k9 (s:tZ):zX prog 38 [s.d] (.int .i64 (chk s)):=by
 have hD:s.d = .agg [.int .i64 s.ag,.int .i64 s.fa,.int .i64 s.ln,.sl 2 (zL s.rs)]:=rfl;rw [hD];refine xY.xP mixed func38 k38 (by simp) λhf=>?_
 by_cases a1:s.ag<0
 ·rw [show chk s=2 by unfold chk; rw [if_pos (.inl a1)]];simp only [simprocAttr,-ZA,↓zU,↓zD,zV,zT,zW,a1];exact .dv
 by_cases a2:4<s.ag
 ·rw [show chk s=2 by unfold chk; rw [if_pos (by omega)]];simp only [simprocAttr,-ZA,↓zU,↓zD,zV,zT,zW,a1,a2];exact .dv
 by_cases a3:s.fa<0
 ·rw [show chk s=2 by unfold chk; rw [if_pos (by omega)]];simp only [simprocAttr,-ZA,↓zU,↓zD,zV,zT,zW,a1,a2,a3];exact .dv
 by_cases a4:8<s.fa
 ·rw [show chk s=2 by unfold chk; rw [if_pos (by omega)]];simp only [simprocAttr,-ZA,↓zU,↓zD,zV,zT,zW,a1,a2,a3,a4];exact .dv
 by_cases a5:s.ln<1
 ·rw [show chk s=2 by unfold chk; rw [if_pos (by omega)]];simp only [simprocAttr,-ZA,↓zU,↓zD,zV,zT,zW,a1,a2,a3,a4,a5];exact .dv
 by_cases a6:16<s.ln
 ·rw [show chk s=2 by unfold chk; rw [if_pos (by omega)]];simp only [simprocAttr,-ZA,↓zU,↓zD,zV,zT,zW,a1,a2,a3,a4,a5,a6];exact .dv
 have e0:chk s=if 64<(s.rs.length:Int)\/512<(s.rs.length:Int)* s.ln then 8 else
  if s.rs.length=0 then 3 else if s.rs.any (jN s)= true then 3 else if s.rs.any (ae s)= true then 2 else 0:=by
  unfold chk; rw [if_neg (by omega)]
 by_cases b1:64<(s.rs.length:Int)
 ·rw [e0,if_pos (.inl b1)];simp only [simprocAttr,-ZA,↓zU,↓zD,zV,zT,zW,a1,a2,a3,a4,a5,a6,xJ,b1];exact .dv
 have hm:(s.rs.length:Int)* s.ln<=64*16:=Int.mul_le_mul (by omega) (by omega) (by omega) (by omega);have hm0:0<=(s.rs.length:Int)* s.ln:=Int.mul_nonneg (by omega) (by omega);have hw:IntKind.i64.wrap ((s.rs.length:Int)* s.ln)= (s.rs.length:Int)* s.ln:=wrap_i64 (by omega)
 by_cases b2:512<(s.rs.length:Int)* s.ln
 ·rw [e0,if_pos (.inr b2)];simp only [simprocAttr,-ZA,↓zU,↓zD,zV,zT,zW,a1,a2,a3,a4,a5,a6,xJ,b1,hw,b2];exact .dv
 rw [e0,if_neg (by omega)]
 by_cases b3:s.rs.length=0
 ·rw [if_pos b3];have b3':((s.rs.length:Int)== 0)= true:=by rw [b3]; rfl
  simp only [simprocAttr,-ZA,↓zU,↓zD,zV,zT,zW,a1,a2,a3,a4,a5,a6,xJ,b1,hw,b2,b3'];exact .dv
 rw [if_neg b3];have b3':((s.rs.length:Int)== 0)= false:=by rw [beq_eq_false_iff_ne]; omega
 simp only [simprocAttr,-ZA,↓zU,↓zD,zV,zT,zW,a1,a2,a3,a4,a5,a6,xJ,b1,hw,b2,b3']
 refine xT (λk:Nat=>[(3,.int .i64 k),(1,.ref 0 4 0 0)]) (λ_=>⟨1,[(0,⟨4,[[.int .i64 s.ag,.int .i64 s.fa,.int .i64 s.ln,.sl 2 (zL s.rs)]]⟩)]⟩)
  (λk=>k<=s.rs.length/\s.rs.any (jN s)= (s.rs.drop k).any (jN s)) (λk=>s.rs.length-k) 0 ⟨ξ _,rfl⟩ ?_ ?_
 ·(refine xN.same ?_; simp [xQ,Fr.get])
 intro k ⟨hk,hi⟩;refine xO mixed ?_;by_cases hkl:k<s.rs.length
 case neg=>
  have hd:¬ ((k:Int)<(s.rs.length:Int)):=by omega
  rw [δ (by omega),η] at hi;rw [if_neg (by rw [hi]; simp)];simp only [simprocAttr,-ZA,↓zU,↓zD,zV,zT,zW,hd,xJ]
  refine xT (λk:Nat=>[(5,.int .i64 k),(1,.ref 0 4 0 0)]) (λ_=>⟨1,[(0,⟨4,[[.int .i64 s.ag,.int .i64 s.fa,.int .i64 s.ln,.sl 2 (zL s.rs)]]⟩)]⟩)
   (λk=>k<=s.rs.length/\s.rs.any (ae s)= (s.rs.drop k).any (ae s)) (λk=>s.rs.length-k) 0 ⟨ξ _,rfl⟩ ?_ ?_
  ·(refine xN.same ?_; simp [xQ,Fr.get])
  intro k ⟨hk,hv⟩;refine xO mixed ?_;by_cases hkl:k<s.rs.length
  case neg=>
   have hd:¬ ((k:Int)<(s.rs.length:Int)):=by omega
   rw [δ (by omega),η] at hv;rw [if_neg (by rw [hv]; simp)];simp only [simprocAttr,-ZA,↓zU,↓zD,zV,zT,zW,hd,xJ];exact .dv
  have hd:((k:Int)<(s.rs.length:Int)):=by omega
  rw [drop_cons (d:=tX) hkl,ε] at hv
  have hnb:jN s (s.rs.getD k tX)= false:=by have:=γ.1 hi _ (xR (d:=tX) hkl);simpa using this
  have hg:=vF s.rs hkl;generalize s.rs.getD k tX=r at hg hv hnb
  have hfl:(r.fac.length:Int)= s.ln:=by simp only [jN,υ,π,decide_eq_true_eq] at hnb;exact hnb.1.2
  simp only [simprocAttr,-ZA,↓zU,↓zD,zV,zT,zW,hd,xJ]
  refine xT (λt:Nat=>[(6,.int .i64 t),(5,.int .i64 k),(1,.ref 0 4 0 0)]) (λ_=>⟨1,[(0,⟨4,[[.int .i64 s.ag,.int .i64 s.fa,.int .i64 s.ln,.sl 2 (zL s.rs)]]⟩)]⟩)
   (λt=>t<=r.fac.length/\ae s r=(r.fac.drop t).any (λf=>!decide (f >>> s.fa.toNat=0#64))) (λt=>r.fac.length-t) 0 ⟨ξ _,rfl⟩ ?_ ?_
  ·(refine xN.same ?_; simp [xQ,Fr.get])
  intro t ⟨ht,hb⟩;refine xO mixed ?_;by_cases htl:t<r.fac.length
  case neg=>
   have hd2:¬ ((t:Int)<s.ln):=by omega
   rw [δ (by omega),η] at hb;simp only [simprocAttr,-ZA,↓zU,↓zD,zV,zT,zW,hd2,xJ]
   (repeat refine sd ?_)
   refine⟨k+1,⟨by omega,?_⟩,?_,by omega⟩
   ·rw [hv,hb,ο]
   (refine xN.same ?_; simp only [xQ,Fr.get,simprocAttr,-ZA,zS])
   exact wrap_i64 (by omega)
  have hd2:((t:Int)<s.ln):=by omega
  rw [drop_cons (d:=0) htl,ε] at hb;have hgu:=vI r.fac htl;generalize r.fac.getD t 0=x at hgu hb
  by_cases hx:x >>> s.fa.toNat=0#64
  ·have ex:(x >>> s.fa.toNat != 0#64)= false:=by simpa using hx
   rw [decide_eq_true hx,Bool.not_true,ο] at hb;simp only [simprocAttr,-ZA,↓zU,↓zD,zV,zT,zW,hd2,xJ,hd,hg,xG.row,xI,hgu,ex]
   (repeat refine sd ?_)
   refine⟨t+1,⟨by omega,hb⟩,?_,by omega⟩
   (refine xN.same ?_; simp only [xQ,Fr.get,simprocAttr,-ZA,zS])
   exact wrap_i64 (by omega)
  ·have ex:(x >>> s.fa.toNat != 0#64)= true:=by simpa using hx
   rw [decide_eq_false hx,Bool.not_false,τ] at hb;rw [if_pos (by rw [hv,hb,τ])];simp only [simprocAttr,-ZA,↓zU,↓zD,zV,zT,zW,hd2,xJ,hd,hg,xG.row,xI,hgu,ex]
   (repeat refine sd ?_)
   exact .dv
 have hd:((k:Int)<(s.rs.length:Int)):=by omega
 rw [drop_cons (d:=tX) hkl,ε] at hi;have hg:=vF s.rs hkl;generalize s.rs.getD k tX=r at hg hi;have hend:jN s r=true->s.rs.any (jN s)= true:=λh=>by rw [hi,h,τ]
 by_cases c1:(r.loc.length:Int)= s.ln
 case neg=>
  have e1:((r.loc.length:Int) != s.ln)= true:=by simpa using c1
  rw [if_pos (hend (by unfold jN; simp [c1]))];simp only [simprocAttr,-ZA,↓zU,↓zD,zV,zT,zW,hd,xJ,hg,xG.row,yD,e1]
  (repeat refine sd ?_)
  exact .dv
 have e1:((r.loc.length:Int) != s.ln)= false:=by simpa using c1
 by_cases c2:(r.fac.length:Int)= s.ln
 case neg=>
  have e2:((r.fac.length:Int) != s.ln)= true:=by simpa using c2
  rw [if_pos (hend (by unfold jN; simp [c2]))];simp only [simprocAttr,-ZA,↓zU,↓zD,zV,zT,zW,hd,xJ,hg,xG.row,yD,e1,xI,e2]
  (repeat refine sd ?_)
  exact .dv
 have e2:((r.fac.length:Int) != s.ln)= false:=by simpa using c2
 have hbf:jN s r=r.loc.any λl=>!decide ((l.length:Int)= s.ag):=by unfold jN; simp [c1,c2]
 simp only [simprocAttr,-ZA,↓zU,↓zD,zV,zT,zW,hd,xJ,hg,xG.row,yD,e1,xI,e2]
 (repeat refine sd ?_)
 refine xT (λt:Nat=>[(4,.int .i64 t),(3,.int .i64 k),(1,.ref 0 4 0 0)]) (λ_=>⟨1,[(0,⟨4,[[.int .i64 s.ag,.int .i64 s.fa,.int .i64 s.ln,.sl 2 (zL s.rs)]]⟩)]⟩)
  (λt=>t<=r.loc.length/\jN s r=(r.loc.drop t).any (λl=>!decide ((l.length:Int)= s.ag))) (λt=>r.loc.length-t) 0 ⟨ξ _,hbf⟩ ?_ ?_
 ·(refine xN.same ?_; simp [xQ,Fr.get])
 intro t ⟨ht,hb⟩;refine xO mixed ?_;by_cases htl:t<r.loc.length
 case neg=>
  have hd2:¬ ((t:Int)<s.ln):=by omega
  rw [δ (by omega),η] at hb;simp only [simprocAttr,-ZA,↓zU,↓zD,zV,zT,zW,hd2]
  (repeat refine sd ?_)
  refine⟨k+1,⟨by omega,?_⟩,?_,by omega⟩
  ·rw [hi,hb,ο]
  (refine xN.same ?_; simp only [xQ,Fr.get,simprocAttr,-ZA,zS])
  exact wrap_i64 (by omega)
 have hd2:((t:Int)<s.ln):=by omega
 rw [drop_cons (d:=[]) htl,ε] at hb;have hgu:=tH r.loc htl;generalize r.loc.getD t []=x at hgu hb
 by_cases hx:(x.length:Int)= s.ag
 ·have ex:((x.length:Int) != s.ag)= false:=by simpa using hx
  rw [decide_eq_true hx,Bool.not_true,ο] at hb;simp only [simprocAttr,-ZA,↓zU,↓zD,zV,zT,zW,hd2,xJ,hd,hg,xG.row,yD,hgu,yZ,ex]
  (repeat refine sd ?_)
  refine⟨t+1,⟨by omega,hb⟩,?_,by omega⟩
  (refine xN.same ?_; simp only [xQ,Fr.get,simprocAttr,-ZA,zS])
  exact wrap_i64 (by omega)
 ·have ex:((x.length:Int) != s.ag)= true:=by simpa using hx
  rw [decide_eq_false hx,Bool.not_false,τ] at hb;rw [if_pos (hend hb)];simp only [simprocAttr,-ZA,↓zU,↓zD,zV,zT,zW,hd2,xJ,hd,hg,xG.row,yD,hgu,yZ,ex]
  (repeat refine sd ?_)
  exact .dv
end
section
open Ru
theorem iO {nx n key sz:Nat} {xZ:List (Nat × Ob)} {els:List (List D)} (hs:0<sz) (hp:∀ e ∈ els,D.xU e=true) (h:St.look xZ key=vZ sz els) {ρ:Nat->Nat}:vw ⟨nx,xZ⟩ ⟨n,[]⟩ ρ (xD key sz els) (.sl sz els):=by
 cases els with
 | nil=>simp [xD,vw]
 | cons e r=> simp only [xD,vw];refine⟨trivial,hs,by simp,⟨sz,e :: r⟩,?_,rfl,by simp,by simp,hp⟩;show St.look xZ key=_;rw [h]; rfl
namespace Ru
def ptR (l:List (Nat × Nat)):List (List D):=l.map λp=>[.int .i64 (p.1:Int),.int .i64 (p.2:Int)]
theorem yR (l:List (Nat × Nat)):(ptR l).length=l.length:=by simp [ptR]
theorem uL (l:List (Nat × Nat)) {i:Nat} (h:i<l.length):(ptR l).getD i [] = [.int .i64 ((l.getD i (0,0)).1:Int),.int .i64 ((l.getD i (0,0)).2:Int)]:=by simp [ptR,List.getD,h]
theorem wv (l:List (Nat × Nat)):∀ e ∈ ptR l,D.xU e=true:=by intro e he;simp only [ptR,κ] at he;obtain⟨r,_,rfl⟩:=he;rfl
theorem oG (l:List (Nat × Nat)):tW (ptR l)= True:=eq_true (wv l)
theorem ez (l:List (Nat × Nat)) (a b:Nat):ptR l ++ [[.int .i64 (a:Int),.int .i64 (b:Int)]]=ptR (l ++ [(a,b)]):=by simp [ptR]
theorem mj : ptR [] = []:=rfl
def ptN (T n:Nat):List (Nat × Nat):=(List.range n).map λi=>(i / T,i % T)
theorem vR (T n:Nat):(ptN T n).length=n:=by simp [ptN]
theorem yj (T:Nat) {n i:Nat} (h:i<n):(ptN T n).getD i (0,0)= (i / T,i % T):=by simp [ptN,List.getD,h]
theorem eu (T r t:Nat) (ht:t<T):ptN T (r*T+(t+1))= ptN T (r*T+t)++ [(r,t)]:=by
 rw [show r*T+(t+1)= (r*T+t)+ 1 by omega];unfold ptN;rw [List.range_succ,List.map_append,List.map_singleton]
 have e1:(r*T+t)/ T=r:=by rw [Nat.mul_comm,Nat.mul_add_div (by omega),Nat.div_eq_of_lt ht]; rfl
 have e2:(r*T+t) % T=t:=by rw [Nat.mul_comm,Nat.mul_add_mod,Nat.mod_eq_of_lt ht]
 rw [e1,e2]
def cB (s:tZ):List (Nat × Nat):=if chk s≠0 then [] else ptN s.ln.toNat (s.rs.length*s.ln.toNat)
structure Ok (s : tZ) (A F T : Nat) : Prop where
 ag:s.ag=A
 fa:s.fa=F
 ln:s.ln=T
 hA:A<=4
 hF:F<=8
 hT:1<=T/\T<=16
 hR:1<=s.rs.length/\s.rs.length<=64
 hP:s.rs.length*T<=512
 loc:∀ r ∈ s.rs,r.loc.length=T
 fac:∀ r ∈ s.rs,r.fac.length=T
 row:∀ r ∈ s.rs,∀ l ∈ r.loc,l.length=A
 val:∀ r ∈ s.rs,∀ f ∈ r.fac,f >>> F=0#64
theorem bg {s:tZ} (h:chk s=0):∃ A F T,Ok s A F T:=by
 unfold chk at h
 split at h
 ·cases h
 rename_i h1
 split at h
 ·cases h
 rename_i h2
 split at h
 ·cases h
 rename_i h3
 split at h
 ·cases h
 rename_i h4
 split at h
 ·cases h
 rename_i h5;obtain⟨A,hA⟩:=χ (show 0<=s.ag by omega);obtain⟨F,hF⟩:=χ (show 0<=s.fa by omega);obtain⟨T,hT⟩:=χ (show 0<=s.ln by omega);have h4':∀ r ∈ s.rs,jN s r=false:=λr hr=>by simpa using γ.1 (by simpa using h4) r hr
 have h5':∀ r ∈ s.rs,ae s r=false:=λr hr=>by simpa using γ.1 (by simpa using h5) r hr
 have hb:∀ r ∈ s.rs,r.loc.length=T/\r.fac.length=T/\∀ l ∈ r.loc,l.length=A:=λr hr=>by have:=h4' r hr;simp only [jN,υ,π,decide_eq_true_eq,γ,hT,hA] at this;refine⟨by omega,by omega,λl hl=>?_⟩;have:=this.2 l hl;simp at this;omega
 refine⟨A,F,T,hA,hF,hT,by omega,by omega,by omega,by omega,?_,λr hr=>(hb r hr).1,λr hr=>(hb r hr).2.1,λr hr=>(hb r hr).2.2,λr hr f hf=>?_⟩
 ·have:((s.rs.length*T:Nat):Int)<=512:=by rw [Int.natCast_mul,<- hT]; omega
  omega
 ·have:=h5' r hr;simp only [ae,γ] at this;have:=this f hf;rw [hF,ω] at this;simpa using this
theorem RG {s:tZ} {A F T:Nat} (h:Ok s A F T) (hz:chk s=0):cB s=ptN T (s.rs.length*T):=by unfold cB; rw [if_neg (by simpa using hz),h.ln,ω]
end Ru
theorem gA (s:tZ):zX prog 93 [s.d] (.sl 2 (ptR (cB s))):=by
 have hD:s.d = .agg [.int .i64 s.ag,.int .i64 s.fa,.int .i64 s.ln,.sl 2 (zL s.rs)]:=rfl;have hC:=lS s;rw [hD] at hC ⊢;refine xY.xP mixed func93 k93 (by simp) λhf=>?_;simp only [simprocAttr,-ZA,↓zU,↓zD,zV,zT,zW]
 (repeat refine sd ?_)
 refine .go (cq hC) ?_;by_cases hz:chk s=0
 case neg=>
  have e:(chk s != 0)= true:=by simpa using hz
  rw [show cB s = [] by unfold cB; rw [if_pos hz]];simp only [simprocAttr,-ZA,↓zU,↓zD,zV,zT,zW,e];exact .drop (by simp) (by simp [vw,ptR])
 have e:(chk s != 0)= false:=by simpa using hz
 obtain⟨A,F,T,ok⟩:=bg hz;rw [RG ok hz];obtain⟨T1,T16⟩:=ok.hT;obtain⟨R1,R64⟩:=ok.hR;simp only [simprocAttr,-ZA,↓zU,↓zD,zV,zT,zW,e,ok.ln,ok.ag,ok.fa,xJ]
 refine xT (λr:Nat=>[(12,.int .i64 r),(11,.int .i64 s.rs.length),(3,xD 1 2 (ptR (ptN T (r*T)))),(1,.ref 0 4 0 0)]) (λr=>⟨2,xA 1 2 (ptR (ptN T (r*T)))++ [(0,⟨4,[[.int .i64 A,.int .i64 F,.int .i64 T,.sl 2 (zL s.rs)]]⟩)]⟩)
  (λr=>r<=s.rs.length) (λr=>s.rs.length-r) 0 (ξ _) ?_ ?_
 ·rw [Nat.zero_mul]
  (refine xN.ren [] [0] (by simp) (by simp) (by decide) ?_; simp only [yT,zQ,simprocAttr,-ZA,exists_eq_left',ne_eq,zR,ptN,List.range_zero,ζ,mj,zM,zN,θ])
 intro r hr;refine xO mixed ?_;by_cases hrl:r<s.rs.length
 case neg=>
  have hd:¬ ((r:Int)<(s.rs.length:Int)):=by omega
  rw [show r=s.rs.length by omega] at hd ⊢;simp only [simprocAttr,-ZA,↓zU,↓zD,zV,zT,zW,hd];exact .drop (by simp) (iO (by decide) (wv _) (by simp [St.look,lQ,xH]))
 have hd:((r:Int)<(s.rs.length:Int)):=by omega
 simp only [simprocAttr,-ZA,↓zU,↓zD,zV,zT,zW,hd]
 refine xT (λt:Nat=>[(17,.int .i64 t),(16,.int .i64 T),(12,.int .i64 r),(11,.int .i64 s.rs.length),(4,.int .i64 r),(3,xD 1 2 (ptR (ptN T (r*T+t)))),(1,.ref 0 4 0 0)]) (λt=>⟨2,xA 1 2 (ptR (ptN T (r*T+t)))++ [(0,⟨4,[[.int .i64 A,.int .i64 F,.int .i64 T,.sl 2 (zL s.rs)]]⟩)]⟩)
  (λt=>t<=T) (λt=>T-t) 0 (ξ _) ?_ ?_
 ·rw [Nat.add_zero]
  (refine xN.ren [] [1,0] (by simp) (by simp) (by decide) ?_; simp only [yT,zQ,simprocAttr,-ZA,exists_eq_left',ne_eq,zR,oG])
 intro t ht;refine xO mixed ?_;by_cases htl:t<T
 case neg=>
  have hd2:¬ ((t:Int)<(T:Int)):=by omega
  have et:t=T:=by omega
  simp only [simprocAttr,-ZA,↓zU,↓zD,zV,zT,zW,hd2]
  (repeat refine sd ?_)
  refine⟨r+1,by omega,?_,by omega⟩;rw [show (r+1)* T=r*T+t by rw [Nat.add_mul,et]; omega]
  (refine xN.ren [] [1,0] (by simp) (by simp) (by decide) ?_; simp only [yT,zQ,simprocAttr,-ZA,exists_eq_left',ne_eq,zR,oG])
  exact wrap_i64 (by omega)
 have hd2:((t:Int)<(T:Int)):=by omega
 have hlen:r*T+t<1024:=by
  have:r*T<=64*16-16:=by have:=Nat.mul_le_mul (show r<=63 by omega) T16;omega
  omega
 have hS:=eu T r t htl;have hln:=vR T (r*T+t);have hw:IntKind.i64.wrap ((t:Int)+ 1)= ((t+1:Nat):Int):=wrap_i64 (by omega);generalize ptN T (r*T+t)= l at hS hln;simp only [simprocAttr,-ZA,↓zU,↓zD,zV,zT,zW,hd2,yR,hln]
 (repeat refine sd ?_)
 refine⟨t+1,by omega,?_,by omega⟩;rw [hS,ez]
 (refine xN.ren [(1,2)] [1,0] (by simp) (by simp) (by decide) ?_; simp only [yT,zQ,simprocAttr,-ZA,exists_eq_left',ne_eq,zR,oG,hw])
end
section
namespace Ru
def yJ (rs:List xG) (a:Nat) (p:Nat × Nat):Int:=((rs.getD p.1 tX).loc.getD p.2 []).getD a 0
def xe (rs:List xG) (p:Nat × Nat):BitVec 64:=(rs.getD p.1 tX).fac.getD p.2 0
def qW (rs:List xG) (l:List (Nat × Nat)) (f:Nat):Nat->BitVec 64
 | 0=>0#64
 | k+1=>qW rs l f k ||| (if (xe rs (l.getD k (0,0))).getLsbD f then 1#64 <<< k else 0#64)
def fY (rs:List xG) (l:List (Nat × Nat)) (a:Nat) (x:Int):Nat->BitVec 64
 | 0=>0#64
 | k+1=>fY rs l a x k ||| (if yJ rs a (l.getD k (0,0))= x then 1#64 <<< k else 0#64)
def lI (rs:List xG) (l:List (Nat × Nat)) (F:Nat):List (BitVec 64):=(List.range F).map λf=>qW rs l f l.length
def rC (rs:List xG) (l:List (Nat × Nat)) (a:Nat):List (BitVec 64):=l.map λp=>fY rs l a (yJ rs a p) l.length
def qH (rs:List xG) (l:List (Nat × Nat)) (A:Nat):List (List (BitVec 64)):=(List.range A).map (rC rs l)
def Vf (rs:List xG) (l:List (Nat × Nat)) (A F:Nat):D:=.agg [.int .i64 (l.length:Int),.sl 1 (us (lI rs l F)),.sl 1 (rr (qH rs l A))]
structure OkR (rs : List xG) (A F T : Nat) : Prop where
 hA:A<=4
 hF:F<=8
 hT:1<=T/\T<=16
 hR:1<=rs.length/\rs.length<=64
 hP:rs.length*T<=512
 loc:∀ r ∈ rs,r.loc.length=T
 fac:∀ r ∈ rs,r.fac.length=T
 row:∀ r ∈ rs,∀ l ∈ r.loc,l.length=A
 val:∀ r ∈ rs,∀ f ∈ r.fac,f >>> F=0#64
theorem lV {s:tZ} (h:chk s=0):∃ (A F T:Nat) (rs:List xG),s=⟨A,F,T,rs⟩/\ OkR rs A F T:=by obtain⟨A,F,T,ok⟩:=bg h;obtain⟨ag,fa,ln,rs⟩:=s;obtain⟨h1,h2,h3,h4,h5,h6,h7,h8,h9,h10,h11,h12⟩:=ok;simp only at h1 h2 h3 h7 h8 h9 h10 h11 h12;subst h1 h2 h3;exact⟨A,F,T,rs,rfl,⟨h4,h5,h6,h7,h8,h9,h10,h11,h12⟩⟩
def Inb (rs:List xG) (T:Nat) (l:List (Nat × Nat)):Prop:=∀ p ∈ l,p.1<rs.length/\p.2<T
theorem lD {rs:List xG} {T n:Nat} (hT:1<=T) (hn:n<=rs.length*T):Inb rs T (ptN T n):=λp hp=>by simp only [ptN,κ,List.mem_range] at hp;obtain⟨i,hi,rfl⟩:=hp;refine⟨(Nat.div_lt_iff_lt_mul (by omega)).2 (by omega),Nat.mod_lt _ (by omega)⟩
def sD (A F T:Nat) (rs:List xG):D:=.agg [.int .i64 (A:Int),.int .i64 (F:Int),.int .i64 (T:Int),.sl 2 (zL rs)]
def mU (u:List (Int × BitVec 64)):List (Int × D):=u.map λp=>(p.1,.int .u64 (ui p.2))
def ulk (x:Int):List (Int × BitVec 64)->BitVec 64
 | []=>0#64
 | (k,v) :: r=>if x=k then v else ulk x r
def Sy (x:Int) (v:BitVec 64):List (Int × BitVec 64)->List (Int × BitVec 64)
 | []=>[(x,v)]
 | (k,w) :: r=>if x=k then(x,v) :: r else(k,w) :: Sy x v r
theorem YQ (x y:Int) (v:BitVec 64):∀ u,ulk y (Sy x v u)= if y=x then v else ulk y u
 | []=>by simp [Sy,ulk]
 | (k,w) :: r=>by
  unfold Sy
  by_cases h:x=k
  ·rw [if_pos h];subst h
   by_cases e:y=x
   ·simp [ulk,e]
   ·simp [ulk,e]
  ·rw [if_neg h,ulk,YQ x y v r]
   by_cases e:y=k
   ·subst e;rw [if_pos rfl,if_neg (λe=>h e.symm)];simp [ulk]
   ·rw [if_neg e];simp [ulk,e]
theorem wV (x:Int):∀ (l:List (Int × D)) (i:Nat),wT x l i=(wT x l 0).map λp=>(p.1+i,p.2)
 | [],i=>rfl
 | (k,d) :: r,i=>by
  unfold wT
  by_cases h:x=k
  ·rw [if_pos h,if_pos h]; simp
  ·rw [if_neg h,if_neg h,wV x r (i+1),wV x r (0+1)]
   cases wT x r 0 with
   | none=>rfl
   | some p=>simp; omega
theorem mc (x:Int):∀ u,lH false (.int .u64 (ui 0#64)) (wT x (mU u) 0)= .int .u64 (ui (ulk x u))
 | []=>rfl
 | (k,v) :: r=>by
  show lH false _ (wT x ((k,.int .u64 (ui v)) :: mU r) 0)= _;unfold wT ulk
  by_cases h:x=k
  ·rw [if_pos h,if_pos h]; rfl
  ·rw [if_neg h,if_neg h,<- mc x r,wV]
   cases wT x (mU r) 0 with
   | none=>rfl
   | some p=>rfl
theorem Zi (x:Int) (v:BitVec 64):∀ u,xc (mU u) x (.int .u64 (ui v))= mU (Sy x v u)
 | []=>rfl
 | (k,w) :: r=>by
  have ih:=Zi x v r;show xc ((k,.int .u64 (ui w)) :: mU r) x _=_;unfold xc at ih ⊢;unfold wT Sy
  by_cases h:x=k
  ·rw [if_pos h,if_pos h]; rfl
  ·rw [if_neg h,if_neg h,wV]
   cases hf:wT x (mU r) 0 with
   | none=>rw [hf] at ih; simp only [Option.map_none] at ih ⊢; rw [List.cons_append,ih]; rfl
   | some p=>rw [hf] at ih; simp only [Option.map_some] at ih ⊢; rw [List.set_cons_succ,ih]; rfl
def uK (rs:List xG) (l:List (Nat × Nat)) (a:Nat):Nat->List (Int × BitVec 64)
 | 0=>[]
 | k+1=>Sy (yJ rs a (l.getD k (0,0))) (ulk (yJ rs a (l.getD k (0,0))) (uK rs l a k) ||| 1#64 <<< k) (uK rs l a k)
theorem Yl (rs:List xG) (l:List (Nat × Nat)) (a:Nat) (x:Int):∀ k,ulk x (uK rs l a k)= fY rs l a x k
 | 0=>rfl
 | k+1=>by
  unfold uK fY;rw [YQ,Yl rs l a x k]
  by_cases e:x=yJ rs a (l.getD k (0,0))
  ·rw [if_pos e,if_pos e.symm,<- e,Yl rs l a x k]
  ·rw [if_neg e,if_neg (λh=>e h.symm),BitVec.or_zero]
end Ru
open Ru
theorem ye {rs:List xG} {A F T:Nat} (ok:OkR rs A F T) {a:Nat} (ha:a<A) {p:Nat × Nat} (hp:p.1<rs.length/\p.2<T):zX prog 94 [sD A F T rs,.int .i64 a,.agg [.int .i64 (p.1:Int),.int .i64 (p.2:Int)]] (.int .i64 (yJ rs a p)):=by
 have hm:=xR (d:=tX) hp.1;have hg:=vF rs hp.1;have h1:=ok.loc _ hm;have h2:=ok.row _ hm _ (xR (d:=[]) (show p.2<(rs.getD p.1 tX).loc.length by omega));unfold yJ sD;generalize rs.getD p.1 tX=r at hg h1 h2;have hg2:=tH r.loc (show p.2<r.loc.length by omega);generalize r.loc.getD p.2 []=x at hg2 h2;have hg3:=yV .i64 x (show a<x.length by omega);refine xY.xP mixed func94 k94 (by simp) λhf=>?_;simp only [simprocAttr,-ZA,↓zU,↓zD,zV,zT,zW,xJ,hg,xG.row,yD,hg2,yZ,hg3]
 (repeat refine sd ?_)
 exact .dv
end
open Ru
namespace Ru
def bW (F:Nat) (g h:Nat->BitVec 64) (i:Nat):List (BitVec 64):=(List.range F).map λf=>if f<i then g f else h f
theorem kP (F:Nat) (g h:Nat->BitVec 64) (i:Nat):(bW F g h i).length=F:=by simp [bW]
theorem eE (F:Nat) (g h:Nat->BitVec 64):bW F g h 0=(List.range F).map h:=by simp [bW]
theorem wj (F:Nat) (g h:Nat->BitVec 64) {i:Nat} (hi:F<=i):bW F g h i=(List.range F).map g:=by refine List.map_congr_left λf hf=>?_;rw [if_pos (by have:=List.mem_range.1 hf; omega)]
theorem wk {F:Nat} (g h:Nat->BitVec 64) {i:Nat} (hi:i<F):(bW F g h i).getD i 0=h i:=by simp [bW,List.getD,hi]
theorem wm (F:Nat) (g h:Nat->BitVec 64) (i:Nat):(bW F g h i).set i (g i)= bW F g h (i+1):=by
 refine ν (by simp [bW]) λk h1 h2=>?_;rw [List.getElem_set];simp only [bW,List.getElem_map,List.getElem_range]
 by_cases e:i=k
 ·subst e; rw [if_pos rfl,if_pos (by omega)]
 ·rw [if_neg e]
  by_cases hk:k<i
  ·rw [if_pos hk,if_pos (by omega)]
  ·rw [if_neg hk,if_neg (by omega)]
theorem Zk (x:BitVec 64) (f w:Nat):(x >>> f &&& 1#64) <<< w=if x.getLsbD f then 1#64 <<< w else 0#64:=by
 rw [vq]
 split
 ·rfl
 ·exact BitVec.zero_shiftLeft _
theorem wz (u:List (Int × BitVec 64)):tW (rB .i64 (mU u))= True:=eq_true (aO λp hp=>by simp only [mU,κ] at hp;obtain⟨q,_,rfl⟩:=hp;rfl)
end Ru
theorem UT {rs:List xG} {A F T:Nat} (ok:OkR rs A F T) {l:List (Nat × Nat)} (hl:l.length<=64) (hin:Inb rs T l):zX prog 89 [sD A F T rs,.sl 2 (ptR l)] (Vf rs l A F):=by
 have hA:=ok.hA;have hF:=ok.hF;have hloc:=λ(a:Nat) (ha:a<A) (p:Nat × Nat) (hp:p.1<rs.length/\p.2<T)=>ye ok ha hp;unfold sD Vf at *;refine xY.xP mixed func89 k89 (by simp) λhf=>?_
 have hz:List.replicate F [D.int .u64 (ui 0#64)]=us ((List.range F).map λf=>qW rs l f 0):=by simp only [qW,us,List.map_map];refine ν (by simp) λi h1 h2=>?_;simp
 simp only [simprocAttr,-ZA,↓zU,↓zD,zV,zT,zW,yR]
 (repeat refine sd ?_)
 refine xT (λw:Nat=>[(24,.int .i64 w),(23,.int .i64 l.length),(22,.sl 2 (ptR l)),(5,.ref 3 3 0 0),(4,.ref 1 3 0 0),(2,.ref 0 4 0 0),(1,.sl 2 (ptR l))])
  (λw=>⟨4,[(3,⟨3,[[.int .i64 l.length,.osl 2 1 F,.xK]]⟩),(2,⟨1,us ((List.range F).map λf=>qW rs l f w)⟩),(1,⟨3,[[.int .i64 0,.xK,.xK]]⟩),(0,⟨4,[[.int .i64 A,.int .i64 F,.int .i64 T,.sl 2 (zL rs)]]⟩)]⟩)
  (λw=>w<=l.length) (λw=>l.length-w) 0 (ξ _) ?_ ?_
 ·rw [<- hz]
  (refine xN.same ?_; simp [xQ,Fr.get])
 intro w hw;refine xO mixed ?_
 by_cases hwl:w<l.length
 ·have hd:((w:Int)<(l.length:Int)):=by omega
  have hp:=hin _ (xR (d:=(0,0)) hwl);have hpg:=uL l hwl;have hv:∀ f,qW rs l f (w+1)= qW rs l f w ||| (if (xe rs (l.getD w (0,0))).getLsbD f then 1#64 <<< w else 0#64):=λf=>rfl;generalize l.getD w (0,0)= q at hp hpg hv;obtain⟨q1,q2⟩:=q;have hm:=xR (d:=tX) hp.1;have hg:=vF rs hp.1;have h1:=ok.fac _ hm;unfold xe at hv;simp only at hp hpg hv hm hg h1;generalize rs.getD q1 tX=r at hg h1 hv;have hg2:=vI r.fac (show q2<r.fac.length by omega);generalize r.fac.getD q2 0=x at hg2 hv;simp only [simprocAttr,-ZA,↓zU,↓zD,zV,zT,zW,hd,yR,hpg]
  (repeat refine sd ?_)
  refine xT (λi:Nat=>[(32,.int .i64 i),(31,.int .i64 F),(24,.int .i64 w),(23,.int .i64 l.length),(22,.sl 2 (ptR l)),(7,.ref 4 2 0 0),(6,.int .i64 w),(5,.ref 3 3 0 0),(4,.ref 1 3 0 0),(2,.ref 0 4 0 0),(1,.sl 2 (ptR l))])
   (λi=>⟨5,[(4,⟨2,[[.int .i64 q1,.int .i64 q2]]⟩),(3,⟨3,[[.int .i64 l.length,.osl 2 1 F,.xK]]⟩),(2,⟨1,us (bW F (λf=>qW rs l f (w+1)) (λf=>qW rs l f w) i)⟩),(1,⟨3,[[.int .i64 0,.xK,.xK]]⟩),(0,⟨4,[[.int .i64 A,.int .i64 F,.int .i64 T,.sl 2 (zL rs)]]⟩)]⟩)
   (λi=>i<=F) (λi=>F-i) 0 (ξ _) ?_ ?_
  ·rw [eE]
   (refine xN.same ?_; simp [xQ,Fr.get])
  intro i hi;refine xO mixed ?_
  by_cases hil:i<F
  ·have hd2:((i:Int)<(F:Int)):=by omega
   have hmg:=vI (bW F (λf=>qW rs l f (w+1)) (λf=>qW rs l f w) i) (show i<_ by rw [kP]; exact hil);rw [wk _ _ hil] at hmg;have hms:=wm F (λf=>qW rs l f (w+1)) (λf=>qW rs l f w) i;simp only [hv i] at hms;have hml:=kP F (λf=>qW rs l f (w+1)) (λf=>qW rs l f w) i;generalize bW F (λf=>qW rs l f (w+1)) (λf=>qW rs l f w) i=M at hmg hms hml;simp only [simprocAttr,-ZA,↓zU,↓zD,zV,zT,zW,hd2,xI,hml,hmg,xJ,hg,xG.row,h1,hg2,Zk,mQ,hms]
   (repeat refine sd ?_)
   refine⟨i+1,by omega,?_,by omega⟩
   (refine xN.same ?_; simp only [xQ,Fr.get,simprocAttr,-ZA,zS])
   exact wrap_i64 (by omega)
  ·have hd2:¬ ((i:Int)<(F:Int)):=by omega
   rw [wj _ _ _ (by omega:F<=i)];simp only [simprocAttr,-ZA,↓zU,↓zD,zV,zT,zW,hd2]
   (repeat refine sd ?_)
   refine⟨w+1,by omega,?_,by omega⟩
   (refine xN.ren [] [3,2,1,0] (by simp) (by simp) (by decide) ?_; simp only [yT,zQ,simprocAttr,-ZA,exists_eq_left',ne_eq,zR,yU])
   exact wrap_i64 (by omega)
 have hd:¬ ((w:Int)<(l.length:Int)):=by omega
 obtain rfl:w=l.length:=by omega
 rw [show ((List.range F).map λf=>qW rs l f l.length)= lI rs l F from rfl];simp only [simprocAttr,-ZA,↓zU,↓zD,zV,zT,zW,hd]
 refine xT (λa:Nat=>[(62,.int .i64 a),(61,.int .i64 A),(5,.ref 3 3 0 0),(4,.ref 1 3 0 0),(2,.ref 0 4 0 0),(1,.sl 2 (ptR l))])
  (λa=>⟨5,xA 4 1 (rr (qH rs l a))++ [(3,⟨3,[[.int .i64 l.length,.osl 2 1 F,xD 4 1 (rr (qH rs l a))]]⟩),(2,⟨1,us (lI rs l F)⟩),(1,⟨3,[[.int .i64 0,.xK,.xK]]⟩),(0,⟨4,[[.int .i64 A,.int .i64 F,.int .i64 T,.sl 2 (zL rs)]]⟩)]⟩)
  (λa=>a<=A) (λa=>A-a) 0 (ξ _) ?_ ?_
 ·(refine xN.ren [] [3,2,1,0] (by simp) (by simp) (by decide) ?_; simp only [yT,zQ,simprocAttr,-ZA,exists_eq_left',ne_eq,zR,qH,List.range_zero,ζ,zM,zN,θ,yU,show rr [] = [] from rfl])
 intro a ha;refine xO mixed ?_;by_cases hal:a<A
 case neg=>
  have hd2:¬ ((a:Int)<(A:Int)):=by omega
  rw [show a=A by omega];rw [show a=A by omega] at hd2;have hvl:(us (lI rs l F)).length=F:=by simp [us,lI]
  simp only [simprocAttr,-ZA,↓zU,↓zD,zV,zT,zW,hd2]
  (refine jM.ren [] [] (by simp) (by simp) (by decide) ?_; simp only [yT,zQ,simprocAttr,-ZA,exists_eq_left',ne_eq,zR,yU,wE])
  exact⟨λ_ h=>h.elim,by omega,(List.take_of_length_le (by omega)).symm,sF _⟩
 have hd2:((a:Int)<(A:Int)):=by omega
 have hrel:qH rs l (a+1)= qH rs l a ++ [rC rs l a]:=by unfold qH; rw [List.range_succ,List.map_append]; rfl
 generalize hRL:qH rs l a=RL at hrel;simp only [simprocAttr,-ZA,↓zU,↓zD,zV,zT,zW,hd2,yR]
 (repeat refine sd ?_)
 refine xT (λw:Nat=>[(68,.int .i64 w),(67,.int .i64 l.length),(66,.sl 2 (ptR l)),(62,.int .i64 a),(61,.int .i64 A),(10,.zE 5),(9,.int .i64 a),(5,.ref 3 3 0 0),(4,.ref 1 3 0 0),(2,.ref 0 4 0 0),(1,.sl 2 (ptR l))])
  (λw=>⟨6,(5,⟨0,rB .i64 (mU (uK rs l a w))⟩) :: (xA 4 1 (rr RL)++ [(3,⟨3,[[.int .i64 l.length,.osl 2 1 F,xD 4 1 (rr RL)]]⟩),(2,⟨1,us (lI rs l F)⟩),(1,⟨3,[[.int .i64 0,.xK,.xK]]⟩),(0,⟨4,[[.int .i64 A,.int .i64 F,.int .i64 T,.sl 2 (zL rs)]]⟩)])⟩)
  (λw=>w<=l.length) (λw=>l.length-w) 0 (ξ _) ?_ ?_
 ·(refine xN.ren [] [5,4,3,2,1,0] (by simp) (by simp) (by decide) ?_; simp only [yT,zQ,simprocAttr,-ZA,exists_eq_left',ne_eq,zR,uK,mU,ζ,Tx,yU,wE])
 intro w hw;refine xO mixed ?_
 by_cases hwl:w<l.length
 ·have hd3:((w:Int)<(l.length:Int)):=by omega
  have hp:=hin _ (xR (d:=(0,0)) hwl);have hpg:=uL l hwl;have hS:uK rs l a (w+1)= Sy (yJ rs a (l.getD w (0,0))) (ulk (yJ rs a (l.getD w (0,0))) (uK rs l a w) ||| 1#64 <<< w) (uK rs l a w):=rfl;have hlc:=hloc a hal _ hp;generalize l.getD w (0,0)= q at hp hpg hS hlc;obtain⟨q1,q2⟩:=q;simp only at hpg hlc;generalize yJ rs a (q1,q2)= x at hS hlc;generalize uK rs l a w=u at hS;simp only [simprocAttr,-ZA,↓zU,↓zD,zV,zT,zW,hd3,yR,hpg]
  (repeat refine sd ?_)
  refine .go (cr hlc) ?_;simp only [simprocAttr,-ZA,↓zU,↓zD,zV,zT,zW,mc,Zi]
  (repeat refine sd ?_)
  refine⟨w+1,by omega,?_,by omega⟩;rw [hS]
  (refine xN.ren [] [5,4,3,2,1,0] (by simp) (by simp) (by decide) ?_; simp only [yT,zQ,simprocAttr,-ZA,exists_eq_left',ne_eq,zR,yU,wE,wz])
  exact wrap_i64 (by omega)
 have hd3:¬ ((w:Int)<(l.length:Int)):=by omega
 obtain rfl:w=l.length:=by omega
 have hu:=λx=>Yl rs l a x l.length;generalize uK rs l a l.length=u at hu;simp only [simprocAttr,-ZA,↓zU,↓zD,zV,zT,zW,hd3,yR]
 refine zZ (λw:Nat=>[(85,.int .i64 w),(84,.int .i64 l.length),(83,.sl 2 (ptR l)),(62,.int .i64 a),(61,.int .i64 A),(13,xD 6 1 (us ((rC rs l a).take w))),(10,.zE 5),(9,.int .i64 a),(5,.ref 3 3 0 0),(4,.ref 1 3 0 0),(2,.ref 0 4 0 0),(1,.sl 2 (ptR l))])
  (λw=>⟨7,xA 6 1 (us ((rC rs l a).take w))++ ((5,⟨0,rB .i64 (mU u)⟩) :: (xA 4 1 (rr RL)++ [(3,⟨3,[[.int .i64 l.length,.osl 2 1 F,xD 4 1 (rr RL)]]⟩),(2,⟨1,us (lI rs l F)⟩),(1,⟨3,[[.int .i64 0,.xK,.xK]]⟩),(0,⟨4,[[.int .i64 A,.int .i64 F,.int .i64 T,.sl 2 (zL rs)]]⟩)]))⟩)
  (λw=>w<=l.length) (λw=>l.length-w) 0 (ξ _) ?_ ?_
 ·(refine xN.ren [] [5,4,3,2,1,0] (by simp) (by simp) (by decide) ?_; simp only [yT,zQ,simprocAttr,-ZA,exists_eq_left',ne_eq,zR,List.take_zero,uj,zM,zN,θ,yU,wE,wz])
 intro w hw;refine xO mixed ?_;have hrl:=(show (rC rs l a).length=l.length by simp [rC])
 by_cases hwl:w<l.length
 ·have hd3:((w:Int)<(l.length:Int)):=by omega
  have hp:=hin _ (xR (d:=(0,0)) hwl);have hpg:=uL l hwl
  have hrg:(rC rs l a).take (w+1)= (rC rs l a).take w ++ [ulk (yJ rs a (l.getD w (0,0))) u]:=by rw [zK (d:=0#64) (by omega),hu];congr 1;simp [rC,List.getD,hwl]
  have hlc:=hloc a hal _ hp;generalize l.getD w (0,0)= q at hp hpg hrg hlc;obtain⟨q1,q2⟩:=q;simp only at hpg hlc;generalize yJ rs a (q1,q2)= x at hrg hlc;have htl:((rC rs l a).take w).length=w:=by rw [μ]; omega
  generalize (rC rs l a).take w=rw' at hrg htl;simp only [simprocAttr,-ZA,↓zU,↓zD,zV,zT,zW,hd3,yR,hpg]
  (repeat refine sd ?_)
  refine .go (cr hlc) ?_;simp only [simprocAttr,-ZA,↓zU,↓zD,zV,zT,zW,mc,xI,htl]
  (repeat refine sd ?_)
  refine⟨w+1,by omega,?_,by omega⟩;rw [hrg]
  (refine xN.ren [(6,8)] [6,5,4,3,2,1,0] (by simp) (by simp) (by decide) ?_; simp only [yT,zQ,simprocAttr,-ZA,exists_eq_left',ne_eq,zR,yU,wE,wz])
  exact wrap_i64 (by omega)
 have hd3:¬ ((w:Int)<(l.length:Int)):=by omega
 rw [show (rC rs l a).take w=rC rs l a by rw [show w=(rC rs l a).length by omega,List.take_length]];simp only [simprocAttr,-ZA,↓zU,↓zD,zV,zT,zW,hd3]
 refine .go [(62,.int .i64 a),(61,.int .i64 A),(13,.sl 1 (us (rC rs l a))),(9,.int .i64 a),(5,.ref 3 3 0 0),(4,.ref 1 3 0 0),(2,.ref 0 4 0 0),(1,.sl 2 (ptR l))]
  ⟨5,xA 4 1 (rr RL)++ [(3,⟨3,[[.int .i64 l.length,.osl 2 1 F,xD 4 1 (rr RL)]]⟩),(2,⟨1,us (lI rs l F)⟩),(1,⟨3,[[.int .i64 0,.xK,.xK]]⟩),(0,⟨4,[[.int .i64 A,.int .i64 F,.int .i64 T,.sl 2 (zL rs)]]⟩)]⟩ ?_ ?_
 ·(refine xN.ren [] [4,3,2,1,0] (by simp) (by simp) (by decide) ?_; simp only [yT,zQ,simprocAttr,-ZA,exists_eq_left',ne_eq,zR,yU,wE])
 have hRLl:RL.length=a:=by rw [<- hRL]; simp [qH]
 simp only [simprocAttr,-ZA,↓zU,↓zD,zV,zT,zW,zJ,hRLl]
 (repeat refine sd ?_)
 refine⟨a+1,by omega,?_,by omega⟩;rw [hrel]
 (refine xN.ren [(4,6)] [4,3,2,1,0] (by simp) (by simp) (by decide) ?_; simp only [yT,zQ,simprocAttr,-ZA,exists_eq_left',ne_eq,zR,yU,wE])
 exact wrap_i64 (by omega)
namespace Ru
structure qF where
 W:Int
 V:List (BitVec 64)
 R:List (List (BitVec 64))
def qF.d (m:qF):D:=.agg [.int .i64 m.W,.sl 1 (us m.V),.sl 1 (rr m.R)]
def oZ (n:Nat):BitVec 64:=if 64<=n then 18446744073709551615#64 else 1#64 <<< n-1#64
def ow (n:Nat) (x:BitVec 64):Bool:=!decide (x &&& ~~~(oZ n)= 0#64)
structure lE (m : qF) (W : Nat) : Prop where
 w:m.W=W
 hW:1<=W/\W<=64
 hV:m.V.length<=8
 hR:m.R.length<=4
 row:∀ r ∈ m.R,r.length=W
 val:∀ x ∈ m.V,ow W x=false
 rel:∀ r ∈ m.R,∀ x ∈ r,ow W x=false
theorem rG {n:Nat} (hn:n<=64) {i:Nat} (hi:i<64):(oZ n).getLsbD i=decide (i<n):=by
 unfold oZ
 by_cases h:64<=n
 ·rw [if_pos h,show 18446744073709551615#64=BitVec.allOnes 64 from rfl,BitVec.getLsbD_allOnes];simp [hi]; omega
 ·rw [if_neg h];have:∀ n,n<64->∀ i,i<64->(1#64 <<< n-1#64).getLsbD i=decide (i<n):=by decide
  exact this n (by omega) i hi
theorem mh {n:Nat} (hn:n<=64) {x:BitVec 64} (h:∀ i,x.getLsbD i=true->i<n):ow n x=false:=by
 unfold ow;rw [π,decide_eq_true_iff];refine BitVec.eq_of_getLsbD_eq λi hi=>?_;rw [BitVec.getLsbD_and,BitVec.getLsbD_not,rG hn hi,BitVec.getLsbD_zero]
 cases hx:x.getLsbD i
 ·rfl
 ·simp [h i hx]
end Ru
open Ru
theorem Qf {σ:St} {g:FuncId} {caps:List D} {f:List (BitVec 64)->Bool} {l:List (List (BitVec 64))} (hl:l.length<=1000) (h:∀ x ∈ l,xY prog g ([.sl 1 (us x)]++caps) σ (.bool (f x)) σ):xY prog 199 [.sl 1 (rr l),.fn g caps] σ (.int .i64 (ixF f l 0)) σ:=by
 refine xY.xP mixed func199 Lk (by simp) λhf=>?_;simp only [simprocAttr,-ZA,↓zU,↓zD,zV,zT,zW,zJ]
 refine xT (λk:Nat=>[(8,.int .i64 k),(7,.int .i64 l.length),(1,.fn g caps),(0,.sl 1 (rr l))]) (λ_=>σ) (λk=>k<=l.length/\ixF f l 0=ixF f (l.drop k) k) (λk=>l.length-k) 0 ⟨ξ _,rfl⟩ ?_ ?_
 ·(refine xN.same ?_; simp [xQ,Fr.get])
 intro k ⟨hk,hi⟩;refine xO mixed ?_
 by_cases hh:k<l.length
 ·have hd:((k:Int)<(l.length:Int)):=by omega
  rw [drop_cons (d:=[]) hh,ixF] at hi;simp only [simprocAttr,-ZA,↓zU,↓zD,zV,zT,zW,hd,zJ,mM _ hh]
  (repeat refine sd ?_)
  refine .go (h _ (xR hh)) ?_
  cases hx:f (l.getD k [])
  ·rw [hx,if_neg (by simp)] at hi;simp only [simprocAttr,-ZA,↓zU,↓zD,zV,zT,zW];refine⟨k+1,⟨by omega,hi⟩,?_,by omega⟩
   (refine xN.same ?_; simp only [xQ,Fr.get,simprocAttr,-ZA,zS])
   exact wrap_i64 (by omega)
  ·rw [hx,if_pos rfl] at hi;simp only [simprocAttr,-ZA,↓zU,↓zD,zV,zT,zW];rw [hi];exact .same
 ·have hd:¬ ((k:Int)<(l.length:Int)):=by omega
  rw [δ (by omega),ixF] at hi;simp only [simprocAttr,-ZA,↓zU,↓zD,zV,zT,zW,hd];rw [hi];exact .same
theorem Xm {σ:St} {g:FuncId} {caps:List D} {f:List (BitVec 64)->Bool} {l:List (List (BitVec 64))} (hl:l.length<=1000) (h:∀ x ∈ l,xY prog g ([.sl 1 (us x)]++caps) σ (.bool (f x)) σ):xY prog 139 [.sl 1 (rr l),.fn g caps] σ (.bool (l.any f)) σ:=by
 refine xY.xP mixed func139 L0 (by simp) λhf=>?_;simp only [simprocAttr,-ZA,↓zU,↓zD,zV,zT,zW];refine .go (Qf hl h) ?_;have hx:=jB (f:=f) (c:=l) (i:=0) (Int.le_refl 0)
 cases ha:l.any f
 ·have h1:¬ 0<=ixF f l 0:=λy=>by rw [hx.1 y] at ha; cases ha
  simp only [simprocAttr,-ZA,↓zU,↓zD,zV,zT,zW,h1];exact .same
 ·have h1:=hx.2 ha;simp only [simprocAttr,-ZA,↓zU,↓zD,zV,zT,zW,h1];exact .same
theorem Mg (n:Nat):zX prog 198 [.int .i64 n] (.int .u64 (ui (oZ n))):=by
 refine xY.xP mixed func198 Lj (by simp) λhf=>?_;unfold oZ
 by_cases h:64<=n
 ·have e:(64:Int)<=(n:Int):=by omega
  rw [if_pos h];simp only [simprocAttr,-ZA,↓zU,↓zD,zV,zT,zW,e];exact .same
 ·have e:¬ (64:Int)<=(n:Int):=by omega
  rw [if_neg h];simp only [simprocAttr,-ZA,↓zU,↓zD,zV,zT,zW,e]
  (repeat refine sd ?_)
  exact .same
theorem N1 {n nx:Nat} {xZ:List (Nat × Ob)} {k:Nat} (h0:St.look xZ k=some ⟨1,[[.int .i64 n]]⟩) (x:BitVec 64):xY prog 197 ([.int .u64 (ui x)] ++ [.ref k 1 0 0]) ⟨nx,xZ⟩ (.bool (ow n x)) ⟨nx,xZ⟩:=by
 refine xY.xP mixed func197 Li (by simp) λhf=>?_;simp only [simprocAttr,-ZA,↓zU,↓zD,zV,zT,zW,h0]
 (repeat refine sd ?_)
 refine .go (cq (Mg n)) ?_;simp only [simprocAttr,-ZA,↓zU,↓zD,zV,zT,zW];rw [show (x &&& ~~~(oZ n) != 0#64)= ow n x by unfold ow; rw [bne]; congr 1];exact .same
theorem sc {l:List (BitVec 64)} (hl:l.length<=1000) (n:Nat):zX prog 138 [.sl 1 (us l),.int .i64 n] (.bool (l.any (ow n))):=by refine xY.xP mixed func138 Kx (by simp) λhf=>?_;simp only [simprocAttr,-ZA,↓zU,↓zD,zV,zT,zW];refine .go (iK (caps:=[.ref 0 1 0 0]) hl λx _=>N1 rfl x) ?_;simp only [simprocAttr,-ZA,↓zU,↓zD,zV,zT,zW];exact .dv
theorem Mo {m:qF} {W:Nat} (hw:m.W=W) {nx:Nat} {xZ:List (Nat × Ob)} (h0:St.look xZ 0=some ⟨3,[[.int .i64 m.W,.sl 1 (us m.V),.sl 1 (rr m.R)]]⟩) {x:List (BitVec 64)} (hx:x.length<=1000):xY prog 140 ([.sl 1 (us x)] ++ [.ref 0 3 0 0]) ⟨nx,xZ⟩ (.bool (x.any (ow W))) ⟨nx,xZ⟩:=by
 refine xY.xP mixed func140 L1 (by simp) λhf=>?_;simp only [simprocAttr,-ZA,↓zU,↓zD,zV,zT,zW,h0,hw]
 (repeat refine sd ?_)
 refine .go (cr (sc hx W)) ?_;simp only [simprocAttr,-ZA,↓zU,↓zD,zV,zT,zW];exact .same
theorem iR {m:qF} {W:Nat} (ok:lE m W):zX prog 90 [m.d] (.int .i64 0):=by
 obtain⟨W1,W64⟩:=ok.hW;have h1:¬ (W:Int)<1:=by omega
 have h2:¬ (64:Int)<(W:Int):=by omega
 have h3:¬ (4:Int)<(m.R.length:Int):=by have:=ok.hR; omega
 have h4:¬ (8:Int)<(m.V.length:Int):=by have:=ok.hV; omega
 have hv:m.V.any (ow W)= false:=γ.2 λx hx=>by rw [ok.val x hx]; simp
 have hr:m.R.any (λx=>x.any (ow W))= false:=γ.2 λx hx=>by rw [γ.2 λy hy=>by rw [ok.rel x hx y hy]; simp]; simp
 have ho:=sc (l:=m.V) (by have:=ok.hV; omega) W;have hc:=Xm (σ:=⟨1,[(0,⟨3,[[.int .i64 m.W,.sl 1 (us m.V),.sl 1 (rr m.R)]]⟩)]⟩) (g:=140) (caps:=[.ref 0 3 0 0]) (f:=λx=>x.any (ow W)) (l:=m.R) (by have:=ok.hR; omega) λx hx=>Mo ok.w rfl (by rw [ok.row x hx]; omega);rw [hv] at ho;rw [hr,ok.w] at hc;unfold qF.d;refine xY.xP mixed func90 k90 (by simp) λhf=>?_;simp only [simprocAttr,-ZA,↓zU,↓zD,zV,zT,zW,ok.w,h1,h2,zJ,xI,h3,h4]
 refine xT (λk:Nat=>[(26,.int .i64 k),(25,.int .i64 m.R.length),(24,.sl 1 (rr m.R)),(1,.ref 0 3 0 0)]) (λ_=>⟨1,[(0,⟨3,[[.int .i64 W,.sl 1 (us m.V),.sl 1 (rr m.R)]]⟩)]⟩)
  (λk=>k<=m.R.length) (λk=>m.R.length-k) 0 (ξ _) ?_ ?_
 ·(refine xN.same ?_; simp [xQ,Fr.get])
 intro k hk;refine xO mixed ?_
 by_cases h:k<m.R.length
 ·have hd:((k:Int)<(m.R.length:Int)):=by omega
  have hrw:=ok.row _ (xR (d:=[]) h);have hg:=mM m.R h;generalize m.R.getD k []=r at hrw hg;have e:((r.length:Int) != (W:Int))= false:=by rw [hrw]; simp
  simp only [simprocAttr,-ZA,↓zU,↓zD,zV,zT,zW,hd,zJ,hg,xI,e]
  (repeat refine sd ?_)
  refine⟨k+1,by omega,?_,by omega⟩
  (refine xN.same ?_; simp only [xQ,Fr.get,simprocAttr,-ZA,zS])
  exact wrap_i64 (by omega)
 ·have hd:¬ ((k:Int)<(m.R.length:Int)):=by omega
  simp only [simprocAttr,-ZA,↓zU,↓zD,zV,zT,zW,hd];refine .go (cr ho) ?_;simp only [simprocAttr,-ZA,↓zU,↓zD,zV,zT,zW];refine .go hc ?_;simp only [simprocAttr,-ZA,↓zU,↓zD,zV,zT,zW];exact .dv
open Ru
theorem Nz (s:BitVec 64):pJ .xor .u64 (if IntKind.u64.signed=true then -1 else IntKind.u64.max) (ui s)= ui (~~~s):=by rw [if_neg (by decide),show IntKind.u64.max=ui (BitVec.allOnes 64) by decide +kernel,Sn];congr 1
theorem Y9 (n:Nat):zX prog 251 [.int .i64 n] (.int .u64 (ui (oZ n))):=by
 refine xY.xP mixed func251 MA (by simp) λhf=>?_;unfold oZ
 by_cases h:64<=n
 ·have e:(64:Int)<=(n:Int):=by omega
  rw [if_pos h];simp only [simprocAttr,-ZA,↓zU,↓zD,zV,zT,zW,e];exact .same
 ·have e:¬ (64:Int)<=(n:Int):=by omega
  rw [if_neg h];simp only [simprocAttr,-ZA,↓zU,↓zD,zV,zT,zW,e]
  (repeat refine sd ?_)
  exact .same
namespace Ru
structure s9 (r : List (BitVec 64)) : Prop where
 len:r.length<=64
 ins:∀ x ∈ r,ow r.length x=false
def af (r:List (BitVec 64)) (s:BitVec 64):Nat->BitVec 64
 | 0=>0#64
 | w+1=>if (r.getD w 0 &&& ~~~s==0#64)= true then af r s w ||| 1#64 <<< w else af r s w
def uu (r:List (BitVec 64)) (s:BitVec 64):BitVec 64:=af r s r.length
def Pc (r:List (BitVec 64)) (s:BitVec 64):BitVec 64:=oZ r.length &&& ~~~(uu r (~~~s))
end Ru
theorem cQ {r:List (BitVec 64)} (ok:s9 r):zX prog 250 [.int .i64 r.length,.sl 1 (us r)] (.int .i64 0):=by
 have h1:¬ ((r.length:Int)<0):=by omega
 have h2:¬ ((64:Int)<(r.length:Int)):=by have:=ok.len; omega
 have h3:((r.length:Int) != (r.length:Int))= false:=by simp
 have ha:=Y9 r.length;refine xY.xP mixed func250 M9 (by simp) λhf=>?_;simp only [simprocAttr,-ZA,↓zU,↓zD,zV,zT,zW,xI,h1,h2,h3]
 refine xT (λk:Nat=>[(19,.int .i64 k),(18,.int .i64 r.length),(17,.sl 1 (us r)),(0,.int .i64 r.length)]) (λ_=>⟨0,[]⟩) (λk=>k<=r.length) (λk=>r.length-k) 0 (ξ _) ?_ ?_
 ·(refine xN.same ?_; simp [xQ,Fr.get])
 intro k hk;refine xO mixed ?_
 by_cases h:k<r.length
 ·have hd:((k:Int)<(r.length:Int)):=by omega
  have hx:=ok.ins _ (xR (d:=0) h)
  have e:(r.getD k 0 &&& ~~~(oZ r.length) != 0#64)= false:=by have:=hx;unfold ow at this;rw [bne];simpa using this
  have hg:=vI r h;simp only [simprocAttr,-ZA,↓zU,↓zD,zV,zT,zW,hd,xI,hg]
  (repeat refine sd ?_)
  refine .go (cq ha) ?_;simp only [simprocAttr,-ZA,↓zU,↓zD,zV,zT,zW,e]
  (repeat refine sd ?_)
  refine⟨k+1,by omega,?_,by omega⟩
  (refine xN.same ?_; simp only [xQ,Fr.get,simprocAttr,-ZA,zS])
  exact wrap_i64 (by omega)
 ·have hd:¬ ((k:Int)<(r.length:Int)):=by omega
  simp only [simprocAttr,-ZA,↓zU,↓zD,zV,zT,zW,hd];exact .same
theorem tn {r:List (BitVec 64)} (ok:s9 r) (s:BitVec 64):zX prog 214 [.sl 1 (us r),.int .u64 (ui s)] (.int .u64 (ui (uu r s))):=by
 have hc:=cQ ok;have hl:=ok.len;refine xY.xP mixed func214 Lz (by simp) λhf=>?_;simp only [simprocAttr,-ZA,↓zU,↓zD,zV,zT,zW,xI];refine .go (cr hc) ?_;simp only [simprocAttr,-ZA,↓zU,↓zD,zV,zT,zW,xI]
 refine xT (λk:Nat=>[(14,.int .i64 k),(13,.int .i64 r.length),(5,.int .u64 (ui (af r s k))),(1,.int .u64 (ui s)),(0,.sl 1 (us r))]) (λ_=>⟨0,[]⟩) (λk=>k<=r.length) (λk=>r.length-k) 0 (ξ _) ?_ ?_
 ·(refine xN.same ?_; simp [xQ,Fr.get])
  rfl
 intro k hk;refine xO mixed ?_
 by_cases h:k<r.length
 ·have hd:((k:Int)<(r.length:Int)):=by omega
  have hg:=vI r h;have hs:af r s (k+1)= if (r.getD k 0 &&& ~~~s==0#64)= true then af r s k ||| 1#64 <<< k else af r s k:=rfl
  cases e:(r.getD k 0 &&& ~~~s==0#64) with
  | true=>
   rw [e,if_pos rfl] at hs;simp only [simprocAttr,-ZA,↓zU,↓zD,zV,zT,zW,hd,xI,hg,e]
   (repeat refine sd ?_)
   refine⟨k+1,by omega,?_,by omega⟩;rw [hs]
   (refine xN.same ?_; simp only [xQ,Fr.get,simprocAttr,-ZA,zS])
   exact wrap_i64 (by omega)
  | false=>
   rw [e,if_neg (by simp)] at hs;simp only [simprocAttr,-ZA,↓zU,↓zD,zV,zT,zW,hd,xI,hg,e]
   (repeat refine sd ?_)
   refine⟨k+1,by omega,?_,by omega⟩;rw [hs]
   (refine xN.same ?_; simp only [xQ,Fr.get,simprocAttr,-ZA,zS])
   exact wrap_i64 (by omega)
 ·have hd:¬ ((k:Int)<(r.length:Int)):=by omega
  have hk':k=r.length:=by omega
  subst hk';simp only [simprocAttr,-ZA,↓zU,↓zD,zV,zT,zW,hd];exact .same
theorem XU {r:List (BitVec 64)} (ok:s9 r) (s:BitVec 64):zX prog 215 [.sl 1 (us r),.int .u64 (ui s)] (.int .u64 (ui (Pc r s))):=by have hc:=cQ ok;have ha:=Y9 r.length;have hb:=tn ok (~~~s);refine xY.xP mixed func215 Ly (by simp) λhf=>?_;simp only [simprocAttr,-ZA,↓zU,↓zD,zV,zT,zW,xI];refine .go (cr hc) ?_;simp only [simprocAttr,-ZA,↓zU,↓zD,zV,zT,zW,xI];refine .go (cq ha) ?_;simp only [simprocAttr,-ZA,↓zU,↓zD,zV,zT,zW,Nz];refine .go (cr hb) ?_;simp only [simprocAttr,-ZA,↓zU,↓zD,zV,zT,zW];exact .drop (by simp) (by simp [vw,Pc])
end Go.Pd
