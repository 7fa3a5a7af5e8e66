/- Part KG. -/
import Derived.Test.YtndfaefmmcoapaaGreatUeKD
import Derived.Test.YtndfaefmmcoapaaGreatUeKF
import Derived.Test.YtndfaefmmcoapaaGreatUeS1
set_option linter.unusedSectionVars false
set_option linter.unusedVariables false
set_option linter.unusedSimpArgs false
set_option linter.defProp false
set_option maxRecDepth 20000
set_option maxHeartbeats 1000000
namespace Go.Pd
open Go Go.Proofs
open BitVec renaming isValue -> ZA
open Rs Fm Ru Kb
namespace Kb
def rC (see st:List (BitVec 64)) (a t:Nat):List (BitVec 64):=(st.take (t+1)).map fun s=>s &&& see.getD a 0
theorem aXh {see st:List (BitVec 64)} {a t:Nat} (h:t<st.length):(rC see st a t).length=t+1:=by simp [rC]; omega
theorem aBl {see st:List (BitVec 64)} {a t:Nat} (h:t<st.length):rC see st a t ≠ []:=fun c=>by have:=aXh (see:=see) (a:=a) h;rw [c] at this; cases this
def plC (p:PrA) (sts:List (List (BitVec 64))):List D:=[.int .i64 p.F,.sl 1 (us p.init),.sl 1 (us p.see),.sl 1 (mvR p.xL),.sl 1 (cdR p.code),.sl 1 (rr sts)]
def plD (p:PrA) (sts:List (List (BitVec 64))):D:=.ptr (plC p sts)
end Kb
theorem pL {g:FuncId} {args:List D} {l:List (BitVec 64)} (h:xX Tryz.prog g args St0 (.osl 0 1 l.length) ⟨1,[(0,⟨1,us l⟩)]⟩):yV Tryz.prog g args (.sl 1 (us l)):= xX.ret h (.drop (Nat.zero_le _) (aSh (by decide) (rT l) (xO l).symm))
theorem pH (p:PrA) {sts:List (List (BitVec 64))} {a r t:Nat} (ha:a<p.see.length) (hr:r<sts.length) (ht:t<(sts.getD r []).length) (hl:t<=1000) :
  xX Tryz.prog 75 [plD p sts,.int .i64 a,.int .i64 r,.int .i64 t] St0 (.osl 0 1 (rC p.see (sts.getD r []) a t).length) ⟨1,[(0,⟨1,us (rC p.see (sts.getD r []) a t)⟩)]⟩:=by
 have hg:=nX sts hr;have hne:=aBl (see:=p.see) (a:=a) ht;have hL:=aXh (see:=p.see) (a:=a) ht;have hga:=zE p.see ha;have hha:((a:Int)<(p.see.length:Int)):=by omega
 have hhr:((r:Int)<(sts.length:Int)):=by omega
 unfold rC at hne hL ⊢;generalize sts.getD r []=st at *;generalize p.see.getD a 0=m at *;have hu:(us st).take (t+1)= us (st.take (t+1)):=aNo _ _;have hw:IntKind.i64.wrap ((t:Int)+ 1)= ((t+1:Nat):Int):=by rw [wrap_i64 (by omega)]; rfl
 have hst:(st.take (t+1)).length=t+1:=by rw [List.length_take]; omega
 unfold plD plC;refine xX.xP mixed Tryz.func75 k75 (by simp) fun hf=>?_;simp only [simprocAttr,-ZA,↓zU,↓zD,zV,zT,zW,zM,hhr,hg,hw]
 (repeat refine sd ?_)
 refine⟨0,((t+1:Nat):Int),rfl,rfl,by omega,by omega,by omega,?_⟩;simp only [Int.toNat_natCast,Int.toNat_zero,List.drop_zero,hu];generalize st.take (t+1)= q at *;simp only [simprocAttr,-ZA,↓zU,↓zD,zV,zT,zW,xO,hst]
 refine xW (fun k:Nat=>[(23,.int .i64 k),(22,.int .i64 ((t+1:Nat):Int)),(21,.sl 1 (us q)),(9,yX 0 1 (us ((q.take k).map fun s=>s &&& m))),(1,.int .i64 a),(0,plD p sts)]) (fun k=>⟨1,yW 0 1 (us ((q.take k).map fun s=>s &&& m))⟩) (fun k=>k<=t+1) (fun k=>t+1-k) 0 (Nat.zero_le _) ?_ ?_
 ·unfold plD plC
  (refine xI.ren [] [] (by simp) (by simp) (by decide) ?_; simp only [yQ,vwL,vw,vwF,sw,St.get,St.look,Fr.get,simprocAttr,-ZA,exists_eq_left',ne_eq,zR,List.take_zero,List.map_nil,aTi,zK,zL])
 intro k hk;refine xQ mixed ?_;unfold plD plC
 by_cases hh:k<t+1
 ·have hd:((k:Int)<((t+1:Nat):Int)):=by omega
  have hgq:=zE q (show k<q.length by omega);have ht2:(q.take (k+1)).map (fun s=>s &&& m)= (q.take k).map (fun s=>s &&& m)++ [q.getD k 0 &&& m]:=by rw [yB (d:=0) (by omega)]; simp
  have hkl:((q.take k).map fun s=>s &&& m).length=k:=by simp; omega
  generalize (q.take k).map (fun s=>s &&& m)= acc at hkl ht2 ⊢;generalize q.getD k 0=x at hgq ht2;simp only [simprocAttr,-ZA,↓zU,↓zD,zV,zT,zW,hd,xO,hst,hgq,hha,hga]
  (repeat refine sd ?_)
  refine⟨k+1,by omega,?_,by omega⟩;rw [ht2]
  (refine xI.ren [(0,1)] [0] (by simp) (by simp) (by decide) ?_; simp only [yQ,vwL,vw,vwF,sw,St.get,St.look,Fr.get,simprocAttr,-ZA,exists_eq_left',ne_eq,zR])
  exact wrap_i64 (by omega)
 ·have hd:¬ ((k:Int)<((t+1:Nat):Int)):=by omega
  rw [iN (show k=q.length by omega)];generalize q.map (fun s=>s &&& m)= acc at *;rw [aS6 (by intro c; apply hne; cases acc with | nil=>rfl | cons x r=>cases c),aS5 (by intro c; apply hne; cases acc with | nil=>rfl | cons x r=>cases c),xO];simp only [simprocAttr,-ZA,↓zU,↓zD,zV,zT,zW,hd];exact .same
section
open Ru
theorem aQ1 (s:qL):yV Tryz.prog 38 [s.d] (.int .i64 (chk s)):=by
 have hD:s.d = .agg [.int .i64 s.ag,.int .i64 s.fa,.int .i64 s.ln,.sl 2 (uP s.rs)]:=rfl;rw [hD];refine xX.xP mixed Tryz.func38 k38 (by simp) fun hf=>?_
 by_cases a1:s.ag<0
 ·rw [show chk s=2 by unfold chk; rw [if_pos (.inl a1)]];simp only [simprocAttr,-ZA,↓zU,↓zD,zV,zT,zW,a1];exact .dv
 by_cases a2:4<s.ag
 ·rw [show chk s=2 by unfold chk; rw [if_pos (by omega)]];simp only [simprocAttr,-ZA,↓zU,↓zD,zV,zT,zW,a1,a2];exact .dv
 by_cases a3:s.fa<0
 ·rw [show chk s=2 by unfold chk; rw [if_pos (by omega)]];simp only [simprocAttr,-ZA,↓zU,↓zD,zV,zT,zW,a1,a2,a3];exact .dv
 by_cases a4:8<s.fa
 ·rw [show chk s=2 by unfold chk; rw [if_pos (by omega)]];simp only [simprocAttr,-ZA,↓zU,↓zD,zV,zT,zW,a1,a2,a3,a4];exact .dv
 by_cases a5:s.ln<1
 ·rw [show chk s=2 by unfold chk; rw [if_pos (by omega)]];simp only [simprocAttr,-ZA,↓zU,↓zD,zV,zT,zW,a1,a2,a3,a4,a5];exact .dv
 by_cases a6:16<s.ln
 ·rw [show chk s=2 by unfold chk; rw [if_pos (by omega)]];simp only [simprocAttr,-ZA,↓zU,↓zD,zV,zT,zW,a1,a2,a3,a4,a5,a6];exact .dv
 have e0:chk s=if 64<(s.rs.length:Int)\/512<(s.rs.length:Int)* s.ln then 8 else
  if s.rs.length=0 then 3 else if s.rs.any (kX s)= true then 3 else if s.rs.any (aR4 s)= true then 2 else 0:=by
  unfold chk; rw [if_neg (by omega)]
 by_cases b1:64<(s.rs.length:Int)
 ·rw [e0,if_pos (.inl b1)];simp only [simprocAttr,-ZA,↓zU,↓zD,zV,zT,zW,a1,a2,a3,a4,a5,a6,xA,b1];exact .dv
 have hm:(s.rs.length:Int)* s.ln<=64*16:=Int.mul_le_mul (by omega) (by omega) (by omega) (by omega);have hm0:0<=(s.rs.length:Int)* s.ln:=Int.mul_nonneg (by omega) (by omega);have hw:IntKind.i64.wrap ((s.rs.length:Int)* s.ln)= (s.rs.length:Int)* s.ln:=wrap_i64 (by omega)
 by_cases b2:512<(s.rs.length:Int)* s.ln
 ·rw [e0,if_pos (.inr b2)];simp only [simprocAttr,-ZA,↓zU,↓zD,zV,zT,zW,a1,a2,a3,a4,a5,a6,xA,b1,hw,b2];exact .dv
 rw [e0,if_neg (by omega)]
 by_cases b3:s.rs.length=0
 ·rw [if_pos b3];have b3':((s.rs.length:Int)== 0)= true:=by rw [b3]; rfl
  simp only [simprocAttr,-ZA,↓zU,↓zD,zV,zT,zW,a1,a2,a3,a4,a5,a6,xA,b1,hw,b2,b3'];exact .dv
 rw [if_neg b3];have b3':((s.rs.length:Int)== 0)= false:=by rw [beq_eq_false_iff_ne]; omega
 simp only [simprocAttr,-ZA,↓zU,↓zD,zV,zT,zW,a1,a2,a3,a4,a5,a6,xA,b1,hw,b2,b3']
 refine xW (fun k:Nat=>[(3,.int .i64 k),(1,.ref 0 4 0 0)]) (fun _=>⟨1,[(0,⟨4,[[.int .i64 s.ag,.int .i64 s.fa,.int .i64 s.ln,.sl 2 (uP s.rs)]]⟩)]⟩)
  (fun k=>k<=s.rs.length/\s.rs.any (kX s)= (s.rs.drop k).any (kX s)) (fun k=>s.rs.length-k) 0 ⟨Nat.zero_le _,rfl⟩ ?_ ?_
 ·(refine xI.same ?_; simp [xR,Fr.get])
 intro k ⟨hk,hi⟩;refine xQ mixed ?_;by_cases hkl:k<s.rs.length
 case neg=>
  have hd:¬ ((k:Int)<(s.rs.length:Int)):=by omega
  rw [List.drop_eq_nil_of_le (by omega),List.any_nil] at hi;rw [if_neg (by rw [hi]; simp)];simp only [simprocAttr,-ZA,↓zU,↓zD,zV,zT,zW,hd,xA]
  refine xW (fun k:Nat=>[(5,.int .i64 k),(1,.ref 0 4 0 0)]) (fun _=>⟨1,[(0,⟨4,[[.int .i64 s.ag,.int .i64 s.fa,.int .i64 s.ln,.sl 2 (uP s.rs)]]⟩)]⟩)
   (fun k=>k<=s.rs.length/\s.rs.any (aR4 s)= (s.rs.drop k).any (aR4 s)) (fun k=>s.rs.length-k) 0 ⟨Nat.zero_le _,rfl⟩ ?_ ?_
  ·(refine xI.same ?_; simp [xR,Fr.get])
  intro k ⟨hk,hv⟩;refine xQ mixed ?_;by_cases hkl:k<s.rs.length
  case neg=>
   have hd:¬ ((k:Int)<(s.rs.length:Int)):=by omega
   rw [List.drop_eq_nil_of_le (by omega),List.any_nil] at hv;rw [if_neg (by rw [hv]; simp)];simp only [simprocAttr,-ZA,↓zU,↓zD,zV,zT,zW,hd,xA];exact .dv
  have hd:((k:Int)<(s.rs.length:Int)):=by omega
  rw [drop_cons (d:=tN) hkl,List.any_cons] at hv
  have hnb:kX s (s.rs.getD k tN)= false:=by have:=List.any_eq_false.1 hi _ (xN (d:=tN) hkl);simpa using this
  have hg:=tQ s.rs hkl;generalize s.rs.getD k tN=r at hg hv hnb
  have hfl:(r.fac.length:Int)= s.ln:=by simp only [kX,Bool.or_eq_false_iff,Bool.not_eq_false',decide_eq_true_eq] at hnb;exact hnb.1.2
  simp only [simprocAttr,-ZA,↓zU,↓zD,zV,zT,zW,hd,xA]
  refine xW (fun t:Nat=>[(6,.int .i64 t),(5,.int .i64 k),(1,.ref 0 4 0 0)]) (fun _=>⟨1,[(0,⟨4,[[.int .i64 s.ag,.int .i64 s.fa,.int .i64 s.ln,.sl 2 (uP s.rs)]]⟩)]⟩)
   (fun t=>t<=r.fac.length/\aR4 s r=(r.fac.drop t).any (fun f=>!decide (f >>> s.fa.toNat=0#64))) (fun t=>r.fac.length-t) 0 ⟨Nat.zero_le _,rfl⟩ ?_ ?_
  ·(refine xI.same ?_; simp [xR,Fr.get])
  intro t ⟨ht,hb⟩;refine xQ mixed ?_;by_cases htl:t<r.fac.length
  case neg=>
   have hd2:¬ ((t:Int)<s.ln):=by omega
   rw [List.drop_eq_nil_of_le (by omega),List.any_nil] at hb;simp only [simprocAttr,-ZA,↓zU,↓zD,zV,zT,zW,hd2,xA]
   (repeat refine sd ?_)
   refine⟨k+1,⟨by omega,?_⟩,?_,by omega⟩
   ·rw [hv,hb,Bool.false_or]
   (refine xI.same ?_; simp only [xR,Fr.get,simprocAttr,-ZA,zS])
   exact wrap_i64 (by omega)
  have hd2:((t:Int)<s.ln):=by omega
  rw [drop_cons (d:=0) htl,List.any_cons] at hb;have hgu:=zE r.fac htl;generalize r.fac.getD t 0=x at hgu hb
  by_cases hx:x >>> s.fa.toNat=0#64
  ·have ex:(x >>> s.fa.toNat != 0#64)= false:=by simpa using hx
   rw [decide_eq_true hx,Bool.not_true,Bool.false_or] at hb;simp only [simprocAttr,-ZA,↓zU,↓zD,zV,zT,zW,hd2,xA,hd,hg,zZ.row,xO,hgu,ex]
   (repeat refine sd ?_)
   refine⟨t+1,⟨by omega,hb⟩,?_,by omega⟩
   (refine xI.same ?_; simp only [xR,Fr.get,simprocAttr,-ZA,zS])
   exact wrap_i64 (by omega)
  ·have ex:(x >>> s.fa.toNat != 0#64)= true:=by simpa using hx
   rw [decide_eq_false hx,Bool.not_false,Bool.true_or] at hb;rw [if_pos (by rw [hv,hb,Bool.true_or])];simp only [simprocAttr,-ZA,↓zU,↓zD,zV,zT,zW,hd2,xA,hd,hg,zZ.row,xO,hgu,ex]
   (repeat refine sd ?_)
   exact .dv
 have hd:((k:Int)<(s.rs.length:Int)):=by omega
 rw [drop_cons (d:=tN) hkl,List.any_cons] at hi;have hg:=tQ s.rs hkl;generalize s.rs.getD k tN=r at hg hi;have hend:kX s r=true->s.rs.any (kX s)= true:=fun h=>by rw [hi,h,Bool.true_or]
 by_cases c1:(r.loc.length:Int)= s.ln
 case neg=>
  have e1:((r.loc.length:Int) != s.ln)= true:=by simpa using c1
  rw [if_pos (hend (by unfold kX; simp [c1]))];simp only [simprocAttr,-ZA,↓zU,↓zD,zV,zT,zW,hd,xA,hg,zZ.row,zA,e1]
  (repeat refine sd ?_)
  exact .dv
 have e1:((r.loc.length:Int) != s.ln)= false:=by simpa using c1
 by_cases c2:(r.fac.length:Int)= s.ln
 case neg=>
  have e2:((r.fac.length:Int) != s.ln)= true:=by simpa using c2
  rw [if_pos (hend (by unfold kX; simp [c2]))];simp only [simprocAttr,-ZA,↓zU,↓zD,zV,zT,zW,hd,xA,hg,zZ.row,zA,e1,xO,e2]
  (repeat refine sd ?_)
  exact .dv
 have e2:((r.fac.length:Int) != s.ln)= false:=by simpa using c2
 have hbf:kX s r=r.loc.any fun l=>!decide ((l.length:Int)= s.ag):=by unfold kX; simp [c1,c2]
 simp only [simprocAttr,-ZA,↓zU,↓zD,zV,zT,zW,hd,xA,hg,zZ.row,zA,e1,xO,e2]
 (repeat refine sd ?_)
 refine xW (fun t:Nat=>[(4,.int .i64 t),(3,.int .i64 k),(1,.ref 0 4 0 0)]) (fun _=>⟨1,[(0,⟨4,[[.int .i64 s.ag,.int .i64 s.fa,.int .i64 s.ln,.sl 2 (uP s.rs)]]⟩)]⟩)
  (fun t=>t<=r.loc.length/\kX s r=(r.loc.drop t).any (fun l=>!decide ((l.length:Int)= s.ag))) (fun t=>r.loc.length-t) 0 ⟨Nat.zero_le _,hbf⟩ ?_ ?_
 ·(refine xI.same ?_; simp [xR,Fr.get])
 intro t ⟨ht,hb⟩;refine xQ mixed ?_;by_cases htl:t<r.loc.length
 case neg=>
  have hd2:¬ ((t:Int)<s.ln):=by omega
  rw [List.drop_eq_nil_of_le (by omega),List.any_nil] at hb;simp only [simprocAttr,-ZA,↓zU,↓zD,zV,zT,zW,hd2]
  (repeat refine sd ?_)
  refine⟨k+1,⟨by omega,?_⟩,?_,by omega⟩
  ·rw [hi,hb,Bool.false_or]
  (refine xI.same ?_; simp only [xR,Fr.get,simprocAttr,-ZA,zS])
  exact wrap_i64 (by omega)
 have hd2:((t:Int)<s.ln):=by omega
 rw [drop_cons (d:=[]) htl,List.any_cons] at hb;have hgu:=nY r.loc htl;generalize r.loc.getD t []=x at hgu hb
 by_cases hx:(x.length:Int)= s.ag
 ·have ex:((x.length:Int) != s.ag)= false:=by simpa using hx
  rw [decide_eq_true hx,Bool.not_true,Bool.false_or] at hb;simp only [simprocAttr,-ZA,↓zU,↓zD,zV,zT,zW,hd2,xA,hd,hg,zZ.row,zA,hgu,xE,ex]
  (repeat refine sd ?_)
  refine⟨t+1,⟨by omega,hb⟩,?_,by omega⟩
  (refine xI.same ?_; simp only [xR,Fr.get,simprocAttr,-ZA,zS])
  exact wrap_i64 (by omega)
 ·have ex:((x.length:Int) != s.ag)= true:=by simpa using hx
  rw [decide_eq_false hx,Bool.not_false,Bool.true_or] at hb;rw [if_pos (hend hb)];simp only [simprocAttr,-ZA,↓zU,↓zD,zV,zT,zW,hd2,xA,hd,hg,zZ.row,zA,hgu,xE,ex]
  (repeat refine sd ?_)
  exact .dv
end
section
open Ru
theorem oK {nx n key sz:Nat} {xS:List (Nat × Ob)} {els:List (List D)} (hs:0<sz) (hp:∀ e ∈ els,D.xU e=true) (h:St.look xS key=vS sz els) {ρ:Nat->Nat}:vw ⟨nx,xS⟩ ⟨n,[]⟩ ρ (yX key sz els) (.sl sz els):=by
 cases els with
 | nil=>simp [yX,vw]
 | cons e r=> simp only [yX,vw];refine⟨trivial,hs,by simp,⟨sz,e :: r⟩,?_,rfl,by simp,by simp,hp⟩;show St.look xS key=_;rw [h]; rfl
namespace Ru
def ptR (l:List (Nat × Nat)):List (List D):=l.map fun p=>[.int .i64 (p.1:Int),.int .i64 (p.2:Int)]
theorem nR (l:List (Nat × Nat)):(ptR l).length=l.length:=by simp [ptR]
theorem aVv (l:List (Nat × Nat)) {i:Nat} (h:i<l.length):(ptR l).getD i [] = [.int .i64 ((l.getD i (0,0)).1:Int),.int .i64 ((l.getD i (0,0)).2:Int)]:=by simp [ptR,List.getD,h]
theorem aT9 (l:List (Nat × Nat)):∀ e ∈ ptR l,D.xU e=true:=by intro e he;simp only [ptR,List.mem_map] at he;obtain⟨r,_,rfl⟩:=he;rfl
theorem fW (l:List (Nat × Nat)):uO (ptR l)= True:=eq_true (aT9 l)
theorem aHw (l:List (Nat × Nat)) (a b:Nat):ptR l ++ [[.int .i64 (a:Int),.int .i64 (b:Int)]]=ptR (l ++ [(a,b)]):=by simp [ptR]
theorem aNy : ptR [] = []:=rfl
def ptN (T n:Nat):List (Nat × Nat):=(List.range n).map fun i=>(i / T,i % T)
theorem tV (T n:Nat):(ptN T n).length=n:=by simp [ptN]
theorem aCi (T:Nat) {n i:Nat} (h:i<n):(ptN T n).getD i (0,0)= (i / T,i % T):=by simp [ptN,List.getD,h]
theorem aSa (T r t:Nat) (ht:t<T):ptN T (r*T+(t+1))= ptN T (r*T+t)++ [(r,t)]:=by
 rw [show r*T+(t+1)= (r*T+t)+ 1 by omega];unfold ptN;rw [List.range_succ,List.map_append,List.map_singleton]
 have e1:(r*T+t)/ T=r:=by rw [Nat.mul_comm,Nat.mul_add_div (by omega),Nat.div_eq_of_lt ht]; rfl
 have e2:(r*T+t) % T=t:=by rw [Nat.mul_comm,Nat.mul_add_mod,Nat.mod_eq_of_lt ht]
 rw [e1,e2]
def dB (s:qL):List (Nat × Nat):=if chk s≠0 then [] else ptN s.ln.toNat (s.rs.length*s.ln.toNat)
structure Ok (s : qL) (A F T : Nat) : Prop where
 ag:s.ag=A
 fa:s.fa=F
 ln:s.ln=T
 hA:A<=4
 hF:F<=8
 hT:1<=T/\T<=16
 hR:1<=s.rs.length/\s.rs.length<=64
 hP:s.rs.length*T<=512
 loc:∀ r ∈ s.rs,r.loc.length=T
 fac:∀ r ∈ s.rs,r.fac.length=T
 row:∀ r ∈ s.rs,∀ l ∈ r.loc,l.length=A
 val:∀ r ∈ s.rs,∀ f ∈ r.fac,f >>> F=0#64
theorem aRh {s:qL} (h:chk s=0):∃ A F T,Ok s A F T:=by
 unfold chk at h
 split at h
 ·cases h
 rename_i h1
 split at h
 ·cases h
 rename_i h2
 split at h
 ·cases h
 rename_i h3
 split at h
 ·cases h
 rename_i h4
 split at h
 ·cases h
 rename_i h5;obtain⟨A,hA⟩:=Int.eq_ofNat_of_zero_le (show 0<=s.ag by omega);obtain⟨F,hF⟩:=Int.eq_ofNat_of_zero_le (show 0<=s.fa by omega);obtain⟨T,hT⟩:=Int.eq_ofNat_of_zero_le (show 0<=s.ln by omega);have h4':∀ r ∈ s.rs,kX s r=false:=fun r hr=>by simpa using List.any_eq_false.1 (by simpa using h4) r hr
 have h5':∀ r ∈ s.rs,aR4 s r=false:=fun r hr=>by simpa using List.any_eq_false.1 (by simpa using h5) r hr
 have hb:∀ r ∈ s.rs,r.loc.length=T/\r.fac.length=T/\∀ l ∈ r.loc,l.length=A:=fun r hr=>by have:=h4' r hr;simp only [kX,Bool.or_eq_false_iff,Bool.not_eq_false',decide_eq_true_eq,List.any_eq_false,hT,hA] at this;refine⟨by omega,by omega,fun l hl=>?_⟩;have:=this.2 l hl;simp at this;omega
 refine⟨A,F,T,hA,hF,hT,by omega,by omega,by omega,by omega,?_,fun r hr=>(hb r hr).1,fun r hr=>(hb r hr).2.1,fun r hr=>(hb r hr).2.2,fun r hr f hf=>?_⟩
 ·have:((s.rs.length*T:Nat):Int)<=512:=by rw [Int.natCast_mul,<- hT]; omega
  omega
 ·have:=h5' r hr;simp only [aR4,List.any_eq_false] at this;have:=this f hf;rw [hF,Int.toNat_natCast] at this;simpa using this
theorem aCg {s:qL} {A F T:Nat} (h:Ok s A F T) (hz:chk s=0):dB s=ptN T (s.rs.length*T):=by unfold dB; rw [if_neg (by simpa using hz),h.ln,Int.toNat_natCast]
end Ru
theorem aRw (s:qL):yV Tryz.prog 93 [s.d] (.sl 2 (ptR (dB s))):=by
 have hD:s.d = .agg [.int .i64 s.ag,.int .i64 s.fa,.int .i64 s.ln,.sl 2 (uP s.rs)]:=rfl;have hC:=aUd s;rw [hD] at hC ⊢;refine xX.xP mixed Tryz.func93 k93 (by simp) fun hf=>?_;simp only [simprocAttr,-ZA,↓zU,↓zD,zV,zT,zW]
 (repeat refine sd ?_)
 refine .go (cq hC) ?_;by_cases hz:chk s=0
 case neg=>
  have e:(chk s != 0)= true:=by simpa using hz
  rw [show dB s = [] by unfold dB; rw [if_pos hz]];simp only [simprocAttr,-ZA,↓zU,↓zD,zV,zT,zW,e];exact .drop (by simp) (by simp [vw,ptR])
 have e:(chk s != 0)= false:=by simpa using hz
 obtain⟨A,F,T,ok⟩:=aRh hz;rw [aCg ok hz];obtain⟨T1,T16⟩:=ok.hT;obtain⟨R1,R64⟩:=ok.hR;simp only [simprocAttr,-ZA,↓zU,↓zD,zV,zT,zW,e,ok.ln,ok.ag,ok.fa,xA]
 refine xW (fun r:Nat=>[(12,.int .i64 r),(11,.int .i64 s.rs.length),(3,yX 1 2 (ptR (ptN T (r*T)))),(1,.ref 0 4 0 0)]) (fun r=>⟨2,yW 1 2 (ptR (ptN T (r*T)))++ [(0,⟨4,[[.int .i64 A,.int .i64 F,.int .i64 T,.sl 2 (uP s.rs)]]⟩)]⟩)
  (fun r=>r<=s.rs.length) (fun r=>s.rs.length-r) 0 (Nat.zero_le _) ?_ ?_
 ·rw [Nat.zero_mul]
  (refine xI.ren [] [0] (by simp) (by simp) (by decide) ?_; simp only [yQ,vwL,vw,vwF,sw,St.get,St.look,Fr.get,simprocAttr,-ZA,exists_eq_left',ne_eq,zR,ptN,List.range_zero,List.map_nil,aNy,zK,zL,List.nil_append])
 intro r hr;refine xQ mixed ?_;by_cases hrl:r<s.rs.length
 case neg=>
  have hd:¬ ((r:Int)<(s.rs.length:Int)):=by omega
  rw [show r=s.rs.length by omega] at hd ⊢;simp only [simprocAttr,-ZA,↓zU,↓zD,zV,zT,zW,hd];exact .drop (by simp) (oK (by decide) (aT9 _) (by simp [St.look,nH,yK]))
 have hd:((r:Int)<(s.rs.length:Int)):=by omega
 simp only [simprocAttr,-ZA,↓zU,↓zD,zV,zT,zW,hd]
 refine xW (fun t:Nat=>[(17,.int .i64 t),(16,.int .i64 T),(12,.int .i64 r),(11,.int .i64 s.rs.length),(4,.int .i64 r),(3,yX 1 2 (ptR (ptN T (r*T+t)))),(1,.ref 0 4 0 0)]) (fun t=>⟨2,yW 1 2 (ptR (ptN T (r*T+t)))++ [(0,⟨4,[[.int .i64 A,.int .i64 F,.int .i64 T,.sl 2 (uP s.rs)]]⟩)]⟩)
  (fun t=>t<=T) (fun t=>T-t) 0 (Nat.zero_le _) ?_ ?_
 ·rw [Nat.add_zero]
  (refine xI.ren [] [1,0] (by simp) (by simp) (by decide) ?_; simp only [yQ,vwL,vw,vwF,sw,St.get,St.look,Fr.get,simprocAttr,-ZA,exists_eq_left',ne_eq,zR,fW])
 intro t ht;refine xQ mixed ?_;by_cases htl:t<T
 case neg=>
  have hd2:¬ ((t:Int)<(T:Int)):=by omega
  have et:t=T:=by omega
  simp only [simprocAttr,-ZA,↓zU,↓zD,zV,zT,zW,hd2]
  (repeat refine sd ?_)
  refine⟨r+1,by omega,?_,by omega⟩;rw [show (r+1)* T=r*T+t by rw [Nat.add_mul,et]; omega]
  (refine xI.ren [] [1,0] (by simp) (by simp) (by decide) ?_; simp only [yQ,vwL,vw,vwF,sw,St.get,St.look,Fr.get,simprocAttr,-ZA,exists_eq_left',ne_eq,zR,fW])
  exact wrap_i64 (by omega)
 have hd2:((t:Int)<(T:Int)):=by omega
 have hlen:r*T+t<1024:=by
  have:r*T<=64*16-16:=by have:=Nat.mul_le_mul (show r<=63 by omega) T16;omega
  omega
 have hS:=aSa T r t htl;have hln:=tV T (r*T+t);have hw:IntKind.i64.wrap ((t:Int)+ 1)= ((t+1:Nat):Int):=wrap_i64 (by omega);generalize ptN T (r*T+t)= l at hS hln;simp only [simprocAttr,-ZA,↓zU,↓zD,zV,zT,zW,hd2,nR,hln]
 (repeat refine sd ?_)
 refine⟨t+1,by omega,?_,by omega⟩;rw [hS,aHw]
 (refine xI.ren [(1,2)] [1,0] (by simp) (by simp) (by decide) ?_; simp only [yQ,vwL,vw,vwF,sw,St.get,St.look,Fr.get,simprocAttr,-ZA,exists_eq_left',ne_eq,zR,fW,hw])
end
section
namespace Ru
def zH (rs:List zZ) (a:Nat) (p:Nat × Nat):Int:=((rs.getD p.1 tN).loc.getD p.2 []).getD a 0
def aJ1 (rs:List zZ) (p:Nat × Nat):BitVec 64:=(rs.getD p.1 tN).fac.getD p.2 0
def eB (rs:List zZ) (l:List (Nat × Nat)) (f:Nat):Nat->BitVec 64
 | 0=>0#64
 | k+1=>eB rs l f k ||| (if (aJ1 rs (l.getD k (0,0))).getLsbD f then 1#64 <<< k else 0#64)
def bH (rs:List zZ) (l:List (Nat × Nat)) (a:Nat) (x:Int):Nat->BitVec 64
 | 0=>0#64
 | k+1=>bH rs l a x k ||| (if zH rs a (l.getD k (0,0))= x then 1#64 <<< k else 0#64)
def bJ (rs:List zZ) (l:List (Nat × Nat)) (F:Nat):List (BitVec 64):=(List.range F).map fun f=>eB rs l f l.length
def lC (rs:List zZ) (l:List (Nat × Nat)) (a:Nat):List (BitVec 64):=l.map fun p=>bH rs l a (zH rs a p) l.length
def nA (rs:List zZ) (l:List (Nat × Nat)) (A:Nat):List (List (BitVec 64)):=(List.range A).map (lC rs l)
def aAv (rs:List zZ) (l:List (Nat × Nat)) (A F:Nat):D:=.agg [.int .i64 (l.length:Int),.sl 1 (us (bJ rs l F)),.sl 1 (rr (nA rs l A))]
structure OkR (rs : List zZ) (A F T : Nat) : Prop where
 hA:A<=4
 hF:F<=8
 hT:1<=T/\T<=16
 hR:1<=rs.length/\rs.length<=64
 hP:rs.length*T<=512
 loc:∀ r ∈ rs,r.loc.length=T
 fac:∀ r ∈ rs,r.fac.length=T
 row:∀ r ∈ rs,∀ l ∈ r.loc,l.length=A
 val:∀ r ∈ rs,∀ f ∈ r.fac,f >>> F=0#64
theorem aBz {s:qL} (h:chk s=0):∃ (A F T:Nat) (rs:List zZ),s=⟨A,F,T,rs⟩/\ OkR rs A F T:=by obtain⟨A,F,T,ok⟩:=aRh h;obtain⟨ag,fa,ln,rs⟩:=s;obtain⟨h1,h2,h3,h4,h5,h6,h7,h8,h9,h10,h11,h12⟩:=ok;simp only at h1 h2 h3 h7 h8 h9 h10 h11 h12;subst h1 h2 h3;exact⟨A,F,T,rs,rfl,⟨h4,h5,h6,h7,h8,h9,h10,h11,h12⟩⟩
def Inb (rs:List zZ) (T:Nat) (l:List (Nat × Nat)):Prop:=∀ p ∈ l,p.1<rs.length/\p.2<T
theorem aTl {rs:List zZ} {T n:Nat} (hT:1<=T) (hn:n<=rs.length*T):Inb rs T (ptN T n):=fun p hp=>by simp only [ptN,List.mem_map,List.mem_range] at hp;obtain⟨i,hi,rfl⟩:=hp;refine⟨(Nat.div_lt_iff_lt_mul (by omega)).2 (by omega),Nat.mod_lt _ (by omega)⟩
def sD (A F T:Nat) (rs:List zZ):D:=.agg [.int .i64 (A:Int),.int .i64 (F:Int),.int .i64 (T:Int),.sl 2 (uP rs)]
theorem sN (x:Int):∀ (l:List (Int × D)) (i:Nat),uQ x l i=(uQ x l 0).map fun p=>(p.1+i,p.2)
 | [],i=>rfl
 | (k,d) :: r,i=>by
  unfold uQ
  by_cases h:x=k
  ·rw [if_pos h,if_pos h]; simp
  ·rw [if_neg h,if_neg h,sN x r (i+1),sN x r (0+1)]
   cases uQ x r 0 with
   | none=>rfl
   | some p=>simp; omega
end Ru
open Ru
theorem aN6 {rs:List zZ} {A F T:Nat} (ok:OkR rs A F T) {a:Nat} (ha:a<A) {p:Nat × Nat} (hp:p.1<rs.length/\p.2<T):yV Tryz.prog 94 [sD A F T rs,.int .i64 a,.agg [.int .i64 (p.1:Int),.int .i64 (p.2:Int)]] (.int .i64 (zH rs a p)):=by
 have hm:=xN (d:=tN) hp.1;have hg:=tQ rs hp.1;have h1:=ok.loc _ hm;have h2:=ok.row _ hm _ (xN (d:=[]) (show p.2<(rs.getD p.1 tN).loc.length by omega));unfold zH sD;generalize rs.getD p.1 tN=r at hg h1 h2;have hg2:=nY r.loc (show p.2<r.loc.length by omega);generalize r.loc.getD p.2 []=x at hg2 h2;have hg3:=yZ .i64 x (show a<x.length by omega);refine xX.xP mixed Tryz.func94 k94 (by simp) fun hf=>?_;simp only [simprocAttr,-ZA,↓zU,↓zD,zV,zT,zW,xA,hg,zZ.row,zA,hg2,xE,hg3]
 (repeat refine sd ?_)
 exact .dv
end
end Go.Pd
