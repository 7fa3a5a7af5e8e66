/- Part SM. -/
import Derived.Test.YtndfaefmmcoapaaGreatUbSH
import Derived.Test.YtndfaefmmcoapaaGreatUbXA
import Derived.Test.YtndfaefmmcoapaaGreatUbX9
import Derived.RangeFuncIn
import Derived.RangeFuncRecord
import Derived.RangeFuncSeq
import Derived.Test.YtndfaefmmcoapaaGreatUbCode
import Derived.RangeFuncBox
import Derived.RangeFuncLeaves
import Derived.WalkKit
import Derived.OwnWalkIn
import Derived.TacticsInMore
import Derived.LoopNIn
import Derived.LoopIn
set_option linter.unusedSectionVars false
set_option linter.unusedVariables false
set_option linter.unusedSimpArgs false
set_option linter.defProp false
set_option maxRecDepth 20000
set_option maxHeartbeats 1000000
open Go.Proofs.Tryz
open List renaming mem_map->γ,mem_singleton->δ,mem_range->ε,take_of_length_le->ζ,mem_cons->η,any_eq_false->θ,filter_cons->κ,ext_getElem->μ,range'->ν,map_congr_left->ξ,getElem?_append_left->ο,map_map->π,eq_replicate_iff->τ,mem_cons_of_mem->υ,foldl_append->χ,getElem_set->ω
open Nat renaming le_refl->Aa,zero_le->Ab
open Array renaming getElem?_eq_some_iff->Ac
open Bool renaming eq_false_iff->Ad
open And renaming intro->Ae
namespace Go.Pd
open Go Go.Proofs
open BitVec renaming isValue -> ZA
open Ru
namespace Ru
def iq (rs:List xG) (A T:Nat) (kf:Nat->Nat × Nat->List Int):List xG:=xi rs A T (sM kf (ptN T (rs.length*T)))
theorem ze (rs:List xG) (A T:Nat) (num:Nat->Nat × Nat->Int):(xi rs A T num).length=rs.length:=by simp [xi]
theorem fg {rs:List xG} {A T:Nat} {num:Nat->Nat × Nat->Int} {i:Nat} (h:i<rs.length):(xi rs A T num).getD i tX=⟨(List.range T).map λt=>(List.range A).map λa=>num a (i,t),(rs.getD i tX).fac⟩:=by simp [xi,List.getD,h]
theorem fh {rs:List xG} {A T:Nat} {num:Nat->Nat × Nat->Int} {a:Nat} {p:Nat × Nat} (ha:a<A) (hp:p.1<rs.length/\p.2<T):yJ (xi rs A T num) a p=num a p:=by unfold yJ;rw [fg hp.1];simp [List.getD,hp.2,ha]
theorem RK {rs:List xG} {A F T:Nat} {num:Nat->Nat × Nat->Int} (ok:OkR rs A F T):OkR (xi rs A T num) A F T where
 hA:=ok.hA
 hF:=ok.hF
 hT:=ok.hT
 hR:=by rw [ze]; exact ok.hR
 hP:=by rw [ze]; exact ok.hP
 loc:=λr hr=>by simp only [xi,γ] at hr;obtain⟨i,_,rfl⟩:=hr;simp
 fac:=λr hr=>by simp only [xi,γ,ε] at hr;obtain⟨i,hi,rfl⟩:=hr;exact ok.fac (rs.getD i tX) (xR hi)
 row:=λr hr l hl=>by simp only [xi,γ] at hr;obtain⟨i,_,rfl⟩:=hr;simp only [γ] at hl;obtain⟨t,_,rfl⟩:=hl;simp
 val:=λr hr=>by simp only [xi,γ,ε] at hr;obtain⟨i,hi,rfl⟩:=hr;exact ok.val (rs.getD i tX) (xR hi)
theorem filter_le {p q:List Int->Bool}:∀ {m:List (List Int)},(∀ y ∈ m,p y=true->q y=true)->(m.filter p).length<=(m.filter q).length
 | [],_=>Aa _
 | y :: m,h=>by
  have ih:=filter_le (p:=p) (q:=q) (m:=m) λz hz=>h z (υ _ hz);have h0:=h y (by simp);rw [κ,κ]
  cases hp:p y
  ·cases hq:q y
   ·simpa using ih
   ·simp; omega
  ·rw [h0 hp]; simpa using ih
theorem filter_lt {p q:List Int->Bool} {x:List Int}:∀ {m:List (List Int)},(∀ y ∈ m,p y=true->q y=true)->x ∈ m->p x=false->q x=true->(m.filter p).length<(m.filter q).length
 | [],_,hx,_,_=>by cases hx
 | y :: m,h,hx,hp,hq=>by
  have h':∀ z ∈ m,p z=true->q z=true:=λz hz=>h z (υ _ hz);rw [κ,κ]
  rcases η.1 hx with e | e
  ·subst e;have:=filter_le h';rw [hp,hq];simp; omega
  ·have ih:=filter_lt h' e hp hq;have h0:=h y (by simp)
   cases hpy:p y
   ·cases hqy:q y
    ·simpa using ih
    ·simp; omega
   ·rw [h0 hpy]; simpa using ih
theorem ba {m:List (List Int)} {x y:List Int} (hx:x ∈ m) (h:kc x y<0):below m x<below m y:=by unfold below;refine filter_lt (x:=x) (λz _ hz=>?_) hx (by rw [lz]; rfl) (by simpa using h);have:=of_decide_eq_true hz;exact decide_eq_true (gI this h)
theorem Vx {m:List (List Int)} {x y:List Int} (hx:x ∈ m) (hy:y ∈ m):below m x=below m y ↔ x=y:=by
 refine⟨λh=>?_,λh=>by rw [h]⟩;have a:=oK x y
 by_cases h1:kc x y<0
 ·have:=ba hx h1; omega
 ·by_cases h2:kc y x<0
  ·have:=ba hy h2; omega
  ·exact zz (by omega)
theorem RE {T R:Nat} {p:Nat × Nat} (hp:p.1<R/\p.2<T):p ∈ ptN T (R*T):=by obtain⟨r,t⟩:=p;simp only at hp;simp only [ptN,γ,ε];have hm:=Nat.mul_le_mul_right T (show r+1<=R from hp.1);rw [Nat.succ_mul] at hm;refine⟨r*T+t,by omega,?_⟩;rw [Nat.mul_comm,Nat.mul_add_div (by omega),Nat.div_eq_of_lt hp.2,Nat.mul_add_mod,Nat.mod_eq_of_lt hp.2];rfl
theorem Zy {kf:Nat->Nat × Nat->List Int} {T R a:Nat} {p:Nat × Nat} (hp:p.1<R/\p.2<T):kf a p ∈ dedup (pI ((ptN T (R*T)).map (kf a))):= WJ.2 ((nX _).mem_iff.2 (List.mem_map_of_mem (RE hp)))
theorem UW {kf:Nat->Nat × Nat->List Int} {T R a:Nat} {p q:Nat × Nat} (hp:p.1<R/\p.2<T) (hq:q.1<R/\q.2<T):sM kf (ptN T (R*T)) a p=sM kf (ptN T (R*T)) a q ↔ kf a p=kf a q:=by unfold sM;rw [<- Vx (Zy hp) (Zy hq)];omega
theorem zd (rs:List xG) (A T:Nat) (kf:Nat->Nat × Nat->List Int):(iq rs A T kf).length=rs.length:=ze _ _ _ _
theorem RJ {rs:List xG} {A F T:Nat} {kf:Nat->Nat × Nat->List Int} (ok:OkR rs A F T):OkR (iq rs A T kf) A F T:=RK ok
theorem Ua {rs:List xG} {A T:Nat} {kf:Nat->Nat × Nat->List Int} {a:Nat} {p q:Nat × Nat} (ha:a<A) (hp:p.1<rs.length/\p.2<T) (hq:q.1<rs.length/\q.2<T):yJ (iq rs A T kf) a p=yJ (iq rs A T kf) a q ↔ kf a p=kf a q:=by unfold iq;rw [fh ha hp,fh ha hq,UW hp hq]
end Ru
theorem QD {rs:List xG} {A F T:Nat} (ok:OkR rs A F T):zX prog 50 [sD A F T rs] (.tup [sD A F T (iq rs A T (oR rs)),.int .i64 0]):=by
 have h:=l7 ok (QE ok);unfold iq;generalize xi rs A T (sM (oR rs) (ptN T (rs.length*T)))= rs' at h ⊢;unfold sD at h ⊢;refine xY.xP mixed func50 k50 (by simp) λhf=>?_;simp only [simprocAttr,-ZA,↓zU,↓zD,zV,zT,zW]
 (repeat refine sd ?_)
 refine .go h ?_;simp only [simprocAttr,-ZA,↓zU,↓zD,zV,zT,zW];exact .drop (by simp) (by simp [vw,vwL])
open Rs Fm Ru Te Kb
namespace Kb
theorem eT {rs:List xG} {A F T:Nat} (ok:OkR rs A F T) {f:List Nd} (hc:yN f=0) (hfr:(pJ .andNot .i64 (zC f:Int) 15 != 0)= false) (hft:sU f A F=true):tC A F (oW f)= true:=by
 have h16:zC f<16:=O4 ⟨zC f,kJ f⟩ hfr;have ha:∀ n:Fin 16,n.val &&& 3824=0/\n.val &&& 256=0:=by decide
 have hE:gV ⟨A,F,T,rs⟩ f=0:=by unfold gV;rw [if_neg (by simpa using fF ok),if_neg (by simpa using hc),vx (kJ f),if_neg (by simp [(ha ⟨zC f,h16⟩).1])];simp only;rw [if_neg (by rw [hft]; simp)]
 exact(jv rfl (fF ok) ok hE (ha ⟨zC f,h16⟩).2).1
theorem Zu {p:PrA} {f:List Nd} {fr:Int} (h:fmE p f fr=0):yN f=0/\(pJ .andNot .i64 (zC f:Int) fr != 0)= false/\sU f p.see.length p.F=true:=by
 unfold fmE at h
 by_cases h1:yN f=0
 ·rw [if_neg (by simpa using h1)] at h
  cases h2:(pJ .andNot .i64 (zC f:Int) fr != 0) with
  | true=>rw [h2,if_pos rfl] at h; cases h
  | false=>
   rw [h2,if_neg (by simp)] at h
   cases h3:sU f p.see.length p.F with
   | true=>exact⟨h1,rfl,rfl⟩
   | false=>rw [h3] at h; cases h
 ·rw [if_pos h1] at h; exact absurd h h1
structure PlG (p : PrA) (F : Nat) (sts : List (List (BitVec 64))) (t : Nat) : Prop where
 fe:p.F=(F:Int)
 hF:F<=8
 hA:1<=p.see.length/\p.see.length<=4
 hR:1<=sts.length/\sts.length<=16
 len:∀ st ∈ sts,t<st.length
 ht:t<=1000
 val:∀ st ∈ sts,∀ s ∈ st,s >>> F=0#64
theorem PlG.ok {p:PrA} {F:Nat} {sts:List (List (BitVec 64))} {t:Nat} (h:PlG p F sts t):MO p F sts t:=⟨h.fe,h.hF,h.hA.2,by have:=h.hR.2; omega,h.len,h.ht⟩
theorem PlG.time {p:PrA} {F:Nat} {sts:List (List (BitVec 64))} {t:Nat} (h:PlG p F sts t):OkR (vK p.see sts t) p.see.length F 1:= RZ h.hA.2 h.hF ⟨h.hR.1,by have:=h.hR.2; omega⟩ λw hw=>h.val _ (xR hw) _ (xR (h.len _ (xR hw)))
def NS (see:List (BitVec 64)) (sts:List (List (BitVec 64))) (t:Nat) (f:List Nd) (v:Nat):Bool:=evT (vK see sts t) see.length 1 (oW f) (v,0)
def knT (see:List (BitVec 64)) (sts:List (List (BitVec 64))) (t a:Nat) (f:List Nd) (w:Nat):Bool:=(List.range sts.length).all λv=>!decide (mR see (stR sts v) a t=mR see (stR sts w) a t) || NS see sts t f v
def Nh (see:List (BitVec 64)) (sts:List (List (BitVec 64))) (t:Nat) (f:List Nd):BitVec 64:=pB 1 sts.length (evT (vK see sts t) see.length 1 (oW f))
def sL (see:List (BitVec 64)) (sts:List (List (BitVec 64))) (t a w:Nat):List ClA->Int
 | []=>-1
 | c :: r=>if knT see sts t a c.test w=true then c.mv else sL see sts t a w r
def N3 (p:PrA) (sts:List (List (BitVec 64))) (t a w:Nat):Int:=sL p.see sts t a w (p.code.getD a [])
def mT (p:PrA) (sts:List (List (BitVec 64))) (t:Nat):List (List Int):=(List.range p.see.length).map λa=>(List.range sts.length).map λw=>N3 p sts t a w
def qU (A:Nat) (s:BitVec 64):List xG:=[⟨[List.replicate A 0],[s]⟩]
def NR (A:Nat) (f:List Nd) (s:BitVec 64):Bool:=evT (qU A s) A 1 (oW f) (0,0)
def Yv (A:Nat) (s0:BitVec 64) (out:BitVec 64) (a:AsA):BitVec 64:=out &&& ~~~(1#64 <<< a.fact.toNat) ||| (if NR A a.to s0=true then 1#64 <<< a.fact.toNat else 0#64)
def XO (p:PrA) (s0:BitVec 64) (out:BitVec 64) (k:Int):BitVec 64:=if k<0 then out else(p.yW.getD k.toNat []).foldl (Yv p.see.length s0) out
def PM (p:PrA) (s0:BitVec 64) (mv:List Int):BitVec 64:=mv.foldl (XO p s0) s0
theorem RV {A F:Nat} {s:BitVec 64} (hA:A<=4) (hF:F<=8) (hs:s >>> F=0#64):OkR (qU A s) A F 1 where
 hA:=hA
 hF:=hF
 hT:=⟨by omega,by omega⟩
 hR:=⟨by simp [qU],by simp [qU]⟩
 hP:=by simp [qU]
 loc:=λr hr=>by simp only [qU,δ] at hr; subst hr; rfl
 fac:=λr hr=>by simp only [qU,δ] at hr; subst hr; rfl
 row:=λr hr l hl=>by simp only [qU,δ] at hr; subst hr;simp only [δ] at hl; subst hl;simp
 val:=λr hr x hx=>by simp only [qU,δ] at hr; subst hr;simp only [δ] at hx; subst hx;exact hs
end Kb
theorem Qb {p:PrA} {F:Nat} {sts:List (List (BitVec 64))} {t:Nat} (h:PlG p F sts t) {f:List Nd} (hE:fmE p f 15=0):zX prog 54 [Vb p.see sts t F,.sl 6 (ndR f)] (.tup [.int .u64 (ui (Nh p.see sts t f)),.int .i64 0]):=by
 obtain⟨h1,h2,h3⟩:=Zu hE;rw [h.fe] at h3;have ok:=h.time;have hl:(vK p.see sts t).length*1=sts.length:=by rw [kD,Nat.mul_one]
 have hh:=vr ok (by rw [hl]; have:=h.hR.2; omega) h1 h2 h3;unfold iu at hh;rw [if_pos (eT ok h1 h2 h3),hl,V4] at hh;exact hh
theorem Up {p:PrA} {F:Nat} {sts:List (List (BitVec 64))} {t:Nat} (h:PlG p F sts t) {a w:Nat} (ha:a<p.see.length) (hw:w<sts.length) (f:List Nd) :
  (Ru.fY (vK p.see sts t) (yA sts.length 0) a (yJ (vK p.see sts t) a (w,0)) sts.length &&& ~~~Nh p.see sts t f==0#64)= knT p.see sts t a f w:=by
 have hR:=h.hR.2;rw [Bool.eq_iff_iff,YL];unfold knT Nh;simp only [List.all_eq_true,ε]
 constructor
 ·intro hh v hv
  by_cases e:mR p.see (stR sts v) a t=mR p.see (stR sts w) a t
  ·have h1:=hh v (by omega);rw [kV _ _ (by omega),rX hv,yS (by omega)] at h1;have h2:=(zi (t:=t) ha hv hw).2 e;simp only [decide_eq_true hv,decide_eq_true h2,Bool.true_and,true_implies] at h1;unfold NS;rw [decide_eq_true e,show pt 1 v=(v,0) by unfold pt; rw [Nat.div_one,Nat.mod_one]] at *;rw [h1]; rfl
  ·rw [decide_eq_false e]; rfl
 ·intro hh v hv hb;rw [kV _ _ (by omega)] at hb;simp only [Bool.and_eq_true,decide_eq_true_eq] at hb;obtain⟨hv2,hb⟩:=hb;rw [rX hv2] at hb;have h1:=hh v hv2;rw [decide_eq_true ((zi (t:=t) ha hv2 hw).1 hb)] at h1;rw [yS (by omega),decide_eq_true hv2,show pt 1 v=(v,0) by unfold pt; rw [Nat.div_one,Nat.mod_one]];simpa [NS] using h1
open Rs Fm Ru Te Kb
namespace Kb
structure PrV (p : PrA) (F : Nat) : Prop where
 fe:p.F=(F:Int)
 hF:F<=8
 hA:1<=p.see.length/\p.see.length<=4
 hI:1<=p.init.length/\p.init.length<=16
 hM:p.yW.length<=8
 hC:p.code.length=p.see.length
 cl:∀ l ∈ p.code,l.length<=6
 init:∀ s ∈ p.init,s >>> F=0#64
 see:∀ s ∈ p.see,s >>> F=0#64
 asc:Pb p.init=true
 Ik:∀ m ∈ p.yW,Sq m=true
 mv:∀ m ∈ p.yW,∀ a ∈ m,asE p a=0
 code:∀ l ∈ p.code,∀ c ∈ l,clE p c=0
theorem aM {p:PrA} {F:Nat} (h:p.F=(F:Int)) {s:BitVec 64} (hs:XB p s=false):s >>> F=0#64:=by unfold XB at hs;rw [h] at hs;simpa using hs
theorem WB {p:PrA} (h:oX p=0):∃ F,PrV p F:=by
 unfold oX at h
 split at h
 ·rename_i h0; exact absurd h h0
 rename_i h0;have h0:mP p=0:=by simpa using h0
 split at h
 ·rename_i h1; exact absurd h h1
 rename_i h1;have h1:rN (rN (asE p)) p.yW=0:=by simpa using h1
 unfold mP at h0
 split at h0
 ·cases h0
 rename_i q1
 split at h0
 ·cases h0
 rename_i q2
 split at h0
 ·cases h0
 rename_i q3
 split at h0
 ·cases h0
 rename_i q4;simp only [not_or] at q1 q2 q3 q4;obtain⟨F,hF⟩:∃ F:Nat,p.F=(F:Int):=⟨p.F.toNat,by omega⟩
 refine⟨F,hF,by omega,by omega,by omega,by omega,by have:=q3.2.2.1; omega,λl hl=>?_,λs hs=>aM hF ?_,λs hs=>aM hF ?_,by simpa using q4.1,λm hm=>?_,λm hm a ha=>?_,λl hl c hc=>?_⟩
 ·have:=θ.1 (Ad.2 q2.2.2.2) l hl;simpa using this
 ·have:=θ.1 (Ad.2 q3.2.2.2.1) s hs;simpa using this
 ·have:=θ.1 (Ad.2 q3.2.2.2.2) s hs;simpa using this
 ·have:=θ.1 (Ad.2 q4.2) m hm;simpa using this
 ·exact oA.1 (oA.1 h1 m hm) a ha
 ·exact oA.1 (oA.1 h l hl) c hc
theorem TA {p:PrA} {F:Nat} (h:PrV p F) {m:List AsA} (hm:m ∈ p.yW):m.length<=8:=by
 have ha:=T9.1 (h.Ik m hm)
 have hf:∀ i,i<m.length->0<=(m.getD i as0).fact/\(m.getD i as0).fact<F:=λi hi=>by
  have:=h.mv m hm _ (xR (d:=as0) hi);unfold asE at this
  split at this
  ·cases this
  ·rename_i q; have:=h.fe; omega
 have hg:∀ i,i<m.length->(m.map (·.fact)).getD i 0=(m.getD i as0).fact:=λi hi=>by simp [List.getD,hi]
 have key:∀ i,i<m.length->(i:Int)<=(m.getD i as0).fact:=by
  intro i
  induction i with
  | zero=>intro hi; exact(hf 0 hi).1
  | succ i ih=> intro hi;have h1:=ih (by omega);have h2:=ha i (by simpa using hi);rw [hg i (by omega),hg (i+1) hi] at h2;omega
 by_cases h0:m.length=0
 ·omega
 ·have h1:=key (m.length-1) (by omega);have h2:=hf (m.length-1) (by omega);have:=h.hF;omega
end Kb
theorem o9 (A F:Nat) (s:BitVec 64):Vf (qU A s) (yA 1 0) A F = .agg [.int .i64 1,.sl 1 (us ((List.range F).map λi=>s >>> i &&& 1#64)),.sl 1 (rr (List.replicate A [1#64]))]:=by
 unfold Vf
 have h1:lI (qU A s) (yA 1 0) F=(List.range F).map λi=>s >>> i &&& 1#64:=by refine ξ λi _=>?_;rw [vq];show 0#64 ||| (if s.getLsbD i then 1#64 <<< 0 else 0#64)= _;cases s.getLsbD i <;> rfl
 have h2:qH (qU A s) (yA 1 0) A=List.replicate A [1#64]:=by refine τ.2 ⟨by simp [qH],λr hr=>?_⟩;simp only [qH,γ,ε] at hr;obtain⟨a,ha,rfl⟩:=hr;show [0#64 ||| (if yJ (qU A s) a (0,0)= yJ (qU A s) a (0,0) then 1#64 <<< 0 else 0#64)]=_;rw [if_pos rfl];rfl
 rw [h1,h2];rfl
theorem Ut (A:Nat) (f:List Nd) (s:BitVec 64) (n:Nat):pB 1 1 (evT (qU A s) A 1 (oW f)) <<< n=if NR A f s=true then 1#64 <<< n else 0#64:=by show (0#64 ||| (if NR A f s=true then 1#64 <<< 0 else 0#64)) <<< n=_;split <;> simp
theorem l9 {n:Nat} (hn:1<=n/\n<=64):zX prog 224 [.sl 1 [[.sl 1 (us [1#64])]],.int .i64 (n:Int)] (.sl 1 (rr (List.replicate n [1#64]))):=by have h:=Z1 (d:=.sl 1 (us [1#64])) rfl rfl hn;rw [R9] at h;exact xY.ret h (.drop (Ab _) (dh (by decide) (mw _) (by simp [rr])))
open Rs Fm Ru Te Kb
theorem au {p:PrA} {F:Nat} (h:p.F=(F:Int)) {a:AsA} (he:asE p a=0):0<=a.fact/\a.fact<F/\fmE p a.to 0=0:=by
 unfold asE at he
 split at he
 ·cases he
 ·rename_i q; exact⟨by omega,by omega,he⟩
theorem ZJ {p:PrA} {F:Nat} (h:PrV p F) {s:BitVec 64} (hs:s >>> F=0#64) {f:List Nd} (hE:fmE p f 0=0) :
  zX prog 54 [Vf (qU p.see.length s) (yA 1 0) p.see.length F,.sl 6 (ndR f)] (.tup [.int .u64 (ui (pB 1 1 (evT (qU p.see.length s) p.see.length 1 (oW f)))),.int .i64 0]):=by
 obtain⟨h1,h2,h3⟩:=Zu hE;rw [h.fe] at h3;have h0:zC f=0:=Ms ⟨zC f,kJ f⟩ h2;have h2':(pJ .andNot .i64 (zC f:Int) 15 != 0)= false:=by rw [h0]; decide
 have ok:=RV (s:=s) h.hA.2 h.hF hs;have hh:=vr ok (by show 1*1<=64; omega) h1 h2' h3
 have e1:ptl (qU p.see.length s) 1=yA 1 0:=by simp [ptl,ptN,yA,qU,List.range_succ]
 have e2:(qU p.see.length s).length*1=1:=rfl;unfold iu at hh;rw [if_pos (eT ok h1 h2' h3),e1,e2] at hh;exact hh
theorem Qz {p:PrA} {F:Nat} (h:PrV p F) (sts:List (List (BitVec 64))) {s:BitVec 64} (hs:s >>> F=0#64) {mv:List Int} (hl:mv.length<=1000) (hmv:∀ k ∈ mv,k<p.yW.length) :
  zX prog 183 [plD p sts,.int .u64 (ui s),.sl 1 (rows .i64 mv)] (.int .u64 (ui (PM p s mv))):=by
 have hF:=h.hF;have hA:=h.hA;have hrep:=l9 (n:=p.see.length) ⟨by omega,by omega⟩;have hH:=λf hE=>ZJ h hs (f:=f) hE;have hmod:=o9 p.see.length F s;rw [hmod] at hH;unfold plD plC at *;rw [h.fe];refine xY.xP mixed func183 Ld (by simp) λhf=>?_;simp only [simprocAttr,-ZA,↓zU,↓zD,zV,zT,zW,xI,↓gm]
 (refine tl mixed ?_; unfold Yu; simp only [simprocAttr,-ZA,↓zU,↓zD,zV,zT,zW,↓Pj,↓Pk,↓rz1,↓rz2,↓rz3,↓rz4,↓rz5,↓rz6,↓XI,pL,nB,xI])
 have hpp:D.xU [D.sl 1 [[D.sl 1 (us [1#64])]],D.int .i64 p.see.length]=true:=by simp [D.xU,D.xL]
 have q1:D.xU [D.int IntKind.u64 (ui 1#64)]=true:=rfl;have q2:D.xU [D.sl 1 [[D.int IntKind.u64 (ui 1#64)]]]=true:=rfl;have q3:(0:Int)<=(F:Int):=by omega
 have q4:8*(F:Int)<=281474976710656:=by omega
 have hrep':∀ σ:St,xY prog 224 [.sl 1 [[.sl 1 [[.int .u64 (ui 1#64)]]]],.int .i64 (p.see.length:Int)] σ (.sl 1 (rr (List.replicate p.see.length [1#64]))) σ:=λσ=>xY.yO hrep hpp;repeat (first | (refine Ae ⟨q1,q2,uk.go (hrep' _) ?_⟩ ?_; focus ((simp only [simprocAttr,-ZA,↓zU,↓zD,zV,zT,zW,↓Pj,↓Pk,↓rz1,↓rz2,↓rz3,↓rz4,↓rz5,↓rz6,↓XI,pL,nB,xI]))) | refine Ae q1 ?_ | refine Ae q2 ?_ | refine Ae q3 ?_ | refine Ae q4 ?_ | (refine uk.go (hrep' _) ?_; (simp only [simprocAttr,-ZA,↓zU,↓zD,zV,zT,zW,↓Pj,↓Pk,↓rz1,↓rz2,↓rz3,↓rz4,↓rz5,↓rz6,↓XI,pL,nB,xI])))
 have hz:List.replicate F [D.int .u64 (ui 0#64)]=us (bW F (λi=>s >>> i &&& 1#64) (λ_=>0#64) 0):=by rw [eE,iA];congr 1;refine μ (by simp) λi h1 h2=>by simp
 refine Ae ?_ ?_
 ·rw [hz]
  (refine xN.ren [(0,1),(1,0)] [1,0] (by simp) (by simp) (by decide) ?_; simp only [yT,zQ,simprocAttr,-ZA,exists_eq_left',ne_eq,zR,yU,wE])
 refine zZ (λi:Nat=>[(35,.int .i64 i),(34,.int .i64 F),(7,.ref 1 3 0 0),(2,.sl 1 (rows .i64 mv)),(1,.int .u64 (ui s)),(0,.ptr [.int .i64 F,.sl 1 (us p.init),.sl 1 (us p.see),.sl 1 (mvR p.yW),.sl 1 (cdR p.code),.sl 1 (rr sts)])])
  (λi=>⟨2,[(1,⟨3,[[.int .i64 1,.osl 0 1 F,.sl 1 (rr (List.replicate p.see.length [1#64]))]]⟩),(0,⟨1,us (bW F (λi=>s >>> i &&& 1#64) (λ_=>0#64) i)⟩)]⟩)
  (λi=>i<=F) (λi=>F-i) 0 (Ab _) ?_ ?_
 ·rw [hz]
  (refine xN.same ?_; simp [xQ,Fr.get])
 intro i hi;refine xO mixed ?_;have hml:=kP F (λi=>s >>> i &&& 1#64) (λ_=>0#64) i
 by_cases hil:i<F
 ·have hd:((i:Int)<(F:Int)):=by omega
  have hmg:=vI (bW F (λi=>s >>> i &&& 1#64) (λ_=>0#64) i) (show i<_ by rw [hml]; exact hil);rw [wk _ _ hil] at hmg;have hms:=wm F (λi=>s >>> i &&& 1#64) (λ_=>0#64) i;generalize bW F (λi=>s >>> i &&& 1#64) (λ_=>0#64) i=M at hmg hms hml;simp only [simprocAttr,-ZA,↓zU,↓zD,zV,zT,zW,hd,xI,hml,hmg,mQ,hms]
  (repeat refine sd ?_)
  refine⟨i+1,by omega,?_,by omega⟩
  (refine xN.same ?_; simp only [xQ,Fr.get,simprocAttr,-ZA,zS])
  exact wrap_i64 (by omega)
 have hd:¬ ((i:Int)<(F:Int)):=by omega
 have hvl:(us ((List.range F).map λi=>s >>> i &&& 1#64)).length=F:=by simp [us]
 rw [wj _ _ _ (by omega:F<=i)];generalize hV:((List.range F).map λi=>s >>> i &&& 1#64)= V at *;simp only [simprocAttr,-ZA,↓zU,↓zD,zV,zT,zW,hd]
 refine .go [(7,.ref 1 3 0 0),(2,.sl 1 (rows .i64 mv)),(1,.int .u64 (ui s)),(0,.ptr [.int .i64 F,.sl 1 (us p.init),.sl 1 (us p.see),.sl 1 (mvR p.yW),.sl 1 (cdR p.code),.sl 1 (rr sts)])]
  ⟨2,[(1,⟨3,[[.int .i64 1,.sl 1 (us V),.sl 1 (rr (List.replicate p.see.length [1#64]))]]⟩)]⟩ ?_ ?_
 ·(refine xN.ren [] [1] (by simp) (by simp) (by decide) ?_; simp only [yT,zQ,simprocAttr,-ZA,exists_eq_left',ne_eq,zR,yU,wE])
  refine⟨?_,by omega,(ζ (by omega)).symm,sF _⟩
  rintro q (rfl | h)
  ·exact Nat.one_ne_zero
  ·exact h.elim
 simp only [simprocAttr,-ZA,↓zU,↓zD,zV,zT,zW,yZ]
 refine xT (λk:Nat=>[(50,.int .i64 k),(49,.int .i64 mv.length),(48,.sl 1 (rows .i64 mv)),(9,.int .u64 (ui ((mv.take k).foldl (XO p s) s))),(7,.ref 1 3 0 0),(0,.ptr [.int .i64 F,.sl 1 (us p.init),.sl 1 (us p.see),.sl 1 (mvR p.yW),.sl 1 (cdR p.code),.sl 1 (rr sts)])])
  (λ_=>⟨2,[(1,⟨3,[[.int .i64 1,.sl 1 (us V),.sl 1 (rr (List.replicate p.see.length [1#64]))]]⟩)]⟩)
  (λk=>k<=mv.length) (λk=>mv.length-k) 0 (Ab _) ?_ ?_
 ·(refine xN.same ?_; simp only [xQ,Fr.get,simprocAttr,-ZA,zS,List.take_zero,List.foldl_nil])
  all_goals rfl
 intro k hk;refine xO mixed ?_;by_cases hkl:k<mv.length
 case neg=>
  have hd2:¬ ((k:Int)<(mv.length:Int)):=by omega
  rw [ζ (by omega)];simp only [simprocAttr,-ZA,↓zU,↓zD,zV,zT,zW,hd2];exact .drop (by simp) (by simp [vw,PM])
 have hd2:((k:Int)<(mv.length:Int)):=by omega
 have hg:=yV .i64 mv hkl;have hlt:=hmv _ (xR (d:=0) hkl)
 have hfo:(mv.take (k+1)).foldl (XO p s) s=XO p s ((mv.take k).foldl (XO p s) s) (mv.getD k 0):=by rw [zK (d:=0) hkl,χ]; rfl
 generalize (mv.take k).foldl (XO p s) s=out0 at hfo ⊢;generalize mv.getD k 0=q at hg hlt hfo
 by_cases hq:q<0
 ·have hm0:XO p s out0 q=out0:=by unfold XO; rw [if_pos hq]
  rw [hm0] at hfo;simp only [simprocAttr,-ZA,↓zU,↓zD,zV,zT,zW,hd2,yZ,hg,hq]
  (repeat refine sd ?_)
  refine⟨k+1,by omega,?_,by omega⟩
  (refine xN.same ?_; simp only [xQ,Fr.get,simprocAttr,-ZA,zS,hfo])
  exact wrap_i64 (by omega)
 have hqn:q.toNat<p.yW.length:=by omega
 have hq0:0<=q:=by omega
 have hgm:=me p.yW hqn;have hm0:XO p s out0 q=(p.yW.getD q.toNat []).foldl (Yv p.see.length s) out0:=by unfold XO; rw [if_neg hq]
 have hmem:=xR (d:=[]) hqn;generalize p.yW.getD q.toNat []=m at hgm hm0 hmem;have hml8:=TA h hmem;rw [hm0] at hfo;simp only [simprocAttr,-ZA,↓zU,↓zD,zV,zT,zW,hd2,yZ,hg,hq,pV,hlt,hgm,oI]
 (repeat refine sd ?_)
 refine xT (λj:Nat=>[(66,.int .i64 j),(65,.int .i64 m.length),(64,.sl 2 (asR m)),(50,.int .i64 k),(49,.int .i64 mv.length),(48,.sl 1 (rows .i64 mv)),(9,.int .u64 (ui ((m.take j).foldl (Yv p.see.length s) out0))),(7,.ref 1 3 0 0),(0,.ptr [.int .i64 F,.sl 1 (us p.init),.sl 1 (us p.see),.sl 1 (mvR p.yW),.sl 1 (cdR p.code),.sl 1 (rr sts)])])
  (λ_=>⟨2,[(1,⟨3,[[.int .i64 1,.sl 1 (us V),.sl 1 (rr (List.replicate p.see.length [1#64]))]]⟩)]⟩)
  (λj=>j<=m.length) (λj=>m.length-j) 0 (Ab _) ?_ ?_
 ·(refine xN.same ?_; simp only [xQ,Fr.get,simprocAttr,-ZA,zS,List.take_zero,List.foldl_nil])
  all_goals rfl
 intro j hj;refine xO mixed ?_;by_cases hjl:j<m.length
 case neg=>
  have hd3:¬ ((j:Int)<(m.length:Int)):=by omega
  rw [ζ (by omega)];simp only [simprocAttr,-ZA,↓zU,↓zD,zV,zT,zW,hd3];refine⟨k+1,by omega,?_,by omega⟩
  (refine xN.same ?_; simp only [xQ,Fr.get,simprocAttr,-ZA,zS,hfo])
  exact wrap_i64 (by omega)
 have hd3:((j:Int)<(m.length:Int)):=by omega
 have hg2:=kn m hjl
 have hfo2:(m.take (j+1)).foldl (Yv p.see.length s) out0=Yv p.see.length s ((m.take j).foldl (Yv p.see.length s) out0) (m.getD j as0):=by rw [zK (d:=as0) hjl,χ]; rfl
 obtain⟨a1,a2,a3⟩:=au h.fe (h.mv m hmem _ (xR (d:=as0) hjl));unfold AsA.row at hg2;generalize (m.take j).foldl (Yv p.see.length s) out0=out1 at hfo2 ⊢;generalize m.getD j as0=a at hg2 hfo2 a1 a2 a3;have hh:=hH a.to a3;have hsol:=Ut p.see.length a.to s a.fact.toNat;simp only [simprocAttr,-ZA,↓zU,↓zD,zV,zT,zW,hd3,oI,hg2]
 (repeat refine sd ?_)
 refine .go (cr hh) ?_;simp only [simprocAttr,-ZA,↓zU,↓zD,zV,zT,zW]
 (repeat refine sd ?_)
 refine⟨j+1,by omega,?_,by omega⟩;rw [hfo2];unfold Yv;rw [<- hsol]
 (refine xN.ren [] [1] (by simp) (by simp) (by decide) ?_; simp only [yT,zQ,simprocAttr,-ZA,exists_eq_left',ne_eq,zR])
 exact wrap_i64 (by omega)
open Rs Fm Ru Te Kb
section
variable [rL]
theorem xY.deep {P:Program} {g:FuncId} {args:List D} {σ:St} {d1 d:D} {n1:Nat} {objs1 objs':List (Nat × Ob)} (K:Nat->Prop) (hc:xY P g args σ d1 ⟨n1,objs1⟩) (hd:Seen ⟨n1,objs1⟩ K d1 d)
  (hs:∀ k o,St.look objs' k=some o->K k/\St.look objs1 k=some o):xY P g args σ d ⟨n1,objs'⟩:=by
 refine⟨hc.ord,λM0 w ι vals hS hl hv=>(hc.run M0 w ι vals hS hl hv).mono λe w' hh=>?_⟩;obtain⟨v,ι1,he,kept,sim,nx,stay,mS,hR⟩:=hh;refine⟨v,ι1,he,kept,sim.sub (objs':=objs') λk o hk=>(hs k o hk).2,nx,stay,λk o hk=>mS k o (hs k o hk).2,.pure ((hd M0 w' ι1 v sim hR).zA (λ_ _ _=>rfl) λb _ hb=>?_)⟩;exact hb.imp id λ⟨k,o,h1,h2⟩=>⟨k,o,(hs k o h1).1,(hs k o h1).2,h2⟩
theorem vf (c:Nat) {l:List (Nat × Ob)} {k:Nat} (h:k<c):St.look (yL c l) k=none:=by
 cases e:St.look (yL c l) k with
 | none=>rfl
 | some o=> obtain⟨k0,_,h1,_⟩:=nC c l k o e;omega
theorem xY.Tj {P:Program} {g:FuncId} {args args':List D} {d0 d:D} {nx m:Nat} {xZ ob:List (Nat × Ob)} (hc:xY P g args' St0 d0 ⟨m,xZ⟩) (hl:jF ⟨nx,ob⟩ (λ_=>False) args args') (hf:d0.fl=true) (ho:∀ p ∈ xZ,∀ e ∈ p.2.els,D.flL e=true)
  (hd:Seen ⟨nx+m,yL nx xZ++ob⟩ (λk=>k<nx) (d0.shift nx) d):xY P g args ⟨nx,ob⟩ d ⟨nx+m,ob⟩:=
 xY.wR hc.ord λhu=>xY.deep (λk=>k<nx) (xY.O7 hc hl hf ho) hd λk o hk=>by have h1:=(hu k o hk).1;exact⟨h1,by rw [tR,vf nx h1]; exact hk⟩
end
namespace Kb
def pF (ks:List Nat) (ess:List (List (List D))):List (List D):=List.zipWith (λk e=>[D.osl k 1 e.length]) ks ess
def nsl (ess:List (List (List D))):List (List D):=ess.map λe=>[.sl 1 e]
structure Nst (xZ : List (Nat × Ob)) (kO : Nat) (ks : List Nat) (ess : List (List (List D))) : Prop where
 out:St.look xZ kO=some ⟨1,pF ks ess⟩
 len:ks.length=ess.length
 each:∀ i,i<ess.length->St.look xZ (ks.getD i 0)= some ⟨1,ess.getD i []⟩
theorem tN {ks:List Nat} {ess:List (List (List D))} (h:ks.length=ess.length):(pF ks ess).length=ess.length:=by simp [pF]; omega
theorem nM {ks:List Nat} {ess:List (List (List D))} (h:ks.length=ess.length) {i:Nat} (hi:i<ess.length):(pF ks ess).getD i [] = [.osl (ks.getD i 0) 1 (ess.getD i []).length]:=by
 have h1:i<ks.length:=by omega
 simp [pF,List.getD,hi,h1,List.getElem?_zipWith]
theorem ry {ks:List Nat} {ess:List (List (List D))} (h:ks.length=ess.length) (k:Nat) (e:List (List D)):pF ks ess ++ [[.osl k 1 e.length]]=pF (ks ++ [k]) (ess ++ [e]):=by unfold pF;rw [List.zipWith_append h]; rfl
theorem UD {ks:List Nat} {ess:List (List (List D))} (h:ks.length=ess.length) {i:Nat} (hi:i<ess.length) (k:Nat) (e:List (List D)):(pF ks ess).set i [.osl k 1 e.length]=pF (ks.set i k) (ess.set i e):=by refine μ (by simp [pF]) λj h1 h2=>?_;simp only [pF,ω,List.getElem_zipWith];split <;> rfl
theorem Qx (ess:List (List (List D))):(nsl ess).length=ess.length:=by simp [nsl]
theorem OJ (sts:List (List (BitVec 64))):nsl (sts.map us)= rr sts:=by simp only [nsl,rr,π];rfl
theorem OI (mv:List (List Int)):nsl (mv.map (rows .i64))= rl mv:=by simp only [nsl,rl,π];rfl
theorem uD {l:List Nat} {i:Nat} (h:i<l.length):l.getD i 0 ∈ l:=by simp [List.getD,h]
end Kb
theorem Nst.seen {nx:Nat} {xZ:List (Nat × Ob)} {K:Nat->Prop} {kO n:Nat} {ks:List Nat} {ess:List (List (List D))} (h:Nst xZ kO ks ess) (hn:n=ess.length) (hK:¬ K kO) (hKs:∀ k ∈ ks,¬ K k) (hp:∀ e ∈ ess,∀ r ∈ e,r.length=1/\D.xU r=true) :
  Seen ⟨nx,xZ⟩ K (.osl kO 1 n) (.sl 1 (nsl ess)):=by
 refine Seen.osl (ob:=⟨1,pF ks ess⟩) h.out hK (by decide) rfl (by show n<=(pF ks ess).length; rw [tN h.len]; omega) (by rw [Qx]; omega) (λe he=>?_) λi hi j hj=>?_
 ·simp only [nsl,γ] at he;obtain⟨x,_,rfl⟩:=he;rfl
 ·obtain rfl:j=0:=by omega
  have hi':i<ess.length:=by omega
  show Seen _ _ (((pF ks ess).getD i []).getD 0 .top) _;rw [nM h.len hi'];have e2:(nsl ess).getD i [] = [.sl 1 (ess.getD i [])]:=by simp [nsl,List.getD,hi']
  rw [e2];have hm:=xR (d:=[]) hi';exact Seen.rows (h.each i hi') (hKs _ (uD (by rw [h.len]; exact hi'))) (by decide) rfl (λr hr=>(hp _ hm r hr).1) λr hr=>(hp _ hm r hr).2
theorem Nst.shift {xZ r:List (Nat × Ob)} {kO c:Nat} {ks:List Nat} {ess:List (List (List D))} (h:Nst xZ kO ks ess) (hp:∀ e ∈ ess,∀ r ∈ e,D.xU r=true):Nst (yL c xZ++r) (c+kO) (ks.map (c + ·)) ess where
 out:=by rw [tR,rP c h.out];show some (Ob.shift c _)= _;unfold Ob.shift pF;simp only;congr 2;refine μ (by simp) λi h1 h2=>?_;simp [D.wQ,D.shift]
 len:=by rw [List.length_map]; exact h.len
 each:=λi hi=>by
  have hk:(ks.map (c + ·)).getD i 0=c+ks.getD i 0:=by simp [List.getD,show i<ks.length by rw [h.len]; exact hi]
  rw [hk,tR,rP c (h.each i hi)];show some (Ob.shift c _)= _;unfold Ob.shift;rw [lR c λe he=>hp _ (xR hi) e he]
namespace Kb
def X0 (ess:List (List (List D))):List (Nat × Ob):=(0,⟨1,pF (ν 1 ess.length) ess⟩) :: (List.range ess.length).map λi=>(1+i,⟨1,ess.getD i []⟩)
theorem rk {f:Nat->Ob}:∀ {l:List Nat} {i:Nat},i ∈ l->St.look (l.map λi=>(1+i,f i)) (1+i)= some (f i)
 | [],i,h=>by cases h
 | j :: r,i,h=>by
  show St.look ((1+j,f j) :: _) _=_;rw [xX]
  by_cases e:i=j
  ·subst e; rw [if_pos rfl]
  ·rw [if_neg (by omega)];exact rk ((η.1 h).resolve_left e)
theorem UE (ess:List (List (List D))):Nst (X0 ess) 0 (ν 1 ess.length) ess where
 out:=by unfold X0; rw [xX,if_pos rfl]
 len:=by simp
 each:=λi hi=>by
  have e:(ν 1 ess.length).getD i 0=1+i:=by simp [List.getD,hi]
  unfold X0;rw [e,xX,if_neg (by omega)];exact rk (ε.2 hi)
theorem R0 {ess:List (List (List D))} (hp:∀ e ∈ ess,∀ r ∈ e,D.flL r=true):∀ p ∈ X0 ess,∀ e ∈ p.2.els,D.flL e=true:=by
 intro p hm e he;unfold X0 at hm
 rcases η.1 hm with rfl | hm
 ·simp only [pF] at he;obtain⟨i,hi,rfl⟩:=List.getElem_of_mem he;simp [D.flL,D.fl]
 ·simp only [γ,ε] at hm;obtain⟨i,hi,rfl⟩:=hm;exact hp _ (xR hi) e he
end Kb
theorem Yo {σ σ':St} {ρ:Nat->Nat}:∀ {xs bs:List (List D)},xs.length=bs.length->(∀ i,i<bs.length->(xs.getD i []).length=(bs.getD i []).length/\vwL σ σ' ρ (xs.getD i []) (bs.getD i []))->vwE σ σ' ρ xs bs
 | [],[],_,_=>.nil
 | [],_ :: _,h,_=>by cases h
 | _ :: _,[],h,_=>by cases h
 | a :: xs,b :: bs,h,hh=>by have h0:=hh 0 (by simp);refine .cons h0.1 h0.2 (Yo (by simpa using h) λi hi=>?_);simpa using hh (i+1) (by simp; omega)
theorem lp {ks:List Nat} (hd:ks.Nodup) {i j:Nat} (hi:i<ks.length) (hj:j<ks.length) (e:ks.getD i 0=ks.getD j 0):i=j:=by
 simp only [List.getD,hi,hj,List.getElem?_eq_getElem,Option.getD_some] at e;have hp:=List.pairwise_iff_getElem.1 hd
 rcases Nat.lt_trichotomy i j with h | h | h
 ·exact absurd e (hp i j hi hj h)
 ·exact h
 ·exact absurd e.symm (hp j i hj hi h)
theorem jM.nst {nx n:Nat} {xZ:List (Nat × Ob)} {kO:Nat} {ks:List Nat} {ess:List (List (List D))} (h:Nst xZ kO ks ess) (hn:n=ess.length) (hd:ks.Nodup) (hk:kO ∉ ks) (hp:∀ e ∈ ess,∀ r ∈ e,D.xU r=true) :
  jM 0 ⟨nx,xZ⟩ (.osl kO 1 n) ⟨1+ess.length,X0 ess⟩ (.osl 0 1 n):=by
 subst hn;have hlen:=h.len;have hr:(ν 1 ess.length).length=ess.length:=by simp
 have key:∀ q ∈ X0 ess,q.1=0\/∃ i,i<ess.length/\q.1=1+i:=λq hq=>by
  unfold X0 at hq
  rcases η.1 hq with rfl | hq
  ·exact .inl rfl
  ·simp only [γ,ε] at hq;obtain⟨i,hi,rfl⟩:=hq;exact .inr ⟨i,hi,rfl⟩
 refine .inr ⟨λk=>if k=0 then kO else ks.getD (k-1) 0,Ab _,λk hk=>absurd hk (Nat.not_lt_zero _),?_,?_,?_⟩
 ·simp only [vw,↓reduceIte,and_true];omega
 ·intro q hq;unfold X0 at hq
  rcases η.1 hq with rfl | hq
  ·refine⟨by show 0<1+ess.length; omega,_,h.out,rfl,Yo (by rw [tN hlen,tN hr]) λi hi=>?_⟩;rw [tN hr] at hi;rw [nM hlen hi,nM hr hi];refine⟨rfl,?_⟩;have e:(ν 1 ess.length).getD i 0=1+i:=by simp [List.getD,hi]
   simp only [vwL,vw,e,and_true];rw [if_neg (by omega),show 1+i-1=i by omega];exact⟨by omega,rfl⟩
  ·simp only [γ,ε] at hq;obtain⟨i,hi,rfl⟩:=hq;refine⟨by show 1+i<1+ess.length; omega,⟨1,ess.getD i []⟩,?_,rfl,.same λr hr=>hp _ (xR hi) r hr⟩;show St.look xZ (if 1+i=0 then kO else ks.getD (1+i-1) 0)= _;rw [if_neg (by omega),show 1+i-1=i by omega];exact h.each i hi
 ·intro a ha b hb e;simp only at e
  rcases key a ha with h1 | ⟨i,hi,h1⟩ <;> rcases key b hb with h2 | ⟨j,hj,h2⟩ <;> rw [h1,h2] at e ⊢
  ·rw [if_pos rfl,if_neg (by omega)] at e;exact absurd (e ▸ uD (by omega)) hk
  ·rw [if_pos rfl,if_neg (by omega)] at e;exact absurd (e ▸ uD (by omega)) hk
  ·rw [if_neg (by omega),if_neg (by omega),show 1+i-1=i by omega,show 1+j-1=j by omega] at e;rw [lp hd (by omega) (by omega) e]
end Go.Pd

/- Part XR. -/
namespace Go.Pd
open Go
section
variable [rL]
def Oy (P:Program) (gi:FuncId):Prop:=uV P gi/\∀ (l Bs o b off n cap:Nat) (sa:Option Addr) (va vb:Nat->Value) (J:Nat->World->Prop),n<=maxLen->(0<n->sa=some ⟨b,off,none⟩) ->
 (∀ k W,J k W->W.cell? ⟨Bs,o,none⟩= some (.slice sa n cap)/\ ∀ i,i<n->W.cell? ⟨b,off+i*2,none⟩= some (va i)/\ W.cell? ⟨b,off+i*2+1,none⟩= some (vb i))->(∀ k W,J k W->J k W.drew) ->
 (∀ k W,k<n->J k W->YieldAt Fence.wide 0 P l #[.int .i64 ((n-1-k:Nat):Int),.agg #[va (n-1-k),vb (n-1-k)]] W λe W'=>e = .returned (.bool true)/\ J (k+1) W') ->
 ∀ W,J 0 W->CallsIn Fence.wide 0 P gi #[.func (.yield l) #[] #[],.pointer (some ⟨Bs,o,none⟩)] W λe W'=>(∃ v,e = .returned v)/\ J n W'
variable {C : Cx} {E : Env} {a : Act} {w : World} {f : Fr} {σ : St} {ι : Nat -> Nat}
theorem yH.lay (G:yH C E a w f σ ι) (o:Obj):yH C E a (w.alloc o) f σ ι:=by have hk:=Kept.alloc w o λ_=>False;exact⟨G.size,G.defers.zA rfl hk.size (λD hD=>hk.mark id hD),G.nx,G.kept.trans hk (λ_ _ h=>h) (λ_ _ h=>h.elim),G.sim.ext hk,G.old,G.mS,G.stay,λt=>(G.fr t).zA (λb hb _=>hk.block b hb id) (λ_ _ h=>h) hk.shape (λ_ _=>rfl) (Aa _)⟩
abbrev Sr (E:Env) (w:World) (σ:St) (ι:Nat->Nat) (o:Obj):Env:=⟨w.alloc o,λb=>E.M0 b\/b=w.heap.size,λb=>Own ι σ b\/b=w.heap.size,ι,E.B⟩
theorem yH.SS (G:yH C E a w f σ ι) (o:Obj):yH { C with n0:=σ.nx } (Sr E w σ ι o) a (w.alloc o) f σ ι:=by
 have hk:=Kept.alloc w o λ_=>False;have hS:=G.sim.MT o;refine⟨G.size,G.defers.zA rfl hk.size (λD hD=>hk.mark id hD),Aa _,Kept.refl _ _,hS,hS.old,λk o hk=>.inr (.inl ⟨k,o,hk,rfl⟩),λ_ _=>rfl,λt=>(G.fr t).zA (λb hb _=>hk.block b hb id) (λb hb hx=>?_) hk.shape (λ_ _=>rfl) (Aa _)⟩
 rcases hx with (hx | hx) | hx
 ·exact .inl hx
 ·omega
 ·exact .inr hx
theorem yH.end_ {a0:Act} {w0:World} {f0:Fr} {σ0:St} {ι0:Nat->Nat} {q0:Obj} (G0:yH C E a0 w0 f0 σ0 ι0) (G:yH { C with n0:=σ0.nx } (Sr E w0 σ0 ι0 q0) a w f σ ι):yH C E a w f σ ι:=by
 have hsz:E.w0.heap.size<=w0.heap.size:=G0.kept.size
 have hown:∀ b,Own ι0 σ0 b->E.w0.heap.size<=b\/E.K0 b:=by rintro b ⟨k,o,hk,rfl⟩;exact G0.mS k o hk
 have h1:Kept w0 (w0.alloc q0) λ_=>False:=Kept.alloc w0 q0 _;have hs1:(w0.alloc q0).heap.size=w0.heap.size+1:=by show (w0.heap.push q0).size=_; simp
 have hnx:σ0.nx<=σ.nx:=G.nx;have hnx0:=G0.nx
 refine⟨G.size,G.defers,by omega,?_,G.sim.less λb hb=>.inl hb,G0.old,λk o hk=>?_,λk hk=>?_,λt=>(G.fr t).zA (λ_ _ _=>rfl) (λb _ hb=>hb.imp .inl id) (λb cur e h=>⟨cur,h,rfl⟩) (λ_ _=>rfl) (Aa _)⟩
 ·refine G0.kept.trans (h1.trans G.kept (K'':=λb=>Own ι0 σ0 b\/b=w0.heap.size) (λ_ _ h=>h.elim) λ_ _ h=>h) (λ_ _ h=>h) λb hb hx=>?_
  rcases hx with hx | hx
  ·rcases hown b hx with h | h
   ·omega
   ·exact h
  ·omega
 ·rcases G.mS k o hk with h | h | h
  ·have h':(w0.alloc q0).heap.size<=ι k:=h;left; omega
  ·exact hown _ h
  ·left; rw [h]; exact hsz
 ·have:=G.stay k (show k<σ0.nx by omega);exact this.trans (G0.stay k hk)
theorem yH.back {a2:Act} {w2:World} {f2:Fr} {σ2:St} {ι2:Nat->Nat} {q:Obj} {rd:Option Nat} (hq:∀ x,q≠Obj.deferred x) (G1:yH C E a w f σ ι) (G2:yH { C with n0:=σ.nx,rd:=rd } (Sr E w σ ι q) a2 w2 f2 σ2 ι2):yH { C with n0:=σ.nx } (Sr E w σ ι q) a w2 f σ2 ι2:=by
 have G:=G1.SS q;have hl:(w.alloc q).heap[w.heap.size]?=some q:=World.alloc_heap_new w q
 refine⟨G.size,G.defers.zA rfl G2.kept.size (λD hD=>G2.kept.mark (λh=>?_) hD),G2.nx,G2.kept,G2.sim,G2.old,G2.mS,G2.stay,λt=>?_⟩
 ·rcases h with h | h
  ·exact G.sim.fE hD h
  ·rw [h,hl] at hD;exact hq _ (Option.some.inj hD)
 ·refine(G.fr t).zA (λb hb hM=>G2.kept.block b hb λh=>hM (h.elim (λh=>.inr h) λh=>.inl (.inr h))) (λb hb hM=>?_) G2.kept.shape (λk hk=>G2.stay k hk) G2.nx
  rcases hM with hM | ⟨k,o,hk,rfl⟩
  ·exact .inl hM
  ·rcases G2.mS k o hk with h | h | h
   ·have:(w.alloc q).heap.size<=ι2 k:=h;omega
   ·exact .inr h
   ·exact .inl (.inr h)
theorem yH.MY {rd:Option Nat} (G:yH C E a w f σ ι):yH { C with rd:=rd } E a w f σ ι:=⟨G.size,G.defers,G.nx,G.kept,G.sim,G.old,G.mS,G.stay,G.fr⟩
theorem yH.Mp (G:yH C E a w f σ ι):yH C E a w.drew f σ ι:=by have hk:Kept w w.drew λ_=>False:=(Kept.refl _ _).drew;exact⟨G.size,G.defers.zA rfl (Aa _) λD hD=>hD,G.nx,G.kept.drew,G.sim.ext hk,G.old,G.mS,G.stay,G.fr.zA (λb hb _=>rfl) (λ_ _ h=>h) hk.shape (λ_ _=>rfl) (Aa _)⟩
theorem yH.bare (G:yH C E a w f σ ι):yH C E { tmps:=a.tmps,defers:=[] } w f σ ι:=⟨G.size,.none rfl G.defers.1,G.nx,G.kept,G.sim,G.old,G.mS,G.stay,G.fr⟩
theorem yH.S5 {b0:Nat} {w':World} (G:yH C E a w f σ ι) (hk:Kept w w' λb=>b=b0) (hM:E.M0 b0) (hK:E.K0 b0) (hd:∀ x,w.heap[b0]?≠some (Obj.deferred x)):yH C E a w' f σ ι:=G.tick hk hM hK hd
theorem vL.Y4 {M0:Nat->Prop} (hS:vL M0 w σ ι) {D:Nat} {x:Loop} (h:w.heap[D]?=some (Obj.loop x)):¬ Own ι σ D:=by
 rintro ⟨k,o,hk,rfl⟩
 rcases(hS.holds k o hk).2 with ⟨_,cur,e,h1,_⟩ | ⟨_,es,h1,_⟩
 ·rw [h] at h1; cases h1
 ·rw [h] at h1; cases h1
theorem Tu {P:Program} {N:Nat} {own:List Nat} {code:Code} {g:Opd} {ps:List Nat} {x y:DC} (h:mkC P N own code=some (.XQ g ps x y)):∃ g0 ps0 a c,code = .rangeFunc g0 ps0 a c/\yY N g0=some g/\ps0.toList=ps/\mkC P N own a=some x/\mkC P N own c=some y:=by
 cases code with
 | region id ops draw=>rcases wH h with ⟨_,_,e⟩ | ⟨_,⟨_,_,_,_,e⟩ | ⟨_,_,_,_,e⟩ | ⟨_,_,_,_,e⟩⟩ | ⟨_,_,⟨_,_,_,e⟩,_⟩ <;> cases e
 | rangeFunc g0 ps0 a c=> simp only [mkC,zO,DC.XQ.injEq] at h;obtain⟨g',hg,dx,hx,dy,hy,rfl,rfl,rfl,rfl⟩:=h;exact⟨g0,ps0,a,c,rfl,hg,rfl,hx,hy⟩
 | seq a b=> simp only [mkC,zO] at h;obtain⟨dx,hx,dy,hy,h⟩:=h;rcases zB dx dy with e | ⟨_,_,_,_,_,_,_,_,_,_,_,_,e,_⟩ <;> rw [e] at h <;> cases h
 | _=>simp [mkC,Option.bind_eq_some_iff] at h
theorem VJ (hrd:C.rd=none) {g:Opd} {p0 p1:Nat} {dx dy:DC} {Q:Exit->Fr->St->Prop} {gi:FuncId} {els:List (List D)} {els0:D} (hB:Oy C.P gi) (hg:evO f g = .fn gi [.ptr [els0]]) (he:els0 = .sl 2 els\/(els0 = .xK/\els = [])) (hp:p0<C.N/\p1<C.N)
  (J:Nat->St->Prop) (h0:J 0 σ)
  (round:∀ l k σk,k<els.length->J k σk->wpS { C with n0:=σ.nx,rd:=some l } dx ((f.put (some p0) (.int .i64 ((els.length-1-k:Nat):Int))).put (some p1) (.agg (els.getD (els.length-1-k) []))) σk
   (mC (λf1 σ1=>wpS { C with n0:=σ.nx,rd:=some l } dy f1 σ1 λe f2 σ2=>e = .normal/\∃ f3 σ3,xN { C with n0:=σ.nx,rd:=some l } f2 σ2 f3 σ3/\J (k+1) σ3) λ_ _ _=>False))
  (done:∀ σ',J els.length σ'->Q .normal f σ'):wpS C (.XQ g [p0,p1] dx dy) f σ Q:=by
 intro code hc E a w ⟨ι,G⟩;obtain⟨g0,ps0,x,y,rfl,hg0,hps,hx,hy⟩:=Tu hc;obtain rfl:ps0 = #[p0,p1]:=by rw [<- hps]
 obtain⟨vs,hv,hv1,hv2⟩:=(hg ▸ qN G.fr hg0).fO;have hv1':vs.size=1:=hv1;have hvp:=hv2 0 (by show 0<1; omega);obtain⟨Bs,o,vs0,hvB,_,hMB,hcB,hrB⟩:=R.sE (cs:=[els0]) hvp
 have hlb:vs = #[.pointer (some ⟨Bs,o,none⟩)]:=by
  refine Array.ext (by rw [hv1']; rfl) λi h1 h2=>?_;have hi0:i=0:=by rw [hv1'] at h1; omega
  subst hi0;have:vs.getD 0 undef=vs[0]:=by simp [Array.getD,h1]
  rw [this] at hvB;rw [hvB]; rfl
 have hcB0:=hcB 0 (by show 0<1; omega);have hrB0:=hrB 0 (by show 0<1; omega);generalize vs0 0=sv at hcB0 hrB0
 obtain⟨sa,b,off,cap,va,vb,hsv,hnm,hsa,hcel⟩:∃ (sa:Option Addr) (b off cap:Nat) (va vb:Nat->Value),sv = .slice sa els.length cap/\els.length<=maxLen/\(0<els.length->sa=some ⟨b,off,none⟩/\ ¬ Mof E.M0 ι σ b)/\
   ∀ i,i<els.length->w.cell? ⟨b,off+i*2,none⟩= some (va i)/\ w.cell? ⟨b,off+i*2+1,none⟩= some (vb i)/\ (els.getD i []).length=2/\RP (Mof E.M0 ι σ) w (va i) ((els.getD i []).getD 0 .top)/\ RP (Mof E.M0 ι σ) w (vb i) ((els.getD i []).getD 1 .top):=by
  rcases he with rfl | ⟨rfl,rfl⟩
  ·rcases(R.pure (ι:=ι) (n:=σ.nx) hrB0).fR with ⟨ad,cap,e1,rfl,hcap⟩ | ⟨b,off,cap,vs,e1,g1,g2,g3,g4,g5,g6,g7⟩
   ·exact⟨ad,0,0,cap,λ_=>undef,λ_=>undef,e1,by simp,λh=>absurd h (by simp),λi hi=>absurd hi (by simp)⟩
   ·refine⟨_,b,off,cap,λi=>vs i 0,λi=>vs i 1,e1,by omega,λ_=>⟨rfl,g2⟩,λi hi=>?_⟩;have hm:els.getD i [] ∈ els:=by simp [List.getD,hi]
    have q0:=g6 i hi 0 (by omega);rw [Nat.add_zero] at q0;exact⟨q0,g6 i hi 1 (by omega),g5 _ hm,g7 i hi 0 (by omega),g7 i hi 1 (by omega)⟩
  ·have:=(R.pure (ι:=ι) (n:=σ.nx) hrB0).vO;exact⟨none,0,0,0,λ_=>undef,λ_=>undef,this,by simp,λh=>absurd h (by simp),λi hi=>absurd hi (by simp)⟩
 subst hsv;have hF:C.F=Fence.wide:=by unfold Cx.F; rw [hrd]; rfl
 rw [hF];obtain⟨w',hw'⟩:∃ w',w'=w.alloc (.deferred (some [])):=⟨_,rfl⟩;have G':yH C E a w' f σ ι:=by rw [hw']; exact G.lay _
 have hws:w'.heap.size=w.heap.size+1:=by rw [hw']; show (w.heap.push _).size=_; simp
 have hkw:Kept w w' λ_=>False:=by rw [hw']; exact Kept.alloc w _ _
 have hD':w'.heap[w.heap.size]?=some (Obj.deferred (some [])):=by rw [hw']; exact World.alloc_heap_new w _
 refine wpIn_rangeFunc λfn _=>?_;obtain⟨rec,hrec⟩:∃ rec:LoopState->Option Code->Loop,rec=λst pe=>{ state:=st,pending:=pe,fn,tmps:=a.tmps,params:=#[p0,p1],assign:=x,body:=y,defers:=w.heap.size }:=⟨_,rfl⟩;obtain⟨W1,hW1⟩:∃ W1,W1=w'.alloc (.loop (rec .ready none)):=⟨_,rfl⟩;have hk1:Kept w' W1 λ_=>False:=by rw [hW1]; exact Kept.alloc w' _ _
 have hl1:W1.heap[w.heap.size+1]?=some (Obj.loop (rec .ready none)):=by rw [hW1,<- hws]; exact World.alloc_heap_new w' _
 have hD1:W1.heap[w.heap.size]?=some (Obj.deferred (some [])):=hk1.mark id hD';have hs1:W1.heap.size=w.heap.size+2:=by rw [hW1]; show (w'.heap.push _).size=_; simp; omega
 refine⟨w.heap.size+1,[{ target:=.collected w.heap.size,args:=#[] }],W1,{ target:=.fn (.func gi) vs,args:=#[.func (.yield (w.heap.size+1)) #[] #[]] },W1,gi,#[.func (.yield (w.heap.size+1)) #[] #[]]++vs,W1,?_,?_,λ_ _=>trivial,?_,λh=>absurd (show false=true from h) (by decide),?_⟩
 ·have:=run_enterLoop_outer (P:=C.P) (w:=w) fn a.tmps #[p0,p1] x y;rw [hW1,hw',hrec];exact this
 ·simp only [resolve,hv];simp [go_sem]
 ·have:=rF hB.1 (#[.func (.yield (w.heap.size+1)) #[] #[]]++vs) W1;simpa [invoke,go_sem] using this
 rw [hlb]
 have hblk:∀ {W:World} {σk:St} {ιk:Nat->Nat},yH { C with n0:=σ.nx } (Sr E w' σ ι (.loop (rec .ready none))) a W f σk ιk->∀ b',b'<w.heap.size->¬ Mof E.M0 ι σ b'->W.heap[b']?=w.heap[b']?:=λ{W σk ιk} Gk b' hb hM=>by
  have e1:=Gk.kept.block b' (by show b'<(w'.alloc _).heap.size; rw [<- hW1]; omega) λh=>h.elim (λh=>hM (.inr h)) λh=>by omega
  have e2:(w'.alloc (.loop (rec .ready none))).heap[b']?=w'.heap[b']?:=by rw [<- hW1]; exact hk1.block b' (by omega) id
  exact e1.trans (e2.trans (hkw.block b' hb id))
 refine(hB.2 (w.heap.size+1) Bs o b off els.length cap sa va vb (λk W=>∃ σk ιk,J k σk/\yH { C with n0:=σ.nx } (Sr E w' σ ι (.loop (rec .ready none))) a W f σk ιk/\W.heap[w.heap.size+1]?=some (Obj.loop (rec .ready none))/\ W.heap[w.heap.size]?=some (Obj.deferred (some []))) hnm (λh=>(hsa h).1) ?_ ?_ ?_ W1 ⟨σ,ι,h0,by rw [hW1]; exact G'.SS _,hl1,hD1⟩).mono ?_
 ·rintro k W ⟨σk,ιk,_,Gk,_,_⟩;have hB1:=hblk Gk Bs (zt hcB0) hMB;refine⟨by rw [World.cell?_of_block (w:=w) hB1]; rw [Nat.add_zero] at hcB0; exact hcB0,λi hi=>?_⟩;obtain⟨q1,q2,_⟩:=hcel i hi;have hb1:=hblk Gk b (zt q1) (hsa (by omega)).2;exact⟨by rw [World.cell?_of_block (w:=w) hb1]; exact q1,by rw [World.cell?_of_block (w:=w) hb1]; exact q2⟩
 ·rintro k W ⟨σk,ιk,hJ,Gk,hl,hD⟩;exact⟨σk,ιk,hJ,Gk.Mp,hl,hD⟩
 ·rintro k W hk ⟨σk,ιk,hJ,Gk,hl,hD⟩;obtain⟨_,_,q3,q4,q5⟩:=hcel (els.length-1-k) (by omega);have hy0:=run_yield (P:=C.P) (args:=#[.int .i64 ((els.length-1-k:Nat):Int),.agg #[va (els.length-1-k),vb (els.length-1-k)]]) hl (by rw [hrec]; rfl);rw [hrec] at hy0;refine⟨fn,_,x,y,hy0,roundIn_of_wpIn trivial ?_⟩
  have hMk:∀ b',b'<w.heap.size->Mof (Sr E w' σ ι (.loop (rec .ready none))).M0 ιk σk b'->Mof E.M0 ι σ b':=λb' hb' hM=>by
   rcases hM with (hM | hM) | ⟨k',o',hk',rfl⟩
   ·exact .inl hM
   ·have:b'=w'.heap.size:=hM;omega
   ·rcases Gk.mS k' o' hk' with h | h | h
    ·have:W1.heap.size<=ιk k':=by rw [hW1]; exact h
     omega
    ·exact .inr h
    ·have:ιk k'=w'.heap.size:=h;omega
  have hRk:∀ {v:Value} {d:D},RP (Mof E.M0 ι σ) w v d->RP (Mof (Sr E w' σ ι (.loop (rec .ready none))).M0 ιk σk) W v d:=λh=>h.zA (hblk Gk) hMk;have hmin:IntKind.i64.min = -9223372036854775808:=rfl;have hmax:IntKind.i64.max=9223372036854775807:=rfl;have hml:els.length<=9223372036854775807:=by simp only [maxLen] at hnm; omega
  have G1:=((Gk.open_.MY (rd:=some (w.heap.size+1))).bare.set (dst:=some p0) (v:=.int .i64 ((els.length-1-k:Nat):Int)) (d:=.int .i64 ((els.length-1-k:Nat):Int)) (.pure (.int (by omega))) (λt ht=>by cases ht; exact hp.1)).set (dst:=some p1)
   (v:=.agg #[va (els.length-1-k),vb (els.length-1-k)]) (d:=.agg (els.getD (els.length-1-k) [])) (.pure (.agg (by rw [q3]; rfl) λj hj=>by
    rw [q3] at hj;have:j=0\/j=1:=by omega
    rcases this with rfl | rfl
    ·exact hRk q4
    ·exact hRk q5)) (λt ht=>by cases ht; exact hp.2)
  have hr:=round (w.heap.size+1) k σk hk hJ x hx _ _ _ ⟨ιk,G1⟩
  have hact:({ tmps:=(#[p0,p1].zip #[Value.int .i64 ((els.length-1-k:Nat):Int),Value.agg #[va (els.length-1-k),vb (els.length-1-k)]]).foldl (λtmps (t,a)=>tmps.setIfInBounds t a) a.tmps,defers:=[] }:Act)=
    (({ tmps:=a.tmps,defers:=[] }:Act).put (some p0) (.int .i64 ((els.length-1-k:Nat):Int))).put (some p1) (.agg #[va (els.length-1-k),vb (els.length-1-k)]):=by simp [Act.put]
  rw [<- hact] at hr;refine wpIn_mono hr λe a1 w1 hq=>?_;obtain⟨f1,σ1,⟨ι1,G1'⟩,hq⟩:=hq
  cases e with
  | normal=>
   have hl1':=G1'.kept.mark (Gk.sim.Y4 hl) hl;have hD1':=G1'.kept.mark (Gk.sim.fE hD) hD;have Gc:=(Gk.MY (rd:=some (w.heap.size+1))).close_ G1';have hlt1:=(Ac.1 hl1').1;obtain⟨r6,hr6⟩:∃ r6,r6 = { rec .ready none with state:=.busy }:=⟨_,rfl⟩;have hbr:=run_beginRound (P:=C.P) hl1' (by rw [hrec]);rw [<- hr6] at hbr;have G2:=Gc.S5 (w':=w1.putObj (w.heap.size+1) (.loop r6)) (pM hl1' λ_ _ e=>by cases e) (.inr hws.symm) (.inr hws.symm) λx e=>by rw [hl1'] at e; cases e
   have hl2:(w1.putObj (w.heap.size+1) (.loop r6)).heap[w.heap.size+1]?=some (Obj.loop r6):=World.putObj_heap_same hlt1;have hD2:(w1.putObj (w.heap.size+1) (.loop r6)).heap[w.heap.size]?=some (Obj.deferred (some [])):=(World.putObj_heap_other (by omega)).trans hD1';refine⟨_,hbr,?_⟩;have hr2:=hq y hy _ _ _ ⟨ι1,G2.open_⟩;refine wpIn_mono hr2 λe a2 w2 hq2=>?_;obtain⟨f2,σ2,⟨ι2,G3⟩,rfl,f3,σ3,hwk,hJ3⟩:=hq2;have hl3:=G3.kept.mark (G2.sim.Y4 hl2) hl2;have hD3:=G3.kept.mark (G2.sim.fE hD2) hD2;obtain⟨ι3,G5⟩:=hwk _ a2 w2 ⟨ι2,G2.close_ G3⟩;have hend:=run_endRound (P:=C.P) none hl3;have hr7:({ r6 with state:=if (none:Option Code).isNone then .ready else .done,pending:=none }:Loop)= rec .ready none:=by rw [hr6,hrec]; rfl
   rw [hr7] at hend;have hlt2:=(Ac.1 hl3).1;have G6:=G5.S5 (w':=w2.putObj (w.heap.size+1) (.loop (rec .ready none))) (pM hl3 λ_ _ e=>by cases e) (.inr hws.symm) (.inr hws.symm) λx e=>by rw [hl3] at e; cases e
   exact⟨_,_,hend,rfl,σ3,ι3,hJ3,G'.back (rd:=some (w.heap.size+1)) (λ_ e=>by cases e) G6,World.putObj_heap_same hlt2,(World.putObj_heap_other (by omega)).trans hD3⟩
  | exit id=>exact hq.elim
  | goto t=>exact hq.elim
  | ret=>exact hq.elim
  | panic ch=>exact hq.elim
  | outgrown=>exact hq.elim
 ·rintro e W' ⟨⟨v,rfl⟩,σ',ι',hJ',Ge,hl,hD⟩
  obtain⟨r5,hend⟩:∃ r5,(Instr.endLoop (w.heap.size+1)).run C.P W' = .ok none (W'.putObj (w.heap.size+1) (.loop r5)):=by
   have hend:=run_endLoop (P:=C.P) hl (by rw [hrec]; simp);have hpe:(rec .ready none).pending=none:=by rw [hrec]
   rw [hpe] at hend;exact⟨_,hend⟩
  refine⟨none,_,hend,f,σ',⟨ι',?_⟩,done σ' hJ'⟩;have hlt:w.heap.size+1<W'.heap.size:=(Ac.1 hl).1;have G3:=Ge.S5 (w':=W'.putObj (w.heap.size+1) (.loop r5)) (pM hl λ_ _ e=>by cases e) (.inr hws.symm) (.inr hws.symm) λx e=>by rw [hl] at e; cases e
  have G4:=G'.end_ G3;have hD4:(W'.putObj (w.heap.size+1) (.loop r5)).heap[w.heap.size]?=some (Obj.deferred (some [])):=(World.putObj_heap_other (by omega)).trans hD;obtain⟨hB0,l0,hd1,hd2,hd3⟩:=G4.defers;obtain⟨_,l1,he1,_,he3⟩:=G.defers
  refine⟨G4.size,⟨hB0,w.heap.size :: l0,?_,?_,?_⟩,G4.nx,G4.kept,G4.sim,G4.old,G4.mS,G4.stay,G4.fr⟩
  ·show [_]++a.defers=_;rw [hd1]; rfl
  ·refine List.nodup_cons.2 ⟨λhm=>?_,hd2⟩;have hmem:({ target:=.collected w.heap.size,args:=#[] }:Deferred)∈ a.defers:=by rw [hd1]; exact γ.2 ⟨_,hm,rfl⟩
   rw [he1] at hmem;obtain⟨D,hDl,hDe⟩:=γ.1 hmem
   have hDw:D=w.heap.size:=by have:=congrArg Deferred.target hDe;simpa using this
   have:=(Ac.1 (he3 D hDl).1).1;omega
  ·intro D hD2
   rcases η.1 hD2 with rfl | hD2
   ·exact⟨hD4,G.defers.1⟩
   ·exact hd3 D hD2
end
end Go.Pd

/- Part B1. -/
set_option maxRecDepth 100000
namespace Go.Pd
open Go Go.Proofs Go.RowKit
theorem Q7 (l Bs o b off n cap:Nat) (sa:Option Addr) (va vb:Nat->Value) (J:Nat->World->Prop) (hn:n<=maxLen) (hsa:0<n->sa=some ⟨b,off,none⟩)
  (hRd:∀ k W,J k W->W.cell? ⟨Bs,o,none⟩= some (.slice sa n cap)/\ ∀ i,i<n->W.cell? ⟨b,off+i*2,none⟩= some (va i)/\ W.cell? ⟨b,off+i*2+1,none⟩= some (vb i)) (hdr:∀ k W,J k W->J k W.drew)
  (hY:∀ k W,k<n->J k W->YieldAt Fence.wide 0 prog l #[.int .i64 ((n-1-k:Nat):Int),.agg #[va (n-1-k),vb (n-1-k)]] W λe W'=>e = .returned (.bool true)/\ J (k+1) W') (W:World) (h0:J 0 W) :
  CallsIn Fence.wide 0 prog 191 #[.func (.yield l) #[] #[],.pointer (some ⟨Bs,o,none⟩)] W λe W'=>(∃ v,e = .returned v)/\ J n W':=by
 have hro:Fence.wide.round=none:=rfl;have hc0:=(hRd 0 W h0).1;refine callsIn_of_wp func191 rfl trivial ?_ hro;simp only [Tryz.ntmps191,List.size_toArray,List.length_cons,List.length_nil,Nat.reduceAdd,Nat.reduceSub,Array.replicate_succ,Array.replicate_zero,List.push_toArray,List.append_toArray,List.nil_append,List.cons_append]
 gi_wp2
 have hw1:wrap64 ((n:Int)-1)= (n:Int)-1:=by simp only [maxLen] at hn;unfold wrap64;omega
 rw [hw1]
 gi_loopw [3] (λi wr=>∃ k:Nat,k<=n/\i = .int .i64 ((n:Int)-1-k)/\ J k wr) (λi _=>(RowKit.intOf i+1).toNat)
 case atStart=>exact⟨0,Ab _,by simp,h0⟩
 case round=>
  obtain⟨k,hk,rfl,hJ⟩:=hrel;have hcb:=(hRd k wr hJ).1
  by_cases hlt:k<n
  ·obtain rfl:=hsa (by omega);obtain⟨q1,q2⟩:=(hRd k wr hJ).2 (n-1-k) (by omega);obtain⟨fn,tmps,assign,body,hy,hR⟩:=hY k wr hlt hJ;have hi:(n:Int)-1-k=((n-1-k:Nat):Int):=by omega
   have hi2:((n-1-k:Nat):Int)<(n:Int):=by omega
   rw [hi];generalize hm:n-1-k=m at *
   have hwm:wrap64 ((m:Int)-1)= (m:Int)-1:=by simp only [maxLen] at hn;unfold wrap64;omega
   gi_wp2
   refine⟨rfl,hR.mono ?_⟩;rintro e W3 ⟨rfl,hJ3⟩
   gi_wp2
   go_roundw
   case rel=>exact⟨k+1,by omega,by rw [hwm]; congr 1; omega,hJ3⟩
   case measure=>simp [RowKit.intOf,hwm]
  ·obtain rfl:k=n:=by omega
   have hi:(k:Int)-1-k = -1:=by omega
   rw [hi]
   gi_wp2
   go_end0
   exact⟨⟨_,rfl⟩,hJ⟩
theorem Ml : Oy prog 191:=⟨⟨f191,func191,by decide,rfl⟩,λl Bs o b off n cap sa va vb J hn hsa hRd hdr hY W h0=>Q7 l Bs o b off n cap sa va vb J hn hsa hRd hdr hY W h0⟩
end Go.Pd

/- Part KW. -/
namespace Go.Pd
open Go Go.Proofs
open BitVec renaming isValue -> ZA
open Rs Fm Ru Te Kb
theorem ja (l:List ClA):zX prog 132 [.sl 2 (clR l)] (.fn 191 [.ptr [.sl 2 (clR l)]]):=by
 refine xY.xP mixed func132 Ky (by simp) λhf=>?_;simp only [simprocAttr,-ZA,↓zU,↓zD,zV,zT,zW]
 (repeat refine sd ?_)
 exact .drop (by simp) (by simp [vw,vwL,D.xU,D.xL]; exact⟨_,rfl,rfl,rfl⟩)
namespace Kb
def oh (R:Nat) (g h:Nat->Int) (i:Nat):List Int:=(List.range R).map λw=>if w<i then g w else h w
theorem To (R:Nat) (g h:Nat->Int) (i:Nat):(oh R g h i).length=R:=by simp [oh]
theorem Wh (R:Nat) (g h:Nat->Int):oh R g h 0=(List.range R).map h:=by simp [oh]
theorem Tn (R:Nat) (g h:Nat->Int) {i:Nat} (hi:R<=i):oh R g h i=(List.range R).map g:=by refine ξ λf hf=>?_;rw [if_pos (by have:=ε.1 hf; omega)]
theorem Tp (R:Nat) (g h:Nat->Int) (i:Nat):(oh R g h i).set i (g i)= oh R g h (i+1):=by
 refine μ (by simp [oh]) λk h1 h2=>?_;rw [ω];simp only [oh,List.getElem_map,List.getElem_range]
 by_cases e:i=k
 ·subst e; rw [if_pos rfl,if_pos (by omega)]
 ·rw [if_neg e]
  by_cases hk:k<i
  ·rw [if_pos hk,if_pos (by omega)]
  ·rw [if_neg hk,if_neg (by omega)]
theorem Wg (R:Nat) {g h:Nat->Int} {i:Nat} (e:g i=h i):oh R g h (i+1)= oh R g h i:=by
 refine ξ λw _=>?_
 by_cases hw:w=i
 ·subst hw; rw [if_pos (by omega),if_neg (by omega)]; exact e
 ·by_cases h1:w<i
  ·rw [if_pos (by omega),if_pos h1]
  ·rw [if_neg (by omega),if_neg h1]
def pmO (R:Nat) (V:List (BitVec 64)) (RR:List (List (BitVec 64))):Ob:=⟨3,[[.int .i64 (R:Int),.sl 1 (us V),.sl 1 (rr RR)]]⟩
def mvF (p:PrA) (sts:List (List (BitVec 64))) (t a j:Nat):List Int:=(List.range sts.length).map λw=>sL p.see sts t a w ((p.code.getD a []).drop j)
def mvE (p:PrA) (sts:List (List (BitVec 64))) (t a:Nat):List (List (List D)):=(List.range a).map λb=>rows .i64 (mvF p sts t b 0)
theorem fD (p:PrA) (sts:List (List (BitVec 64))) (t a:Nat):(mvE p sts t a).length=a:=by simp [mvE]
theorem de (p:PrA) (sts:List (List (BitVec 64))) (t a:Nat):mvE p sts t (a+1)= mvE p sts t a ++ [rows .i64 (mvF p sts t a 0)]:=by unfold mvE; rw [List.range_succ,List.map_append]; rfl
theorem Qs (p:PrA) (sts:List (List (BitVec 64))) (t:Nat):mvE p sts t p.see.length=(mT p sts t).map (rows .i64):=by simp only [mvE,mT,π];rfl
structure QP where
 a:Nat
 nx:Nat
 kO:Nat
 ks:List Nat
 xZ:List (Nat × Ob)
structure IP (p : PrA) (sts : List (List (BitVec 64))) (t : Nat) (mO : Ob) (x : QP) : Prop where
 ha:x.a<=p.see.length
 n0:1<=x.nx
 h0:St.look x.xZ 0=some mO
 kO:0<x.kO/\x.kO<x.nx\/x.a=0
 kl:x.ks.length=x.a
 ks:∀ k ∈ x.ks,0<k/\k<x.nx
 nd:x.ks.Nodup
 no:x.a≠0->x.kO ∉ x.ks
 nst:x.a≠0->Nst x.xZ x.kO x.ks (mvE p sts t x.a)
def om (kO a:Nat):D:=if a=0 then .xK else .osl kO 1 a
theorem IP.step {p:PrA} {sts:List (List (BitVec 64))} {t:Nat} {mO:Ob} {x:QP} (h:IP p sts t mO x) (hal:x.a<p.see.length) {m:Nat} {ob:List (Nat × Ob)} (hm:x.nx+3<=m) (hout:St.look ob (m+1)= some ⟨1,pF (x.ks ++ [x.nx+1]) (mvE p sts t (x.a+1))⟩)
  (hnew:St.look ob (x.nx+1)= some ⟨1,rows .i64 (mvF p sts t x.a 0)⟩) (hold:∀ k,k<x.nx->(x.a=0\/k≠x.kO)->St.look ob k=St.look x.xZ k):IP p sts t mO ⟨x.a+1,m+1+1,m+1,x.ks ++ [x.nx+1],ob⟩ where
 ha:=by show x.a+1<=_; omega
 n0:=by show 1<=m+1+1; omega
 h0:=by have:=h.n0;show St.look ob 0=_;rw [hold 0 (by omega) (by have:=h.kO; omega)];exact h.h0
 kO:=.inl ⟨by show 0<m+1; omega,by show m+1<m+1+1; omega⟩
 kl:=by simp [h.kl]
 ks:=λk hk=>by
  rcases List.mem_append.1 hk with hk | hk
  ·have:=h.ks k hk;exact⟨this.1,by show k<m+1+1; omega⟩
  ·rw [δ.1 hk]; exact⟨by omega,by show x.nx+1<m+1+1; omega⟩
 nd:=by refine List.nodup_append.2 ⟨h.nd,by simp,λk hk j hj e=>?_⟩;have:=h.ks k hk;rw [δ.1 hj] at e;omega
 no:=λ_ hk=>by
  have hk:m+1 ∈ x.ks ++ [x.nx+1]:=hk
  rcases List.mem_append.1 hk with hk | hk
  ·have:=h.ks _ hk; omega
  ·have:=δ.1 hk; omega
 nst :=λ_=>{
  out:=hout
  len:=by rw [fD]; simp [h.kl]
  each:=λi hi=>by
   rw [fD] at hi;have hi:i<x.a+1:=hi;show St.look ob ((x.ks ++ [x.nx+1]).getD i 0)= some ⟨1,(mvE p sts t (x.a+1)).getD i []⟩;rw [de]
   by_cases e:i=x.a
   ·subst e;have e1:(x.ks ++ [x.nx+1]).getD x.a 0=x.nx+1:=by simp [List.getD,<- h.kl]
    have e2:(mvE p sts t x.a ++ [rows .i64 (mvF p sts t x.a 0)]).getD x.a []=rows .i64 (mvF p sts t x.a 0):=by have:=fD p sts t x.a;simp [List.getD,List.getElem?_append,this]
    rw [e1,e2]; exact hnew
   ·have hia:i<x.ks.length:=by rw [h.kl]; omega
    have hia2:i<(mvE p sts t x.a).length:=by rw [fD]; omega
    have e1:(x.ks ++ [x.nx+1]).getD i 0=x.ks.getD i 0:=by simp [List.getD,ο hia]
    have e2:(mvE p sts t x.a ++ [rows .i64 (mvF p sts t x.a 0)]).getD i []=(mvE p sts t x.a).getD i []:=by simp [List.getD,ο hia2]
    rw [e1,e2];have hmem:=uD hia;have hlt:=h.ks _ hmem;have ha0:x.a≠0:=by omega
    rw [hold _ hlt.2 (.inr λe=>h.no ha0 (e ▸ hmem))];exact(h.nst ha0).each i hia2 }
end Kb
theorem l8 {n:Nat} (hn:1<=n/\n<=64) (σ:St):xY prog 131 [.sl 1 [[.int .i64 (-1)]],.int .i64 (n:Int)] σ (.osl σ.nx 1 n) ⟨σ.nx+1,(σ.nx,⟨1,rows .i64 (List.replicate n (-1))⟩) :: σ.xZ⟩:=by have h:=Z0 (d:=.int .i64 (-1)) rfl rfl hn;rw [Qw] at h;exact xY.N2 h rfl (uX _ _)
theorem pg {p:PrA} {F:Nat} (hv:PrV p F) {sts:List (List (BitVec 64))} {t:Nat} (ok:PlG p F sts t) :
  xY prog 76 [plD p sts,.int .i64 t] St0 (.osl 0 1 p.see.length) ⟨1+p.see.length,X0 ((mT p sts t).map (rows .i64))⟩:=by
 have hm:=Tw ok.ok;have hH:=λf hE=>Qb ok (f:=f) hE;have hK:=λa w (ha:a<p.see.length) (hw:w<sts.length) f=>Up ok ha hw f;have hR:=ok.hR;have hA:=ok.hA;have hll:(yA sts.length 0).length=sts.length:=vU _ _;have hRl:(qH (vK p.see sts t) (yA sts.length 0) p.see.length).length=p.see.length:=by simp [qH]
 have hRg:∀ a,a<p.see.length->(qH (vK p.see sts t) (yA sts.length 0) p.see.length).getD a []=rC (vK p.see sts t) (yA sts.length 0) a:=λa ha=>by simp [qH,List.getD,ha]
 have hrl:∀ a,(rC (vK p.see sts t) (yA sts.length 0) a).length=sts.length:=λa=>by simp [rC,hll]
 have hrg:∀ a w,w<sts.length->(rC (vK p.see sts t) (yA sts.length 0) a).getD w 0=Ru.fY (vK p.see sts t) (yA sts.length 0) a (yJ (vK p.see sts t) a (w,0)) sts.length:=λa w hw=>by simp [rC,yA,List.getD,hw]
 unfold Vb Vf at hm hH;rw [hll] at hm hH;generalize lI (vK p.see sts t) (yA sts.length 0) F=V at *;generalize qH (vK p.see sts t) (yA sts.length 0) p.see.length=RR at *;unfold plD plC at *;refine xY.xP mixed func76 k76 (by simp) λhf=>?_;simp only [simprocAttr,-ZA,↓zU,↓zD,zV,zT,zW];refine .go (cr hm) ?_;simp only [simprocAttr,-ZA,↓zU,↓zD,zV,zT,zW,oJ,hv.hC]
 (repeat refine sd ?_)
 refine xT (λx:QP=>[(24,.int .i64 x.a),(23,.int .i64 p.see.length),(22,.sl 1 (cdR p.code)),(6,om x.kO x.a),(5,.ref 0 3 0 0)]) (λx=>⟨x.nx,x.xZ⟩)
  (IP p sts t (pmO sts.length V RR)) (λx=>p.see.length-x.a) ⟨0,1,0,[],[(0,pmO sts.length V RR)]⟩ ⟨Ab _,Aa _,rfl,.inr rfl,rfl,by simp,.nil,λh=>absurd rfl h,λh=>absurd rfl h⟩ ?_ ?_
 ·unfold pmO om
  (refine xN.same ?_; simp [xQ,Fr.get])
 rintro ⟨a,nx,kO,ks,xZ⟩ hI;obtain⟨ha,n0,h0,hkO,hkl,hks,hnd,hno,hnst⟩:=hI;simp only at ha n0 h0 hkO hkl hks hnd hno hnst;refine xO mixed ?_;by_cases hal:a<p.see.length
 case neg=>
  have hd:¬ ((a:Int)<(p.see.length:Int)):=by omega
  obtain rfl:a=p.see.length:=by omega
  have ha0:p.see.length≠0:=by omega
  unfold om;rw [if_neg ha0];simp only [simprocAttr,-ZA,↓zU,↓zD,zV,zT,zW,hd];have hn:=hnst ha0;rw [Qs] at hn;have hl2:((mT p sts t).map (rows .i64)).length=p.see.length:=by simp [mT]
  have hr:=jM.nst (nx:=nx) hn hl2.symm hnd (hno ha0) λe he r hr=>by simp only [γ] at he;obtain⟨m,_,rfl⟩:=he;exact uX _ _ r hr
  rw [hl2] at hr;exact hr
 have hd:((a:Int)<(p.see.length:Int)):=by omega
 have hac:a<p.code.length:=by rw [hv.hC]; exact hal
 have hdc:((a:Int)<(p.code.length:Int)):=by omega
 have hg:=kp p.code hac;have hmem:=xR (d:=[]) hac;have hbw:=ja (p.code.getD a [])
 have hF0:mvF p sts t a (p.code.getD a []).length=List.replicate sts.length (-1):=by unfold mvF;rw [List.drop_length];refine τ.2 ⟨by simp,λx hx=>?_⟩;simp only [γ] at hx;obtain⟨w,_,rfl⟩:=hx;rfl
 have hF1:∀ j w,j<(p.code.getD a []).length->sL p.see sts t a w ((p.code.getD a []).drop j)= if knT p.see sts t a ((p.code.getD a []).getD j cl0).test w=true then((p.code.getD a []).getD j cl0).mv else sL p.see sts t a w ((p.code.getD a []).drop (j+1)):=λj w hj=>by rw [drop_cons (d:=cl0) hj]; rfl
 have hFm:∀ j,mvF p sts t a j=(List.range sts.length).map λw=>sL p.see sts t a w ((p.code.getD a []).drop j):=λj=>rfl;have hsu:=de p sts t a
 have hE:∀ j,j<(p.code.getD a []).length->fmE p ((p.code.getD a []).getD j cl0).test 15=0:=λj hj=>by
  have:=hv.code _ hmem _ (xR (d:=cl0) hj);unfold clE at this
  split at this
  ·rename_i h1; exact absurd this h1
  ·rename_i h1; simpa using h1
 have hl6:=hv.cl _ hmem;generalize p.code.getD a []=cl at *;have c0:¬ (nx=0):=by omega
 simp only [simprocAttr,-ZA,↓zU,↓zD,zV,zT,zW,hd,hdc,oJ,hg,h0,pmO,c0]
 (repeat refine sd ?_)
 refine .go (l8 ⟨hR.1,by omega⟩ _) ?_;simp only [simprocAttr,-ZA,↓zU,↓zD,zV,zT,zW]
 (repeat refine sd ?_)
 refine .go (cr hbw) ?_;simp only [simprocAttr,-ZA,↓zU,↓zD,zV,zT,zW]
 refine VJ rfl Ml rfl (.inl rfl) ⟨by decide,by decide⟩ (λk σk=>∃ m ob,σk=⟨m,ob⟩/\ nx+3<=m/\St.look ob (nx+1+1)= some ⟨1,[[.osl (nx+1) 1 sts.length]]⟩/\ St.look ob (nx+1)= some ⟨1,rows .i64 (mvF p sts t a (cl.length-k))⟩/\ St.look ob nx=some ⟨1,[[.int .i64 a]]⟩/\ ∀ k,k<nx->St.look ob k=St.look xZ k) ?_ ?_ ?_
 ·refine⟨_,_,rfl,Aa _,?_,?_,?_,λk hk=>?_⟩
  ·rw [xX,if_pos rfl]
  ·rw [xX,if_neg (by omega),xX,if_pos rfl,Nat.sub_zero,hF0]
  ·rw [xX,if_neg (by omega),xX,if_neg (by omega),xX,if_pos rfl]
  ·rw [xX,if_neg (by omega),xX,if_neg (by omega),xX,if_neg (by omega)]
 ·intro l k σk hk ⟨m,ob,e0,hm3,h2,h1,hx,hold⟩;subst e0;rw [iY] at hk ⊢;have hj:cl.length-1-k<cl.length:=by omega
  have hg1:=Zo cl hj;have hE1:=hE _ hj;have hF2:=λw=>hF1 (cl.length-1-k) w hj;rw [show cl.length-1-k+1=cl.length-k by omega] at hF2;have e1:cl.length-(k+1)= cl.length-1-k:=by omega
  rw [e1];have hm1:=hFm (cl.length-k);have hm2:=hFm (cl.length-1-k);generalize cl.length-1-k=j at *;generalize cl.length-k=j1 at *;have hH1:=hH _ hE1;generalize cl.getD j cl0=c at *;unfold ClA.row at hg1;have h0':St.look ob 0=some (pmO sts.length V RR):=by rw [hold 0 (by omega)]; exact h0
  unfold pmO at h0';have q1:¬ (m=nx+1+1):=by omega
  have q2:¬ (m=nx+1):=by omega
  have q3:¬ (m=nx):=by omega
  have q4:¬ (m=0):=by omega
  refine xO mixed ?_;simp only [simprocAttr,-ZA,↓zU,↓zD,zV,zT,zW,hg1]
  (repeat refine sd ?_)
  refine xO mixed ?_;simp only [simprocAttr,-ZA,↓zU,↓zD,zV,zT,zW,q1,q2,q3,q4,h0',h1,h2,hx]
  (repeat refine sd ?_)
  refine .go (cr hH1) ?_;simp only [simprocAttr,-ZA,↓zU,↓zD,zV,zT,zW,q1,q2,q3,q4,h0',h1,h2,hx]
  (repeat refine sd ?_)
  have hga:=mM RR (show a<RR.length by omega);rw [hRg a hal] at hga;have hla:=hrl a;have hda:((a:Int)<(RR.length:Int)):=by omega
  refine xT (λx:Nat × List (Nat × Ob)=>[(46,.int .i64 x.1),(45,.int .i64 sts.length),(12,.int .u64 (ui (Nh p.see sts t c.test))),(11,.ref m 2 0 0),(9,.ref (nx+1+1) 1 0 0),(7,.ref nx 1 0 0),(5,.ref 0 3 0 0)]) (λx=>⟨m+1,x.2⟩)
   (λx=>x.1<=sts.length/\St.look x.2 m=some ⟨2,[[.sl 6 (ndR c.test),.int .i64 c.mv]]⟩/\ St.look x.2 (nx+1)= some ⟨1,rows .i64 (oh sts.length (λw=>sL p.see sts t a w (cl.drop j)) (λw=>sL p.see sts t a w (cl.drop j1)) x.1)⟩/\ ∀ k,k<m->k≠nx+1->St.look x.2 k=St.look ob k)
   (λx=>sts.length-x.1) (0,(m,⟨2,[[.sl 6 (ndR c.test),.int .i64 c.mv]]⟩) :: ob) ⟨Ab _,by rw [xX,if_pos rfl],by rw [xX,if_neg (by omega),h1,hm1,Wh],λk hk _=>by rw [xX,if_neg (by omega)]⟩ ?_ ?_
  ·(refine xN.same ?_; simp [xQ,Fr.get])
  rintro ⟨w,ob'⟩ ⟨hw,g1,g2,g3⟩;simp only at hw g1 g2 g3;have g4:St.look ob' (nx+1+1)= some ⟨1,[[.osl (nx+1) 1 sts.length]]⟩:=by rw [g3 _ (by omega) (by omega)]; exact h2
  have g5:St.look ob' nx=some ⟨1,[[.int .i64 a]]⟩:=by rw [g3 _ (by omega) (by omega)]; exact hx
  have g6:St.look ob' 0=some ⟨3,[[.int .i64 (sts.length:Int),.sl 1 (us V),.sl 1 (rr RR)]]⟩:=by rw [g3 _ (by omega) (by omega)]; exact h0'
  refine xO mixed ?_;by_cases hwl:w<sts.length
  case neg=>
   have hd3:¬ ((w:Int)<(sts.length:Int)):=by omega
   rw [Tn _ _ _ (by omega),<- hm2] at g2;simp only [simprocAttr,-ZA,↓zU,↓zD,zV,zT,zW,hd3];exact⟨[],⟨m+1,ob'⟩,xN.same trivial,m+1,ob',rfl,by omega,g4,g2,g5,λk hk=>by rw [g3 k (by omega) (by omega)]; exact hold k hk⟩
  have hd3:((w:Int)<(sts.length:Int)):=by omega
  have hgw:=vI (rC (vK p.see sts t) (yA sts.length 0) a) (show w<_ by rw [hla]; exact hwl);rw [hrg a w hwl] at hgw;have hkn:=hK a w hal hwl c.test;generalize Ru.fY (vK p.see sts t) (yA sts.length 0) a (yJ (vK p.see sts t) a (w,0)) sts.length=xr at hgw hkn;have hF3:=hF2 w;have hms:=Tp sts.length (λw=>sL p.see sts t a w (cl.drop j)) (λw=>sL p.see sts t a w (cl.drop j1)) w;have hml:=To sts.length (λw=>sL p.see sts t a w (cl.drop j)) (λw=>sL p.see sts t a w (cl.drop j1)) w;have hme:=@Wg sts.length (λw=>sL p.see sts t a w (cl.drop j)) (λw=>sL p.see sts t a w (cl.drop j1)) w
  cases hc:knT p.see sts t a c.test w with
  | false=>
   rw [hc] at hkn hF3;rw [if_neg (by simp)] at hF3;simp only [simprocAttr,-ZA,↓zU,↓zD,zV,zT,zW,hd3,g1,g2,g4,g5,g6,hda,hga,hla,hgw,hkn,zJ,xI]
   (repeat refine sd ?_)
   refine⟨(w+1,ob'),⟨by show w+1<=_; omega,g1,by show St.look ob' _=some ⟨1,rows .i64 (oh _ _ _ (w+1))⟩; rw [hme hF3]; exact g2,g3⟩,?_,by show sts.length-(w+1)<sts.length-w; omega⟩
   (refine xN.same ?_; simp only [xQ,Fr.get,simprocAttr,-ZA,zS])
   exact wrap_i64 (by omega)
  | true=>
   rw [hc] at hkn hF3;rw [if_pos rfl] at hF3;rw [hF3] at hms;generalize oh sts.length (λw=>sL p.see sts t a w (cl.drop j)) (λw=>sL p.see sts t a w (cl.drop j1)) w=M at *;have hgM:=yV .i64 M (show w<M.length by omega);simp only [simprocAttr,-ZA,↓zU,↓zD,zV,zT,zW,hd3,g1,g2,g4,g5,g6,hda,hga,hla,hgw,hkn,zJ,xI,yZ,hml,hgM,fp,hms]
   (repeat refine sd ?_)
   refine⟨(w+1,vN ob' (nx+1) ⟨1,rows .i64 (oh sts.length (λw=>sL p.see sts t a w (cl.drop j)) (λw=>sL p.see sts t a w (cl.drop j1)) (w+1))⟩),⟨by show w+1<=_; omega,?_,?_,λk hk hk2=>?_⟩,?_,by show sts.length-(w+1)<sts.length-w; omega⟩
   ·show St.look (vN _ _ _) _=_;rw [xW,if_neg (by omega)]; exact g1
   ·show St.look (vN _ _ _) _=_;rw [xW,if_pos rfl,g2]; rfl
   ·show St.look (vN _ _ _) _=_;rw [xW,if_neg (λe=>hk2 e.symm)]; exact g3 k hk hk2
   ·(refine xN.same ?_; simp only [xQ,Fr.get,simprocAttr,-ZA,zS])
    exact wrap_i64 (by omega)
 ·intro σ' ⟨m,ob,e0,hm3,h2,h1,hx,hold⟩;subst e0;rw [iY,Nat.sub_self] at h1;have hI:IP p sts t (pmO sts.length V RR) ⟨a,nx,kO,ks,xZ⟩:=⟨ha,n0,h0,hkO,hkl,hks,hnd,hno,hnst⟩;have hRl2:(mvF p sts t a 0).length=sts.length:=by simp [mvF]
  have q1:¬ (m=nx+1+1):=by omega
  by_cases ha0:a=0
  ·subst ha0;unfold om;simp only [simprocAttr,-ZA,↓zU,↓zD,zV,zT,zW,h2,q1]
   (repeat refine sd ?_)
   refine⟨⟨0+1,m+1+1,m+1,ks ++ [nx+1],(m+1,⟨1,[[.osl (nx+1) 1 sts.length]]⟩) :: (m,⟨1,[[.osl (nx+1) 1 sts.length]]⟩) :: ob⟩,IP.step hI hal hm3 ?_ ?_ ?_,?_,by show p.see.length-(0+1)<_; omega⟩
   ·rw [xX,if_pos rfl];show _=some (Ob.mk 1 (pF (ks ++ [nx+1]) (mvE p sts t (0+1))));obtain rfl:ks = []:=List.eq_nil_of_length_eq_zero hkl;rw [hsu];simp [pF,mvE,yZ,hRl2]
   ·rw [xX,if_neg (by show ¬ m+1=nx+1; omega),xX,if_neg (by show ¬ m=nx+1; omega)];exact h1
   ·intro k hk _;have hk:k<nx:=hk;rw [xX,if_neg (by omega),xX,if_neg (by omega)];exact hold k hk
   ·simp only [Nat.zero_add,Nat.one_ne_zero,↓reduceIte]
    (refine xN.same ?_; simp only [xQ,Fr.get,simprocAttr,-ZA,zS])
    all_goals rfl
  ·have hkO2:0<kO/\kO<nx:=by rcases hkO with h | h <;> omega
   have hn:=hnst ha0;have ho:=hn.out;unfold om;rw [if_neg ha0];have ho2:St.look ob kO=some ⟨1,pF ks (mvE p sts t a)⟩:=by rw [hold kO hkO2.2]; exact ho
   have q2:¬ (m=kO):=by omega
   have hnl:=tN hn.len;rw [fD] at hnl;have htk:(pF ks (mvE p sts t a)).take a=pF ks (mvE p sts t a):=ζ (by omega);simp only [simprocAttr,-ZA,↓zU,↓zD,zV,zT,zW,h2,q1,q2,ho2,hnl,htk]
   (repeat refine sd ?_)
   refine⟨⟨a+1,m+1+1,m+1,ks ++ [nx+1],(m+1,⟨1,pF ks (mvE p sts t a)++ [[.osl (nx+1) 1 sts.length]]⟩) :: (m,⟨1,[[.osl (nx+1) 1 sts.length]]⟩) :: yC ob kO⟩,IP.step hI hal hm3 ?_ ?_ ?_,?_,by show p.see.length-(a+1)<_; omega⟩
   ·rw [xX,if_pos rfl];show _=some (Ob.mk 1 (pF (ks ++ [nx+1]) (mvE p sts t (a+1))));have:=ry hn.len (nx+1) (rows .i64 (mvF p sts t a 0));rw [yZ,hRl2] at this;rw [this,hsu]
   ·rw [xX,if_neg (by show ¬ m+1=nx+1; omega),xX,if_neg (by show ¬ m=nx+1; omega),xM,if_neg (by show ¬ kO=nx+1; omega)];exact h1
   ·intro k hk hk2;have hk:k<nx:=hk;have hk2:k≠kO:=hk2.resolve_left ha0;rw [xX,if_neg (by omega),xX,if_neg (by omega),xM,if_neg (λe=>hk2 e.symm)];exact hold k hk
   ·simp only [Nat.add_one_ne_zero,↓reduceIte]
    (refine xN.same ?_; simp only [xQ,Fr.get,simprocAttr,-ZA,zS])
    exact wrap_i64 (by omega)
end Go.Pd
