/- Part SM. -/
import Derived.Test.YtndfaefmmcoapaaGreatUcKI
import Derived.Test.YtndfaefmmcoapaaGreatUcX9
import Derived.RangeFuncIn
import Derived.RangeFuncRecord
import Derived.RangeFuncSeq
import Derived.Test.YtndfaefmmcoapaaGreatUcCode
import Derived.RangeFuncBox
import Derived.RangeFuncLeaves
import Derived.WalkKit
import Derived.OwnWalkIn
import Derived.TacticsInMore
import Derived.LoopNIn
import Derived.LoopIn
set_option linter.unusedSectionVars false
set_option linter.unusedVariables false
set_option linter.unusedSimpArgs false
set_option linter.defProp false
set_option maxRecDepth 20000
set_option maxHeartbeats 1000000
open Go.Proofs.Tryz
open List renaming mem_map->γ,mem_singleton->δ,mem_range->ε,take_of_length_le->ζ,mem_cons->η,any_eq_false->θ,filter_cons->κ,ext_getElem->μ,range'->ν,map_congr_left->ξ,getElem?_append_left->ο,map_map->π,eq_replicate_iff->τ,mem_cons_of_mem->υ,foldl_append->χ,getElem_set->ω
open Nat renaming le_refl->Aa,zero_le->Ab
open Array renaming getElem?_eq_some_iff->Ac
open Bool renaming eq_false_iff->Ad
open And renaming intro->Ae
namespace Go.Pd
open Go Go.Proofs
open BitVec renaming isValue -> ZA
open Ru
namespace Ru
def lG (rs:List xC) (A T:Nat) (kf:Nat->Nat × Nat->List Int):List xC:=kP rs A T (sY kf (rO T (rs.length*T)))
theorem sg (rs:List xC) (A T:Nat) (num:Nat->Nat × Nat->Int):(kP rs A T num).length=rs.length:=by simp [kP]
theorem Xx {rs:List xC} {A T:Nat} {num:Nat->Nat × Nat->Int} {i:Nat} (h:i<rs.length):(kP rs A T num).getD i uX=⟨(List.range T).map λt=>(List.range A).map λa=>num a (i,t),(rs.getD i uX).nW⟩:=by simp [kP,List.getD,h]
theorem a8 {rs:List xC} {A T:Nat} {num:Nat->Nat × Nat->Int} {a:Nat} {p:Nat × Nat} (ha:a<A) (hp:p.1<rs.length/\p.2<T):yV (kP rs A T num) a p=num a p:=by unfold yV;rw [Xx hp.1];simp [List.getD,hp.2,ha]
theorem Oq {rs:List xC} {A F T:Nat} {num:Nat->Nat × Nat->Int} (ok:jH rs A F T):jH (kP rs A T num) A F T where
 hA:=ok.hA
 hF:=ok.hF
 hT:=ok.hT
 hR:=by rw [sg]; exact ok.hR
 hP:=by rw [sg]; exact ok.hP
 loc:=λr hr=>by simp only [kP,γ] at hr;obtain⟨i,_,rfl⟩:=hr;simp
 nW:=λr hr=>by simp only [kP,γ,ε] at hr;obtain⟨i,hi,rfl⟩:=hr;exact ok.nW (rs.getD i uX) (xL hi)
 row:=λr hr l hl=>by simp only [kP,γ] at hr;obtain⟨i,_,rfl⟩:=hr;simp only [γ] at hl;obtain⟨t,_,rfl⟩:=hl;simp
 val:=λr hr=>by simp only [kP,γ,ε] at hr;obtain⟨i,hi,rfl⟩:=hr;exact ok.val (rs.getD i uX) (xL hi)
theorem filter_le {p q:List Int->Bool}:∀ {m:List (List Int)},(∀ y ∈ m,p y=true->q y=true)->(m.filter p).length<=(m.filter q).length
 | [],_=>Aa _
 | y :: m,h=>by
  have ih:=filter_le (p:=p) (q:=q) (m:=m) λz hz=>h z (υ _ hz);have h0:=h y (by simp);rw [κ,κ]
  cases hp:p y
  ·cases hq:q y
   ·simpa using ih
   ·simp; omega
  ·rw [h0 hp]; simpa using ih
theorem filter_lt {p q:List Int->Bool} {x:List Int}:∀ {m:List (List Int)},(∀ y ∈ m,p y=true->q y=true)->x ∈ m->p x=false->q x=true->(m.filter p).length<(m.filter q).length
 | [],_,hx,_,_=>by cases hx
 | y :: m,h,hx,hp,hq=>by
  have h':∀ z ∈ m,p z=true->q z=true:=λz hz=>h z (υ _ hz);rw [κ,κ]
  rcases η.1 hx with e | e
  ·subst e;have:=filter_le h';rw [hp,hq];simp; omega
  ·have ih:=filter_lt h' e hp hq;have h0:=h y (by simp)
   cases hpy:p y
   ·cases hqy:q y
    ·simpa using ih
    ·simp; omega
   ·rw [h0 hpy]; simpa using ih
theorem XI {m:List (List Int)} {x y:List Int} (hx:x ∈ m) (h:kc x y<0):below m x<below m y:=by unfold below;refine filter_lt (x:=x) (λz _ hz=>?_) hx (by rw [bl]; rfl) (by simpa using h);have:=of_decide_eq_true hz;exact decide_eq_true (aS this h)
theorem Tg {m:List (List Int)} {x y:List Int} (hx:x ∈ m) (hy:y ∈ m):below m x=below m y ↔ x=y:=by
 refine⟨λh=>?_,λh=>by rw [h]⟩;have a:=lO x y
 by_cases h1:kc x y<0
 ·have:=XI hx h1; omega
 ·by_cases h2:kc y x<0
  ·have:=XI hy h2; omega
  ·exact vn (by omega)
theorem bM {T R:Nat} {p:Nat × Nat} (hp:p.1<R/\p.2<T):p ∈ rO T (R*T):=by obtain⟨r,t⟩:=p;simp only at hp;simp only [rO,γ,ε];have hm:=Nat.mul_le_mul_right T (show r+1<=R from hp.1);rw [Nat.succ_mul] at hm;refine⟨r*T+t,by omega,?_⟩;rw [Nat.mul_comm,Nat.mul_add_div (by omega),Nat.div_eq_of_lt hp.2,Nat.mul_add_mod,Nat.mod_eq_of_lt hp.2];rfl
theorem W0 {kf:Nat->Nat × Nat->List Int} {T R a:Nat} {p:Nat × Nat} (hp:p.1<R/\p.2<T):kf a p ∈ dedup (tK ((rO T (R*T)).map (kf a))):= Tw.2 ((jI _).mem_iff.2 (List.mem_map_of_mem (bM hp)))
theorem RB {kf:Nat->Nat × Nat->List Int} {T R a:Nat} {p q:Nat × Nat} (hp:p.1<R/\p.2<T) (hq:q.1<R/\q.2<T):sY kf (rO T (R*T)) a p=sY kf (rO T (R*T)) a q ↔ kf a p=kf a q:=by unfold sY;rw [<- Tg (W0 hp) (W0 hq)];omega
theorem aZ (rs:List xC) (A T:Nat) (kf:Nat->Nat × Nat->List Int):(lG rs A T kf).length=rs.length:=sg _ _ _ _
theorem WD {rs:List xC} {A F T:Nat} {kf:Nat->Nat × Nat->List Int} (ok:jH rs A F T):jH (lG rs A T kf) A F T:=Oq ok
theorem gK {rs:List xC} {A T:Nat} {kf:Nat->Nat × Nat->List Int} {a:Nat} {p q:Nat × Nat} (ha:a<A) (hp:p.1<rs.length/\p.2<T) (hq:q.1<rs.length/\q.2<T):yV (lG rs A T kf) a p=yV (lG rs A T kf) a q ↔ kf a p=kf a q:=by unfold lG;rw [a8 ha hp,a8 ha hq,RB hp hq]
end Ru
theorem Nh {rs:List xC} {A F T:Nat} (ok:jH rs A F T):yU prog 50 [sD A F T rs] (.wK [sD A F T (lG rs A T (pQ rs)),.int .i64 0]):=by
 have h:=qd ok (Ni ok);unfold lG;generalize kP rs A T (sY (pQ rs) (rO T (rs.length*T)))= rs' at h ⊢;unfold sD at h ⊢;refine xY.xN mixed func50 FQ (by simp) λhf=>?_;simp only [simprocAttr,-ZA,↓zU,↓zD,zV,zT,zW]
 (repeat refine sd ?_)
 refine .go h ?_;simp only [simprocAttr,-ZA,↓zU,↓zD,zV,zT,zW];exact .drop (by simp) (by simp [vw,vI])
theorem ZV {rs:List xC} {A F T:Nat} (ok:jH rs A F T):yU prog 51 [sD A F T rs] (.wK [sD A F T (lG rs A T (nQ rs)),.int .i64 0]):=by
 have h:=qd ok (ZW ok);unfold lG;generalize kP rs A T (sY (nQ rs) (rO T (rs.length*T)))= rs' at h ⊢;unfold sD at h ⊢;refine xY.xN mixed func51 FR (by simp) λhf=>?_;simp only [simprocAttr,-ZA,↓zU,↓zD,zV,zT,zW]
 (repeat refine sd ?_)
 refine .go h ?_;simp only [simprocAttr,-ZA,↓zU,↓zD,zV,zT,zW];exact .drop (by simp) (by simp [vw,vI])
open Rs Fm Ru Te Kb
namespace Kb
theorem js {rs:List xC} {A F T:Nat} (ok:jH rs A F T) {f:List Nd} (hc:yT f=0) (hfr:(tY .andNot .i64 (wT f:Int) 15 != 0)= false) (hft:tU f A F=true):rN A F (iD f)= true:=by
 have h16:wT f<16:=Ln ⟨wT f,gC f⟩ hfr;have ha:∀ n:Fin 16,n.val &&& 3824=0/\n.val &&& 256=0:=by decide
 have hE:dR ⟨A,F,T,rs⟩ f=0:=by unfold dR;rw [if_neg (by simpa using bK ok),if_neg (by simpa using hc),qw (gC f),if_neg (by simp [(ha ⟨wT f,h16⟩).1])];simp only;rw [if_neg (by rw [hft]; simp)]
 exact(Yq rfl (bK ok) ok hE (ha ⟨wT f,h16⟩).2).1
theorem Vv {p:yA} {f:List Nd} {fr:Int} (h:ve p f fr=0):yT f=0/\(tY .andNot .i64 (wT f:Int) fr != 0)= false/\tU f p.xK.length p.F=true:=by
 unfold ve at h
 by_cases h1:yT f=0
 ·rw [if_neg (by simpa using h1)] at h
  cases h2:(tY .andNot .i64 (wT f:Int) fr != 0) with
  | true=>rw [h2,if_pos rfl] at h; cases h
  | false=>
   rw [h2,if_neg (by simp)] at h
   cases h3:tU f p.xK.length p.F with
   | true=>exact⟨h1,rfl,rfl⟩
   | false=>rw [h3] at h; cases h
 ·rw [if_pos h1] at h; exact absurd h h1
structure NH (p : yA) (F : Nat) (sts : List (List (BitVec 64))) (t : Nat) : Prop where
 fe:p.F=(F:Int)
 hF:F<=8
 hA:1<=p.xK.length/\p.xK.length<=4
 hR:1<=sts.length/\sts.length<=16
 len:∀ st ∈ sts,t<st.length
 ht:t<=1000
 val:∀ st ∈ sts,∀ s ∈ st,s >>> F=0#64
theorem NH.ok {p:yA} {F:Nat} {sts:List (List (BitVec 64))} {t:Nat} (h:NH p F sts t):Kg p F sts t:=⟨h.fe,h.hF,h.hA.2,by have:=h.hR.2; omega,h.len,h.ht⟩
theorem NH.time {p:yA} {F:Nat} {sts:List (List (BitVec 64))} {t:Nat} (h:NH p F sts t):jH (vV p.xK sts t) p.xK.length F 1:= P4 h.hA.2 h.hF ⟨h.hR.1,by have:=h.hR.2; omega⟩ λw hw=>h.val _ (xL hw) _ (xL (h.len _ (xL hw)))
def Mj (xK:List (BitVec 64)) (sts:List (List (BitVec 64))) (t:Nat) (f:List Nd) (v:Nat):Bool:=Pb (vV xK sts t) xK.length 1 (iD f) (v,0)
def L9 (xK:List (BitVec 64)) (sts:List (List (BitVec 64))) (t a:Nat) (f:List Nd) (w:Nat):Bool:=(List.range sts.length).all λv=>!decide (rM xK (tA sts v) a t=rM xK (tA sts w) a t) || Mj xK sts t f v
def PZ (xK:List (BitVec 64)) (sts:List (List (BitVec 64))) (t:Nat) (f:List Nd):BitVec 64:=rW 1 sts.length (Pb (vV xK sts t) xK.length 1 (iD f))
def sJ (xK:List (BitVec 64)) (sts:List (List (BitVec 64))) (t a w:Nat):List aH->Int
 | []=>-1
 | c :: r=>if L9 xK sts t a c.test w=true then c.mv else sJ xK sts t a w r
def KJ (p:yA) (sts:List (List (BitVec 64))) (t a w:Nat):Int:=sJ p.xK sts t a w (p.code.getD a [])
def nV (p:yA) (sts:List (List (BitVec 64))) (t:Nat):List (List Int):=(List.range p.xK.length).map λa=>(List.range sts.length).map λw=>KJ p sts t a w
def qS (A:Nat) (s:BitVec 64):List xC:=[⟨[List.replicate A 0],[s]⟩]
def Mi (A:Nat) (f:List Nd) (s:BitVec 64):Bool:=Pb (qS A s) A 1 (iD f) (0,0)
def uq (A:Nat) (s0:BitVec 64) (out:BitVec 64) (a:gZ):BitVec 64:=out &&& ~~~(1#64 <<< a.fact.toNat) ||| (if Mi A a.to s0=true then 1#64 <<< a.fact.toNat else 0#64)
def wi (p:yA) (s0:BitVec 64) (out:BitVec 64) (k:Int):BitVec 64:=if k<0 then out else(p.xJ.getD k.toNat []).foldl (uq p.xK.length s0) out
def TM (p:yA) (s0:BitVec 64) (mv:List Int):BitVec 64:=mv.foldl (wi p s0) s0
theorem P1 {A F:Nat} {s:BitVec 64} (hA:A<=4) (hF:F<=8) (hs:s >>> F=0#64):jH (qS A s) A F 1 where
 hA:=hA
 hF:=hF
 hT:=⟨by omega,by omega⟩
 hR:=⟨by simp [qS],by simp [qS]⟩
 hP:=by simp [qS]
 loc:=λr hr=>by simp only [qS,δ] at hr; subst hr; rfl
 nW:=λr hr=>by simp only [qS,δ] at hr; subst hr; rfl
 row:=λr hr l hl=>by simp only [qS,δ] at hr; subst hr;simp only [δ] at hl; subst hl;simp
 val:=λr hr x hx=>by simp only [qS,δ] at hr; subst hr;simp only [δ] at hx; subst hx;exact hs
end Kb
theorem O6 {p:yA} {F:Nat} {sts:List (List (BitVec 64))} {t:Nat} (h:NH p F sts t) {f:List Nd} (hE:ve p f 15=0):yU prog 54 [Wc p.xK sts t F,.sl 6 (zB f)] (.wK [.int .u64 (ui (PZ p.xK sts t f)),.int .i64 0]):=by
 obtain⟨h1,h2,h3⟩:=Vv hE;rw [h.fe] at h3;have ok:=h.time;have hl:(vV p.xK sts t).length*1=sts.length:=by rw [eV,Nat.mul_one]
 have hh:=XM ok (by rw [hl]; have:=h.hR.2; omega) h1 h2 h3;unfold aE at hh;rw [if_pos (js ok h1 h2 h3),hl,Rl] at hh;exact hh
theorem RY {p:yA} {F:Nat} {sts:List (List (BitVec 64))} {t:Nat} (h:NH p F sts t) {a w:Nat} (ha:a<p.xK.length) (hw:w<sts.length) (f:List Nd) :
  (Ru.lF (vV p.xK sts t) (zM sts.length 0) a (yV (vV p.xK sts t) a (w,0)) sts.length &&& ~~~PZ p.xK sts t f==0#64)= L9 p.xK sts t a f w:=by
 have hR:=h.hR.2;rw [Bool.eq_iff_iff,WJ];unfold L9 PZ;simp only [List.all_eq_true,ε]
 constructor
 ·intro hh v hv
  by_cases e:rM p.xK (tA sts v) a t=rM p.xK (tA sts w) a t
  ·have h1:=hh v (by omega);rw [mS _ _ (by omega),jP hv,yE (by omega)] at h1;have h2:=(sr (t:=t) ha hv hw).2 e;simp only [decide_eq_true hv,decide_eq_true h2,Bool.true_and,true_implies] at h1;unfold Mj;rw [decide_eq_true e,show pt 1 v=(v,0) by unfold pt; rw [Nat.div_one,Nat.mod_one]] at *;rw [h1]; rfl
  ·rw [decide_eq_false e]; rfl
 ·intro hh v hv hb;rw [mS _ _ (by omega)] at hb;simp only [Bool.and_eq_true,decide_eq_true_eq] at hb;obtain⟨hv2,hb⟩:=hb;rw [jP hv2] at hb;have h1:=hh v hv2;rw [decide_eq_true ((sr (t:=t) ha hv2 hw).1 hb)] at h1;rw [yE (by omega),decide_eq_true hv2,show pt 1 v=(v,0) by unfold pt; rw [Nat.div_one,Nat.mod_one]];simpa [Mj] using h1
open Rs Fm Ru Te Kb
namespace Kb
structure nr (p : yA) (F : Nat) : Prop where
 fe:p.F=(F:Int)
 hF:F<=8
 hA:1<=p.xK.length/\p.xK.length<=4
 hI:1<=p.init.length/\p.init.length<=16
 hM:p.xJ.length<=8
 hC:p.code.length=p.xK.length
 cl:∀ l ∈ p.code,l.length<=6
 init:∀ s ∈ p.init,s >>> F=0#64
 xK:∀ s ∈ p.xK,s >>> F=0#64
 fc:mr p.init=true
 GP:∀ m ∈ p.xJ,eE m=true
 mv:∀ m ∈ p.xJ,∀ a ∈ m,nT p a=0
 code:∀ l ∈ p.code,∀ c ∈ l,jG p c=0
theorem qa {p:yA} {F:Nat} (h:p.F=(F:Int)) {s:BitVec 64} (hs:qD p s=false):s >>> F=0#64:=by unfold qD at hs;rw [h] at hs;simpa using hs
theorem fw {p:yA} (h:uN p=0):∃ F,nr p F:=by
 unfold uN at h
 split at h
 ·rename_i h0; exact absurd h h0
 rename_i h0;have h0:zC p=0:=by simpa using h0
 split at h
 ·rename_i h1; exact absurd h h1
 rename_i h1;have h1:wY (wY (nT p)) p.xJ=0:=by simpa using h1
 unfold zC at h0
 split at h0
 ·cases h0
 rename_i q1
 split at h0
 ·cases h0
 rename_i q2
 split at h0
 ·cases h0
 rename_i q3
 split at h0
 ·cases h0
 rename_i q4;simp only [not_or] at q1 q2 q3 q4;obtain⟨F,hF⟩:∃ F:Nat,p.F=(F:Int):=⟨p.F.toNat,by omega⟩
 refine⟨F,hF,by omega,by omega,by omega,by omega,by have:=q3.2.2.1; omega,λl hl=>?_,λs hs=>qa hF ?_,λs hs=>qa hF ?_,by simpa using q4.1,λm hm=>?_,λm hm a ha=>?_,λl hl c hc=>?_⟩
 ·have:=θ.1 (Ad.2 q2.2.2.2) l hl;simpa using this
 ·have:=θ.1 (Ad.2 q3.2.2.2.1) s hs;simpa using this
 ·have:=θ.1 (Ad.2 q3.2.2.2.2) s hs;simpa using this
 ·have:=θ.1 (Ad.2 q4.2) m hm;simpa using this
 ·exact jJ.1 (jJ.1 h1 m hm) a ha
 ·exact jJ.1 (jJ.1 h l hl) c hc
theorem Pr {p:yA} {F:Nat} (h:nr p F) {m:List gZ} (hm:m ∈ p.xJ):m.length<=8:=by
 have ha:=Pq.1 (h.GP m hm)
 have hf:∀ i,i<m.length->0<=(m.getD i zp).fact/\(m.getD i zp).fact<F:=λi hi=>by
  have:=h.mv m hm _ (xL (d:=zp) hi);unfold nT at this
  split at this
  ·cases this
  ·rename_i q; have:=h.fe; omega
 have hg:∀ i,i<m.length->(m.map (·.fact)).getD i 0=(m.getD i zp).fact:=λi hi=>by simp [List.getD,hi]
 have key:∀ i,i<m.length->(i:Int)<=(m.getD i zp).fact:=by
  intro i
  induction i with
  | zero=>intro hi; exact(hf 0 hi).1
  | succ i ih=> intro hi;have h1:=ih (by omega);have h2:=ha i (by simpa using hi);rw [hg i (by omega),hg (i+1) hi] at h2;omega
 by_cases h0:m.length=0
 ·omega
 ·have h1:=key (m.length-1) (by omega);have h2:=hf (m.length-1) (by omega);have:=h.hF;omega
end Kb
theorem Ze (A F:Nat) (s:BitVec 64):ez (qS A s) (zM 1 0) A F = .agg [.int .i64 1,.sl 1 (us ((List.range F).map λi=>s >>> i &&& 1#64)),.sl 1 (rr (List.replicate A [1#64]))]:=by
 unfold ez
 have h1:qE (qS A s) (zM 1 0) F=(List.range F).map λi=>s >>> i &&& 1#64:=by refine ξ λi _=>?_;rw [XK];show 0#64 ||| (if s.getLsbD i then 1#64 <<< 0 else 0#64)= _;cases s.getLsbD i <;> rfl
 have h2:uY (qS A s) (zM 1 0) A=List.replicate A [1#64]:=by refine τ.2 ⟨by simp [uY],λr hr=>?_⟩;simp only [uY,γ,ε] at hr;obtain⟨a,ha,rfl⟩:=hr;show [0#64 ||| (if yV (qS A s) a (0,0)= yV (qS A s) a (0,0) then 1#64 <<< 0 else 0#64)]=_;rw [if_pos rfl];rfl
 rw [h1,h2];rfl
theorem Ra (A:Nat) (f:List Nd) (s:BitVec 64) (n:Nat):rW 1 1 (Pb (qS A s) A 1 (iD f)) <<< n=if Mi A f s=true then 1#64 <<< n else 0#64:=by show (0#64 ||| (if Mi A f s=true then 1#64 <<< 0 else 0#64)) <<< n=_;split <;> simp
theorem ZY {n:Nat} (hn:1<=n/\n<=64):yU prog 224 [.sl 1 [[.sl 1 (us [1#64])]],.int .i64 (n:Int)] (.sl 1 (rr (List.replicate n [1#64]))):=by have h:=Uj (d:=.sl 1 (us [1#64])) rfl rfl hn;rw [Of] at h;exact xY.ret h (.drop (Ab _) (Xp (by decide) (cg _) (by simp [rr])))
open Rs Fm Ru Te Kb
theorem XD {p:yA} {F:Nat} (h:p.F=(F:Int)) {a:gZ} (he:nT p a=0):0<=a.fact/\a.fact<F/\ve p a.to 0=0:=by
 unfold nT at he
 split at he
 ·cases he
 ·rename_i q; exact⟨by omega,by omega,he⟩
theorem V3 {p:yA} {F:Nat} (h:nr p F) {s:BitVec 64} (hs:s >>> F=0#64) {f:List Nd} (hE:ve p f 0=0) :
  yU prog 54 [ez (qS p.xK.length s) (zM 1 0) p.xK.length F,.sl 6 (zB f)] (.wK [.int .u64 (ui (rW 1 1 (Pb (qS p.xK.length s) p.xK.length 1 (iD f)))),.int .i64 0]):=by
 obtain⟨h1,h2,h3⟩:=Vv hE;rw [h.fe] at h3;have h0:wT f=0:=K5 ⟨wT f,gC f⟩ h2;have h2':(tY .andNot .i64 (wT f:Int) 15 != 0)= false:=by rw [h0]; decide
 have ok:=P1 (s:=s) h.hA.2 h.hF hs;have hh:=XM ok (by show 1*1<=64; omega) h1 h2' h3
 have e1:wD (qS p.xK.length s) 1=zM 1 0:=by simp [wD,rO,zM,qS,List.range_succ]
 have e2:(qS p.xK.length s).length*1=1:=rfl;unfold aE at hh;rw [if_pos (js ok h1 h2' h3),e1,e2] at hh;exact hh
theorem OT {p:yA} {F:Nat} (h:nr p F) (sts:List (List (BitVec 64))) {s:BitVec 64} (hs:s >>> F=0#64) {mv:List Int} (hl:mv.length<=1000) (hmv:∀ k ∈ mv,k<p.xJ.length) :
  yU prog 183 [wm p sts,.int .u64 (ui s),.sl 1 (rows .i64 mv)] (.int .u64 (ui (TM p s mv))):=by
 have hF:=h.hF;have hA:=h.hA;have hrep:=ZY (n:=p.xK.length) ⟨by omega,by omega⟩;have hH:=λf hE=>V3 h hs (f:=f) hE;have hmod:=Ze p.xK.length F s;rw [hmod] at hH;unfold wm Pj at *;rw [h.fe];refine xY.xN mixed func183 Ix (by simp) λhf=>?_;simp only [simprocAttr,-ZA,↓zU,↓zD,zV,zT,zW,xI,↓o6]
 (refine jt mixed ?_; unfold p7; simp only [simprocAttr,-ZA,↓zU,↓zD,zV,zT,zW,↓VZ,↓VY,↓LD,↓LF,↓LG,↓LH,↓LI,↓LJ,↓uz,lI,iN,xI])
 have hpp:D.xR [D.sl 1 [[D.sl 1 (us [1#64])]],D.int .i64 p.xK.length]=true:=by simp [D.xR,D.xD]
 have q1:D.xR [D.int IntKind.u64 (ui 1#64)]=true:=rfl;have q2:D.xR [D.sl 1 [[D.int IntKind.u64 (ui 1#64)]]]=true:=rfl;have q3:(0:Int)<=(F:Int):=by omega
 have q4:8*(F:Int)<=281474976710656:=by omega
 have hrep':∀ σ:St,xY prog 224 [.sl 1 [[.sl 1 [[.int .u64 (ui 1#64)]]]],.int .i64 (p.xK.length:Int)] σ (.sl 1 (rr (List.replicate p.xK.length [1#64]))) σ:=λσ=>xY.yH hrep hpp;repeat (first | (refine Ae ⟨q1,q2,zj.go (hrep' _) ?_⟩ ?_; focus ((simp only [simprocAttr,-ZA,↓zU,↓zD,zV,zT,zW,↓VZ,↓VY,↓LD,↓LF,↓LG,↓LH,↓LI,↓LJ,↓uz,lI,iN,xI]))) | refine Ae q1 ?_ | refine Ae q2 ?_ | refine Ae q3 ?_ | refine Ae q4 ?_ | (refine zj.go (hrep' _) ?_; (simp only [simprocAttr,-ZA,↓zU,↓zD,zV,zT,zW,↓VZ,↓VY,↓LD,↓LF,↓LG,↓LH,↓LI,↓LJ,↓uz,lI,iN,xI])))
 have hz:List.replicate F [D.int .u64 (ui 0#64)]=us (lD F (λi=>s >>> i &&& 1#64) (λ_=>0#64) 0):=by rw [yu,aM];congr 1;refine μ (by simp) λi h1 h2=>by simp
 refine Ae ?_ ?_
 ·rw [hz]
  (refine xT.tP [(0,1),(1,0)] [1,0] (by simp) (by simp) (by decide) ?_; simp only [yQ,zQ,simprocAttr,-ZA,exists_eq_left',ne_eq,zR,yJ,uU])
 refine uZ (λi:Nat=>[(35,.int .i64 i),(34,.int .i64 F),(7,.ref 1 3 0 0),(2,.sl 1 (rows .i64 mv)),(1,.int .u64 (ui s)),(0,.ptr [.int .i64 F,.sl 1 (us p.init),.sl 1 (us p.xK),.sl 1 (oB p.xJ),.sl 1 (oA p.code),.sl 1 (rr sts)])])
  (λi=>⟨2,[(1,⟨3,[[.int .i64 1,.yM 0 1 F,.sl 1 (rr (List.replicate p.xK.length [1#64]))]]⟩),(0,⟨1,us (lD F (λi=>s >>> i &&& 1#64) (λ_=>0#64) i)⟩)]⟩)
  (λi=>i<=F) (λi=>F-i) 0 (Ab _) ?_ ?_
 ·rw [hz]
  (refine xT.same ?_; simp [xS,Fr.get])
 intro i hi;refine xM mixed ?_;have hml:=gG F (λi=>s >>> i &&& 1#64) (λ_=>0#64) i
 by_cases hil:i<F
 ·have hd:((i:Int)<(F:Int)):=by omega
  have hmg:=vX (lD F (λi=>s >>> i &&& 1#64) (λ_=>0#64) i) (show i<_ by rw [hml]; exact hil);rw [rm _ _ hil] at hmg;have hms:=rn F (λi=>s >>> i &&& 1#64) (λ_=>0#64) i;generalize lD F (λi=>s >>> i &&& 1#64) (λ_=>0#64) i=M at hmg hms hml;simp only [simprocAttr,-ZA,↓zU,↓zD,zV,zT,zW,hd,xI,hml,hmg,lA,hms]
  (repeat refine sd ?_)
  refine⟨i+1,by omega,?_,by omega⟩
  (refine xT.same ?_; simp only [xS,Fr.get,simprocAttr,-ZA,zS])
  exact wrap_i64 (by omega)
 have hd:¬ ((i:Int)<(F:Int)):=by omega
 have hvl:(us ((List.range F).map λi=>s >>> i &&& 1#64)).length=F:=by simp [us]
 rw [rk _ _ _ (by omega:F<=i)];generalize hV:((List.range F).map λi=>s >>> i &&& 1#64)= V at *;simp only [simprocAttr,-ZA,↓zU,↓zD,zV,zT,zW,hd]
 refine .go [(7,.ref 1 3 0 0),(2,.sl 1 (rows .i64 mv)),(1,.int .u64 (ui s)),(0,.ptr [.int .i64 F,.sl 1 (us p.init),.sl 1 (us p.xK),.sl 1 (oB p.xJ),.sl 1 (oA p.code),.sl 1 (rr sts)])]
  ⟨2,[(1,⟨3,[[.int .i64 1,.sl 1 (us V),.sl 1 (rr (List.replicate p.xK.length [1#64]))]]⟩)]⟩ ?_ ?_
 ·(refine xT.tP [] [1] (by simp) (by simp) (by decide) ?_; simp only [yQ,zQ,simprocAttr,-ZA,exists_eq_left',ne_eq,zR,yJ,uU])
  refine⟨?_,by omega,(ζ (by omega)).symm,pP _⟩
  rintro q (rfl | h)
  ·exact Nat.one_ne_zero
  ·exact h.elim
 simp only [simprocAttr,-ZA,↓zU,↓zD,zV,zT,zW,yO]
 refine xP (λk:Nat=>[(50,.int .i64 k),(49,.int .i64 mv.length),(48,.sl 1 (rows .i64 mv)),(9,.int .u64 (ui ((mv.take k).foldl (wi p s) s))),(7,.ref 1 3 0 0),(0,.ptr [.int .i64 F,.sl 1 (us p.init),.sl 1 (us p.xK),.sl 1 (oB p.xJ),.sl 1 (oA p.code),.sl 1 (rr sts)])])
  (λ_=>⟨2,[(1,⟨3,[[.int .i64 1,.sl 1 (us V),.sl 1 (rr (List.replicate p.xK.length [1#64]))]]⟩)]⟩)
  (λk=>k<=mv.length) (λk=>mv.length-k) 0 (Ab _) ?_ ?_
 ·(refine xT.same ?_; simp only [xS,Fr.get,simprocAttr,-ZA,zS,List.take_zero,List.foldl_nil])
  all_goals rfl
 intro k hk;refine xM mixed ?_;by_cases hkl:k<mv.length
 case neg=>
  have hd2:¬ ((k:Int)<(mv.length:Int)):=by omega
  rw [ζ (by omega)];simp only [simprocAttr,-ZA,↓zU,↓zD,zV,zT,zW,hd2];exact .drop (by simp) (by simp [vw,TM])
 have hd2:((k:Int)<(mv.length:Int)):=by omega
 have hg:=yP .i64 mv hkl;have hlt:=hmv _ (xL (d:=0) hkl)
 have hfo:(mv.take (k+1)).foldl (wi p s) s=wi p s ((mv.take k).foldl (wi p s) s) (mv.getD k 0):=by rw [zA (d:=0) hkl,χ]; rfl
 generalize (mv.take k).foldl (wi p s) s=out0 at hfo ⊢;generalize mv.getD k 0=q at hg hlt hfo
 by_cases hq:q<0
 ·have hm0:wi p s out0 q=out0:=by unfold wi; rw [if_pos hq]
  rw [hm0] at hfo;simp only [simprocAttr,-ZA,↓zU,↓zD,zV,zT,zW,hd2,yO,hg,hq]
  (repeat refine sd ?_)
  refine⟨k+1,by omega,?_,by omega⟩
  (refine xT.same ?_; simp only [xS,Fr.get,simprocAttr,-ZA,zS,hfo])
  exact wrap_i64 (by omega)
 have hqn:q.toNat<p.xJ.length:=by omega
 have hq0:0<=q:=by omega
 have hgm:=fI p.xJ hqn;have hm0:wi p s out0 q=(p.xJ.getD q.toNat []).foldl (uq p.xK.length s) out0:=by unfold wi; rw [if_neg hq]
 have hmem:=xL (d:=[]) hqn;generalize p.xJ.getD q.toNat []=m at hgm hm0 hmem;have hml8:=Pr h hmem;rw [hm0] at hfo;simp only [simprocAttr,-ZA,↓zU,↓zD,zV,zT,zW,hd2,yO,hg,hq,zX,hlt,hgm,vO]
 (repeat refine sd ?_)
 refine xP (λj:Nat=>[(66,.int .i64 j),(65,.int .i64 m.length),(64,.sl 2 (YP m)),(50,.int .i64 k),(49,.int .i64 mv.length),(48,.sl 1 (rows .i64 mv)),(9,.int .u64 (ui ((m.take j).foldl (uq p.xK.length s) out0))),(7,.ref 1 3 0 0),(0,.ptr [.int .i64 F,.sl 1 (us p.init),.sl 1 (us p.xK),.sl 1 (oB p.xJ),.sl 1 (oA p.code),.sl 1 (rr sts)])])
  (λ_=>⟨2,[(1,⟨3,[[.int .i64 1,.sl 1 (us V),.sl 1 (rr (List.replicate p.xK.length [1#64]))]]⟩)]⟩)
  (λj=>j<=m.length) (λj=>m.length-j) 0 (Ab _) ?_ ?_
 ·(refine xT.same ?_; simp only [xS,Fr.get,simprocAttr,-ZA,zS,List.take_zero,List.foldl_nil])
  all_goals rfl
 intro j hj;refine xM mixed ?_;by_cases hjl:j<m.length
 case neg=>
  have hd3:¬ ((j:Int)<(m.length:Int)):=by omega
  rw [ζ (by omega)];simp only [simprocAttr,-ZA,↓zU,↓zD,zV,zT,zW,hd3];refine⟨k+1,by omega,?_,by omega⟩
  (refine xT.same ?_; simp only [xS,Fr.get,simprocAttr,-ZA,zS,hfo])
  exact wrap_i64 (by omega)
 have hd3:((j:Int)<(m.length:Int)):=by omega
 have hg2:=iZ m hjl
 have hfo2:(m.take (j+1)).foldl (uq p.xK.length s) out0=uq p.xK.length s ((m.take j).foldl (uq p.xK.length s) out0) (m.getD j zp):=by rw [zA (d:=zp) hjl,χ]; rfl
 obtain⟨a1,a2,a3⟩:=XD h.fe (h.mv m hmem _ (xL (d:=zp) hjl));unfold gZ.row at hg2;generalize (m.take j).foldl (uq p.xK.length s) out0=out1 at hfo2 ⊢;generalize m.getD j zp=a at hg2 hfo2 a1 a2 a3;have hh:=hH a.to a3;have hsol:=Ra p.xK.length a.to s a.fact.toNat;simp only [simprocAttr,-ZA,↓zU,↓zD,zV,zT,zW,hd3,vO,hg2]
 (repeat refine sd ?_)
 refine .go (cr hh) ?_;simp only [simprocAttr,-ZA,↓zU,↓zD,zV,zT,zW]
 (repeat refine sd ?_)
 refine⟨j+1,by omega,?_,by omega⟩;rw [hfo2];unfold uq;rw [<- hsol]
 (refine xT.tP [] [1] (by simp) (by simp) (by decide) ?_; simp only [yQ,zQ,simprocAttr,-ZA,exists_eq_left',ne_eq,zR])
 exact wrap_i64 (by omega)
open Rs Fm Ru Te Kb
section
variable [uM]
theorem xY.deep {P:Program} {g:FuncId} {args:List D} {σ:St} {d1 d:D} {n1:Nat} {objs1 objs':List (Nat × Ob)} (K:Nat->Prop) (hc:xY P g args σ d1 ⟨n1,objs1⟩) (hd:Seen ⟨n1,objs1⟩ K d1 d)
  (hs:∀ k o,St.look objs' k=some o->K k/\St.look objs1 k=some o):xY P g args σ d ⟨n1,objs'⟩:=by
 refine⟨hc.ord,λM0 w ι vals hS hl hv=>(hc.run M0 w ι vals hS hl hv).mono λe w' hh=>?_⟩;obtain⟨v,ι1,he,kept,nL,nx,stay,rH,hR⟩:=hh;refine⟨v,ι1,he,kept,nL.sub (objs':=objs') λk o hk=>(hs k o hk).2,nx,stay,λk o hk=>rH k o (hs k o hk).2,.pure ((hd M0 w' ι1 v nL hR).yD (λ_ _ _=>rfl) λb _ hb=>?_)⟩;exact hb.imp id λ⟨k,o,h1,h2⟩=>⟨k,o,(hs k o h1).1,(hs k o h1).2,h2⟩
theorem mh (c:Nat) {l:List (Nat × Ob)} {k:Nat} (h:k<c):St.look (zN c l) k=none:=by
 cases e:St.look (zN c l) k with
 | none=>rfl
 | some o=> obtain⟨k0,_,h1,_⟩:=iP c l k o e;omega
theorem xY.QN {P:Program} {g:FuncId} {args args':List D} {d0 d:D} {nx m:Nat} {xZ ob:List (Nat × Ob)} (hc:xY P g args' gY d0 ⟨m,xZ⟩) (hl:kC ⟨nx,ob⟩ (λ_=>False) args args') (hf:d0.fl=true) (ho:∀ p ∈ xZ,∀ e ∈ p.2.xV,D.We e=true)
  (hd:Seen ⟨nx+m,zN nx xZ++ob⟩ (λk=>k<nx) (d0.shift nx) d):xY P g args ⟨nx,ob⟩ d ⟨nx+m,ob⟩:=
 xY.gS hc.ord λhu=>xY.deep (λk=>k<nx) (xY.Ls hc hl hf ho) hd λk o hk=>by have h1:=(hu k o hk).1;exact⟨h1,by rw [qJ,mh nx h1]; exact hk⟩
end
namespace Kb
def tC (ks:List Nat) (ess:List (List (List D))):List (List D):=List.zipWith (λk e=>[D.yM k 1 e.length]) ks ess
def Pi (ess:List (List (List D))):List (List D):=ess.map λe=>[.sl 1 e]
structure lg (xZ : List (Nat × Ob)) (kO : Nat) (ks : List Nat) (ess : List (List (List D))) : Prop where
 out:St.look xZ kO=some ⟨1,tC ks ess⟩
 len:ks.length=ess.length
 each:∀ i,i<ess.length->St.look xZ (ks.getD i 0)= some ⟨1,ess.getD i []⟩
theorem rD {ks:List Nat} {ess:List (List (List D))} (h:ks.length=ess.length):(tC ks ess).length=ess.length:=by simp [tC]; omega
theorem jU {ks:List Nat} {ess:List (List (List D))} (h:ks.length=ess.length) {i:Nat} (hi:i<ess.length):(tC ks ess).getD i [] = [.yM (ks.getD i 0) 1 (ess.getD i []).length]:=by
 have h1:i<ks.length:=by omega
 simp [tC,List.getD,hi,h1,List.getElem?_zipWith]
theorem ja {ks:List Nat} {ess:List (List (List D))} (h:ks.length=ess.length) (k:Nat) (e:List (List D)):tC ks ess ++ [[.yM k 1 e.length]]=tC (ks ++ [k]) (ess ++ [e]):=by unfold tC;rw [List.zipWith_append h]; rfl
theorem Qp {ks:List Nat} {ess:List (List (List D))} (h:ks.length=ess.length) {i:Nat} (hi:i<ess.length) (k:Nat) (e:List (List D)):(tC ks ess).set i [.yM k 1 e.length]=tC (ks.set i k) (ess.set i e):=by refine μ (by simp [tC]) λj h1 h2=>?_;simp only [tC,ω,List.getElem_zipWith];split <;> rfl
theorem OV (ess:List (List (List D))):(Pi ess).length=ess.length:=by simp [Pi]
theorem M6 (sts:List (List (BitVec 64))):Pi (sts.map us)= rr sts:=by simp only [Pi,rr,π];rfl
theorem M5 (mv:List (List Int)):Pi (mv.map (rows .i64))= rl mv:=by simp only [Pi,rl,π];rfl
theorem sE {l:List Nat} {i:Nat} (h:i<l.length):l.getD i 0 ∈ l:=by simp [List.getD,h]
end Kb
theorem lg.seen {nx:Nat} {xZ:List (Nat × Ob)} {K:Nat->Prop} {kO n:Nat} {ks:List Nat} {ess:List (List (List D))} (h:lg xZ kO ks ess) (hn:n=ess.length) (hK:¬ K kO) (hKs:∀ k ∈ ks,¬ K k) (hp:∀ e ∈ ess,∀ r ∈ e,r.length=1/\D.xR r=true) :
  Seen ⟨nx,xZ⟩ K (.yM kO 1 n) (.sl 1 (Pi ess)):=by
 refine Seen.yM (ob:=⟨1,tC ks ess⟩) h.out hK (by decide) rfl (by show n<=(tC ks ess).length; rw [rD h.len]; omega) (by rw [OV]; omega) (λe he=>?_) λi hi j hj=>?_
 ·simp only [Pi,γ] at he;obtain⟨x,_,rfl⟩:=he;rfl
 ·obtain rfl:j=0:=by omega
  have hi':i<ess.length:=by omega
  show Seen _ _ (((tC ks ess).getD i []).getD 0 .top) _;rw [jU h.len hi'];have e2:(Pi ess).getD i [] = [.sl 1 (ess.getD i [])]:=by simp [Pi,List.getD,hi']
  rw [e2];have hm:=xL (d:=[]) hi';exact Seen.rows (h.each i hi') (hKs _ (sE (by rw [h.len]; exact hi'))) (by decide) rfl (λr hr=>(hp _ hm r hr).1) λr hr=>(hp _ hm r hr).2
theorem lg.shift {xZ r:List (Nat × Ob)} {kO c:Nat} {ks:List Nat} {ess:List (List (List D))} (h:lg xZ kO ks ess) (hp:∀ e ∈ ess,∀ r ∈ e,D.xR r=true):lg (zN c xZ++r) (c+kO) (ks.map (c + ·)) ess where
 out:=by rw [qJ,oD c h.out];show some (Ob.shift c _)= _;unfold Ob.shift tC;simp only;congr 2;refine μ (by simp) λi h1 h2=>?_;simp [D.wH,D.shift]
 len:=by rw [List.length_map]; exact h.len
 each:=λi hi=>by
  have hk:(ks.map (c + ·)).getD i 0=c+ks.getD i 0:=by simp [List.getD,show i<ks.length by rw [h.len]; exact hi]
  rw [hk,qJ,oD c (h.each i hi)];show some (Ob.shift c _)= _;unfold Ob.shift;rw [fZ c λe he=>hp _ (xL hi) e he]
namespace Kb
def uu (ess:List (List (List D))):List (Nat × Ob):=(0,⟨1,tC (ν 1 ess.length) ess⟩) :: (List.range ess.length).map λi=>(1+i,⟨1,ess.getD i []⟩)
theorem iv {f:Nat->Ob}:∀ {l:List Nat} {i:Nat},i ∈ l->St.look (l.map λi=>(1+i,f i)) (1+i)= some (f i)
 | [],i,h=>by cases h
 | j :: r,i,h=>by
  show St.look ((1+j,f j) :: _) _=_;rw [xX]
  by_cases e:i=j
  ·subst e; rw [if_pos rfl]
  ·rw [if_neg (by omega)];exact iv ((η.1 h).resolve_left e)
theorem Qq (ess:List (List (List D))):lg (uu ess) 0 (ν 1 ess.length) ess where
 out:=by unfold uu; rw [xX,if_pos rfl]
 len:=by simp
 each:=λi hi=>by
  have e:(ν 1 ess.length).getD i 0=1+i:=by simp [List.getD,hi]
  unfold uu;rw [e,xX,if_neg (by omega)];exact iv (ε.2 hi)
theorem OW {ess:List (List (List D))} (hp:∀ e ∈ ess,∀ r ∈ e,D.We r=true):∀ p ∈ uu ess,∀ e ∈ p.2.xV,D.We e=true:=by
 intro p hm e he;unfold uu at hm
 rcases η.1 hm with rfl | hm
 ·simp only [tC] at he;obtain⟨i,hi,rfl⟩:=List.getElem_of_mem he;simp [D.We,D.fl]
 ·simp only [γ,ε] at hm;obtain⟨i,hi,rfl⟩:=hm;exact hp _ (xL hi) e he
end Kb
theorem Y8 {σ σ':St} {ρ:Nat->Nat}:∀ {xs bs:List (List D)},xs.length=bs.length->(∀ i,i<bs.length->(xs.getD i []).length=(bs.getD i []).length/\vI σ σ' ρ (xs.getD i []) (bs.getD i []))->u6 σ σ' ρ xs bs
 | [],[],_,_=>.nil
 | [],_ :: _,h,_=>by cases h
 | _ :: _,[],h,_=>by cases h
 | a :: xs,b :: bs,h,hh=>by have h0:=hh 0 (by simp);refine .cons h0.1 h0.2 (Y8 (by simpa using h) λi hi=>?_);simpa using hh (i+1) (by simp; omega)
theorem bg {ks:List Nat} (hd:ks.Nodup) {i j:Nat} (hi:i<ks.length) (hj:j<ks.length) (e:ks.getD i 0=ks.getD j 0):i=j:=by
 simp only [List.getD,hi,hj,List.getElem?_eq_getElem,Option.getD_some] at e;have hp:=List.pairwise_iff_getElem.1 hd
 rcases Nat.lt_trichotomy i j with h | h | h
 ·exact absurd e (hp i j hi hj h)
 ·exact h
 ·exact absurd e.symm (hp j i hj hi h)
theorem pC.zr {nx n:Nat} {xZ:List (Nat × Ob)} {kO:Nat} {ks:List Nat} {ess:List (List (List D))} (h:lg xZ kO ks ess) (hn:n=ess.length) (hd:ks.Nodup) (hk:kO ∉ ks) (hp:∀ e ∈ ess,∀ r ∈ e,D.xR r=true) :
  pC 0 ⟨nx,xZ⟩ (.yM kO 1 n) ⟨1+ess.length,uu ess⟩ (.yM 0 1 n):=by
 subst hn;have hlen:=h.len;have hr:(ν 1 ess.length).length=ess.length:=by simp
 have key:∀ q ∈ uu ess,q.1=0\/∃ i,i<ess.length/\q.1=1+i:=λq hq=>by
  unfold uu at hq
  rcases η.1 hq with rfl | hq
  ·exact .inl rfl
  ·simp only [γ,ε] at hq;obtain⟨i,hi,rfl⟩:=hq;exact .inr ⟨i,hi,rfl⟩
 refine .inr ⟨λk=>if k=0 then kO else ks.getD (k-1) 0,Ab _,λk hk=>absurd hk (Nat.not_lt_zero _),?_,?_,?_⟩
 ·simp only [vw,↓reduceIte,and_true];omega
 ·intro q hq;unfold uu at hq
  rcases η.1 hq with rfl | hq
  ·refine⟨by show 0<1+ess.length; omega,_,h.out,rfl,Y8 (by rw [rD hlen,rD hr]) λi hi=>?_⟩;rw [rD hr] at hi;rw [jU hlen hi,jU hr hi];refine⟨rfl,?_⟩;have e:(ν 1 ess.length).getD i 0=1+i:=by simp [List.getD,hi]
   simp only [vI,vw,e,and_true];rw [if_neg (by omega),show 1+i-1=i by omega];exact⟨by omega,rfl⟩
  ·simp only [γ,ε] at hq;obtain⟨i,hi,rfl⟩:=hq;refine⟨by show 1+i<1+ess.length; omega,⟨1,ess.getD i []⟩,?_,rfl,.same λr hr=>hp _ (xL hi) r hr⟩;show St.look xZ (if 1+i=0 then kO else ks.getD (1+i-1) 0)= _;rw [if_neg (by omega),show 1+i-1=i by omega];exact h.each i hi
 ·intro a ha b hb e;simp only at e
  rcases key a ha with h1 | ⟨i,hi,h1⟩ <;> rcases key b hb with h2 | ⟨j,hj,h2⟩ <;> rw [h1,h2] at e ⊢
  ·rw [if_pos rfl,if_neg (by omega)] at e;exact absurd (e ▸ sE (by omega)) hk
  ·rw [if_pos rfl,if_neg (by omega)] at e;exact absurd (e ▸ sE (by omega)) hk
  ·rw [if_neg (by omega),if_neg (by omega),show 1+i-1=i by omega,show 1+j-1=j by omega] at e;rw [bg hd (by omega) (by omega) e]
end Go.Pd

/- Part XR. -/
namespace Go.Pd
open Go
section
variable [uM]
def N1 (P:Program) (gi:FuncId):Prop:=tJ P gi/\∀ (l Bs o b off n cap:Nat) (sa:Option Addr) (va vb:Nat->Value) (J:Nat->World->Prop),n<=maxLen->(0<n->sa=some ⟨b,off,none⟩) ->
 (∀ k W,J k W->W.cell? ⟨Bs,o,none⟩= some (.slice sa n cap)/\ ∀ i,i<n->W.cell? ⟨b,off+i*2,none⟩= some (va i)/\ W.cell? ⟨b,off+i*2+1,none⟩= some (vb i))->(∀ k W,J k W->J k W.drew) ->
 (∀ k W,k<n->J k W->YieldAt Fence.wide 0 P l #[.int .i64 ((n-1-k:Nat):Int),.agg #[va (n-1-k),vb (n-1-k)]] W λe W'=>e = .returned (.bool true)/\ J (k+1) W') ->
 ∀ W,J 0 W->CallsIn Fence.wide 0 P gi #[.func (.yield l) #[] #[],.pointer (some ⟨Bs,o,none⟩)] W λe W'=>(∃ v,e = .returned v)/\ J n W'
variable {C : Cx} {E : Env} {a : Act} {w : World} {f : Fr} {σ : St} {ι : Nat -> Nat}
theorem yL.lay (G:yL C E a w f σ ι) (o:Obj):yL C E a (w.alloc o) f σ ι:=by have hk:=Kept.alloc w o λ_=>False;exact⟨G.size,G.defers.yD rfl hk.size (λD hD=>hk.mark id hD),G.nx,G.kept.trans hk (λ_ _ h=>h) (λ_ _ h=>h.elim),G.nL.ext hk,G.sO,G.rH,G.stay,λt=>(G.fr t).yD (λb hb _=>hk.block b hb id) (λ_ _ h=>h) hk.shape (λ_ _=>rfl) (Aa _)⟩
abbrev r7 (E:Env) (w:World) (σ:St) (ι:Nat->Nat) (o:Obj):Env:=⟨w.alloc o,λb=>E.M0 b\/b=w.heap.size,λb=>Own ι σ b\/b=w.heap.size,ι,E.B⟩
theorem yL.SS (G:yL C E a w f σ ι) (o:Obj):yL { C with n0:=σ.nx } (r7 E w σ ι o) a (w.alloc o) f σ ι:=by
 have hk:=Kept.alloc w o λ_=>False;have hS:=G.nL.Kl o;refine⟨G.size,G.defers.yD rfl hk.size (λD hD=>hk.mark id hD),Aa _,Kept.refl _ _,hS,hS.sO,λk o hk=>.inr (.inl ⟨k,o,hk,rfl⟩),λ_ _=>rfl,λt=>(G.fr t).yD (λb hb _=>hk.block b hb id) (λb hb hx=>?_) hk.shape (λ_ _=>rfl) (Aa _)⟩
 rcases hx with (hx | hx) | hx
 ·exact .inl hx
 ·omega
 ·exact .inr hx
theorem yL.end_ {a0:Act} {w0:World} {f0:Fr} {σ0:St} {ι0:Nat->Nat} {q0:Obj} (G0:yL C E a0 w0 f0 σ0 ι0) (G:yL { C with n0:=σ0.nx } (r7 E w0 σ0 ι0 q0) a w f σ ι):yL C E a w f σ ι:=by
 have hsz:E.w0.heap.size<=w0.heap.size:=G0.kept.size
 have hown:∀ b,Own ι0 σ0 b->E.w0.heap.size<=b\/E.K0 b:=by rintro b ⟨k,o,hk,rfl⟩;exact G0.rH k o hk
 have h1:Kept w0 (w0.alloc q0) λ_=>False:=Kept.alloc w0 q0 _;have hs1:(w0.alloc q0).heap.size=w0.heap.size+1:=by show (w0.heap.push q0).size=_; simp
 have hnx:σ0.nx<=σ.nx:=G.nx;have hnx0:=G0.nx
 refine⟨G.size,G.defers,by omega,?_,G.nL.less λb hb=>.inl hb,G0.sO,λk o hk=>?_,λk hk=>?_,λt=>(G.fr t).yD (λ_ _ _=>rfl) (λb _ hb=>hb.imp .inl id) (λb cur e h=>⟨cur,h,rfl⟩) (λ_ _=>rfl) (Aa _)⟩
 ·refine G0.kept.trans (h1.trans G.kept (K'':=λb=>Own ι0 σ0 b\/b=w0.heap.size) (λ_ _ h=>h.elim) λ_ _ h=>h) (λ_ _ h=>h) λb hb hx=>?_
  rcases hx with hx | hx
  ·rcases hown b hx with h | h
   ·omega
   ·exact h
  ·omega
 ·rcases G.rH k o hk with h | h | h
  ·have h':(w0.alloc q0).heap.size<=ι k:=h;left; omega
  ·exact hown _ h
  ·left; rw [h]; exact hsz
 ·have:=G.stay k (show k<σ0.nx by omega);exact this.trans (G0.stay k hk)
theorem yL.back {a2:Act} {w2:World} {f2:Fr} {σ2:St} {ι2:Nat->Nat} {q:Obj} {rd:Option Nat} (hq:∀ x,q≠Obj.deferred x) (G1:yL C E a w f σ ι) (G2:yL { C with n0:=σ.nx,rd:=rd } (r7 E w σ ι q) a2 w2 f2 σ2 ι2):yL { C with n0:=σ.nx } (r7 E w σ ι q) a w2 f σ2 ι2:=by
 have G:=G1.SS q;have hl:(w.alloc q).heap[w.heap.size]?=some q:=World.alloc_heap_new w q
 refine⟨G.size,G.defers.yD rfl G2.kept.size (λD hD=>G2.kept.mark (λh=>?_) hD),G2.nx,G2.kept,G2.nL,G2.sO,G2.rH,G2.stay,λt=>?_⟩
 ·rcases h with h | h
  ·exact G.nL.bJ hD h
  ·rw [h,hl] at hD;exact hq _ (Option.some.inj hD)
 ·refine(G.fr t).yD (λb hb hM=>G2.kept.block b hb λh=>hM (h.elim (λh=>.inr h) λh=>.inl (.inr h))) (λb hb hM=>?_) G2.kept.shape (λk hk=>G2.stay k hk) G2.nx
  rcases hM with hM | ⟨k,o,hk,rfl⟩
  ·exact .inl hM
  ·rcases G2.rH k o hk with h | h | h
   ·have:(w.alloc q).heap.size<=ι2 k:=h;omega
   ·exact .inr h
   ·exact .inl (.inr h)
theorem yL.Ks {rd:Option Nat} (G:yL C E a w f σ ι):yL { C with rd:=rd } E a w f σ ι:=⟨G.size,G.defers,G.nx,G.kept,G.nL,G.sO,G.rH,G.stay,G.fr⟩
theorem yL.Jz (G:yL C E a w f σ ι):yL C E a w.drew f σ ι:=by have hk:Kept w w.drew λ_=>False:=(Kept.refl _ _).drew;exact⟨G.size,G.defers.yD rfl (Aa _) λD hD=>hD,G.nx,G.kept.drew,G.nL.ext hk,G.sO,G.rH,G.stay,G.fr.yD (λb hb _=>rfl) (λ_ _ h=>h) hk.shape (λ_ _=>rfl) (Aa _)⟩
theorem yL.bare (G:yL C E a w f σ ι):yL C E { tmps:=a.tmps,defers:=[] } w f σ ι:=⟨G.size,.none rfl G.defers.1,G.nx,G.kept,G.nL,G.sO,G.rH,G.stay,G.fr⟩
theorem yL.TE {b0:Nat} {w':World} (G:yL C E a w f σ ι) (hk:Kept w w' λb=>b=b0) (hM:E.M0 b0) (hK:E.K0 b0) (hd:∀ x,w.heap[b0]?≠some (Obj.deferred x)):yL C E a w' f σ ι:=G.tick hk hM hK hd
theorem wZ.W8 {M0:Nat->Prop} (hS:wZ M0 w σ ι) {D:Nat} {x:Loop} (h:w.heap[D]?=some (Obj.loop x)):¬ Own ι σ D:=by
 rintro ⟨k,o,hk,rfl⟩
 rcases(hS.holds k o hk).2 with ⟨_,cur,e,h1,_⟩ | ⟨_,es,h1,_⟩
 ·rw [h] at h1; cases h1
 ·rw [h] at h1; cases h1
theorem QX {P:Program} {N:Nat} {own:List Nat} {code:Code} {g:uO} {ps:List Nat} {x y:DC} (h:tT P N own code=some (.wk g ps x y)):∃ g0 ps0 a c,code = .rangeFunc g0 ps0 a c/\yW N g0=some g/\ps0.toList=ps/\tT P N own a=some x/\tT P N own c=some y:=by
 cases code with
 | region id ops draw=>rcases uR h with ⟨_,_,e⟩ | ⟨_,⟨_,_,_,_,e⟩ | ⟨_,_,_,_,e⟩ | ⟨_,_,_,_,e⟩⟩ | ⟨_,_,⟨_,_,_,e⟩,_⟩ <;> cases e
 | rangeFunc g0 ps0 a c=> simp only [tT,zO,DC.wk.injEq] at h;obtain⟨g',hg,dx,hx,dy,hy,rfl,rfl,rfl,rfl⟩:=h;exact⟨g0,ps0,a,c,rfl,hg,rfl,hx,hy⟩
 | seq a b=> simp only [tT,zO] at h;obtain⟨dx,hx,dy,hy,h⟩:=h;rcases vZ dx dy with e | ⟨_,_,_,_,_,_,_,_,_,_,_,_,e,_⟩ <;> rw [e] at h <;> cases h
 | _=>simp [tT,Option.bind_eq_some_iff] at h
theorem S3 (hrd:C.rd=none) {g:uO} {p0 p1:Nat} {dx dy:DC} {Q:Exit->Fr->St->Prop} {gi:FuncId} {xV:List (List D)} {els0:D} (hB:N1 C.P gi) (hg:rB f g = .fn gi [.ptr [els0]]) (he:els0 = .sl 2 xV\/(els0 = .xO/\xV = [])) (hp:p0<C.N/\p1<C.N)
  (J:Nat->St->Prop) (h0:J 0 σ)
  (round:∀ l k σk,k<xV.length->J k σk->wpS { C with n0:=σ.nx,rd:=some l } dx ((f.put (some p0) (.int .i64 ((xV.length-1-k:Nat):Int))).put (some p1) (.agg (xV.getD (xV.length-1-k) []))) σk
   (oK (λf1 σ1=>wpS { C with n0:=σ.nx,rd:=some l } dy f1 σ1 λe f2 σ2=>e = .normal/\∃ f3 σ3,xT { C with n0:=σ.nx,rd:=some l } f2 σ2 f3 σ3/\J (k+1) σ3) λ_ _ _=>False))
  (done:∀ σ',J xV.length σ'->Q .normal f σ'):wpS C (.wk g [p0,p1] dx dy) f σ Q:=by
 intro code hc E a w ⟨ι,G⟩;obtain⟨g0,ps0,x,y,rfl,hg0,hps,hx,hy⟩:=QX hc;obtain rfl:ps0 = #[p0,p1]:=by rw [<- hps]
 obtain⟨vs,hv,hv1,hv2⟩:=(hg ▸ nJ G.fr hg0).cU;have hv1':vs.size=1:=hv1;have hvp:=hv2 0 (by show 0<1; omega);obtain⟨Bs,o,vs0,hvB,_,hMB,hcB,hrB⟩:=R.pO (cs:=[els0]) hvp
 have hlb:vs = #[.pointer (some ⟨Bs,o,none⟩)]:=by
  refine Array.ext (by rw [hv1']; rfl) λi h1 h2=>?_;have hi0:i=0:=by rw [hv1'] at h1; omega
  subst hi0;have:vs.getD 0 undef=vs[0]:=by simp [Array.getD,h1]
  rw [this] at hvB;rw [hvB]; rfl
 have hcB0:=hcB 0 (by show 0<1; omega);have hrB0:=hrB 0 (by show 0<1; omega);generalize vs0 0=sv at hcB0 hrB0
 obtain⟨sa,b,off,cap,va,vb,hsv,hnm,hsa,hcel⟩:∃ (sa:Option Addr) (b off cap:Nat) (va vb:Nat->Value),sv = .slice sa xV.length cap/\xV.length<=maxLen/\(0<xV.length->sa=some ⟨b,off,none⟩/\ ¬ yG E.M0 ι σ b)/\
   ∀ i,i<xV.length->w.cell? ⟨b,off+i*2,none⟩= some (va i)/\ w.cell? ⟨b,off+i*2+1,none⟩= some (vb i)/\ (xV.getD i []).length=2/\RP (yG E.M0 ι σ) w (va i) ((xV.getD i []).getD 0 .top)/\ RP (yG E.M0 ι σ) w (vb i) ((xV.getD i []).getD 1 .top):=by
  rcases he with rfl | ⟨rfl,rfl⟩
  ·rcases(R.pure (ι:=ι) (n:=σ.nx) hrB0).cW with ⟨ad,cap,e1,rfl,hcap⟩ | ⟨b,off,cap,vs,e1,g1,g2,g3,g4,g5,g6,g7⟩
   ·exact⟨ad,0,0,cap,λ_=>undef,λ_=>undef,e1,by simp,λh=>absurd h (by simp),λi hi=>absurd hi (by simp)⟩
   ·refine⟨_,b,off,cap,λi=>vs i 0,λi=>vs i 1,e1,by omega,λ_=>⟨rfl,g2⟩,λi hi=>?_⟩;have hm:xV.getD i [] ∈ xV:=by simp [List.getD,hi]
    have q0:=g6 i hi 0 (by omega);rw [Nat.add_zero] at q0;exact⟨q0,g6 i hi 1 (by omega),g5 _ hm,g7 i hi 0 (by omega),g7 i hi 1 (by omega)⟩
  ·have:=(R.pure (ι:=ι) (n:=σ.nx) hrB0).uG;exact⟨none,0,0,0,λ_=>undef,λ_=>undef,this,by simp,λh=>absurd h (by simp),λi hi=>absurd hi (by simp)⟩
 subst hsv;have hF:C.F=Fence.wide:=by unfold Cx.F; rw [hrd]; rfl
 rw [hF];obtain⟨w',hw'⟩:∃ w',w'=w.alloc (.deferred (some [])):=⟨_,rfl⟩;have G':yL C E a w' f σ ι:=by rw [hw']; exact G.lay _
 have hws:w'.heap.size=w.heap.size+1:=by rw [hw']; show (w.heap.push _).size=_; simp
 have hkw:Kept w w' λ_=>False:=by rw [hw']; exact Kept.alloc w _ _
 have hD':w'.heap[w.heap.size]?=some (Obj.deferred (some [])):=by rw [hw']; exact World.alloc_heap_new w _
 refine wpIn_rangeFunc λfn _=>?_;obtain⟨rec,hrec⟩:∃ rec:LoopState->Option Code->Loop,rec=λst pe=>{ state:=st,pending:=pe,fn,tmps:=a.tmps,params:=#[p0,p1],assign:=x,body:=y,defers:=w.heap.size }:=⟨_,rfl⟩;obtain⟨W1,hW1⟩:∃ W1,W1=w'.alloc (.loop (rec .ready none)):=⟨_,rfl⟩;have hk1:Kept w' W1 λ_=>False:=by rw [hW1]; exact Kept.alloc w' _ _
 have hl1:W1.heap[w.heap.size+1]?=some (Obj.loop (rec .ready none)):=by rw [hW1,<- hws]; exact World.alloc_heap_new w' _
 have hD1:W1.heap[w.heap.size]?=some (Obj.deferred (some [])):=hk1.mark id hD';have hs1:W1.heap.size=w.heap.size+2:=by rw [hW1]; show (w'.heap.push _).size=_; simp; omega
 refine⟨w.heap.size+1,[{ target:=.collected w.heap.size,args:=#[] }],W1,{ target:=.fn (.func gi) vs,args:=#[.func (.yield (w.heap.size+1)) #[] #[]] },W1,gi,#[.func (.yield (w.heap.size+1)) #[] #[]]++vs,W1,?_,?_,λ_ _=>trivial,?_,λh=>absurd (show false=true from h) (by decide),?_⟩
 ·have:=run_enterLoop_outer (P:=C.P) (w:=w) fn a.tmps #[p0,p1] x y;rw [hW1,hw',hrec];exact this
 ·simp only [resolve,hv];simp [go_sem]
 ·have:=nN hB.1 (#[.func (.yield (w.heap.size+1)) #[] #[]]++vs) W1;simpa [invoke,go_sem] using this
 rw [hlb]
 have hblk:∀ {W:World} {σk:St} {ιk:Nat->Nat},yL { C with n0:=σ.nx } (r7 E w' σ ι (.loop (rec .ready none))) a W f σk ιk->∀ b',b'<w.heap.size->¬ yG E.M0 ι σ b'->W.heap[b']?=w.heap[b']?:=λ{W σk ιk} Gk b' hb hM=>by
  have e1:=Gk.kept.block b' (by show b'<(w'.alloc _).heap.size; rw [<- hW1]; omega) λh=>h.elim (λh=>hM (.inr h)) λh=>by omega
  have e2:(w'.alloc (.loop (rec .ready none))).heap[b']?=w'.heap[b']?:=by rw [<- hW1]; exact hk1.block b' (by omega) id
  exact e1.trans (e2.trans (hkw.block b' hb id))
 refine(hB.2 (w.heap.size+1) Bs o b off xV.length cap sa va vb (λk W=>∃ σk ιk,J k σk/\yL { C with n0:=σ.nx } (r7 E w' σ ι (.loop (rec .ready none))) a W f σk ιk/\W.heap[w.heap.size+1]?=some (Obj.loop (rec .ready none))/\ W.heap[w.heap.size]?=some (Obj.deferred (some []))) hnm (λh=>(hsa h).1) ?_ ?_ ?_ W1 ⟨σ,ι,h0,by rw [hW1]; exact G'.SS _,hl1,hD1⟩).mono ?_
 ·rintro k W ⟨σk,ιk,_,Gk,_,_⟩;have hB1:=hblk Gk Bs (vk hcB0) hMB;refine⟨by rw [World.cell?_of_block (w:=w) hB1]; rw [Nat.add_zero] at hcB0; exact hcB0,λi hi=>?_⟩;obtain⟨q1,q2,_⟩:=hcel i hi;have hb1:=hblk Gk b (vk q1) (hsa (by omega)).2;exact⟨by rw [World.cell?_of_block (w:=w) hb1]; exact q1,by rw [World.cell?_of_block (w:=w) hb1]; exact q2⟩
 ·rintro k W ⟨σk,ιk,hJ,Gk,hl,hD⟩;exact⟨σk,ιk,hJ,Gk.Jz,hl,hD⟩
 ·rintro k W hk ⟨σk,ιk,hJ,Gk,hl,hD⟩;obtain⟨_,_,q3,q4,q5⟩:=hcel (xV.length-1-k) (by omega);have hy0:=run_yield (P:=C.P) (args:=#[.int .i64 ((xV.length-1-k:Nat):Int),.agg #[va (xV.length-1-k),vb (xV.length-1-k)]]) hl (by rw [hrec]; rfl);rw [hrec] at hy0;refine⟨fn,_,x,y,hy0,roundIn_of_wpIn trivial ?_⟩
  have hMk:∀ b',b'<w.heap.size->yG (r7 E w' σ ι (.loop (rec .ready none))).M0 ιk σk b'->yG E.M0 ι σ b':=λb' hb' hM=>by
   rcases hM with (hM | hM) | ⟨k',o',hk',rfl⟩
   ·exact .inl hM
   ·have:b'=w'.heap.size:=hM;omega
   ·rcases Gk.rH k' o' hk' with h | h | h
    ·have:W1.heap.size<=ιk k':=by rw [hW1]; exact h
     omega
    ·exact .inr h
    ·have:ιk k'=w'.heap.size:=h;omega
  have hRk:∀ {v:Value} {d:D},RP (yG E.M0 ι σ) w v d->RP (yG (r7 E w' σ ι (.loop (rec .ready none))).M0 ιk σk) W v d:=λh=>h.yD (hblk Gk) hMk;have hmin:IntKind.i64.min = -9223372036854775808:=rfl;have hmax:IntKind.i64.max=9223372036854775807:=rfl;have hml:xV.length<=9223372036854775807:=by simp only [maxLen] at hnm; omega
  have G1:=((Gk.open_.Ks (rd:=some (w.heap.size+1))).bare.set (dst:=some p0) (v:=.int .i64 ((xV.length-1-k:Nat):Int)) (d:=.int .i64 ((xV.length-1-k:Nat):Int)) (.pure (.int (by omega))) (λt ht=>by cases ht; exact hp.1)).set (dst:=some p1)
   (v:=.agg #[va (xV.length-1-k),vb (xV.length-1-k)]) (d:=.agg (xV.getD (xV.length-1-k) [])) (.pure (.agg (by rw [q3]; rfl) λj hj=>by
    rw [q3] at hj;have:j=0\/j=1:=by omega
    rcases this with rfl | rfl
    ·exact hRk q4
    ·exact hRk q5)) (λt ht=>by cases ht; exact hp.2)
  have hr:=round (w.heap.size+1) k σk hk hJ x hx _ _ _ ⟨ιk,G1⟩
  have hact:({ tmps:=(#[p0,p1].zip #[Value.int .i64 ((xV.length-1-k:Nat):Int),Value.agg #[va (xV.length-1-k),vb (xV.length-1-k)]]).foldl (λtmps (t,a)=>tmps.setIfInBounds t a) a.tmps,defers:=[] }:Act)=
    (({ tmps:=a.tmps,defers:=[] }:Act).put (some p0) (.int .i64 ((xV.length-1-k:Nat):Int))).put (some p1) (.agg #[va (xV.length-1-k),vb (xV.length-1-k)]):=by simp [Act.put]
  rw [<- hact] at hr;refine wpIn_mono hr λe a1 w1 hq=>?_;obtain⟨f1,σ1,⟨ι1,G1'⟩,hq⟩:=hq
  cases e with
  | normal=>
   have hl1':=G1'.kept.mark (Gk.nL.W8 hl) hl;have hD1':=G1'.kept.mark (Gk.nL.bJ hD) hD;have Gc:=(Gk.Ks (rd:=some (w.heap.size+1))).close_ G1';have hlt1:=(Ac.1 hl1').1;obtain⟨r6,hr6⟩:∃ r6,r6 = { rec .ready none with state:=.busy }:=⟨_,rfl⟩;have hbr:=run_beginRound (P:=C.P) hl1' (by rw [hrec]);rw [<- hr6] at hbr;have G2:=Gc.TE (w':=w1.putObj (w.heap.size+1) (.loop r6)) (lJ hl1' λ_ _ e=>by cases e) (.inr hws.symm) (.inr hws.symm) λx e=>by rw [hl1'] at e; cases e
   have hl2:(w1.putObj (w.heap.size+1) (.loop r6)).heap[w.heap.size+1]?=some (Obj.loop r6):=World.putObj_heap_same hlt1;have hD2:(w1.putObj (w.heap.size+1) (.loop r6)).heap[w.heap.size]?=some (Obj.deferred (some [])):=(World.putObj_heap_other (by omega)).trans hD1';refine⟨_,hbr,?_⟩;have hr2:=hq y hy _ _ _ ⟨ι1,G2.open_⟩;refine wpIn_mono hr2 λe a2 w2 hq2=>?_;obtain⟨f2,σ2,⟨ι2,G3⟩,rfl,f3,σ3,hwk,hJ3⟩:=hq2;have hl3:=G3.kept.mark (G2.nL.W8 hl2) hl2;have hD3:=G3.kept.mark (G2.nL.bJ hD2) hD2;obtain⟨ι3,G5⟩:=hwk _ a2 w2 ⟨ι2,G2.close_ G3⟩;have hend:=run_endRound (P:=C.P) none hl3;have hr7:({ r6 with state:=if (none:Option Code).isNone then .ready else .done,pending:=none }:Loop)= rec .ready none:=by rw [hr6,hrec]; rfl
   rw [hr7] at hend;have hlt2:=(Ac.1 hl3).1;have G6:=G5.TE (w':=w2.putObj (w.heap.size+1) (.loop (rec .ready none))) (lJ hl3 λ_ _ e=>by cases e) (.inr hws.symm) (.inr hws.symm) λx e=>by rw [hl3] at e; cases e
   exact⟨_,_,hend,rfl,σ3,ι3,hJ3,G'.back (rd:=some (w.heap.size+1)) (λ_ e=>by cases e) G6,World.putObj_heap_same hlt2,(World.putObj_heap_other (by omega)).trans hD3⟩
  | exit id=>exact hq.elim
  | goto t=>exact hq.elim
  | ret=>exact hq.elim
  | panic ch=>exact hq.elim
  | outgrown=>exact hq.elim
 ·rintro e W' ⟨⟨v,rfl⟩,σ',ι',hJ',Ge,hl,hD⟩
  obtain⟨r5,hend⟩:∃ r5,(Instr.endLoop (w.heap.size+1)).run C.P W' = .ok none (W'.putObj (w.heap.size+1) (.loop r5)):=by
   have hend:=run_endLoop (P:=C.P) hl (by rw [hrec]; simp);have hpe:(rec .ready none).pending=none:=by rw [hrec]
   rw [hpe] at hend;exact⟨_,hend⟩
  refine⟨none,_,hend,f,σ',⟨ι',?_⟩,done σ' hJ'⟩;have hlt:w.heap.size+1<W'.heap.size:=(Ac.1 hl).1;have G3:=Ge.TE (w':=W'.putObj (w.heap.size+1) (.loop r5)) (lJ hl λ_ _ e=>by cases e) (.inr hws.symm) (.inr hws.symm) λx e=>by rw [hl] at e; cases e
  have G4:=G'.end_ G3;have hD4:(W'.putObj (w.heap.size+1) (.loop r5)).heap[w.heap.size]?=some (Obj.deferred (some [])):=(World.putObj_heap_other (by omega)).trans hD;obtain⟨hB0,l0,hd1,hd2,hd3⟩:=G4.defers;obtain⟨_,l1,he1,_,he3⟩:=G.defers
  refine⟨G4.size,⟨hB0,w.heap.size :: l0,?_,?_,?_⟩,G4.nx,G4.kept,G4.nL,G4.sO,G4.rH,G4.stay,G4.fr⟩
  ·show [_]++a.defers=_;rw [hd1]; rfl
  ·refine List.nodup_cons.2 ⟨λhm=>?_,hd2⟩;have hmem:({ target:=.collected w.heap.size,args:=#[] }:Deferred)∈ a.defers:=by rw [hd1]; exact γ.2 ⟨_,hm,rfl⟩
   rw [he1] at hmem;obtain⟨D,hDl,hDe⟩:=γ.1 hmem
   have hDw:D=w.heap.size:=by have:=congrArg Deferred.target hDe;simpa using this
   have:=(Ac.1 (he3 D hDl).1).1;omega
  ·intro D hD2
   rcases η.1 hD2 with rfl | hD2
   ·exact⟨hD4,G.defers.1⟩
   ·exact hd3 D hD2
end
end Go.Pd

/- Part B1. -/
set_option maxRecDepth 100000
namespace Go.Pd
open Go Go.Proofs Go.RowKit
theorem NZ (l Bs o b off n cap:Nat) (sa:Option Addr) (va vb:Nat->Value) (J:Nat->World->Prop) (hn:n<=maxLen) (hsa:0<n->sa=some ⟨b,off,none⟩)
  (hRd:∀ k W,J k W->W.cell? ⟨Bs,o,none⟩= some (.slice sa n cap)/\ ∀ i,i<n->W.cell? ⟨b,off+i*2,none⟩= some (va i)/\ W.cell? ⟨b,off+i*2+1,none⟩= some (vb i)) (hdr:∀ k W,J k W->J k W.drew)
  (hY:∀ k W,k<n->J k W->YieldAt Fence.wide 0 prog l #[.int .i64 ((n-1-k:Nat):Int),.agg #[va (n-1-k),vb (n-1-k)]] W λe W'=>e = .returned (.bool true)/\ J (k+1) W') (W:World) (h0:J 0 W) :
  CallsIn Fence.wide 0 prog 191 #[.func (.yield l) #[] #[],.pointer (some ⟨Bs,o,none⟩)] W λe W'=>(∃ v,e = .returned v)/\ J n W':=by
 have hro:Fence.wide.round=none:=rfl;have hc0:=(hRd 0 W h0).1;refine callsIn_of_wp func191 rfl trivial ?_ hro;simp only [Tryz.ntmps191,List.size_toArray,List.length_cons,List.length_nil,Nat.reduceAdd,Nat.reduceSub,Array.replicate_succ,Array.replicate_zero,List.push_toArray,List.append_toArray,List.nil_append,List.cons_append]
 gi_wp2
 have hw1:wrap64 ((n:Int)-1)= (n:Int)-1:=by simp only [maxLen] at hn;unfold wrap64;omega
 rw [hw1]
 gi_loopw [3] (λi wr=>∃ k:Nat,k<=n/\i = .int .i64 ((n:Int)-1-k)/\ J k wr) (λi _=>(RowKit.intOf i+1).toNat)
 case atStart=>exact⟨0,Ab _,by simp,h0⟩
 case round=>
  obtain⟨k,hk,rfl,hJ⟩:=hrel;have hcb:=(hRd k wr hJ).1
  by_cases hlt:k<n
  ·obtain rfl:=hsa (by omega);obtain⟨q1,q2⟩:=(hRd k wr hJ).2 (n-1-k) (by omega);obtain⟨fn,tmps,assign,body,hy,hR⟩:=hY k wr hlt hJ;have hi:(n:Int)-1-k=((n-1-k:Nat):Int):=by omega
   have hi2:((n-1-k:Nat):Int)<(n:Int):=by omega
   rw [hi];generalize hm:n-1-k=m at *
   have hwm:wrap64 ((m:Int)-1)= (m:Int)-1:=by simp only [maxLen] at hn;unfold wrap64;omega
   gi_wp2
   refine⟨rfl,hR.mono ?_⟩;rintro e W3 ⟨rfl,hJ3⟩
   gi_wp2
   go_roundw
   case rel=>exact⟨k+1,by omega,by rw [hwm]; congr 1; omega,hJ3⟩
   case measure=>simp [RowKit.intOf,hwm]
  ·obtain rfl:k=n:=by omega
   have hi:(k:Int)-1-k = -1:=by omega
   rw [hi]
   gi_wp2
   go_end0
   exact⟨⟨_,rfl⟩,hJ⟩
theorem Ju : N1 prog 191:=⟨⟨f191,func191,by decide,rfl⟩,λl Bs o b off n cap sa va vb J hn hsa hRd hdr hY W h0=>NZ l Bs o b off n cap sa va vb J hn hsa hRd hdr hY W h0⟩
end Go.Pd

/- Part KW. -/
namespace Go.Pd
open Go Go.Proofs
open BitVec renaming isValue -> ZA
open Rs Fm Ru Te Kb
theorem YW (l:List aH):yU prog 132 [.sl 2 (YF l)] (.fn 191 [.ptr [.sl 2 (YF l)]]):=by
 refine xY.xN mixed func132 IY (by simp) λhf=>?_;simp only [simprocAttr,-ZA,↓zU,↓zD,zV,zT,zW]
 (repeat refine sd ?_)
 exact .drop (by simp) (by simp [vw,vI,D.xR,D.xD]; exact⟨_,rfl,rfl,rfl⟩)
namespace Kb
def cY (R:Nat) (g h:Nat->Int) (i:Nat):List Int:=(List.range R).map λw=>if w<i then g w else h w
theorem QU (R:Nat) (g h:Nat->Int) (i:Nat):(cY R g h i).length=R:=by simp [cY]
theorem UN (R:Nat) (g h:Nat->Int):cY R g h 0=(List.range R).map h:=by simp [cY]
theorem QT (R:Nat) (g h:Nat->Int) {i:Nat} (hi:R<=i):cY R g h i=(List.range R).map g:=by refine ξ λf hf=>?_;rw [if_pos (by have:=ε.1 hf; omega)]
theorem QV (R:Nat) (g h:Nat->Int) (i:Nat):(cY R g h i).set i (g i)= cY R g h (i+1):=by
 refine μ (by simp [cY]) λk h1 h2=>?_;rw [ω];simp only [cY,List.getElem_map,List.getElem_range]
 by_cases e:i=k
 ·subst e; rw [if_pos rfl,if_pos (by omega)]
 ·rw [if_neg e]
  by_cases hk:k<i
  ·rw [if_pos hk,if_pos (by omega)]
  ·rw [if_neg hk,if_neg (by omega)]
theorem UM (R:Nat) {g h:Nat->Int} {i:Nat} (e:g i=h i):cY R g h (i+1)= cY R g h i:=by
 refine ξ λw _=>?_
 by_cases hw:w=i
 ·subst hw; rw [if_pos (by omega),if_neg (by omega)]; exact e
 ·by_cases h1:w<i
  ·rw [if_pos (by omega),if_pos h1]
  ·rw [if_neg (by omega),if_neg h1]
def Mp (R:Nat) (V:List (BitVec 64)) (RR:List (List (BitVec 64))):Ob:=⟨3,[[.int .i64 (R:Int),.sl 1 (us V),.sl 1 (rr RR)]]⟩
def Vd (p:yA) (sts:List (List (BitVec 64))) (t a j:Nat):List Int:=(List.range sts.length).map λw=>sJ p.xK sts t a w ((p.code.getD a []).drop j)
def np (p:yA) (sts:List (List (BitVec 64))) (t a:Nat):List (List (List D)):=(List.range a).map λb=>rows .i64 (Vd p sts t b 0)
theorem bH (p:yA) (sts:List (List (BitVec 64))) (t a:Nat):(np p sts t a).length=a:=by simp [np]
theorem Xm (p:yA) (sts:List (List (BitVec 64))) (t a:Nat):np p sts t (a+1)= np p sts t a ++ [rows .i64 (Vd p sts t a 0)]:=by unfold np; rw [List.range_succ,List.map_append]; rfl
theorem ON (p:yA) (sts:List (List (BitVec 64))) (t:Nat):np p sts t p.xK.length=(nV p sts t).map (rows .i64):=by simp only [np,nV,π];rfl
structure QP where
 a:Nat
 nx:Nat
 kO:Nat
 ks:List Nat
 xZ:List (Nat × Ob)
structure IP (p : yA) (sts : List (List (BitVec 64))) (t : Nat) (mO : Ob) (x : QP) : Prop where
 ha:x.a<=p.xK.length
 n0:1<=x.nx
 h0:St.look x.xZ 0=some mO
 kO:0<x.kO/\x.kO<x.nx\/x.a=0
 kl:x.ks.length=x.a
 ks:∀ k ∈ x.ks,0<k/\k<x.nx
 nd:x.ks.Nodup
 no:x.a≠0->x.kO ∉ x.ks
 zr:x.a≠0->lg x.xZ x.kO x.ks (np p sts t x.a)
def cX (kO a:Nat):D:=if a=0 then .xO else .yM kO 1 a
theorem IP.step {p:yA} {sts:List (List (BitVec 64))} {t:Nat} {mO:Ob} {x:QP} (h:IP p sts t mO x) (hal:x.a<p.xK.length) {m:Nat} {ob:List (Nat × Ob)} (hm:x.nx+3<=m) (hout:St.look ob (m+1)= some ⟨1,tC (x.ks ++ [x.nx+1]) (np p sts t (x.a+1))⟩)
  (hnew:St.look ob (x.nx+1)= some ⟨1,rows .i64 (Vd p sts t x.a 0)⟩) (hold:∀ k,k<x.nx->(x.a=0\/k≠x.kO)->St.look ob k=St.look x.xZ k):IP p sts t mO ⟨x.a+1,m+1+1,m+1,x.ks ++ [x.nx+1],ob⟩ where
 ha:=by show x.a+1<=_; omega
 n0:=by show 1<=m+1+1; omega
 h0:=by have:=h.n0;show St.look ob 0=_;rw [hold 0 (by omega) (by have:=h.kO; omega)];exact h.h0
 kO:=.inl ⟨by show 0<m+1; omega,by show m+1<m+1+1; omega⟩
 kl:=by simp [h.kl]
 ks:=λk hk=>by
  rcases List.mem_append.1 hk with hk | hk
  ·have:=h.ks k hk;exact⟨this.1,by show k<m+1+1; omega⟩
  ·rw [δ.1 hk]; exact⟨by omega,by show x.nx+1<m+1+1; omega⟩
 nd:=by refine List.nodup_append.2 ⟨h.nd,by simp,λk hk j hj e=>?_⟩;have:=h.ks k hk;rw [δ.1 hj] at e;omega
 no:=λ_ hk=>by
  have hk:m+1 ∈ x.ks ++ [x.nx+1]:=hk
  rcases List.mem_append.1 hk with hk | hk
  ·have:=h.ks _ hk; omega
  ·have:=δ.1 hk; omega
 zr :=λ_=>{
  out:=hout
  len:=by rw [bH]; simp [h.kl]
  each:=λi hi=>by
   rw [bH] at hi;have hi:i<x.a+1:=hi;show St.look ob ((x.ks ++ [x.nx+1]).getD i 0)= some ⟨1,(np p sts t (x.a+1)).getD i []⟩;rw [Xm]
   by_cases e:i=x.a
   ·subst e;have e1:(x.ks ++ [x.nx+1]).getD x.a 0=x.nx+1:=by simp [List.getD,<- h.kl]
    have e2:(np p sts t x.a ++ [rows .i64 (Vd p sts t x.a 0)]).getD x.a []=rows .i64 (Vd p sts t x.a 0):=by have:=bH p sts t x.a;simp [List.getD,List.getElem?_append,this]
    rw [e1,e2]; exact hnew
   ·have hia:i<x.ks.length:=by rw [h.kl]; omega
    have hia2:i<(np p sts t x.a).length:=by rw [bH]; omega
    have e1:(x.ks ++ [x.nx+1]).getD i 0=x.ks.getD i 0:=by simp [List.getD,ο hia]
    have e2:(np p sts t x.a ++ [rows .i64 (Vd p sts t x.a 0)]).getD i []=(np p sts t x.a).getD i []:=by simp [List.getD,ο hia2]
    rw [e1,e2];have hmem:=sE hia;have hlt:=h.ks _ hmem;have ha0:x.a≠0:=by omega
    rw [hold _ hlt.2 (.inr λe=>h.no ha0 (e ▸ hmem))];exact(h.zr ha0).each i hia2 }
end Kb
theorem ZZ {n:Nat} (hn:1<=n/\n<=64) (σ:St):xY prog 131 [.sl 1 [[.int .i64 (-1)]],.int .i64 (n:Int)] σ (.yM σ.nx 1 n) ⟨σ.nx+1,(σ.nx,⟨1,rows .i64 (List.replicate n (-1))⟩) :: σ.xZ⟩:=by have h:=Ui (d:=.int .i64 (-1)) rfl rfl hn;rw [OS] at h;exact xY.KH h rfl (tI _ _)
theorem w9 {p:yA} {F:Nat} (hv:nr p F) {sts:List (List (BitVec 64))} {t:Nat} (ok:NH p F sts t) :
  xY prog 76 [wm p sts,.int .i64 t] gY (.yM 0 1 p.xK.length) ⟨1+p.xK.length,uu ((nV p sts t).map (rows .i64))⟩:=by
 have hm:=Qb ok.ok;have hH:=λf hE=>O6 ok (f:=f) hE;have hK:=λa w (ha:a<p.xK.length) (hw:w<sts.length) f=>RY ok ha hw f;have hR:=ok.hR;have hA:=ok.hA;have hll:(zM sts.length 0).length=sts.length:=qN _ _;have hRl:(uY (vV p.xK sts t) (zM sts.length 0) p.xK.length).length=p.xK.length:=by simp [uY]
 have hRg:∀ a,a<p.xK.length->(uY (vV p.xK sts t) (zM sts.length 0) p.xK.length).getD a []=uL (vV p.xK sts t) (zM sts.length 0) a:=λa ha=>by simp [uY,List.getD,ha]
 have hrl:∀ a,(uL (vV p.xK sts t) (zM sts.length 0) a).length=sts.length:=λa=>by simp [uL,hll]
 have hrg:∀ a w,w<sts.length->(uL (vV p.xK sts t) (zM sts.length 0) a).getD w 0=Ru.lF (vV p.xK sts t) (zM sts.length 0) a (yV (vV p.xK sts t) a (w,0)) sts.length:=λa w hw=>by simp [uL,zM,List.getD,hw]
 unfold Wc ez at hm hH;rw [hll] at hm hH;generalize qE (vV p.xK sts t) (zM sts.length 0) F=V at *;generalize uY (vV p.xK sts t) (zM sts.length 0) p.xK.length=RR at *;unfold wm Pj at *;refine xY.xN mixed func76 Fq (by simp) λhf=>?_;simp only [simprocAttr,-ZA,↓zU,↓zD,zV,zT,zW];refine .go (cr hm) ?_;simp only [simprocAttr,-ZA,↓zU,↓zD,zV,zT,zW,zG,hv.hC]
 (repeat refine sd ?_)
 refine xP (λx:QP=>[(24,.int .i64 x.a),(23,.int .i64 p.xK.length),(22,.sl 1 (oA p.code)),(6,cX x.kO x.a),(5,.ref 0 3 0 0)]) (λx=>⟨x.nx,x.xZ⟩)
  (IP p sts t (Mp sts.length V RR)) (λx=>p.xK.length-x.a) ⟨0,1,0,[],[(0,Mp sts.length V RR)]⟩ ⟨Ab _,Aa _,rfl,.inr rfl,rfl,by simp,.nil,λh=>absurd rfl h,λh=>absurd rfl h⟩ ?_ ?_
 ·unfold Mp cX
  (refine xT.same ?_; simp [xS,Fr.get])
 rintro ⟨a,nx,kO,ks,xZ⟩ hI;obtain⟨ha,n0,h0,hkO,hkl,hks,hnd,hno,hnst⟩:=hI;simp only at ha n0 h0 hkO hkl hks hnd hno hnst;refine xM mixed ?_;by_cases hal:a<p.xK.length
 case neg=>
  have hd:¬ ((a:Int)<(p.xK.length:Int)):=by omega
  obtain rfl:a=p.xK.length:=by omega
  have ha0:p.xK.length≠0:=by omega
  unfold cX;rw [if_neg ha0];simp only [simprocAttr,-ZA,↓zU,↓zD,zV,zT,zW,hd];have hn:=hnst ha0;rw [ON] at hn;have hl2:((nV p sts t).map (rows .i64)).length=p.xK.length:=by simp [nV]
  have hr:=pC.zr (nx:=nx) hn hl2.symm hnd (hno ha0) λe he r hr=>by simp only [γ] at he;obtain⟨m,_,rfl⟩:=he;exact tI _ _ r hr
  rw [hl2] at hr;exact hr
 have hd:((a:Int)<(p.xK.length:Int)):=by omega
 have hac:a<p.code.length:=by rw [hv.hC]; exact hal
 have hdc:((a:Int)<(p.code.length:Int)):=by omega
 have hg:=fC p.code hac;have hmem:=xL (d:=[]) hac;have hbw:=YW (p.code.getD a [])
 have hF0:Vd p sts t a (p.code.getD a []).length=List.replicate sts.length (-1):=by unfold Vd;rw [List.drop_length];refine τ.2 ⟨by simp,λx hx=>?_⟩;simp only [γ] at hx;obtain⟨w,_,rfl⟩:=hx;rfl
 have hF1:∀ j w,j<(p.code.getD a []).length->sJ p.xK sts t a w ((p.code.getD a []).drop j)= if L9 p.xK sts t a ((p.code.getD a []).getD j Vb).test w=true then((p.code.getD a []).getD j Vb).mv else sJ p.xK sts t a w ((p.code.getD a []).drop (j+1)):=λj w hj=>by rw [drop_cons (d:=Vb) hj]; rfl
 have hFm:∀ j,Vd p sts t a j=(List.range sts.length).map λw=>sJ p.xK sts t a w ((p.code.getD a []).drop j):=λj=>rfl;have hsu:=Xm p sts t a
 have hE:∀ j,j<(p.code.getD a []).length->ve p ((p.code.getD a []).getD j Vb).test 15=0:=λj hj=>by
  have:=hv.code _ hmem _ (xL (d:=Vb) hj);unfold jG at this
  split at this
  ·rename_i h1; exact absurd this h1
  ·rename_i h1; simpa using h1
 have hl6:=hv.cl _ hmem;generalize p.code.getD a []=cl at *;have c0:¬ (nx=0):=by omega
 simp only [simprocAttr,-ZA,↓zU,↓zD,zV,zT,zW,hd,hdc,zG,hg,h0,Mp,c0]
 (repeat refine sd ?_)
 refine .go (ZZ ⟨hR.1,by omega⟩ _) ?_;simp only [simprocAttr,-ZA,↓zU,↓zD,zV,zT,zW]
 (repeat refine sd ?_)
 refine .go (cr hbw) ?_;simp only [simprocAttr,-ZA,↓zU,↓zD,zV,zT,zW]
 refine S3 rfl Ju rfl (.inl rfl) ⟨by decide,by decide⟩ (λk σk=>∃ m ob,σk=⟨m,ob⟩/\ nx+3<=m/\St.look ob (nx+1+1)= some ⟨1,[[.yM (nx+1) 1 sts.length]]⟩/\ St.look ob (nx+1)= some ⟨1,rows .i64 (Vd p sts t a (cl.length-k))⟩/\ St.look ob nx=some ⟨1,[[.int .i64 a]]⟩/\ ∀ k,k<nx->St.look ob k=St.look xZ k) ?_ ?_ ?_
 ·refine⟨_,_,rfl,Aa _,?_,?_,?_,λk hk=>?_⟩
  ·rw [xX,if_pos rfl]
  ·rw [xX,if_neg (by omega),xX,if_pos rfl,Nat.sub_zero,hF0]
  ·rw [xX,if_neg (by omega),xX,if_neg (by omega),xX,if_pos rfl]
  ·rw [xX,if_neg (by omega),xX,if_neg (by omega),xX,if_neg (by omega)]
 ·intro l k σk hk ⟨m,ob,e0,hm3,h2,h1,hx,hold⟩;subst e0;rw [uP] at hk ⊢;have hj:cl.length-1-k<cl.length:=by omega
  have hg1:=vl cl hj;have hE1:=hE _ hj;have hF2:=λw=>hF1 (cl.length-1-k) w hj;rw [show cl.length-1-k+1=cl.length-k by omega] at hF2;have e1:cl.length-(k+1)= cl.length-1-k:=by omega
  rw [e1];have hm1:=hFm (cl.length-k);have hm2:=hFm (cl.length-1-k);generalize cl.length-1-k=j at *;generalize cl.length-k=j1 at *;have hH1:=hH _ hE1;generalize cl.getD j Vb=c at *;unfold aH.row at hg1;have h0':St.look ob 0=some (Mp sts.length V RR):=by rw [hold 0 (by omega)]; exact h0
  unfold Mp at h0';have q1:¬ (m=nx+1+1):=by omega
  have q2:¬ (m=nx+1):=by omega
  have q3:¬ (m=nx):=by omega
  have q4:¬ (m=0):=by omega
  refine xM mixed ?_;simp only [simprocAttr,-ZA,↓zU,↓zD,zV,zT,zW,hg1]
  (repeat refine sd ?_)
  refine xM mixed ?_;simp only [simprocAttr,-ZA,↓zU,↓zD,zV,zT,zW,q1,q2,q3,q4,h0',h1,h2,hx]
  (repeat refine sd ?_)
  refine .go (cr hH1) ?_;simp only [simprocAttr,-ZA,↓zU,↓zD,zV,zT,zW,q1,q2,q3,q4,h0',h1,h2,hx]
  (repeat refine sd ?_)
  have hga:=nC RR (show a<RR.length by omega);rw [hRg a hal] at hga;have hla:=hrl a;have hda:((a:Int)<(RR.length:Int)):=by omega
  refine xP (λx:Nat × List (Nat × Ob)=>[(46,.int .i64 x.1),(45,.int .i64 sts.length),(12,.int .u64 (ui (PZ p.xK sts t c.test))),(11,.ref m 2 0 0),(9,.ref (nx+1+1) 1 0 0),(7,.ref nx 1 0 0),(5,.ref 0 3 0 0)]) (λx=>⟨m+1,x.2⟩)
   (λx=>x.1<=sts.length/\St.look x.2 m=some ⟨2,[[.sl 6 (zB c.test),.int .i64 c.mv]]⟩/\ St.look x.2 (nx+1)= some ⟨1,rows .i64 (cY sts.length (λw=>sJ p.xK sts t a w (cl.drop j)) (λw=>sJ p.xK sts t a w (cl.drop j1)) x.1)⟩/\ ∀ k,k<m->k≠nx+1->St.look x.2 k=St.look ob k)
   (λx=>sts.length-x.1) (0,(m,⟨2,[[.sl 6 (zB c.test),.int .i64 c.mv]]⟩) :: ob) ⟨Ab _,by rw [xX,if_pos rfl],by rw [xX,if_neg (by omega),h1,hm1,UN],λk hk _=>by rw [xX,if_neg (by omega)]⟩ ?_ ?_
  ·(refine xT.same ?_; simp [xS,Fr.get])
  rintro ⟨w,ob'⟩ ⟨hw,g1,g2,g3⟩;simp only at hw g1 g2 g3;have g4:St.look ob' (nx+1+1)= some ⟨1,[[.yM (nx+1) 1 sts.length]]⟩:=by rw [g3 _ (by omega) (by omega)]; exact h2
  have g5:St.look ob' nx=some ⟨1,[[.int .i64 a]]⟩:=by rw [g3 _ (by omega) (by omega)]; exact hx
  have g6:St.look ob' 0=some ⟨3,[[.int .i64 (sts.length:Int),.sl 1 (us V),.sl 1 (rr RR)]]⟩:=by rw [g3 _ (by omega) (by omega)]; exact h0'
  refine xM mixed ?_;by_cases hwl:w<sts.length
  case neg=>
   have hd3:¬ ((w:Int)<(sts.length:Int)):=by omega
   rw [QT _ _ _ (by omega),<- hm2] at g2;simp only [simprocAttr,-ZA,↓zU,↓zD,zV,zT,zW,hd3];exact⟨[],⟨m+1,ob'⟩,xT.same trivial,m+1,ob',rfl,by omega,g4,g2,g5,λk hk=>by rw [g3 k (by omega) (by omega)]; exact hold k hk⟩
  have hd3:((w:Int)<(sts.length:Int)):=by omega
  have hgw:=vX (uL (vV p.xK sts t) (zM sts.length 0) a) (show w<_ by rw [hla]; exact hwl);rw [hrg a w hwl] at hgw;have hkn:=hK a w hal hwl c.test;generalize Ru.lF (vV p.xK sts t) (zM sts.length 0) a (yV (vV p.xK sts t) a (w,0)) sts.length=xr at hgw hkn;have hF3:=hF2 w;have hms:=QV sts.length (λw=>sJ p.xK sts t a w (cl.drop j)) (λw=>sJ p.xK sts t a w (cl.drop j1)) w;have hml:=QU sts.length (λw=>sJ p.xK sts t a w (cl.drop j)) (λw=>sJ p.xK sts t a w (cl.drop j1)) w;have hme:=@UM sts.length (λw=>sJ p.xK sts t a w (cl.drop j)) (λw=>sJ p.xK sts t a w (cl.drop j1)) w
  cases hc:L9 p.xK sts t a c.test w with
  | false=>
   rw [hc] at hkn hF3;rw [if_neg (by simp)] at hF3;simp only [simprocAttr,-ZA,↓zU,↓zD,zV,zT,zW,hd3,g1,g2,g4,g5,g6,hda,hga,hla,hgw,hkn,zE,xI]
   (repeat refine sd ?_)
   refine⟨(w+1,ob'),⟨by show w+1<=_; omega,g1,by show St.look ob' _=some ⟨1,rows .i64 (cY _ _ _ (w+1))⟩; rw [hme hF3]; exact g2,g3⟩,?_,by show sts.length-(w+1)<sts.length-w; omega⟩
   (refine xT.same ?_; simp only [xS,Fr.get,simprocAttr,-ZA,zS])
   exact wrap_i64 (by omega)
  | true=>
   rw [hc] at hkn hF3;rw [if_pos rfl] at hF3;rw [hF3] at hms;generalize cY sts.length (λw=>sJ p.xK sts t a w (cl.drop j)) (λw=>sJ p.xK sts t a w (cl.drop j1)) w=M at *;have hgM:=yP .i64 M (show w<M.length by omega);simp only [simprocAttr,-ZA,↓zU,↓zD,zV,zT,zW,hd3,g1,g2,g4,g5,g6,hda,hga,hla,hgw,hkn,zE,xI,yO,hml,hgM,j4,hms]
   (repeat refine sd ?_)
   refine⟨(w+1,zL ob' (nx+1) ⟨1,rows .i64 (cY sts.length (λw=>sJ p.xK sts t a w (cl.drop j)) (λw=>sJ p.xK sts t a w (cl.drop j1)) (w+1))⟩),⟨by show w+1<=_; omega,?_,?_,λk hk hk2=>?_⟩,?_,by show sts.length-(w+1)<sts.length-w; omega⟩
   ·show St.look (zL _ _ _) _=_;rw [xU,if_neg (by omega)]; exact g1
   ·show St.look (zL _ _ _) _=_;rw [xU,if_pos rfl,g2]; rfl
   ·show St.look (zL _ _ _) _=_;rw [xU,if_neg (λe=>hk2 e.symm)]; exact g3 k hk hk2
   ·(refine xT.same ?_; simp only [xS,Fr.get,simprocAttr,-ZA,zS])
    exact wrap_i64 (by omega)
 ·intro σ' ⟨m,ob,e0,hm3,h2,h1,hx,hold⟩;subst e0;rw [uP,Nat.sub_self] at h1;have hI:IP p sts t (Mp sts.length V RR) ⟨a,nx,kO,ks,xZ⟩:=⟨ha,n0,h0,hkO,hkl,hks,hnd,hno,hnst⟩;have hRl2:(Vd p sts t a 0).length=sts.length:=by simp [Vd]
  have q1:¬ (m=nx+1+1):=by omega
  by_cases ha0:a=0
  ·subst ha0;unfold cX;simp only [simprocAttr,-ZA,↓zU,↓zD,zV,zT,zW,h2,q1]
   (repeat refine sd ?_)
   refine⟨⟨0+1,m+1+1,m+1,ks ++ [nx+1],(m+1,⟨1,[[.yM (nx+1) 1 sts.length]]⟩) :: (m,⟨1,[[.yM (nx+1) 1 sts.length]]⟩) :: ob⟩,IP.step hI hal hm3 ?_ ?_ ?_,?_,by show p.xK.length-(0+1)<_; omega⟩
   ·rw [xX,if_pos rfl];show _=some (Ob.mk 1 (tC (ks ++ [nx+1]) (np p sts t (0+1))));obtain rfl:ks = []:=List.eq_nil_of_length_eq_zero hkl;rw [hsu];simp [tC,np,yO,hRl2]
   ·rw [xX,if_neg (by show ¬ m+1=nx+1; omega),xX,if_neg (by show ¬ m=nx+1; omega)];exact h1
   ·intro k hk _;have hk:k<nx:=hk;rw [xX,if_neg (by omega),xX,if_neg (by omega)];exact hold k hk
   ·simp only [Nat.zero_add,Nat.one_ne_zero,↓reduceIte]
    (refine xT.same ?_; simp only [xS,Fr.get,simprocAttr,-ZA,zS])
    all_goals rfl
  ·have hkO2:0<kO/\kO<nx:=by rcases hkO with h | h <;> omega
   have hn:=hnst ha0;have ho:=hn.out;unfold cX;rw [if_neg ha0];have ho2:St.look ob kO=some ⟨1,tC ks (np p sts t a)⟩:=by rw [hold kO hkO2.2]; exact ho
   have q2:¬ (m=kO):=by omega
   have hnl:=rD hn.len;rw [bH] at hnl;have htk:(tC ks (np p sts t a)).take a=tC ks (np p sts t a):=ζ (by omega);simp only [simprocAttr,-ZA,↓zU,↓zD,zV,zT,zW,h2,q1,q2,ho2,hnl,htk]
   (repeat refine sd ?_)
   refine⟨⟨a+1,m+1+1,m+1,ks ++ [nx+1],(m+1,⟨1,tC ks (np p sts t a)++ [[.yM (nx+1) 1 sts.length]]⟩) :: (m,⟨1,[[.yM (nx+1) 1 sts.length]]⟩) :: yC ob kO⟩,IP.step hI hal hm3 ?_ ?_ ?_,?_,by show p.xK.length-(a+1)<_; omega⟩
   ·rw [xX,if_pos rfl];show _=some (Ob.mk 1 (tC (ks ++ [nx+1]) (np p sts t (a+1))));have:=ja hn.len (nx+1) (rows .i64 (Vd p sts t a 0));rw [yO,hRl2] at this;rw [this,hsu]
   ·rw [xX,if_neg (by show ¬ m+1=nx+1; omega),xX,if_neg (by show ¬ m=nx+1; omega),xF,if_neg (by show ¬ kO=nx+1; omega)];exact h1
   ·intro k hk hk2;have hk:k<nx:=hk;have hk2:k≠kO:=hk2.resolve_left ha0;rw [xX,if_neg (by omega),xX,if_neg (by omega),xF,if_neg (λe=>hk2 e.symm)];exact hold k hk
   ·simp only [Nat.add_one_ne_zero,↓reduceIte]
    (refine xT.same ?_; simp only [xS,Fr.get,simprocAttr,-ZA,zS])
    exact wrap_i64 (by omega)
end Go.Pd
