/- Part KT. -/
import Derived.Test.YtndfaefmmcoapaaGreatKaKI
import Derived.Test.YtndfaefmmcoapaaGreatKaKR
set_option linter.unusedSectionVars false
set_option linter.unusedVariables false
set_option linter.unusedSimpArgs false
set_option linter.defProp false
set_option maxRecDepth 20000
set_option maxHeartbeats 1000000
namespace Go.Pd
open Go Go.Proofs
open Rs Fm Ru Te Kb
namespace Kb
theorem bG {rs:List wO} {A F T:Nat} (ok:OkR rs A F T) {f:List Nd} (hc:xH f=0) (hfr:(rQ .andNot .i64 (zY f:Int) 15 != 0)= false) (hft:sV f A F=true):tO A F (lI f)= true:=by
 have h16:zY f<16:=aCa ⟨zY f,oD f⟩ hfr;have ha:∀ n:Fin 16,n.val &&& 3824=0/\n.val &&& 256=0:=by decide
 have hE:aJs ⟨A,F,T,rs⟩ f=0:=by
  unfold aJs;rw [if_neg (by simpa using aQe ok),if_neg (by simpa using hc),dC (oD f),if_neg (by simp [(ha ⟨zY f,h16⟩).1])];simp only;rw [if_neg (by rw [hft]; simp)]
 exact(aZr rfl (aQe ok) ok hE (ha ⟨zY f,h16⟩).2).1
theorem aQo {p:PrA} {f:List Nd} {fr:Int} (h:fmE p f fr=0):xH f=0/\(rQ .andNot .i64 (zY f:Int) fr != 0)= false/\sV f p.see.length p.F=true:=by
 unfold fmE at h
 by_cases h1:xH f=0
 ·rw [if_neg (by simpa using h1)] at h
  cases h2:(rQ .andNot .i64 (zY f:Int) fr != 0) with
  | true=>rw [h2,if_pos rfl] at h; cases h
  | false=>
   rw [h2,if_neg (by simp)] at h
   cases h3:sV f p.see.length p.F with
   | true=>exact⟨h1,rfl,rfl⟩
   | false=>rw [h3] at h; cases h
 ·rw [if_pos h1] at h; exact absurd h h1
structure PlG (p : PrA) (F : Nat) (sts : List (List (BitVec 64))) (t : Nat) : Prop where
 fe:p.F=(F:Int)
 hF:F<=8
 hA:1<=p.see.length/\p.see.length<=4
 hR:1<=sts.length/\sts.length<=16
 len:∀ st ∈ sts,t<st.length
 ht:t<=1000
 val:∀ st ∈ sts,∀ s ∈ st,s >>> F=0#64
theorem PlG.ok {p:PrA} {F:Nat} {sts:List (List (BitVec 64))} {t:Nat} (h:PlG p F sts t):aAx p F sts t:=⟨h.fe,h.hF,h.hA.2,by have:=h.hR.2; omega,h.len,h.ht⟩
theorem PlG.time {p:PrA} {F:Nat} {sts:List (List (BitVec 64))} {t:Nat} (h:PlG p F sts t):OkR (wM p.see sts t) p.see.length F 1:=
 aHi h.hA.2 h.hF ⟨h.hR.1,by have:=h.hR.2; omega⟩ fun w hw=>h.val _ (xN hw) _ (xN (h.len _ (xN hw)))
def aBd (see:List (BitVec 64)) (sts:List (List (BitVec 64))) (t:Nat) (f:List Nd) (v:Nat):Bool:=evT (wM see sts t) see.length 1 (lI f) (v,0)
def knT (see:List (BitVec 64)) (sts:List (List (BitVec 64))) (t a:Nat) (f:List Nd) (w:Nat):Bool:=
 (List.range sts.length).all fun v=>!decide (rV see (stR sts v) a t=rV see (stR sts w) a t) || aBd see sts t f v
def aC1 (see:List (BitVec 64)) (sts:List (List (BitVec 64))) (t:Nat) (f:List Nd):BitVec 64:=qQ 1 sts.length (evT (wM see sts t) see.length 1 (lI f))
def uG (see:List (BitVec 64)) (sts:List (List (BitVec 64))) (t a w:Nat):List ClA->Int
 | []=>-1
 | c :: r=>if knT see sts t a c.test w=true then c.mv else uG see sts t a w r
def kB (p:PrA) (sts:List (List (BitVec 64))) (t a w:Nat):Int:=uG p.see sts t a w (p.code.getD a [])
def wC (p:PrA) (sts:List (List (BitVec 64))) (t:Nat):List (List Int):=(List.range p.see.length).map fun a=>(List.range sts.length).map fun w=>kB p sts t a w
def sW (A:Nat) (s:BitVec 64):List wO:=[⟨[List.replicate A 0],[s]⟩]
def aBe (A:Nat) (f:List Nd) (s:BitVec 64):Bool:=evT (sW A s) A 1 (lI f) (0,0)
def aRg (A:Nat) (s0:BitVec 64) (out:BitVec 64) (a:AsA):BitVec 64:=out &&& ~~~(1#64 <<< a.fact.toNat) ||| (if aBe A a.to s0=true then 1#64 <<< a.fact.toNat else 0#64)
def aS8 (p:PrA) (s0:BitVec 64) (out:BitVec 64) (k:Int):BitVec 64:=if k<0 then out else(p.moves.getD k.toNat []).foldl (aRg p.see.length s0) out
def aEu (p:PrA) (s0:BitVec 64) (mv:List Int):BitVec 64:=mv.foldl (aS8 p s0) s0
theorem aHl {A F:Nat} {s:BitVec 64} (hA:A<=4) (hF:F<=8) (hs:s >>> F=0#64):OkR (sW A s) A F 1 where
 hA:=hA
 hF:=hF
 hT:=⟨by omega,by omega⟩
 hR:=⟨by simp [sW],by simp [sW]⟩
 hP:=by simp [sW]
 loc:=fun r hr=>by simp only [sW,List.mem_singleton] at hr; subst hr; rfl
 fac:=fun r hr=>by simp only [sW,List.mem_singleton] at hr; subst hr; rfl
 row:=fun r hr l hl=>by
  simp only [sW,List.mem_singleton] at hr; subst hr;simp only [List.mem_singleton] at hl; subst hl;simp
 val:=fun r hr x hx=>by
  simp only [sW,List.mem_singleton] at hr; subst hr;simp only [List.mem_singleton] at hx; subst hx;exact hs
end Kb
theorem aGz {p:PrA} {F:Nat} {sts:List (List (BitVec 64))} {t:Nat} (h:PlG p F sts t) {f:List Nd} (hE:fmE p f 15=0):yX Tryz.prog 54 [aN1 p.see sts t F,.sl 6 (ndR f)] (.tup [.int .u64 (ui (aC1 p.see sts t f)),.int .i64 0]):=by
 obtain⟨h1,h2,h3⟩:=aQo hE;rw [h.fe] at h3;have ok:=h.time;have hl:(wM p.see sts t).length*1=sts.length:=by rw [nU,Nat.mul_one]
 have hh:=aUf ok (by rw [hl]; have:=h.hR.2; omega) h1 h2 h3;unfold aUt at hh;rw [if_pos (bG ok h1 h2 h3),hl,aMr] at hh;exact hh
theorem aM5 {p:PrA} {F:Nat} {sts:List (List (BitVec 64))} {t:Nat} (h:PlG p F sts t) {a w:Nat} (ha:a<p.see.length) (hw:w<sts.length) (f:List Nd) :
  (Ru.relK (wM p.see sts t) (vY sts.length 0) a (uT (wM p.see sts t) a (w,0)) sts.length &&& ~~~aC1 p.see sts t f==0#64)= knT p.see sts t a f w:=by
 have hR:=h.hR.2;rw [Bool.eq_iff_iff,aR8];unfold knT aC1;simp only [List.all_eq_true,List.mem_range]
 constructor
 ·intro hh v hv
  by_cases e:rV p.see (stR sts v) a t=rV p.see (stR sts w) a t
  ·have h1:=hh v (by omega);rw [oH _ _ (by omega),rC hv,xC (by omega)] at h1;have h2:=(dZ (t:=t) ha hv hw).2 e;simp only [decide_eq_true hv,decide_eq_true h2,Bool.true_and,true_implies] at h1;unfold aBd;rw [decide_eq_true e,show pt 1 v=(v,0) by unfold pt; rw [Nat.div_one,Nat.mod_one]] at *;rw [h1]; rfl
  ·rw [decide_eq_false e]; rfl
 ·intro hh v hv hb;rw [oH _ _ (by omega)] at hb;simp only [Bool.and_eq_true,decide_eq_true_eq] at hb;obtain⟨hv2,hb⟩:=hb;rw [rC hv2] at hb;have h1:=hh v hv2;rw [decide_eq_true ((dZ (t:=t) ha hv2 hw).1 hb)] at h1;rw [xC (by omega),decide_eq_true hv2,show pt 1 v=(v,0) by unfold pt; rw [Nat.div_one,Nat.mod_one]];simpa [aBd] using h1
open Rs Fm Ru Te Kb
namespace Kb
structure PrV (p : PrA) (F : Nat) : Prop where
 fe:p.F=(F:Int)
 hF:F<=8
 hA:1<=p.see.length/\p.see.length<=4
 hI:1<=p.init.length/\p.init.length<=16
 hM:p.moves.length<=8
 hC:p.code.length=p.see.length
 cl:∀ l ∈ p.code,l.length<=6
 init:∀ s ∈ p.init,s >>> F=0#64
 see:∀ s ∈ p.see,s >>> F=0#64
 asc:aNt p.init=true
 ascm:∀ m ∈ p.moves,aYj m=true
 mv:∀ m ∈ p.moves,∀ a ∈ m,asE p a=0
 code:∀ l ∈ p.code,∀ c ∈ l,clE p c=0
theorem fR {p:PrA} {F:Nat} (h:p.F=(F:Int)) {s:BitVec 64} (hs:oT p s=false):s >>> F=0#64:=by
 unfold oT at hs;rw [h] at hs;simpa using hs
theorem aO9 {p:PrA} (h:tE p=0):∃ F,PrV p F:=by
 unfold tE at h
 split at h
 ·rename_i h0; exact absurd h h0
 rename_i h0;have h0:yH p=0:=by simpa using h0
 split at h
 ·rename_i h1; exact absurd h h1
 rename_i h1;have h1:wV (wV (asE p)) p.moves=0:=by simpa using h1
 unfold yH at h0
 split at h0
 ·cases h0
 rename_i q1
 split at h0
 ·cases h0
 rename_i q2
 split at h0
 ·cases h0
 rename_i q3
 split at h0
 ·cases h0
 rename_i q4;simp only [not_or] at q1 q2 q3 q4;obtain⟨F,hF⟩:∃ F:Nat,p.F=(F:Int):=⟨p.F.toNat,by omega⟩
 refine⟨F,hF,by omega,by omega,by omega,by omega,by have:=q3.2.2.1; omega,fun l hl=>?_,fun s hs=>fR hF ?_,fun s hs=>fR hF ?_,by simpa using q4.1,fun m hm=>?_,fun m hm a ha=>?_,fun l hl c hc=>?_⟩
 ·have:=List.any_eq_false.1 (Bool.eq_false_iff.2 q2.2.2.2) l hl;simpa using this
 ·have:=List.any_eq_false.1 (Bool.eq_false_iff.2 q3.2.2.2.1) s hs;simpa using this
 ·have:=List.any_eq_false.1 (Bool.eq_false_iff.2 q3.2.2.2.2) s hs;simpa using this
 ·have:=List.any_eq_false.1 (Bool.eq_false_iff.2 q4.2) m hm;simpa using this
 ·exact tV.1 (tV.1 h1 m hm) a ha
 ·exact tV.1 (tV.1 h l hl) c hc
theorem aJj {p:PrA} {F:Nat} (h:PrV p F) {m:List AsA} (hm:m ∈ p.moves):m.length<=8:=by
 have ha:=aJk.1 (h.ascm m hm)
 have hf:∀ i,i<m.length->0<=(m.getD i as0).fact/\(m.getD i as0).fact<F:=fun i hi=>by
  have:=h.mv m hm _ (xN (d:=as0) hi);unfold asE at this
  split at this
  ·cases this
  ·rename_i q; have:=h.fe; omega
 have hg:∀ i,i<m.length->(m.map (·.fact)).getD i 0=(m.getD i as0).fact:=fun i hi=>by simp [List.getD,hi]
 have key:∀ i,i<m.length->(i:Int)<=(m.getD i as0).fact:=by
  intro i
  induction i with
  | zero=>intro hi; exact(hf 0 hi).1
  | succ i ih=>
   intro hi;have h1:=ih (by omega);have h2:=ha i (by simpa using hi);rw [hg i (by omega),hg (i+1) hi] at h2;omega
 by_cases h0:m.length=0
 ·omega
 ·have h1:=key (m.length-1) (by omega);have h2:=hf (m.length-1) (by omega);have:=h.hF;omega
end Kb
theorem aTh (A F:Nat) (s:BitVec 64):aEc (sW A s) (vY 1 0) A F = .agg [.int .i64 1,.sl 1 (us ((List.range F).map fun i=>s >>> i &&& 1#64)),.sl 1 (rr (List.replicate A [1#64]))]:=by
 unfold aEc
 have h1:eR (sW A s) (vY 1 0) F=(List.range F).map fun i=>s >>> i &&& 1#64:=by
  refine List.map_congr_left fun i _=>?_;rw [aUh];show 0#64 ||| (if s.getLsbD i then 1#64 <<< 0 else 0#64)= _;cases s.getLsbD i <;> rfl
 have h2:oU (sW A s) (vY 1 0) A=List.replicate A [1#64]:=by
  refine List.eq_replicate_iff.2 ⟨by simp [oU],fun r hr=>?_⟩;simp only [oU,List.mem_map,List.mem_range] at hr;obtain⟨a,ha,rfl⟩:=hr;show [0#64 ||| (if uT (sW A s) a (0,0)= uT (sW A s) a (0,0) then 1#64 <<< 0 else 0#64)]=_;rw [if_pos rfl];rfl
 rw [h1,h2];rfl
theorem aM2 (A:Nat) (f:List Nd) (s:BitVec 64) (n:Nat):qQ 1 1 (evT (sW A s) A 1 (lI f)) <<< n=if aBe A f s=true then 1#64 <<< n else 0#64:=by
 show (0#64 ||| (if aBe A f s=true then 1#64 <<< 0 else 0#64)) <<< n=_;split <;> simp
theorem aTm {n:Nat} (hn:1<=n/\n<=64):yX Tryz.prog 224 [.sl 1 [[.sl 1 (us [1#64])]],.int .i64 (n:Int)] (.sl 1 (rr (List.replicate n [1#64]))):=by
 have h:=aPx (d:=.sl 1 (us [1#64])) rfl rfl hn;rw [aH5] at h;exact xX.ret h (.drop (Nat.zero_le _) (aVg (by decide) (aY4 _) (by simp [rr])))
end Go.Pd
