/- Part C2. -/
import Derived.Test.YtndfaefmmcoapaaGreatUbKG
import Derived.Test.YtndfaefmmcoapaaGreatUbJB
import Derived.Test.YtndfaefmmcoapaaGreatUbF18
set_option linter.unusedSectionVars false
set_option linter.unusedVariables false
set_option linter.unusedSimpArgs false
set_option linter.defProp false
set_option maxRecDepth 20000
set_option maxHeartbeats 1000000
open Go.Proofs.Tryz
open Int renaming toNat_natCast->γ,eq_ofNat_of_zero_le->δ
open Nat renaming zero_le->ε,reduceEqDiff->ζ,lt_succ_self->η,pow_le_pow_right->θ,lt_of_lt_of_le->κ,testBit_lt_two_pow->μ
open List renaming nil_append->ν,mem_range->ξ,isEmpty_nil->ο,take_of_length_le->π,ext_getElem->τ,cons_append->υ,any_eq_true->χ,all_eq_true->ω
namespace Go.Pd
open Go Go.Proofs
open BitVec renaming isValue -> ZA
open Rs Fm Ru Te
theorem TK (s:BitVec 64) (l:List (BitVec 64)) (hl:l.length<=1000):xY prog 122 [.sl 1 (us (s :: l))] St0 (.osl 0 1 (l.length+1)) ⟨1,[(0,⟨1,us (s :: l)⟩)]⟩:=by
 refine xY.xP mixed func122 MU (by simp) λhf=>?_;have hln:(us (s :: l)).length=l.length+1:=by simp [us]
 have h1:=Ym (s :: l);have e:us (s :: l)= [.int .u64 (ui s)] :: us l:=rfl;rw [e] at hln h1 ⊢;simp only [simprocAttr,-ZA,↓zU,↓zD,zV,zT,zW];have hp:=sF (s :: l);rw [e] at hp;exact⟨by simp,h1,by omega,by omega,jM.name (n:=0) (by simp) hp (by simp [vw])⟩
theorem Xz {k sz:Nat} {a b:List (List D)} (h:a.length=b.length):xD k sz a=xD k sz b:=by
 cases a with
 | nil=>cases b with
  | nil=>rfl
  | cons e r=>simp at h
 | cons e r=>cases b with
  | nil=>simp at h
  | cons e' r'=>simp only [List.length_cons] at h; simp [xD,h]
theorem ZI (c:Nat) (l:List (BitVec 64)):(us l).map (D.wQ c)= us l:=lR c (sF l)
theorem jd {n:Nat} {xZ:List (Nat × Ob)} (l:List (BitVec 64)) (h:l ≠ []) (hl:l.length<=1000):xY prog 122 [.sl 1 (us l)] ⟨n,xZ⟩ (xD n 1 (us l)) ⟨n+1,xA n 1 (us l)++ xZ⟩:=by
 cases l with
 | nil=>exact absurd rfl h
 | cons s l=> have:=xY.own (σ:=⟨n,xZ⟩) (TK s l (by simp at hl; omega)) (by simp [D.xU,D.xL]);simp only [D.shift,yL,Ob.shift,ZI,υ,ν,Nat.add_zero] at this;simp only [nj,xz,xy,xI,υ,ν];exact this
namespace Ru
def op2 (meet:Bool) (a b:BitVec 64):BitVec 64:=if meet=true then a &&& b else a ||| b
def Vq (meet:Bool) (acc r:List (BitVec 64)):List (BitVec 64):=(List.range acc.length).map λi=>op2 meet (acc.getD i 0) (r.getD i 0)
def fW (R:List (List (BitVec 64))) (G:Nat) (meet:Bool):Nat->List (BitVec 64)
 | 0=>[]
 | k+1=>if G.testBit k then(if (fW R G meet k).isEmpty then R.getD k [] else Vq meet (fW R G meet k) (R.getD k [])) else fW R G meet k
def wO (m:qF) (G:Nat) (meet:Bool):List (BitVec 64):=fW m.R G meet m.R.length
def ov (meet:Bool) (acc r:List (BitVec 64)) (w:Nat):List (BitVec 64):=(List.range acc.length).map λi=>if i<w then op2 meet (acc.getD i 0) (r.getD i 0) else acc.getD i 0
theorem Wf (meet:Bool) (acc r:List (BitVec 64)):ov meet acc r 0=acc:=by refine τ (by simp [ov]) λi h1 h2=>?_;simp [ov,List.getD,h2]
theorem Tl (meet:Bool) (acc r:List (BitVec 64)):ov meet acc r acc.length=Vq meet acc r:=by unfold ov Vq;refine List.map_congr_left λi hi=>?_;rw [ξ] at hi;rw [if_pos hi]
theorem ct (meet:Bool) (acc r:List (BitVec 64)) (w:Nat):(ov meet acc r w).length=acc.length:=by simp [ov]
theorem Qn {meet:Bool} {acc r:List (BitVec 64)} {w:Nat} (h:w<acc.length):(ov meet acc r w).getD w 0=acc.getD w 0:=by simp [ov,List.getD,h]
theorem Tm {meet:Bool} {acc r:List (BitVec 64)} {w:Nat} (h:w<acc.length):(ov meet acc r w).set w (op2 meet (acc.getD w 0) (r.getD w 0))= ov meet acc r (w+1):=by
 refine τ (by simp [ov]) λi h1 h2=>?_;simp only [List.getElem_set,ov,List.getElem_map,List.getElem_range]
 by_cases e:w=i
 ·subst e; simp
 ·rw [if_neg e]
  by_cases e2:i<w
  ·rw [if_pos e2,if_pos (by omega)]
  ·rw [if_neg e2,if_neg (by omega)]
theorem vk {m:qF} {W:Nat} (ok:lE m W) (G:Nat) (meet:Bool):∀ k,k<=m.R.length->fW m.R G meet k = []\/(fW m.R G meet k).length=W
 | 0,_=>.inl rfl
 | k+1,hk=>by
  have hr:=ok.row _ (xR (d:=[]) (show k<m.R.length by omega));rw [fW]
  split
  ·split
   ·exact .inr hr
   ·rcases vk ok G meet k (by omega) with h | h
    ·rename_i hn; rw [h] at hn; exact absurd rfl hn
    ·exact .inr (by simp [Vq,h])
  ·exact vk ok G meet k (by omega)
theorem qc (R:List (List (BitVec 64))) (G:Nat) (meet:Bool) (k:Nat):fW R G meet (k+1)= if G.testBit k then(if (fW R G meet k).isEmpty then R.getD k [] else Vq meet (fW R G meet k) (R.getD k [])) else fW R G meet k:=rfl
end Ru
theorem qu {m:qF} {W:Nat} (ok:lE m W) {g:Nat} (hg:1<=g/\g<2 ^ m.R.length) (meet:Bool) (f:FuncId) (hop:∀ a b,zX prog f [.int .u64 (ui a),.int .u64 (ui b)] (.int .u64 (ui (op2 meet a b)))):zX prog 252 [m.d,.int .i64 (g:Int),.fn f []] (.sl 1 (us (wO m g meet))):=by
 have hc:=iR ok;have h4:=ok.hR;obtain⟨W1,W64⟩:=ok.hW;have hsh:=nc (k:=m.R.length) (by omega);have h2:¬ (g:Int)<1:=by omega
 have h3:¬ ((2 ^ m.R.length:Nat):Int)<=(g:Int):=by omega
 have hg60:g<2 ^ 60:=κ hg.2 (θ (by decide) (by omega));have hall:fW m.R g meet m.R.length=wO m g meet:=rfl;unfold qF.d at hc ⊢;refine xY.xP mixed func252 MB (by simp) λhf=>?_;simp only [simprocAttr,-ZA,↓zU,↓zD,zV,zT,zW]
 (repeat refine sd ?_)
 refine .go (cr hc) ?_;simp only [simprocAttr,-ZA,↓zU,↓zD,zV,zT,zW,h2,h3,hsh,zJ]
 (repeat refine sd ?_)
 refine xT (λk:Nat=>[(29,.int .i64 k),(28,.int .i64 m.R.length),(27,.sl 1 (rr m.R)),(7,xD 1 1 (us (fW m.R g meet k))),(2,.fn f []),(1,.int .i64 g)])
  (λk=>⟨2,xA 1 1 (us (fW m.R g meet k))⟩) (λk=>k<=m.R.length) (λk=>m.R.length-k) 0 (ε _) ?_ ?_
 ·(refine xN.ren [] [1,0] (by simp) (by simp) (by decide) ?_; simp only [yT,zQ,simprocAttr,-ZA,exists_eq_left',ne_eq,zR,fW,zN,zM,ν,vwL])
 intro k hk;refine xO mixed ?_
 by_cases h:k<m.R.length
 ·have hd:((k:Int)<(m.R.length:Int)):=by omega
  have hu:=yB (k:=k) (by omega);have hrl:=ok.row _ (xR (d:=[]) h);have hbr:=Yf hg60 (show k<=60 by omega);have hs:=qc m.R g meet k;have hL:=vk ok g meet k hk;have hrg:=mM m.R h;generalize fW m.R g meet k=acc at hs hL ⊢;generalize m.R.getD k []=r at hrl hs hrg
  cases hb:g.testBit k with
  | false=>
   rw [hb] at hbr hs;simp only [simprocAttr,-ZA,↓zU,↓zD,zV,zT,zW,hd,hbr,hu,hrg,zJ]
   (repeat refine sd ?_)
   refine⟨k+1,by omega,?_,by omega⟩;rw [hs,if_neg (by simp)]
   (refine xN.same ?_; simp only [xQ,Fr.get,simprocAttr,-ZA,zS])
  | true=>
   rw [hb] at hbr hs;rw [if_pos rfl] at hs hbr
   by_cases he:acc = []
   ·subst he;rw [ο,if_pos rfl] at hs;simp only [simprocAttr,-ZA,↓zU,↓zD,zV,zT,zW,hd,hbr,hu,hrg,zJ,ο]
    (repeat refine sd ?_)
    have hrne:r ≠ []:=by rintro rfl; simp at hrl; omega
    refine .go (jd r hrne (by omega)) ?_;simp only [simprocAttr,-ZA,↓zU,↓zD,zV,zT,zW,hu];refine⟨k+1,by omega,?_,by omega⟩;rw [hs]
    (refine xN.ren [(1,2)] [1] (by simp) (by simp) (by decide) ?_; simp only [yT,zQ,simprocAttr,-ZA,exists_eq_left',ne_eq,zR])
   ·have hie:acc.isEmpty=false:=by simpa using he
    have hiu:(us acc).isEmpty=false:=by cases acc with | nil=>exact absurd rfl he | cons a l=>rfl
    rw [hie,if_neg (by simp)] at hs;have hL1:acc.length=W:=hL.resolve_left he;simp only [simprocAttr,-ZA,↓zU,↓zD,zV,zT,zW,hd,hbr,hu,hrg,zJ,hiu]
    (repeat refine sd ?_)
    refine xT (λw:Nat=>[(45,.int .i64 w),(44,.int .i64 acc.length),(29,.int .i64 k),(28,.int .i64 m.R.length),(27,.sl 1 (rr m.R)),(9,.sl 1 (us r)),(7,xD 1 1 (us acc)),(2,.fn f []),(1,.int .i64 g)])
     (λw=>⟨2,xA 1 1 (us (ov meet acc r w))⟩) (λw=>w<=acc.length) (λw=>acc.length-w) 0 (ε _) ?_ ?_
    ·rw [Wf]
     (refine xN.same ?_; simp [xQ,Fr.get])
    intro w hw;refine xO mixed ?_
    by_cases h4:w<acc.length
    ·have hd4:((w:Int)<(acc.length:Int)):=by omega
     have hw4:=yB (k:=w) (by omega);have hx:w<r.length:=by omega
     have hx':(w:Int)<(r.length:Int):=by omega
     have hma:=Qn (meet:=meet) (r:=r) h4;have hms:=Tm (meet:=meet) (r:=r) h4;have hml:=ct meet acc r w;have hmw:w<(ov meet acc r w).length:=by omega
     generalize ov meet acc r w=z at *;simp only [simprocAttr,-ZA,↓zU,↓zD,zV,zT,zW,hd4,hw4,vI _ hmw,vI _ hx,hma,hml,xI]
     (repeat refine sd ?_)
     refine .go (xY.yO (hop (acc.getD w 0) (r.getD w 0)) rfl) ?_;simp only [simprocAttr,-ZA,↓zU,↓zD,zV,zT,zW,hd4,hw4,vI _ hmw,mQ,hma,hml,hms,xI]
     (repeat refine sd ?_)
     refine⟨w+1,by omega,?_,by omega⟩;rw [aR (by rw [xI,xI,ct,hml])]
     (refine xN.same ?_; simp only [xQ,Fr.get,simprocAttr,-ZA,zS])
    ·have hd4:¬ ((w:Int)<(acc.length:Int)):=by omega
     have hw':w=acc.length:=by omega
     subst hw';rw [Tl];simp only [simprocAttr,-ZA,↓zU,↓zD,zV,zT,zW,hd4,hu];refine⟨k+1,by omega,?_,by omega⟩;rw [hs,Xz (show (us acc).length=(us (Vq meet acc r)).length by simp [us,Vq])]
     (refine xN.same ?_; simp only [xQ,Fr.get,simprocAttr,-ZA,zS])
 ·have hd:¬ ((k:Int)<(m.R.length:Int)):=by omega
  have hk':k=m.R.length:=by omega
  subst hk';rw [hall];simp only [simprocAttr,-ZA,↓zU,↓zD,zV,zT,zW,hd]
  (repeat refine sd ?_)
  refine .drop (by simp) ?_;simp only [yT,zQ,simprocAttr,-ZA,exists_eq_left',ne_eq,zR]
theorem Qj (a b:BitVec 64):zX prog 254 [.int .u64 (ui a),.int .u64 (ui b)] (.int .u64 (ui (op2 false a b))):=by refine xY.xP mixed func254 MD (by simp) λhf=>?_;simp only [simprocAttr,-ZA,↓zU,↓zD,zV,zT,zW];exact .same
theorem Qi (a b:BitVec 64):zX prog 253 [.int .u64 (ui a),.int .u64 (ui b)] (.int .u64 (ui (op2 true a b))):=by refine xY.xP mixed func253 MC (by simp) λhf=>?_;simp only [simprocAttr,-ZA,↓zU,↓zD,zV,zT,zW];exact .same
theorem ao {m:qF} {W:Nat} (ok:lE m W) {g:Nat} (hg:1<=g/\g<2 ^ m.R.length):zX prog 217 [m.d,.int .i64 (g:Int)] (.sl 1 (us (wO m g false))):=by
 have h:=qu ok hg false 254 Qj;unfold qF.d at h ⊢;refine xY.xP mixed func217 M3 (by simp) λhf=>?_;simp only [simprocAttr,-ZA,↓zU,↓zD,zV,zT,zW]
 (repeat refine sd ?_)
 refine .go (cr h) ?_;simp only [simprocAttr,-ZA,↓zU,↓zD,zV,zT,zW];exact .dv
theorem Q1 {m:qF} {W:Nat} (ok:lE m W) {g:Nat} (hg:1<=g/\g<2 ^ m.R.length):zX prog 216 [m.d,.int .i64 (g:Int)] (.sl 1 (us (wO m g true))):=by
 have h:=qu ok hg true 253 Qi;unfold qF.d at h ⊢;refine xY.xP mixed func216 Lx (by simp) λhf=>?_;simp only [simprocAttr,-ZA,↓zU,↓zD,zV,zT,zW]
 (repeat refine sd ?_)
 refine .go (cr h) ?_;simp only [simprocAttr,-ZA,↓zU,↓zD,zV,zT,zW];exact .dv
open Rs Fm Ru Te
namespace Ru
def lF (r:List (BitVec 64)) (a c s:BitVec 64):Nat->BitVec 64
 | 0=>a
 | n+1=>uu r (a &&& ~~~c ||| s &&& lF r a c s n)
theorem qi {r:List (BitVec 64)} {a c s:BitVec 64} {n:Nat} (h:lF r a c s (n+1)= lF r a c s n):∀ m,lF r a c s (n+m)= lF r a c s n
 | 0=>rfl
 | m+1=>by show uu r (a &&& ~~~c ||| s &&& lF r a c s (n+m))= _;rw [qi h m];exact h
theorem Qe {n:Nat} (hn:n<=64) {x:BitVec 64} (h:ow n x=false) {i:Nat} (hi:x.getLsbD i=true):i<n:=by
 unfold ow at h;rw [Bool.not_eq_false',decide_eq_true_iff] at h;have h64:i<64:=Decidable.byContradiction λhh=>by rw [BitVec.getLsbD_of_ge _ _ (by omega)] at hi; cases hi
 have:=congrArg (·.getLsbD i) h;simp only [BitVec.getLsbD_and,BitVec.getLsbD_not,rG hn h64,hi,h64,BitVec.getLsbD_zero] at this;simpa using this
def Yw (R:List (List (BitVec 64))) (G:Nat) (meet:Bool) (k w v:Nat):Bool:= if meet=true then(List.range k).all λa=>!G.testBit a || ((R.getD a []).getD w 0).getLsbD v else(List.range k).any λa=>G.testBit a&&((R.getD a []).getD w 0).getLsbD v
theorem RB (meet:Bool) (a b:BitVec 64) (v:Nat):(op2 meet a b).getLsbD v=if meet=true then(a.getLsbD v&&b.getLsbD v) else(a.getLsbD v || b.getLsbD v):=by unfold op2;cases meet <;> simp
theorem cW (R:List (List (BitVec 64))) (G:Nat) (meet:Bool) (k w v:Nat):Yw R G meet (k+1) w v=if G.testBit k=true then(if meet=true then(Yw R G meet k w v&&((R.getD k []).getD w 0).getLsbD v) else(Yw R G meet k w v || ((R.getD k []).getD w 0).getLsbD v)) else Yw R G meet k w v:=by unfold Yw;simp only [List.range_succ,List.any_append,List.all_append,List.any_cons,List.any_nil,List.all_cons,List.all_nil,Bool.or_false,Bool.and_true];cases meet <;> cases hG:G.testBit k <;> simp
theorem qb {m:qF} {W:Nat} (ok:lE m W) (G:Nat) (meet:Bool):∀ k,k<=m.R.length->((∀ a,a<k->G.testBit a=false)/\ fW m.R G meet k = [])\/((∃ a,a<k/\G.testBit a=true)/\ (fW m.R G meet k).length=W/\∀ w,w<W->∀ v,((fW m.R G meet k).getD w 0).getLsbD v=Yw m.R G meet k w v)
 | 0,_=>.inl ⟨λa h=>by omega,rfl⟩
 | k + 1,hk=>by
  have hr:=ok.row _ (xR (d:=[]) (show k<m.R.length by omega));rw [qc];have ih:=qb ok G meet k (by omega)
  cases hb:G.testBit k with
  | false=>
   rw [if_neg (by simp)]
   rcases ih with ⟨h1,h2⟩ | ⟨⟨a,h1,h2⟩,h3,h4⟩
   ·refine .inl ⟨λa ha=>?_,h2⟩
    by_cases e:a=k
    ·rw [e]; exact hb
    ·exact h1 a (by omega)
   ·refine .inr ⟨⟨a,by omega,h2⟩,h3,λw hw v=>?_⟩;rw [cW,hb,h4 w hw v]; rfl
  | true=>
   rw [if_pos rfl];refine .inr ⟨⟨k,by omega,hb⟩,?_⟩
   rcases ih with ⟨h1,h2⟩ | ⟨_,h3,h4⟩
   ·rw [h2,ο,if_pos rfl];refine⟨hr,λw hw v=>?_⟩;rw [cW,hb,if_pos rfl]
    have hz:Yw m.R G meet k w v=meet:=by
     unfold Yw
     cases meet
     ·simp only [Bool.false_eq_true,↓reduceIte,List.any_eq_false,ξ];intro a ha;rw [h1 a ha]; simp
     ·simp only [↓reduceIte,ω,ξ];intro a ha;rw [h1 a ha]; simp
    rw [hz];cases meet <;> simp
   ·have hne:(fW m.R G meet k).isEmpty=false:=by
     cases hc:fW m.R G meet k with
     | nil=>rw [hc] at h3; have:=ok.hW; simp at h3; omega
     | cons a b=>rfl
    rw [hne,if_neg (by simp)];refine⟨by simp [Vq,h3],λw hw v=>?_⟩;rw [cW,hb,if_pos rfl,<- h4 w hw v]
    have:(Vq meet (fW m.R G meet k) (m.R.getD k [])).getD w 0=op2 meet ((fW m.R G meet k).getD w 0) ((m.R.getD k []).getD w 0):=by simp [Vq,List.getD,h3,hw]
    rw [this,RB]
theorem cL {m:qF} {W:Nat} (ok:lE m W) {g:Nat} (hg:1<=g/\g<2 ^ m.R.length) (meet:Bool):(∃ a,a<m.R.length/\g.testBit a=true)/\ (wO m g meet).length=W/\∀ w,w<W->∀ v,((wO m g meet).getD w 0).getLsbD v=Yw m.R g meet m.R.length w v:=by
 rcases qb ok g meet m.R.length (Nat.le_refl _) with ⟨h1,_⟩ | h
 ·exfalso
  have:g=0:=by
   refine Nat.eq_of_testBit_eq λi=>?_;rw [Nat.zero_testBit]
   by_cases hi:i<m.R.length
   ·exact h1 i hi
   ·exact μ (κ hg.2 (θ (by decide) (by omega)))
  omega
 ·exact h
theorem Si {m:qF} {W:Nat} (ok:lE m W) {a:Nat} (ha:a<m.R.length):s9 (m.R.getD a []):=by have hm:=xR (d:=[]) ha;have:=ok.hW;refine⟨by rw [ok.row _ hm]; omega,λx hx=>?_⟩;rw [ok.row _ hm];exact ok.rel _ hm x hx
theorem wa {m:qF} {W:Nat} (ok:lE m W) {g:Nat} (hg:1<=g/\g<2 ^ m.R.length) (meet:Bool):s9 (wO m g meet):=by
 obtain⟨⟨a,ha,hb⟩,hl,hv⟩:=cL ok hg meet;have hW:=ok.hW;refine⟨by rw [hl]; omega,λx hx=>?_⟩;rw [hl];obtain⟨w,hw,rfl⟩:=List.mem_iff_getElem.1 hx;refine mh hW.2 λv h=>?_;have hw':w<W:=by omega
 have e:(wO m g meet)[w]=(wO m g meet).getD w 0:=by simp [List.getD,hw]
 rw [e,hv w hw' v] at h
 have key:∀ b,b<m.R.length->((m.R.getD b []).getD w 0).getLsbD v=true->v<W:=λb hb' h'=>by have hm:=xR (d:=[]) hb';exact Qe hW.2 (ok.rel _ hm _ (xR (d:=0) (by rw [ok.row _ hm]; exact hw'))) h'
 unfold Yw at h
 split at h
 ·rw [ω] at h;have:=h a (ξ.2 ha);rw [hb] at this;exact key a ha (by simpa using this)
 ·rw [χ] at h;obtain⟨b,hb1,hb2⟩:=h;rw [Bool.and_eq_true] at hb2;exact key b (ξ.1 hb1) hb2.2
end Ru
theorem WD {r:List (BitVec 64)} (ok:s9 r) {a c s:BitVec 64} {N:Nat} (hN:lF r a c s (N+1)= lF r a c s N):zX prog 218 [.sl 1 (us r),.int .u64 (ui a),.int .u64 (ui c),.int .u64 (ui s)] (.int .u64 (ui (lF r a c s N))):=by
 have hb:=λx=>tn ok x;refine xY.xP mixed func218 M4 (by simp) λhf=>?_;simp only [simprocAttr,-ZA,↓zU,↓zD,zV,zT,zW]
 refine xT (λn:Nat=>[(9,.int .u64 (ui (lF r a c s n))),(3,.int .u64 (ui s)),(2,.int .u64 (ui c)),(1,.int .u64 (ui a)),(0,.sl 1 (us r))]) (λ_=>⟨0,[]⟩) (λn=>n<=N) (λn=>N-n) 0 (ε _) ?_ ?_
 ·(refine xN.same ?_; simp [xQ,Fr.get])
  rfl
 intro n hn;refine xO mixed ?_;have hs:lF r a c s (n+1)= uu r (a &&& ~~~c ||| s &&& lF r a c s n):=rfl;simp only [simprocAttr,-ZA,↓zU,↓zD,zV,zT,zW];refine .go (xY.yO (hb (a &&& ~~~c ||| s &&& lF r a c s n)) (by simp [D.xU,D.xL])) ?_;rw [<- hs]
 by_cases e:lF r a c s (n+1)= lF r a c s n
 ·obtain⟨k,hk⟩:=Nat.exists_eq_add_of_le hn;have hst:=qi e k;rw [hk,hst];have e':(lF r a c s (n+1)== lF r a c s n)= true:=by rw [e]; simp
  simp only [simprocAttr,-ZA,↓zU,↓zD,zV,zT,zW,e'];exact .same
 ·have e':(lF r a c s (n+1)== lF r a c s n)= false:=by rw [beq_eq_false_iff_ne]; exact e
  have hlt:n<N:=Decidable.byContradiction λh=>e (by rw [show n=N by omega]; exact hN);simp only [simprocAttr,-ZA,↓zU,↓zD,zV,zT,zW,e'];refine⟨n+1,by omega,?_,by omega⟩
  (refine xN.same ?_; simp only [xQ,Fr.get,simprocAttr,-ZA,zS])
open Rs Fm Ru Te
namespace Ru
def pG (m:qF) (W:Nat) (n:Nd) (x y:BitVec 64):BitVec 64 × Bool:=
 if n.op=1 then(oZ W,true) else if n.op=2 then(0#64,true) else if n.op=3 then(if n.i<m.V.length then(m.V.getD n.i.toNat 0,true) else(0#64,false)) else if n.op=4 then(oZ W &&& ~~~x,true)
 else if n.op=5 then(x &&& y,true) else if n.op=6 then(x ||| y,true) else if n.op=7 then(oZ W &&& ~~~x ||| y,true) else if n.op=8 then(oZ W &&& ~~~(x ^^^ y),true)
 else if n.op=9 then(if n.i<m.R.length then(uu (m.R.getD n.i.toNat []) x,true) else(0#64,false)) else if n.op=10 then(if n.i<m.R.length then(Pc (m.R.getD n.i.toNat []) x,true) else(0#64,false))
 else if n.op=11 then(if n.g<(2 ^ m.R.length:Nat) then(uu (wO m n.g.toNat false) x,true) else(0#64,false)) else if n.op=12 then(if n.g<(2 ^ m.R.length:Nat) then(uu (wO m n.g.toNat true) x,true) else(0#64,false))
 else if n.op=13 then(if n.g<(2 ^ m.R.length:Nat) then(lF (wO m n.g.toNat false) (oZ W) x y W,true) else(0#64,false)) else(0#64,false)
theorem T6 {W:Nat} (h1:1<=W) (h2:W<=64):18446744073709551615#64 >>> (64-W)= oZ W:=by
 have:∀ W,W<65->1<=W->18446744073709551615#64 >>> (64-W)= oZ W:=by decide
 exact this W (by omega) h1
end Ru
theorem Rg {m:qF} {W:Nat} (ok:lE m W) {n:Nd} {k:Int} (hn:zG n k=0) {x y:BitVec 64} (hcom:n.op=13->n.g<(2 ^ m.R.length:Nat)->lF (wO m n.g.toNat false) (oZ W) x y (W+1)= lF (wO m n.g.toNat false) (oZ W) x y W) :
  zX prog 177 [m.d,.agg n.row,.int .u64 (ui x),.int .u64 (ui y)] (.tup [.int .u64 (ui (pG m W n x y).1),.bool (pG m W n x y).2]):=by
 obtain⟨W1,W64⟩:=ok.hW;have hR4:=ok.hR;have hV8:=ok.hV;have hw:IntKind.i64.wrap (64-m.W)= ((64-W:Nat):Int):=by rw [ok.w,wrap_i64 (by omega)]; omega
 have hfull:(18446744073709551615:Int)= ui 18446744073709551615#64:=rfl;have hall:=T6 W1 W64
 have hi0:n.op=3\/n.op=9\/n.op=10->0<=n.i:=λh=>by
  rcases h with h | h | h
  ·exact(jC hn (by rw [h]; rfl)).1
  ·exact(uE hn (by rw [h]; rfl)).1
  ·exact(uE hn (by rw [h]; rfl)).1
 have hg0:n.op=11\/n.op=12\/n.op=13->1<=n.g/\n.g<=15:=λh=>by
  have hgr:(xV n.op).1.gr=true:=by rcases h with h | h | h <;> rw [h] <;> rfl
  have h1:=(wI.1 hn).2.2.2.2;simp only [Bool.or_eq_false_iff,hgr,yX,Bool.true_and,decide_eq_false_iff_not] at h1;omega
 have hsh:=nc (k:=m.R.length) (by omega);obtain⟨op,i,e,g,a,b⟩:=n;simp only at hi0 hg0 hcom;have hrow:(Nd.row ⟨op,i,e,g,a,b⟩)= [.int .i64 op,.int .i64 i,.int .i64 e,.int .i64 g,.int .i64 a,.int .i64 b]:=rfl;rw [hrow];unfold qF.d
 rcases kR op with rfl | rfl | rfl | rfl | rfl | rfl | rfl | rfl | rfl | rfl | rfl | rfl | rfl | rfl | rfl | rfl | rfl | rfl | rfl | rfl | rfl | h | h
 ·rw [show pG m W ⟨1,i,e,g,a,b⟩ x y=(oZ W,true) from rfl,<- hall];refine xY.xP mixed func177 lG (by simp) λhf=>?_;simp only [simprocAttr,-ZA,↓zU,↓zD,zV,zT,zW,hw]
  (repeat refine sd ?_)
  exact .drop (by simp) (by simp [vw,vwL])
 ·rw [show pG m W ⟨2,i,e,g,a,b⟩ x y=(0#64,true) from rfl];refine xY.xP mixed func177 lG (by simp) λhf=>?_;simp only [simprocAttr,-ZA,↓zU,↓zD,zV,zT,zW,hw]
  (repeat refine sd ?_)
  exact .drop (by simp) (by simp [vw,vwL])
 ·have h0:=hi0 (.inl rfl)
  by_cases hlt:i<(m.V.length:Int)
  ·have hv:pG m W ⟨3,i,e,g,a,b⟩ x y=(m.V.getD i.toNat 0,true):=if_pos hlt;have hge:¬ (m.V.length:Int)<=i:=by omega
   obtain⟨j,rfl⟩:=δ h0;have hg:=vI m.V (show j<m.V.length by omega);rw [γ] at hv;rw [hv];generalize m.V.getD j 0=z at hg;refine xY.xP mixed func177 lG (by simp) λhf=>?_;simp only [simprocAttr,-ZA,↓zU,↓zD,zV,zT,zW,hw,xI,hge,hg]
   (repeat refine sd ?_)
   exact .drop (by simp) (by simp [vw,vwL])
  ·have hv:pG m W ⟨3,i,e,g,a,b⟩ x y=(0#64,false):=if_neg hlt;have hge:(m.V.length:Int)<=i:=by omega
   rw [hv];refine xY.xP mixed func177 lG (by simp) λhf=>?_;simp only [simprocAttr,-ZA,↓zU,↓zD,zV,zT,zW,hw,xI,hge]
   (repeat refine sd ?_)
   exact .drop (by simp) (by simp [vw,vwL])
 ·rw [show pG m W ⟨4,i,e,g,a,b⟩ x y=(oZ W &&& ~~~x,true) from rfl,<- hall];refine xY.xP mixed func177 lG (by simp) λhf=>?_;simp only [simprocAttr,-ZA,↓zU,↓zD,zV,zT,zW,hw]
  (repeat refine sd ?_)
  exact .drop (by simp) (by simp [vw,vwL])
 ·rw [show pG m W ⟨5,i,e,g,a,b⟩ x y=(x &&& y,true) from rfl];refine xY.xP mixed func177 lG (by simp) λhf=>?_;simp only [simprocAttr,-ZA,↓zU,↓zD,zV,zT,zW,hw]
  (repeat refine sd ?_)
  exact .drop (by simp) (by simp [vw,vwL])
 ·rw [show pG m W ⟨6,i,e,g,a,b⟩ x y=(x ||| y,true) from rfl];refine xY.xP mixed func177 lG (by simp) λhf=>?_;simp only [simprocAttr,-ZA,↓zU,↓zD,zV,zT,zW,hw]
  (repeat refine sd ?_)
  exact .drop (by simp) (by simp [vw,vwL])
 ·rw [show pG m W ⟨7,i,e,g,a,b⟩ x y=(oZ W &&& ~~~x ||| y,true) from rfl,<- hall];refine xY.xP mixed func177 lG (by simp) λhf=>?_;simp only [simprocAttr,-ZA,↓zU,↓zD,zV,zT,zW,hw]
  (repeat refine sd ?_)
  exact .drop (by simp) (by simp [vw,vwL])
 ·rw [show pG m W ⟨8,i,e,g,a,b⟩ x y=(oZ W &&& ~~~(x ^^^ y),true) from rfl,<- hall];refine xY.xP mixed func177 lG (by simp) λhf=>?_;simp only [simprocAttr,-ZA,↓zU,↓zD,zV,zT,zW,hw]
  (repeat refine sd ?_)
  exact .drop (by simp) (by simp [vw,vwL])
 ·have h0:=hi0 (.inr (.inl rfl))
  by_cases hlt:i<(m.R.length:Int)
  ·have hv:pG m W ⟨9,i,e,g,a,b⟩ x y=(uu (m.R.getD i.toNat []) x,true):=if_pos hlt;have hge:¬ (m.R.length:Int)<=i:=by omega
   obtain⟨j,rfl⟩:=δ h0;have hg:=mM m.R (show j<m.R.length by omega);have hc:=tn (Si ok (show j<m.R.length by omega)) x;rw [γ] at hv;rw [hv];generalize m.R.getD j []=z at hg hc;refine xY.xP mixed func177 lG (by simp) λhf=>?_;simp only [simprocAttr,-ZA,↓zU,↓zD,zV,zT,zW,hw,zJ,hge,hg]
   (repeat refine sd ?_)
   refine .go (cr hc) ?_;simp only [simprocAttr,-ZA,↓zU,↓zD,zV,zT,zW];exact .drop (by simp) (by simp [vw,vwL])
  ·have hv:pG m W ⟨9,i,e,g,a,b⟩ x y=(0#64,false):=if_neg hlt;have hge:(m.R.length:Int)<=i:=by omega
   rw [hv];refine xY.xP mixed func177 lG (by simp) λhf=>?_;simp only [simprocAttr,-ZA,↓zU,↓zD,zV,zT,zW,hw,zJ,hge]
   (repeat refine sd ?_)
   exact .drop (by simp) (by simp [vw,vwL])
 ·have h0:=hi0 (.inr (.inr rfl))
  by_cases hlt:i<(m.R.length:Int)
  ·have hv:pG m W ⟨10,i,e,g,a,b⟩ x y=(Pc (m.R.getD i.toNat []) x,true):=if_pos hlt;have hge:¬ (m.R.length:Int)<=i:=by omega
   obtain⟨j,rfl⟩:=δ h0;have hg:=mM m.R (show j<m.R.length by omega);have hc:=XU (Si ok (show j<m.R.length by omega)) x;rw [γ] at hv;rw [hv];generalize m.R.getD j []=z at hg hc;refine xY.xP mixed func177 lG (by simp) λhf=>?_;simp only [simprocAttr,-ZA,↓zU,↓zD,zV,zT,zW,hw,zJ,hge,hg]
   (repeat refine sd ?_)
   refine .go (cr hc) ?_;simp only [simprocAttr,-ZA,↓zU,↓zD,zV,zT,zW];exact .drop (by simp) (by simp [vw,vwL])
  ·have hv:pG m W ⟨10,i,e,g,a,b⟩ x y=(0#64,false):=if_neg hlt;have hge:(m.R.length:Int)<=i:=by omega
   rw [hv];refine xY.xP mixed func177 lG (by simp) λhf=>?_;simp only [simprocAttr,-ZA,↓zU,↓zD,zV,zT,zW,hw,zJ,hge]
   (repeat refine sd ?_)
   exact .drop (by simp) (by simp [vw,vwL])
 ·have h0:=hg0 (.inl rfl)
  by_cases hlt:g<((2 ^ m.R.length:Nat):Int)
  ·have hv:pG m W ⟨11,i,e,g,a,b⟩ x y=(uu (wO m g.toNat false) x,true):=if_pos hlt;have hge:¬ ((2 ^ m.R.length:Nat):Int)<=g:=by omega
   obtain⟨j,rfl⟩:=δ (show 0<=g by omega);have hj:1<=j/\j<2 ^ m.R.length:=by omega
   have hc:=ao ok hj;have hb:=tn (wa ok hj false) x;rw [γ] at hv;rw [hv];unfold qF.d at hc;generalize wO m j false=z at hc hb ⊢;refine xY.xP mixed func177 lG (by simp) λhf=>?_;simp only [simprocAttr,-ZA,↓zU,↓zD,zV,zT,zW,hw,zJ,hge,hsh]
   (repeat refine sd ?_)
   refine .go (cr hc) ?_;simp only [simprocAttr,-ZA,↓zU,↓zD,zV,zT,zW];refine .go (cr hb) ?_;simp only [simprocAttr,-ZA,↓zU,↓zD,zV,zT,zW];exact .drop (by simp) (by simp [vw,vwL])
  ·have hv:pG m W ⟨11,i,e,g,a,b⟩ x y=(0#64,false):=if_neg hlt;have hge:((2 ^ m.R.length:Nat):Int)<=g:=by omega
   rw [hv];refine xY.xP mixed func177 lG (by simp) λhf=>?_;simp only [simprocAttr,-ZA,↓zU,↓zD,zV,zT,zW,hw,zJ,hge,hsh]
   (repeat refine sd ?_)
   exact .drop (by simp) (by simp [vw,vwL])
 ·have h0:=hg0 (.inr (.inl rfl))
  by_cases hlt:g<((2 ^ m.R.length:Nat):Int)
  ·have hv:pG m W ⟨12,i,e,g,a,b⟩ x y=(uu (wO m g.toNat true) x,true):=if_pos hlt;have hge:¬ ((2 ^ m.R.length:Nat):Int)<=g:=by omega
   obtain⟨j,rfl⟩:=δ (show 0<=g by omega);have hj:1<=j/\j<2 ^ m.R.length:=by omega
   have hc:=Q1 ok hj;have hb:=tn (wa ok hj true) x;rw [γ] at hv;rw [hv];unfold qF.d at hc;generalize wO m j true=z at hc hb ⊢;refine xY.xP mixed func177 lG (by simp) λhf=>?_;simp only [simprocAttr,-ZA,↓zU,↓zD,zV,zT,zW,hw,zJ,hge,hsh]
   (repeat refine sd ?_)
   refine .go (cr hc) ?_;simp only [simprocAttr,-ZA,↓zU,↓zD,zV,zT,zW];refine .go (cr hb) ?_;simp only [simprocAttr,-ZA,↓zU,↓zD,zV,zT,zW];exact .drop (by simp) (by simp [vw,vwL])
  ·have hv:pG m W ⟨12,i,e,g,a,b⟩ x y=(0#64,false):=if_neg hlt;have hge:((2 ^ m.R.length:Nat):Int)<=g:=by omega
   rw [hv];refine xY.xP mixed func177 lG (by simp) λhf=>?_;simp only [simprocAttr,-ZA,↓zU,↓zD,zV,zT,zW,hw,zJ,hge,hsh]
   (repeat refine sd ?_)
   exact .drop (by simp) (by simp [vw,vwL])
 ·have h0:=hg0 (.inr (.inr rfl))
  by_cases hlt:g<((2 ^ m.R.length:Nat):Int)
  ·have hv:pG m W ⟨13,i,e,g,a,b⟩ x y=(lF (wO m g.toNat false) (oZ W) x y W,true):=if_pos hlt;have hge:¬ ((2 ^ m.R.length:Nat):Int)<=g:=by omega
   have hcm:=hcom rfl hlt;obtain⟨j,rfl⟩:=δ (show 0<=g by omega);have hj:1<=j/\j<2 ^ m.R.length:=by omega
   have hc:=ao ok hj;have hb:=WD (wa ok hj false) (by rw [γ] at hcm; exact hcm);rw [γ] at hv;rw [hv];unfold qF.d at hc;generalize wO m j false=z at hc hb ⊢;refine xY.xP mixed func177 lG (by simp) λhf=>?_;simp only [simprocAttr,-ZA,↓zU,↓zD,zV,zT,zW,hw,zJ,hge,hsh]
   (repeat refine sd ?_)
   refine .go (cr hc) ?_;simp only [simprocAttr,-ZA,↓zU,↓zD,zV,zT,zW,hall];refine .go (cr hb) ?_;simp only [simprocAttr,-ZA,↓zU,↓zD,zV,zT,zW];exact .drop (by simp) (by simp [vw,vwL])
  ·have hv:pG m W ⟨13,i,e,g,a,b⟩ x y=(0#64,false):=if_neg hlt;have hge:((2 ^ m.R.length:Nat):Int)<=g:=by omega
   rw [hv];refine xY.xP mixed func177 lG (by simp) λhf=>?_;simp only [simprocAttr,-ZA,↓zU,↓zD,zV,zT,zW,hw,zJ,hge,hsh]
   (repeat refine sd ?_)
   exact .drop (by simp) (by simp [vw,vwL])
 ·rw [show pG m W ⟨14,i,e,g,a,b⟩ x y=(0#64,false) from rfl];refine xY.xP mixed func177 lG (by simp) λhf=>?_;simp only [simprocAttr,-ZA,↓zU,↓zD,zV,zT,zW,hw]
  (repeat refine sd ?_)
  exact .drop (by simp) (by simp [vw,vwL])
 ·rw [show pG m W ⟨15,i,e,g,a,b⟩ x y=(0#64,false) from rfl];refine xY.xP mixed func177 lG (by simp) λhf=>?_;simp only [simprocAttr,-ZA,↓zU,↓zD,zV,zT,zW,hw]
  (repeat refine sd ?_)
  exact .drop (by simp) (by simp [vw,vwL])
 ·rw [show pG m W ⟨16,i,e,g,a,b⟩ x y=(0#64,false) from rfl];refine xY.xP mixed func177 lG (by simp) λhf=>?_;simp only [simprocAttr,-ZA,↓zU,↓zD,zV,zT,zW,hw]
  (repeat refine sd ?_)
  exact .drop (by simp) (by simp [vw,vwL])
 ·rw [show pG m W ⟨17,i,e,g,a,b⟩ x y=(0#64,false) from rfl];refine xY.xP mixed func177 lG (by simp) λhf=>?_;simp only [simprocAttr,-ZA,↓zU,↓zD,zV,zT,zW,hw]
  (repeat refine sd ?_)
  exact .drop (by simp) (by simp [vw,vwL])
 ·rw [show pG m W ⟨18,i,e,g,a,b⟩ x y=(0#64,false) from rfl];refine xY.xP mixed func177 lG (by simp) λhf=>?_;simp only [simprocAttr,-ZA,↓zU,↓zD,zV,zT,zW,hw]
  (repeat refine sd ?_)
  exact .drop (by simp) (by simp [vw,vwL])
 ·rw [show pG m W ⟨19,i,e,g,a,b⟩ x y=(0#64,false) from rfl];refine xY.xP mixed func177 lG (by simp) λhf=>?_;simp only [simprocAttr,-ZA,↓zU,↓zD,zV,zT,zW,hw]
  (repeat refine sd ?_)
  exact .drop (by simp) (by simp [vw,vwL])
 ·rw [show pG m W ⟨20,i,e,g,a,b⟩ x y=(0#64,false) from rfl];refine xY.xP mixed func177 lG (by simp) λhf=>?_;simp only [simprocAttr,-ZA,↓zU,↓zD,zV,zT,zW,hw]
  (repeat refine sd ?_)
  exact .drop (by simp) (by simp [vw,vwL])
 ·rw [show pG m W ⟨21,i,e,g,a,b⟩ x y=(0#64,false) from rfl];refine xY.xP mixed func177 lG (by simp) λhf=>?_;simp only [simprocAttr,-ZA,↓zU,↓zD,zV,zT,zW,hw]
  (repeat refine sd ?_)
  exact .drop (by simp) (by simp [vw,vwL])
 ·have hv:pG m W ⟨op,i,e,g,a,b⟩ x y=(0#64,false):=by unfold pG; simp only; repeat rw [if_neg (by omega)]
  have q1:(op==1)= false:=by rw [beq_eq_false_iff_ne]; omega
  have q2:(op==2)= false:=by rw [beq_eq_false_iff_ne]; omega
  have q3:(op==3)= false:=by rw [beq_eq_false_iff_ne]; omega
  have q4:(op==4)= false:=by rw [beq_eq_false_iff_ne]; omega
  have q5:(op==5)= false:=by rw [beq_eq_false_iff_ne]; omega
  have q6:(op==6)= false:=by rw [beq_eq_false_iff_ne]; omega
  have q7:(op==7)= false:=by rw [beq_eq_false_iff_ne]; omega
  have q8:(op==8)= false:=by rw [beq_eq_false_iff_ne]; omega
  have q9:(op==9)= false:=by rw [beq_eq_false_iff_ne]; omega
  have q10:(op==10)= false:=by rw [beq_eq_false_iff_ne]; omega
  have q11:(op==11)= false:=by rw [beq_eq_false_iff_ne]; omega
  have q12:(op==12)= false:=by rw [beq_eq_false_iff_ne]; omega
  have q13:(op==13)= false:=by rw [beq_eq_false_iff_ne]; omega
  rw [hv];refine xY.xP mixed func177 lG (by simp) λhf=>?_;simp only [simprocAttr,-ZA,↓zU,↓zD,zV,zT,zW,hw,q1,q2,q3,q4,q5,q6,q7,q8,q9,q10,q11,q12,q13]
  (repeat refine sd ?_)
  exact .drop (by simp) (by simp [vw,vwL])
 ·have hv:pG m W ⟨op,i,e,g,a,b⟩ x y=(0#64,false):=by unfold pG; simp only; repeat rw [if_neg (by omega)]
  have q1:(op==1)= false:=by rw [beq_eq_false_iff_ne]; omega
  have q2:(op==2)= false:=by rw [beq_eq_false_iff_ne]; omega
  have q3:(op==3)= false:=by rw [beq_eq_false_iff_ne]; omega
  have q4:(op==4)= false:=by rw [beq_eq_false_iff_ne]; omega
  have q5:(op==5)= false:=by rw [beq_eq_false_iff_ne]; omega
  have q6:(op==6)= false:=by rw [beq_eq_false_iff_ne]; omega
  have q7:(op==7)= false:=by rw [beq_eq_false_iff_ne]; omega
  have q8:(op==8)= false:=by rw [beq_eq_false_iff_ne]; omega
  have q9:(op==9)= false:=by rw [beq_eq_false_iff_ne]; omega
  have q10:(op==10)= false:=by rw [beq_eq_false_iff_ne]; omega
  have q11:(op==11)= false:=by rw [beq_eq_false_iff_ne]; omega
  have q12:(op==12)= false:=by rw [beq_eq_false_iff_ne]; omega
  have q13:(op==13)= false:=by rw [beq_eq_false_iff_ne]; omega
  rw [hv];refine xY.xP mixed func177 lG (by simp) λhf=>?_;simp only [simprocAttr,-ZA,↓zU,↓zD,zV,zT,zW,hw,q1,q2,q3,q4,q5,q6,q7,q8,q9,q10,q11,q12,q13]
  (repeat refine sd ?_)
  exact .drop (by simp) (by simp [vw,vwL])
section
open Rs Fm Ru Te
namespace Te
structure oP (n : Nd) (A : Nat) : Prop where
 ag:n.op=9\/n.op=10->∃ a:Nat,a<A/\n.i=a
 gr:n.op=11\/n.op=12\/n.op=13->∃ g:Nat,g<2 ^ 60/\n.g=g
theorem yx {nx:Nat} {xZ:List (Nat × Ob)} (hu:iW ⟨nx,xZ⟩) (nx':Nat) (ob:Ob):∀ k o,St.look xZ k=some o->St.get ⟨nx',(nx,ob) :: xZ⟩ k=some o:=λk o hk=>by have:=(hu k o hk).1;simp only at this;show St.look (_ :: _) k=_;rw [xX,if_neg (by omega)]; exact hk
end Te
theorem OR {nx kc ks:Nat} {km:Nat->Nat} {xZ:List (Nat × Ob)} {rs:List xG} {A F T:Nat} {n:Nd} {x y:Tab} {xd yd:D} (ok:OkR rs A F T) (hS:mD rs A F T kc ks km xZ) (ho:ib n rs.length T x y xd yd) (hn:oP n A) (he:n.op=9) :
  xY prog 150 [.ref kc 6 0 0,.agg n.row,xd,yd] ⟨nx,xZ⟩ (.sl 1 (zI rs.length T (zH rs A T n x y))) ⟨nx,xZ⟩:=by
 refine xY.wR ⟨_,func150,by kernel_rfl,by kernel_rfl⟩ λhu=>xY.clean ?_;have hk:=yx hu (nx+1);have hS1:=λob=>hS.mono (hk ob);have hp:zH rs A T n x y=vS rs T n.i.toNat x:=by unfold zH; rw [he]; simp
 rw [hp];have hxy:=ho;obtain⟨h1,h2⟩:=ho;rw [he] at h1 h2;have yc:¬ nx=kc:=by have:=(hu _ _ hS.c).1; simp only at this; omega
 rw [Nd.row];rw [h1 (by decide)];obtain⟨a,ha,hi⟩:=hn.ag (.inl he);rw [hi,γ];refine xY.xP mixed func150 LA (by simp) λhf=>?_;simp only [simprocAttr,-ZA,↓zU,↓zD,zV,zT,zW,yc]
 (repeat refine sd ?_)
 refine .go (gv ok (hS1 _) ha) ?_;simp only [simprocAttr,-ZA,↓zU,↓zD,zV,zT,zW];exact .gone hu (hk _) (by simp only [vw]; exact⟨trivial,trivial⟩)
theorem OT {nx kc ks:Nat} {km:Nat->Nat} {xZ:List (Nat × Ob)} {rs:List xG} {A F T:Nat} {n:Nd} {x y:Tab} {xd yd:D} (ok:OkR rs A F T) (hS:mD rs A F T kc ks km xZ) (ho:ib n rs.length T x y xd yd) (hn:oP n A) (he:n.op=11) :
  xY prog 156 [.ref kc 6 0 0,.agg n.row,xd,yd] ⟨nx,xZ⟩ (.sl 1 (zI rs.length T (zH rs A T n x y))) ⟨nx,xZ⟩:=by
 refine xY.wR ⟨_,func156,by kernel_rfl,by kernel_rfl⟩ λhu=>xY.clean ?_;have hk:=yx hu (nx+1);have hS1:=λob=>hS.mono (hk ob);have hp:zH rs A T n x y=uS rs A T n.g.toNat x:=by unfold zH; rw [he]; simp
 rw [hp];have hxy:=ho;obtain⟨h1,h2⟩:=ho;rw [he] at h1 h2;have yc:¬ nx=kc:=by have:=(hu _ _ hS.c).1; simp only at this; omega
 rw [Nd.row];rw [h1 (by decide)];obtain⟨g,hg,hi⟩:=hn.gr (.inl he);rw [hi,γ];refine xY.xP mixed func156 LH (by simp) λhf=>?_;simp only [simprocAttr,-ZA,↓zU,↓zD,zV,zT,zW,yc]
 (repeat refine sd ?_)
 refine .go (Zs ok (hS1 _) hg) ?_;simp only [simprocAttr,-ZA,↓zU,↓zD,zV,zT,zW];exact .gone hu (hk _) (by simp only [vw]; exact⟨trivial,trivial⟩)
theorem OU {nx kc ks:Nat} {km:Nat->Nat} {xZ:List (Nat × Ob)} {rs:List xG} {A F T:Nat} {n:Nd} {x y:Tab} {xd yd:D} (ok:OkR rs A F T) (hS:mD rs A F T kc ks km xZ) (ho:ib n rs.length T x y xd yd) (hn:oP n A) (he:n.op=12) :
  xY prog 158 [.ref kc 6 0 0,.agg n.row,xd,yd] ⟨nx,xZ⟩ (.sl 1 (zI rs.length T (zH rs A T n x y))) ⟨nx,xZ⟩:=by
 refine xY.wR ⟨_,func158,by kernel_rfl,by kernel_rfl⟩ λhu=>xY.clean ?_;have hk:=yx hu (nx+1);have hS1:=λob=>hS.mono (hk ob);have hp:zH rs A T n x y=bP rs A T n.g.toNat x:=by unfold zH; rw [he]; simp
 rw [hp];have hxy:=ho;obtain⟨h1,h2⟩:=ho;rw [he] at h1 h2;have yc:¬ nx=kc:=by have:=(hu _ _ hS.c).1; simp only at this; omega
 rw [Nd.row];rw [h1 (by decide)];obtain⟨g,hg,hi⟩:=hn.gr (.inr (.inl he));rw [hi,γ];refine xY.xP mixed func158 LJ (by simp) λhf=>?_;simp only [simprocAttr,-ZA,↓zU,↓zD,zV,zT,zW,yc]
 (repeat refine sd ?_)
 refine .go (Ny ok hg (hS1 _).c) ?_;simp only [simprocAttr,-ZA,↓zU,↓zD,zV,zT,zW];exact .gone hu (hk _) (by simp only [vw]; exact⟨trivial,trivial⟩)
theorem OV {nx kc ks:Nat} {km:Nat->Nat} {xZ:List (Nat × Ob)} {rs:List xG} {A F T:Nat} {n:Nd} {x y:Tab} {xd yd:D} (ok:OkR rs A F T) (hS:mD rs A F T kc ks km xZ) (ho:ib n rs.length T x y xd yd) (hn:oP n A) (he:n.op=13) :
  xY prog 160 [.ref kc 6 0 0,.agg n.row,xd,yd] ⟨nx,xZ⟩ (.sl 1 (zI rs.length T (zH rs A T n x y))) ⟨nx,xZ⟩:=by
 refine xY.wR ⟨_,func160,by kernel_rfl,by kernel_rfl⟩ λhu=>xY.clean ?_;have hk:=yx hu (nx+1);have hS1:=λob=>hS.mono (hk ob);have hp:zH rs A T n x y=sC rs A T n.g.toNat x y:=by unfold zH; rw [he]; simp
 rw [hp];have hxy:=ho;obtain⟨h1,h2⟩:=ho;rw [he] at h1 h2;have yc:¬ nx=kc:=by have:=(hu _ _ hS.c).1; simp only at this; omega
 rw [Nd.row];rw [h1 (by decide)];rw [h2 (by decide)];obtain⟨g,hg,hi⟩:=hn.gr (.inr (.inr he));rw [hi,γ];refine xY.xP mixed func160 LM (by simp) λhf=>?_;simp only [simprocAttr,-ZA,↓zU,↓zD,zV,zT,zW,yc]
 (repeat refine sd ?_)
 refine .go (TM ok (hS1 _) hg) ?_;simp only [simprocAttr,-ZA,↓zU,↓zD,zV,zT,zW];exact .gone hu (hk _) (by simp only [vw]; exact⟨trivial,trivial⟩)
theorem OW {nx kc ks:Nat} {km:Nat->Nat} {xZ:List (Nat × Ob)} {rs:List xG} {A F T:Nat} {n:Nd} {x y:Tab} {xd yd:D} (ok:OkR rs A F T) (hS:mD rs A F T kc ks km xZ) (ho:ib n rs.length T x y xd yd) (hn:oP n A) (he:n.op=18) :
  xY prog 162 [.ref kc 6 0 0,.agg n.row,xd,yd] ⟨nx,xZ⟩ (.sl 1 (zI rs.length T (zH rs A T n x y))) ⟨nx,xZ⟩:=by
 refine xY.wR ⟨_,func162,by kernel_rfl,by kernel_rfl⟩ λhu=>xY.clean ?_;have hk:=yx hu (nx+1);have hS1:=λob=>hS.mono (hk ob);have hp:zH rs A T n x y=shP T 1 x:=by unfold zH; rw [he]; simp
 rw [hp];have hxy:=ho;obtain⟨h1,h2⟩:=ho;rw [he] at h1 h2;have yc:¬ nx=kc:=by have:=(hu _ _ hS.c).1; simp only at this; omega
 rw [Nd.row];rw [h1 (by decide)];refine xY.xP mixed func162 LO (by simp) λhf=>?_;simp only [simprocAttr,-ZA,↓zU,↓zD,zV,zT,zW,yc]
 (repeat refine sd ?_)
 refine .go (YK ok (by decide) (hS1 _).c) ?_;simp only [simprocAttr,-ZA,↓zU,↓zD,zV,zT,zW];exact .gone hu (hk _) (by simp only [vw]; exact⟨trivial,trivial⟩)
theorem OZ {nx kc ks:Nat} {km:Nat->Nat} {xZ:List (Nat × Ob)} {rs:List xG} {A F T:Nat} {n:Nd} {x y:Tab} {xd yd:D} (ok:OkR rs A F T) (hS:mD rs A F T kc ks km xZ) (ho:ib n rs.length T x y xd yd) (hn:oP n A) (he:n.op=20) :
  xY prog 164 [.ref kc 6 0 0,.agg n.row,xd,yd] ⟨nx,xZ⟩ (.sl 1 (zI rs.length T (zH rs A T n x y))) ⟨nx,xZ⟩:=by
 refine xY.wR ⟨_,func164,by kernel_rfl,by kernel_rfl⟩ λhu=>xY.clean ?_;have hk:=yx hu (nx+1);have hS1:=λob=>hS.mono (hk ob);have hp:zH rs A T n x y=shP T (-1) x:=by unfold zH; rw [he]; simp
 rw [hp];have hxy:=ho;obtain⟨h1,h2⟩:=ho;rw [he] at h1 h2;have yc:¬ nx=kc:=by have:=(hu _ _ hS.c).1; simp only at this; omega
 rw [Nd.row];rw [h1 (by decide)];refine xY.xP mixed func164 LR (by simp) λhf=>?_;simp only [simprocAttr,-ZA,↓zU,↓zD,zV,zT,zW,yc]
 (repeat refine sd ?_)
 refine .go (YK ok (by decide) (hS1 _).c) ?_;simp only [simprocAttr,-ZA,↓zU,↓zD,zV,zT,zW];exact .gone hu (hk _) (by simp only [vw]; exact⟨trivial,trivial⟩)
theorem OY {nx kc ks:Nat} {km:Nat->Nat} {xZ:List (Nat × Ob)} {rs:List xG} {A F T:Nat} {n:Nd} {x y:Tab} {xd yd:D} (ok:OkR rs A F T) (hS:mD rs A F T kc ks km xZ) (ho:ib n rs.length T x y xd yd) (hn:oP n A) (he:n.op=19) :
  xY prog 165 [.ref kc 6 0 0,.agg n.row,xd,yd] ⟨nx,xZ⟩ (.sl 1 (zI rs.length T (zH rs A T n x y))) ⟨nx,xZ⟩:=by
 refine xY.wR ⟨_,func165,by kernel_rfl,by kernel_rfl⟩ λhu=>xY.clean ?_;have hk:=yx hu (nx+1);have hS1:=λob=>hS.mono (hk ob);have hp:zH rs A T n x y=Vp T 1 x y:=by unfold zH; rw [he]; simp
 rw [hp];have hxy:=ho;obtain⟨h1,h2⟩:=ho;rw [he] at h1 h2;have yc:¬ nx=kc:=by have:=(hu _ _ hS.c).1; simp only at this; omega
 rw [Nd.row];rw [h1 (by decide)];rw [h2 (by decide)];refine xY.xP mixed func165 LS (by simp) λhf=>?_;simp only [simprocAttr,-ZA,↓zU,↓zD,zV,zT,zW,yc]
 (repeat refine sd ?_)
 refine .go (YR ok (hS1 _).c) ?_;simp only [simprocAttr,-ZA,↓zU,↓zD,zV,zT,zW];exact .gone hu (hk _) (by simp only [vw]; exact⟨trivial,trivial⟩)
theorem OX {nx kc ks:Nat} {km:Nat->Nat} {xZ:List (Nat × Ob)} {rs:List xG} {A F T:Nat} {n:Nd} {x y:Tab} {xd yd:D} (ok:OkR rs A F T) (hS:mD rs A F T kc ks km xZ) (ho:ib n rs.length T x y xd yd) (hn:oP n A) (he:n.op=21) :
  xY prog 167 [.ref kc 6 0 0,.agg n.row,xd,yd] ⟨nx,xZ⟩ (.sl 1 (zI rs.length T (zH rs A T n x y))) ⟨nx,xZ⟩:=by
 refine xY.wR ⟨_,func167,by kernel_rfl,by kernel_rfl⟩ λhu=>xY.clean ?_;have hk:=yx hu (nx+1);have hS1:=λob=>hS.mono (hk ob);have hp:zH rs A T n x y=Vp T (-1) x y:=by unfold zH; rw [he]; simp
 rw [hp];have hxy:=ho;obtain⟨h1,h2⟩:=ho;rw [he] at h1 h2;have yc:¬ nx=kc:=by have:=(hu _ _ hS.c).1; simp only at this; omega
 rw [Nd.row];rw [h1 (by decide)];rw [h2 (by decide)];refine xY.xP mixed func167 LW (by simp) λhf=>?_;simp only [simprocAttr,-ZA,↓zU,↓zD,zV,zT,zW,yc]
 (repeat refine sd ?_)
 refine .go (YR ok (hS1 _).c) ?_;simp only [simprocAttr,-ZA,↓zU,↓zD,zV,zT,zW];exact .gone hu (hk _) (by simp only [vw]; exact⟨trivial,trivial⟩)
end
section
open Rs Fm Ru Te
theorem Mz {nx kx:Nat} {xZ:List (Nat × Ob)} {R T:Nat} {φ:Nat × Nat->Bool} (hR:R<=1000) (hT:T<=1000) (hx:St.look xZ kx=some ⟨1,[[.sl 1 (zI R T φ)]]⟩) {i t:Nat} (hi:i<R) (ht:t<T) :
  xY prog 155 ([.agg [.int .i64 (i:Int),.int .i64 (t:Int)]] ++ [.ref kx 1 0 0]) ⟨nx,xZ⟩ (.bool (!φ (i,t))) ⟨nx,xZ⟩:=by
 refine xY.wR ⟨_,func155,by kernel_rfl,by kernel_rfl⟩ λhu=>xY.clean ?_;have hk:=(hu kx _ hx).1;simp only at hk;have y1:¬ nx=kx:=by omega
 have g1:=wL (T:=T) (φ:=φ) hi;have g2:=vB (i:=i) (φ:=φ) ht;refine xY.xP mixed func155 LG (by simp) λhf=>?_;simp only [simprocAttr,-ZA,↓zU,↓zD,zV,zT,zW,hx,y1,zY,g1,wW,List.length_map,List.length_range,g2]
 (repeat refine sd ?_)
 exact .gone hu (yx hu _ _) (by simp only [vw])
theorem OS {nx kc ks:Nat} {km:Nat->Nat} {xZ:List (Nat × Ob)} {rs:List xG} {A F T:Nat} {n:Nd} {x y:Tab} {xd yd:D} (ok:OkR rs A F T) (hS:mD rs A F T kc ks km xZ) (ho:ib n rs.length T x y xd yd) (hn:oP n A) (he:n.op=10) :
  xY prog 152 [.ref kc 6 0 0,.agg n.row,xd,yd] ⟨nx,xZ⟩ (.sl 1 (zI rs.length T (zH rs A T n x y))) ⟨nx,xZ⟩:=by
 obtain⟨T1,T16⟩:=ok.hT;obtain⟨R1,R64⟩:=ok.hR;refine xY.wR ⟨_,func152,by kernel_rfl,by kernel_rfl⟩ λhu=>xY.clean ?_;have hp:zH rs A T n x y=λp=>!vS rs T n.i.toNat (λq=>!x q) p:=by unfold zH; rw [he]; simp
 rw [hp];obtain⟨h1,h2⟩:=ho;rw [he] at h1;obtain⟨a,ha,hi⟩:=hn.ag (.inr he);rw [hi,γ];have bc:kc<nx:=(hu _ _ hS.c).1;rw [Nd.row,h1 (by decide)]
 have hk2:∀ (a b:Ob) k o,St.look xZ k=some o->St.look ((nx+1,a) :: (nx,b) :: xZ) k=some o:=λa b k o hk=>by have:=(hu k o hk).1;simp only at this;rw [xX,if_neg (by omega),xX,if_neg (by omega)]; exact hk
 have hk3:∀ (a b c:Ob) k o,St.look xZ k=some o->St.look ((nx+1+1,c) :: (nx+1,a) :: (nx,b) :: xZ) k=some o:=λa b c k o hk=>by have:=(hu k o hk).1;simp only at this;rw [xX,if_neg (by omega)]; exact hk2 _ _ _ _ hk
 refine xY.xP mixed func152 LC (by simp) λhf=>?_;have y1:¬ nx+1=nx:=by omega
 simp only [simprocAttr,-ZA,↓zU,↓zD,zV,zT,zW,y1]
 (repeat refine sd ?_)
 rw [hi]
 have hA:=lB (nx:=nx+1+1) (kc:=kc) (xZ:=(nx+1,⟨1,[[.sl 1 (zI rs.length T x)]]⟩) :: (nx,⟨6,[[.int .i64 n.op,.int .i64 (a:Int),.int .i64 n.e,.int .i64 n.g,.int .i64 n.x,.int .i64 n.y]]⟩) :: xZ) (g:=154) (caps:=[.ref (nx+1) 1 0 0]) (φ:=λp=>!x p) ok (hk2 _ _ _ _ hS.c) (λnx1 objs1 i t h1 h2 hi ht=> P8 (R:=rs.length) (T:=T) (by omega) (by omega) (by rw [h2 _ (by omega),xX,if_pos rfl]) hi ht)
 refine⟨_,hA,?_⟩;simp only [simprocAttr,-ZA,↓zU,↓zD,zV,zT,zW];refine⟨_,gv ok (hS.mono (hk2 _ _)) ha,?_⟩;have y2:¬ nx+1+1=nx:=by omega
 have hB:=lB (nx:=nx+1+1+1) (kc:=kc) (xZ:=(nx+1+1,⟨1,[[.xK]]⟩) :: (nx+1,⟨1,[[.sl 1 (zI rs.length T x)]]⟩) :: (nx,⟨6,[[.int .i64 n.op,.int .i64 (a:Int),.int .i64 n.e,.int .i64 n.g,.int .i64 n.x,.int .i64 n.y]]⟩) :: xZ) (g:=154) (caps:=[.ref (nx+1) 1 0 0]) (φ:=λp=>!x p) ok (hk3 _ _ _ _ _ hS.c) (λnx1 objs1 i t h1 h2 hi ht=> P8 (R:=rs.length) (T:=T) (by omega) (by omega) (by rw [h2 _ (by omega),xX,if_neg (by omega),xX,if_pos rfl]) hi ht)
 simp only [simprocAttr,-ZA,↓zU,↓zD,zV,zT,zW,y1,y2]
 (repeat refine sd ?_)
 refine⟨⟨_,hB,?_⟩,?_⟩
 ·simp only [simprocAttr,-ZA,↓zU,↓zD,zV,zT,zW];refine⟨_,gv ok (hS.mono (hk3 _ _ _)) ha,?_⟩;simp only [simprocAttr,-ZA,↓zU,↓zD,zV,zT,zW]
 have hC:=lB (nx:=nx+1+1+1) (kc:=kc) (xZ:=(nx+1+1,⟨1,[[.sl 1 (zI rs.length T (vS rs T a λq=>!x q))]]⟩) :: (nx+1,⟨1,[[.sl 1 (zI rs.length T x)]]⟩) :: (nx,⟨6,[[.int .i64 n.op,.int .i64 (a:Int),.int .i64 n.e,.int .i64 n.g,.int .i64 n.x,.int .i64 n.y]]⟩) :: xZ) (g:=155) (caps:=[.ref (nx+1+1) 1 0 0]) (φ:=λp=>!vS rs T a (λq=>!x q) p) ok (hk3 _ _ _ _ _ hS.c) (λnx1 objs1 i t h1 h2 hi ht=> Mz (R:=rs.length) (T:=T) (by omega) (by omega) (by rw [h2 _ (by omega),xX,if_pos rfl]) hi ht)
 refine .go hC ?_;simp only [simprocAttr,-ZA,↓zU,↓zD,zV,zT,zW];exact .gone hu (hk3 _ _ _) (by simp only [vw]; exact⟨trivial,trivial⟩)
end
section
open Rs Fm Ru Te
theorem rP (c:Nat):∀ {l:List (Nat × Ob)} {k:Nat} {o:Ob},St.look l k=some o->St.look (yL c l) (c+k)= some (o.shift c)
 | [],k,o,h=>by cases h
 | (j,ob) :: r,k,o,h=>by
  rw [xX] at h;show St.look ((c+j,ob.shift c) :: yL c r) _=_;rw [xX]
  by_cases e:j=k
  ·rw [if_pos e] at h; rw [if_pos (by omega)]; cases h; rfl
  ·rw [if_neg e] at h; rw [if_neg (by omega)]; exact rP c h
namespace Te
def gV (s:tZ) (f:List Nd):Int:=if chk s≠0 then chk s else if yN f≠0 then yN f else if (pJ .andNot .i64 (zC f:Int) 271 != 0)= true then 10 else if sU f s.ag s.fa=false then 2 else 0
theorem kZ {s:tZ} {f:List Nd} (h:gV s f=0):chk s=0/\yN f=0:=by
 unfold gV at h
 by_cases c1:chk s≠0
 ·rw [if_pos c1] at h; exact absurd h c1
 rw [if_neg c1] at h
 by_cases c2:yN f≠0
 ·rw [if_pos c2] at h; exact absurd h c2
 exact⟨by simpa using c1,by simpa using c2⟩
def ij : List Int:=[9,10,11,12,13,18,20,19,21]
def mN : List (List D):=[[.int .i64 9,.fn 150 []],[.int .i64 10,.fn 152 []],[.int .i64 11,.fn 156 []],[.int .i64 12,.fn 158 []],[.int .i64 13,.fn 160 []],[.int .i64 18,.fn 162 []],[.int .i64 20,.fn 164 []],[.int .i64 19,.fn 165 []],[.int .i64 21,.fn 167 []]]
theorem aZ (m:Nd->Nat) (b:Nat):∀ (l:List Nd) (a:Nat),(l.foldl (λa p=>a ||| m p) a).testBit b=(a.testBit b || l.any λp=>(m p).testBit b)
 | [],a=>by simp
 | p :: r,a=>by rw [List.foldl_cons,aZ m b r,Nat.testBit_or,List.any_cons,Bool.or_assoc]
theorem p9 {m:Nd->Nat} {b:Nat} {c:List Nd} {p:Nd} (hp:p ∈ c) (h:(m p).testBit b=true):(vD m c).testBit b=true:=by have:=aZ m b c 0;rw [χ.2 ⟨p,hp,h⟩,Bool.or_true] at this;exact this
theorem Vs {c:List Nd} {n:Nat} (h:vD qQ c / 2 ^ n=0):∀ p ∈ c,(xV p.op).1.ag=true->p.i.toNat<n:=by
 intro p hp ha;refine Decidable.byContradiction λhge=>?_;have h1:(qQ p).testBit p.i.toNat=true:=by unfold qQ; rw [if_pos ha]; exact Nat.testBit_two_pow_self
 have h2:=p9 hp h1
 have h3:vD qQ c<2 ^ n:=by
  rcases Nat.div_eq_zero_iff.1 h with h | h
  ·have:=Nat.two_pow_pos n; omega
  ·exact h
 have h4:=μ (κ h3 (θ (by decide) (show n<=p.i.toNat by omega)));rw [h4] at h2;cases h2
theorem Qy {s:tZ} {f:List Nd} (h:gV s f=0) {A:Nat} (hA:s.ag=A) (hA4:A<=4):∀ p ∈ xB f,oP p A/\(p.op=3->0<=p.i):=by
 unfold gV at h
 by_cases c1:chk s≠0
 ·rw [if_pos c1] at h; exact absurd h c1
 rw [if_neg c1] at h
 by_cases c2:yN f≠0
 ·rw [if_pos c2] at h; exact absurd h c2
 rw [if_neg c2] at h
 by_cases c3:(pJ .andNot .i64 (zC f:Int) 271 != 0)= true
 ·rw [if_pos c3] at h; cases h
 rw [if_neg c3] at h
 by_cases c4:sU f s.ag s.fa=false
 ·rw [if_pos c4] at h; cases h
 have c4':sU f s.ag s.fa=true:=by simpa using c4
 unfold sU at c4';simp only [Bool.and_eq_true] at c4';have hb:=c4'.1.2;unfold iB at hb;simp only [Bool.or_eq_true,decide_eq_true_eq] at hb;rw [hA] at hb
 have hb2:oH f / 2 ^ A=0:=by
  rcases hb with hb | hb
  ·omega
  ·simpa using hb
 intro p hp;obtain⟨k,hk⟩:=bC (fS f _) hp
 refine⟨⟨λho=>?_,λho=>?_⟩,λho=>?_⟩
 ·have hag:(xV p.op).1.ag=true:=by rcases ho with e | e <;> rw [e] <;> decide
  have h1:=uE hk hag;have h2:=Vs hb2 p hp hag;exact⟨p.i.toNat,h2,by omega⟩
 ·have h1:=gL hk;exact⟨p.g.toNat,by omega,by omega⟩
 ·have hfa:(xV p.op).1.fa=true:=by rw [ho]; decide
  exact(jC hk hfa).1
theorem aK {rs:List xG} {A T:Nat} {n:Nd} {x y:Tab} (h:n.op ∉ ij):zH rs A T n x y=yz rs n x y:=by simp only [ij,List.mem_cons,List.not_mem_nil,or_false,not_or] at h;obtain⟨h1,h2,h3,h4,h5,h6,h7,h8,h9⟩:=h;unfold zH;rw [if_neg h1,if_neg h2,if_neg h3,if_neg h4,if_neg h5,if_neg h6,if_neg h7,if_neg h8,if_neg h9]
structure No (j : Nat) (o : Int) (g : FuncId) : Prop where
 at_:mN.getD j [] = [.int .i64 o,.fn g []]
 op:ij.getD j 0=o
 run:∀ {nx kc ks:Nat} {km:Nat->Nat} {xZ:List (Nat × Ob)} {rs:List xG} {A F T:Nat} {n:Nd} {x y:Tab} {xd yd:D},OkR rs A F T->mD rs A F T kc ks km xZ->ib n rs.length T x y xd yd->oP n A->n.op=o ->
  xY prog g [.ref kc 6 0 0,.agg n.row,xd,yd] ⟨nx,xZ⟩ (.sl 1 (zI rs.length T (zH rs A T n x y))) ⟨nx,xZ⟩
theorem YH {j:Nat} (h:j<9):∃ o g,No j o g:=by
 have hc:j=0\/j=1\/j=2\/j=3\/j=4\/j=5\/j=6\/j=7\/j=8:=by omega
 rcases hc with rfl | rfl | rfl | rfl | rfl | rfl | rfl | rfl | rfl
 ·exact⟨_,_,rfl,rfl,OR⟩
 ·exact⟨_,_,rfl,rfl,OS⟩
 ·exact⟨_,_,rfl,rfl,OT⟩
 ·exact⟨_,_,rfl,rfl,OU⟩
 ·exact⟨_,_,rfl,rfl,OV⟩
 ·exact⟨_,_,rfl,rfl,OW⟩
 ·exact⟨_,_,rfl,rfl,OZ⟩
 ·exact⟨_,_,rfl,rfl,OY⟩
 ·exact⟨_,_,rfl,rfl,OX⟩
def Ss (rs:List xG) (A T:Nat) (n:Nd) (x y:Tab) (j:Nat):D:=if n.op ∈ ij.take j then .sl 1 (zI rs.length T (zH rs A T n x y)) else .xK
theorem qy {rs:List xG} {A T:Nat} {n:Nd} {x y:Tab} {j:Nat} (h:j<9):Ss rs A T n x y (j+1)= if n.op=ij.getD j 0 then .sl 1 (zI rs.length T (zH rs A T n x y)) else Ss rs A T n x y j:=by
 unfold Ss
 have e:ij.take (j+1)= ij.take j ++ [ij.getD j 0]:=by rw [List.take_add_one];congr 1;simp [List.getD,show j<ij.length from h]
 rw [e]
 by_cases h1:n.op=ij.getD j 0
 ·rw [if_pos h1,if_pos (by simp [h1])]
 ·rw [if_neg h1]
  by_cases h2:n.op ∈ ij.take j
  ·rw [if_pos h2,if_pos (by simp [h2])]
  ·rw [if_neg h2,if_neg (by rw [List.mem_append,List.mem_singleton,not_or]; exact⟨h2,h1⟩)]
end Te
theorem YI : zX prog 104 [] (.sl 2 mN):=by
 refine xY.xP mixed func104 Kf (by simp) λhf=>?_;simp only [simprocAttr,-ZA,↓zU,↓zD,zV,zT,zW]
 (repeat refine sd ?_)
 exact .same
structure Te.NL (A nb kc ks : Nat) (km : Nat -> Nat) : Prop where
 c:kc<nb
 s:ks<nb
 m:∀ i,i<A->km i<nb
theorem Te.mD.frame {rs:List xG} {A F T kc ks nb:Nat} {km:Nat->Nat} {xZ objs':List (Nat × Ob)} (h:mD rs A F T kc ks km xZ) (hb:NL A nb kc ks km) (hl:∀ k,k<nb->St.look objs' k=St.look xZ k):mD rs A F T kc ks km objs':=⟨by rw [hl _ hb.c]; exact h.c,λa=>by rw [hl _ hb.s]; exact h.s a,λi hi=>by rw [hl _ (hb.m i hi)]; exact h.m i hi⟩
theorem Te.mD.P5 {rs:List xG} {A F T kc ks nb nx2:Nat} {km:Nat->Nat} {xZ:List (Nat × Ob)} (h:mD rs A F T kc ks km xZ) (hb:NL A nb kc ks km) (hn:nb<=nx2) (ob:Ob):mD rs A F T kc ks km ((nx2,ob) :: xZ):= h.frame hb λk hk=>by rw [xX,if_neg (by omega)]
theorem Mm {rs:List xG} {A F T:Nat} (hz:chk ⟨A,F,T,rs⟩= 0) (ok:OkR rs A F T) (σ:St):∃ nx' objs',xY prog 102 [sD A F T rs] σ (.ref (σ.nx+1) 6 0 0) ⟨nx',objs'⟩/\ NL A nx' (σ.nx+1) (σ.nx+2) (λi=>σ.nx+(3+i))/\ mD rs A F T (σ.nx+1) (σ.nx+2) (λi=>σ.nx+(3+i)) objs':=by
 have h:=xY.own (σ:=σ) (j9 hz ok) rfl;refine⟨_,_,h,⟨by omega,by omega,λi hi=>by omega⟩,?_⟩;have hS:=mD.start (rs:=rs) (A:=A) (F:=F) (T:=T);have hl:∀ {k:Nat} {o:Ob},St.look (bV rs A F T A) k=some o->St.look (yL σ.nx (bV rs A F T A)++ σ.xZ) (σ.nx+k)= some (o.shift σ.nx):=λh=>by rw [pS,rP _ h]; rfl
 refine⟨?_,λha=>?_,λi hi=>?_⟩
 ·rw [hl hS.c];simp only [Ob.shift,List.map_cons,List.map_nil,D.wQ,D.shift];congr 8;generalize List.range A=l;cases l <;> simp [xD,D.shift]
 ·rw [hl (hS.s ha)];simp only [Ob.shift,List.map_map];rfl
 ·rw [hl (hS.m i hi)];simp only [Ob.shift];congr 2;unfold rB mG;simp only [List.map_map];rfl
end
section
open Rs Fm Ru Te
namespace Te
def u7 (rs:List xG) (A T:Nat) (f:List Nd):Tab:=(wS rs A T (xB f) (xB f).length).getD ((xB f).length-1) λ_=>false
def iD (s:tZ) (f:List Nd):List (List D):=if gV s f≠0 then [] else zI s.rs.length s.ln.toNat (u7 s.rs s.ag.toNat s.ln.toNat f)
def sN (rs:List xG) (A T:Nat) (c:List Nd) (k:Nat):List (List D):=(wS rs A T c k).map λx=>[.sl 1 (zI rs.length T x)]
theorem kE (rs:List xG) (A T:Nat) (c:List Nd) (k:Nat):(sN rs A T c k).length=k:=by simp [sN,qP]
theorem eW {rs:List xG} {A T:Nat} {c:List Nd} {k i:Nat} (h:i<k):(sN rs A T c k).getD i [] = [.sl 1 (zI rs.length T ((wS rs A T c k).getD i λ_=>false))]:=by have:=qP rs A T c k;simp [sN,List.getD,this,h]
theorem r9 (rs:List xG) (A T:Nat) (c:List Nd) (k:Nat):sN rs A T c (k+1)= sN rs A T c k ++ [[.sl 1 (zI rs.length T (zH rs A T (c.getD k nd0) ((wS rs A T c k).getD (c.getD k nd0).x.toNat λ_=>false) ((wS rs A T c k).getD (c.getD k nd0).y.toNat λ_=>false)))]]:=by simp [sN,wS]
theorem ti {R T:Nat} (h:1<=R) (φ:Tab):∃ e r,zI R T φ=e :: r:=by
 cases hh:zI R T φ with
 | nil=>have:=zY R T φ; rw [hh] at this; simp at this; omega
 | cons e r=>exact⟨e,r,rfl⟩
theorem qz {rs:List xG} {A T:Nat} {n:Nd} {x y:Tab}:Ss rs A T n x y 9=if n.op ∈ ij then .sl 1 (zI rs.length T (zH rs A T n x y)) else .xK:=rfl
end Te
theorem kg (s:tZ) (f:List Nd):zX prog 44 [s.d,.sl 6 (ndR f)] (.tup [.sl 1 (iD s f),.int .i64 (gV s f)]):=by
 have hD:s.d = .agg [.int .i64 s.ag,.int .i64 s.fa,.int .i64 s.ln,.sl 2 (zL s.rs)]:=rfl;have hC:=lS s;have hF:=nJ f;have hG:=zo f;have hT:=YY f s.ag s.fa;have hE:gV s f=if chk s≠0 then chk s else if yN f≠0 then yN f else if (pJ .andNot .i64 (zC f:Int) 271 != 0)= true then 10 else if sU f s.ag s.fa=false then 2 else 0:=rfl;have hR0:gV s f≠0->iD s f = []:=λh=>if_pos h;have hin:=λA=>Qy (s:=s) (f:=f) (A:=A);rw [hD] at hC ⊢;by_cases c1:chk s=0
 case neg=>
  have e1:(chk s != 0)= true:=by simpa using c1
  rw [if_pos c1] at hE;rw [hR0 (by rw [hE]; exact c1),hE];refine xY.xP mixed func44 k44 (by simp) λhf=>?_;simp only [simprocAttr,-ZA,↓zU,↓zD,zV,zT,zW]
  (repeat refine sd ?_)
  refine .go (cq hC) ?_;simp only [simprocAttr,-ZA,↓zU,↓zD,zV,zT,zW,e1];exact .drop (by simp) (by simp [vw,vwL])
 rw [if_neg (by simpa using c1)] at hE;by_cases c2:yN f=0
 case neg=>
  have e2:(yN f != 0)= true:=by simpa using c2
  rw [if_pos c2] at hE;rw [hR0 (by rw [hE]; exact c2),hE];rw [c1] at hC;refine xY.xP mixed func44 k44 (by simp) λhf=>?_;simp only [simprocAttr,-ZA,↓zU,↓zD,zV,zT,zW]
  (repeat refine sd ?_)
  refine .go (cq hC) ?_;simp only [simprocAttr,-ZA,↓zU,↓zD,zV,zT,zW];refine .go (cq hF) ?_;simp only [simprocAttr,-ZA,↓zU,↓zD,zV,zT,zW,e2];exact .drop (by simp) (by simp [vw,vwL])
 rw [if_neg (by simpa using c2)] at hE;rw [c1] at hC;rw [c2] at hF
 by_cases c3:(pJ .andNot .i64 (zC f:Int) 271 != 0)= true
 ·rw [if_pos c3] at hE;rw [hR0 (by rw [hE]; decide),hE];refine xY.xP mixed func44 k44 (by simp) λhf=>?_;simp only [simprocAttr,-ZA,↓zU,↓zD,zV,zT,zW]
  (repeat refine sd ?_)
  refine .go (cq hC) ?_;simp only [simprocAttr,-ZA,↓zU,↓zD,zV,zT,zW];refine .go (cq hF) ?_;simp only [simprocAttr,-ZA,↓zU,↓zD,zV,zT,zW];refine .go (cq hG) ?_;simp only [simprocAttr,-ZA,↓zU,↓zD,zV,zT,zW,c3];exact .drop (by simp) (by simp [vw,vwL])
 rw [if_neg c3] at hE;have c3':(pJ .andNot .i64 (zC f:Int) 271 != 0)= false:=by simpa using c3
 by_cases c4:sU f s.ag s.fa=false
 ·rw [if_pos c4] at hE;rw [hR0 (by rw [hE]; decide),hE];rw [c4] at hT;refine xY.xP mixed func44 k44 (by simp) λhf=>?_;simp only [simprocAttr,-ZA,↓zU,↓zD,zV,zT,zW]
  (repeat refine sd ?_)
  refine .go (cq hC) ?_;simp only [simprocAttr,-ZA,↓zU,↓zD,zV,zT,zW];refine .go (cq hF) ?_;simp only [simprocAttr,-ZA,↓zU,↓zD,zV,zT,zW];refine .go (cq hG) ?_;simp only [simprocAttr,-ZA,↓zU,↓zD,zV,zT,zW,c3']
  (repeat refine sd ?_)
  refine .go (cq hT) ?_;simp only [simprocAttr,-ZA,↓zU,↓zD,zV,zT,zW];exact .drop (by simp) (by simp [vw,vwL])
 rw [if_neg c4] at hE;rw [show sU f s.ag s.fa=true by simpa using c4] at hT;rw [show iD s f=zI s.rs.length s.ln.toNat (u7 s.rs s.ag.toNat s.ln.toNat f) from if_neg (by rw [hE]; simp),hE];obtain⟨A,F,T,rs,rfl,ok⟩:=lV c1;obtain⟨T1,T16⟩:=ok.hT;obtain⟨R1,R64⟩:=ok.hR;have hin:=hin A hE rfl ok.hA;have hcv:=gx f;have hc0:=iI c2;have hc2:(xB f).length<=200:=fI f _;have hP:=cV f;have hlast:u7 rs A T f=(wS rs A T (xB f) (xB f).length).getD ((xB f).length-1) λ_=>false:=rfl;simp only [γ] at *;rw [hlast];generalize xB f=c at hin hcv hc0 hc2 hP;refine xY.xP mixed func44 k44 (by simp) λhf=>?_;simp only [simprocAttr,-ZA,↓zU,↓zD,zV,zT,zW]
 (repeat refine sd ?_)
 refine .go (cq hC) ?_;simp only [simprocAttr,-ZA,↓zU,↓zD,zV,zT,zW];refine .go (cq hF) ?_;simp only [simprocAttr,-ZA,↓zU,↓zD,zV,zT,zW];refine .go (cq hG) ?_;simp only [simprocAttr,-ZA,↓zU,↓zD,zV,zT,zW,c3']
 (repeat refine sd ?_)
 refine .go (cq hT) ?_;simp only [simprocAttr,-ZA,↓zU,↓zD,zV,zT,zW];obtain⟨nb,objs0,hN,hB,hS⟩:=Mm c1 ok ⟨1,[(0,⟨4,[[.int .i64 (A:Int),.int .i64 (F:Int),.int .i64 (T:Int),.sl 2 (zL rs)]]⟩)]⟩;unfold sD at hN;simp only at hN hS hB;generalize (1+1:Nat)= kc at hN hS hB;generalize (1+2:Nat)= ks at hS hB;generalize (λi=>1+(3+i))= km at hS hB
 (repeat refine sd ?_)
 refine .go hN ?_;simp only [simprocAttr,-ZA,↓zU,↓zD,zV,zT,zW];refine .go (cr hP) ?_;simp only [simprocAttr,-ZA,↓zU,↓zD,zV,zT,zW,xE];have bc:=hB.c
 refine xT (λb:Nat × Nat × Nat × List (Nat × Ob)=>[(43,.int .i64 b.1),(42,.int .i64 c.length),(41,.sl 6 (ndR c)),(9,xD b.2.1 1 (sN rs A T c b.1)),(8,.ref kc 6 0 0)]) (λb=>⟨b.2.2.1,b.2.2.2⟩)
  (λb=>b.1<=c.length/\nb<=b.2.2.1/\(∀ k,k<nb->St.look b.2.2.2 k=St.look objs0 k)/\ (0<b.1->nb<=b.2.1/\b.2.1<b.2.2.1/\St.look b.2.2.2 b.2.1=some ⟨1,sN rs A T c b.1⟩)) (λb=>c.length-b.1)
  (0,nb,nb,objs0) ⟨ε _,Nat.le_refl _,λ_ _=>rfl,λh=>absurd h (Nat.lt_irrefl _)⟩ ?_ ?_
 ·(refine xN.same ?_; simp [xQ,Fr.get,sN,wS,xD])
 rintro ⟨k,kv,nx1,objs1⟩ ⟨hk,hn,hold,hval⟩;simp only at hk hn hold hval ⊢;refine xO mixed ?_;by_cases hkl:k<c.length
 case neg=>
  have hd:¬ ((k:Int)<(c.length:Int)):=by omega
  obtain rfl:k=c.length:=by omega
  obtain⟨v1,v2,v3⟩:=hval hc0;have hvl:=kE rs A T c c.length;have hne:sN rs A T c c.length ≠ []:=λe=>by rw [e] at hvl; simp at hvl; omega
  rw [pR hne,hvl];have hw:IntKind.i64.wrap ((c.length:Int)-1)= ((c.length-1:Nat):Int):=by rw [wrap_i64 (by omega)]; omega
  have hg:=eW (rs:=rs) (A:=A) (T:=T) (c:=c) (k:=c.length) (i:=c.length-1) (by omega);simp only [simprocAttr,-ZA,↓zU,↓zD,zV,zT,zW,hd,hw,v3,hvl,hg]
  (repeat refine sd ?_)
  exact .drop (by simp) (by simp [vw,vwL])
 have hd:((k:Int)<(c.length:Int)):=by omega
 have hng:=oL c hkl;have hnv:=hcv k hkl;have hpm:=xR (d:=nd0) hkl;obtain⟨hni,hn3⟩:=hin _ hpm;have hsucc:=r9 rs A T c k;obtain⟨ox,oy,ox0,oy0⟩:=uZ hnv;generalize c.getD k nd0=n at hng hnv hni hn3 hsucc ox oy ox0 oy0;have hnr:n.row = [.int .i64 n.op,.int .i64 n.i,.int .i64 n.e,.int .i64 n.g,.int .i64 n.x,.int .i64 n.y]:=rfl;rw [hnr] at hng
 rcases Nat.eq_zero_or_pos k with hk0 | hkp
 ·subst hk0;have hopd:ib n rs.length T ((wS rs A T c 0).getD n.x.toNat λ_=>false) ((wS rs A T c 0).getD n.y.toNat λ_=>false) .xK .xK:=⟨λh=>absurd (ox h).2 (Nat.not_lt_zero _),λh=>absurd (oy h).2 (Nat.not_lt_zero _)⟩;rw [show xD kv 1 (sN rs A T c 0)= .xK from rfl];have hd0:((0:Int)<(c.length:Int)):=by omega
  simp only [simprocAttr,-ZA,↓zU,↓zD,zV,zT,zW,hd0,xE,hng]
  (repeat refine sd ?_)
  refine .go (cq YI) ?_;simp only [simprocAttr,-ZA,↓zU,↓zD,zV,zT,zW]
  (repeat refine sd ?_)
  rw [show mN.length=9 from rfl]
  refine zZ (λb:Nat × Nat × List (Nat × Ob)=>[(62,.int .i64 b.1),(61,.int .i64 9),(60,.sl 2 mN),(14,Ss rs A T n ((wS rs A T c 0).getD n.x.toNat λ_=>false) ((wS rs A T c 0).getD n.y.toNat λ_=>false) b.1),(43,.int .i64 (0:Nat)),(42,.int .i64 c.length),(41,.sl 6 (ndR c)),(13,.xK),(12,.xK),(11,.ref nx1 6 0 0),(9,.xK),(8,.ref kc 6 0 0)]) (λb=>⟨b.2.1,b.2.2⟩)
   (λb=>b.1<=9/\nx1<b.2.1/\(∀ q,q<nx1->St.look b.2.2 q=St.look objs1 q)/\ St.look b.2.2 nx1=some ⟨6,[[.int .i64 n.op,.int .i64 n.i,.int .i64 n.e,.int .i64 n.g,.int .i64 n.x,.int .i64 n.y]]⟩) (λb=>9-b.1)
   (0,nx1+1,(nx1,⟨6,[[.int .i64 n.op,.int .i64 n.i,.int .i64 n.e,.int .i64 n.g,.int .i64 n.x,.int .i64 n.y]]⟩) :: objs1) ⟨ε _,η _,λq hq=>?_,?_⟩ ?_ ?_
  ·simp only; rw [xX,if_neg (by omega)]
  ·simp only; rw [xX,if_pos rfl]
  ·(refine xN.same ?_; simp [xQ,Fr.get,Ss])
  rintro ⟨j,nx2,objs2⟩ ⟨hj,hn2,hold2,hnode⟩;simp only at hj hn2 hold2 hnode ⊢;have hS2:mD rs A F T kc ks km objs2:=hS.frame hB λq hq=>by rw [hold2 q (by omega),hold q hq]
  refine xO mixed ?_
  by_cases hj9:j<9
  ·have hdj:((j:Int)<9):=by omega
   obtain⟨o,g,hat,hop,hrun⟩:=YH hj9;have hgs:=qy (rs:=rs) (A:=A) (T:=T) (n:=n) (x:=((wS rs A T c 0).getD n.x.toNat λ_=>false)) (y:=((wS rs A T c 0).getD n.y.toNat λ_=>false)) hj9;rw [hop] at hgs;have z3:¬ nx2=nx1:=by omega
   by_cases ho:n.op=o
   ·have hc:=hrun (nx:=nx2+1) (xZ:=(nx2,⟨2,[[.int .i64 o,.fn g []]]⟩) :: objs2) ok (hS2.P5 (nx2:=nx2) (nb:=nb) hB (by omega) _) hopd hni ho;rw [hnr] at hc;rw [if_pos ho] at hgs;have e1:(o==n.op)= true:=by rw [ho]; exact beq_self_eq_true _
    simp only [simprocAttr,-ZA,↓zU,↓zD,zV,zT,zW,hdj,hat,show mN.length=9 from rfl,hnode,z3,e1]
    (repeat refine sd ?_)
    refine .go hc ?_;simp only [simprocAttr,-ZA,↓zU,↓zD,zV,zT,zW];refine⟨(j+1,nx2+1,?zoA0),⟨by show j+1<=9; omega,by show nx1<nx2+1; omega,λq hq=>?_,?_⟩,?zwA0,by show 9-(j+1)<9-j; omega⟩
    case zwA0=>
     (refine xN.same ?_; simp only [xQ,Fr.get,simprocAttr,-ZA,zS,hgs])
     exact yB (by omega)
    ·simp only; rw [xX,if_neg (by omega)]; exact hold2 q hq
    ·simp only; rw [xX,if_neg (by omega)]; exact hnode
   ·rw [if_neg ho] at hgs;have e1:(o==n.op)= false:=by rw [beq_eq_false_iff_ne]; exact λe=>ho e.symm
    simp only [simprocAttr,-ZA,↓zU,↓zD,zV,zT,zW,hdj,hat,show mN.length=9 from rfl,hnode,z3,e1]
    (repeat refine sd ?_)
    refine⟨(j+1,nx2+1,?zoB0),⟨by show j+1<=9; omega,by show nx1<nx2+1; omega,λq hq=>?_,?_⟩,?zwB0,by show 9-(j+1)<9-j; omega⟩
    case zwB0=>
     (refine xN.same ?_; simp only [xQ,Fr.get,simprocAttr,-ZA,zS,hgs])
     exact yB (by omega)
    ·simp only; rw [xX,if_neg (by omega)]; exact hold2 q hq
    ·simp only; rw [xX,if_neg (by omega)]; exact hnode
  have hdj:¬ ((j:Int)<9):=by omega
  obtain rfl:j=9:=by omega
  rw [qz];simp only [simprocAttr,-ZA,↓zU,↓zD,zV,zT,zW,hdj];refine .zA ?_
  have hend:∀ (fr:Fr),xQ fr [(43,.int .i64 ((0+1:Nat):Int)),(42,.int .i64 c.length),(41,.sl 6 (ndR c)),(9,.osl nx2 1 (0+1)),(8,.ref kc 6 0 0)]->∃ b:Nat × Nat × Nat × List (Nat × Ob),
    (b.1<=c.length/\nb<=b.2.2.1/\(∀ k,k<nb->St.look b.2.2.2 k=St.look objs0 k)/\ (0<b.1->nb<=b.2.1/\b.2.1<b.2.2.1/\St.look b.2.2.2 b.2.1=some ⟨1,sN rs A T c b.1⟩))/\
    xN ⟨prog,97,0,[],none⟩ fr ⟨nx2+1,(nx2,⟨1,sN rs A T c (0+1)⟩) :: objs2⟩ [(43,.int .i64 b.1),(42,.int .i64 c.length),(41,.sl 6 (ndR c)),(9,xD b.2.1 1 (sN rs A T c b.1)),(8,.ref kc 6 0 0)] ⟨b.2.2.1,b.2.2.2⟩/\ c.length-b.1<c.length-0:=by
   intro fr hfr;have hvl':=kE rs A T c (0+1);have hne':sN rs A T c (0+1)≠ []:=λe=>by rw [e] at hvl'; simp at hvl'
   refine⟨(0+1,nx2,nx2+1,_),⟨by show 0+1<=c.length; omega,by show nb<=nx2+1; omega,λq hq=>?_,λ_=>⟨by show nb<=nx2; omega,η _,?_⟩⟩,xN.same ?_,by show c.length-(0+1)<c.length-0; omega⟩
   ·simp only; rw [xX,if_neg (by omega)]; rw [hold2 q (by omega),hold q hq]
   ·simp only; rw [xX,if_pos rfl]
   ·simp only;rw [pR hne',hvl']; exact hfr
  by_cases hop:n.op ∈ ij
  ·rw [if_pos hop];have hsx:=hsucc;generalize zH rs A T n ((wS rs A T c 0).getD n.x.toNat λ_=>false) ((wS rs A T c 0).getD n.y.toNat λ_=>false)= φ at hsx;obtain⟨e,r,her⟩:=ti R1 φ;have hp:((D.sl 1 (e :: r)).xL)= true:=rfl;rw [her] at hsx ⊢;simp only [simprocAttr,-ZA,↓zU,↓zD,zV,zT,zW,hp ]
   (repeat refine sd ?_)
   rw [show sN rs A T c 0 = [] from rfl,ν] at hsx;rw [<- hsx];refine hend _ ?_;simp only [xQ,Fr.get,↓reduceIte,reduceIte,ζ,reduceCtorEq,D.int.injEq,D.osl.injEq,and_true,true_and,and_self]; exact yB (k:=0) (by omega)
  ·rw [if_neg hop];have hc:=SU (nx:=nx2) (xZ:=objs2) ok hopd hn3 .xK .xK hS2.c;rw [hnr,<- aK hop] at hc;have hsx:=hsucc;generalize zH rs A T n ((wS rs A T c 0).getD n.x.toNat λ_=>false) ((wS rs A T c 0).getD n.y.toNat λ_=>false)= φ at hsx hc;simp only [simprocAttr,-ZA,↓zU,↓zD,zV,zT,zW,hnode]
   (repeat refine sd ?_)
   refine .go hc ?_;simp only [simprocAttr,-ZA,↓zU,↓zD,zV,zT,zW,hnode]
   (repeat refine sd ?_)
   rw [show sN rs A T c 0 = [] from rfl,ν] at hsx;rw [<- hsx];refine hend _ ?_;simp only [xQ,Fr.get,↓reduceIte,reduceIte,ζ,reduceCtorEq,D.int.injEq,D.osl.injEq,and_true,true_and,and_self]; exact yB (k:=0) (by omega)
 ·have hdp:((0:Int)<(k:Int)):=by omega
  obtain⟨v1,v2,v3⟩:=hval hkp;have hvl:=kE rs A T c k;have hne:sN rs A T c k ≠ []:=λe=>by rw [e] at hvl; simp at hvl; omega
  rw [pR hne,hvl]
  have hxk:0<=n.x/\n.x.toNat<k:=by
   cases hu:(xV n.op).1.x with
   | true=>exact ox hu
   | false=>rw [ox0 hu]; exact⟨Int.le_refl _,hkp⟩
  have hyk:0<=n.y/\n.y.toNat<k:=by
   cases hu:(xV n.op).1.y with
   | true=>exact oy hu
   | false=>rw [oy0 hu]; exact⟨Int.le_refl _,hkp⟩
  have hgx:=eW (rs:=rs) (A:=A) (T:=T) (c:=c) hxk.2;have hgy:=eW (rs:=rs) (A:=A) (T:=T) (c:=c) hyk.2;have hopd:ib n rs.length T ((wS rs A T c k).getD n.x.toNat λ_=>false) ((wS rs A T c k).getD n.y.toNat λ_=>false) (.sl 1 (zI rs.length T ((wS rs A T c k).getD n.x.toNat λ_=>false))) (.sl 1 (zI rs.length T ((wS rs A T c k).getD n.y.toNat λ_=>false))):=⟨λ_=>rfl,λ_=>rfl⟩;have z1:¬ nx1=kv:=by omega
  simp only [simprocAttr,-ZA,↓zU,↓zD,zV,zT,zW,hd,xE,hng,hdp,v3,hvl,hgx,hgy,z1]
  (repeat refine sd ?_)
  refine .go (cq YI) ?_;simp only [simprocAttr,-ZA,↓zU,↓zD,zV,zT,zW]
  (repeat refine sd ?_)
  rw [show mN.length=9 from rfl]
  refine zZ (λb:Nat × Nat × List (Nat × Ob)=>[(62,.int .i64 b.1),(61,.int .i64 9),(60,.sl 2 mN),(14,Ss rs A T n ((wS rs A T c k).getD n.x.toNat λ_=>false) ((wS rs A T c k).getD n.y.toNat λ_=>false) b.1),(43,.int .i64 (k:Nat)),(42,.int .i64 c.length),(41,.sl 6 (ndR c)),(13,(.sl 1 (zI rs.length T ((wS rs A T c k).getD n.y.toNat λ_=>false)))),(12,(.sl 1 (zI rs.length T ((wS rs A T c k).getD n.x.toNat λ_=>false)))),(11,.ref nx1 6 0 0),(9,.osl kv 1 k),(8,.ref kc 6 0 0)]) (λb=>⟨b.2.1,b.2.2⟩)
   (λb=>b.1<=9/\nx1<b.2.1/\(∀ q,q<nx1->St.look b.2.2 q=St.look objs1 q)/\ St.look b.2.2 nx1=some ⟨6,[[.int .i64 n.op,.int .i64 n.i,.int .i64 n.e,.int .i64 n.g,.int .i64 n.x,.int .i64 n.y]]⟩) (λb=>9-b.1)
   (0,nx1+1,(nx1,⟨6,[[.int .i64 n.op,.int .i64 n.i,.int .i64 n.e,.int .i64 n.g,.int .i64 n.x,.int .i64 n.y]]⟩) :: objs1) ⟨ε _,η _,λq hq=>?_,?_⟩ ?_ ?_
  ·simp only; rw [xX,if_neg (by omega)]
  ·simp only; rw [xX,if_pos rfl]
  ·(refine xN.same ?_; simp [xQ,Fr.get,Ss])
  rintro ⟨j,nx2,objs2⟩ ⟨hj,hn2,hold2,hnode⟩;simp only at hj hn2 hold2 hnode ⊢;have hS2:mD rs A F T kc ks km objs2:=hS.frame hB λq hq=>by rw [hold2 q (by omega),hold q hq]
  refine xO mixed ?_
  by_cases hj9:j<9
  ·have hdj:((j:Int)<9):=by omega
   obtain⟨o,g,hat,hop,hrun⟩:=YH hj9;have hgs:=qy (rs:=rs) (A:=A) (T:=T) (n:=n) (x:=((wS rs A T c k).getD n.x.toNat λ_=>false)) (y:=((wS rs A T c k).getD n.y.toNat λ_=>false)) hj9;rw [hop] at hgs;have z3:¬ nx2=nx1:=by omega
   by_cases ho:n.op=o
   ·have hc:=hrun (nx:=nx2+1) (xZ:=(nx2,⟨2,[[.int .i64 o,.fn g []]]⟩) :: objs2) ok (hS2.P5 (nx2:=nx2) (nb:=nb) hB (by omega) _) hopd hni ho;rw [hnr] at hc;rw [if_pos ho] at hgs;have e1:(o==n.op)= true:=by rw [ho]; exact beq_self_eq_true _
    simp only [simprocAttr,-ZA,↓zU,↓zD,zV,zT,zW,hdj,hat,show mN.length=9 from rfl,hnode,z3,e1]
    (repeat refine sd ?_)
    refine .go hc ?_;simp only [simprocAttr,-ZA,↓zU,↓zD,zV,zT,zW];refine⟨(j+1,nx2+1,?zoAk),⟨by show j+1<=9; omega,by show nx1<nx2+1; omega,λq hq=>?_,?_⟩,?zwAk,by show 9-(j+1)<9-j; omega⟩
    case zwAk=>
     (refine xN.same ?_; simp only [xQ,Fr.get,simprocAttr,-ZA,zS,hgs])
     exact yB (by omega)
    ·simp only; rw [xX,if_neg (by omega)]; exact hold2 q hq
    ·simp only; rw [xX,if_neg (by omega)]; exact hnode
   ·rw [if_neg ho] at hgs;have e1:(o==n.op)= false:=by rw [beq_eq_false_iff_ne]; exact λe=>ho e.symm
    simp only [simprocAttr,-ZA,↓zU,↓zD,zV,zT,zW,hdj,hat,show mN.length=9 from rfl,hnode,z3,e1]
    (repeat refine sd ?_)
    refine⟨(j+1,nx2+1,?zoBk),⟨by show j+1<=9; omega,by show nx1<nx2+1; omega,λq hq=>?_,?_⟩,?zwBk,by show 9-(j+1)<9-j; omega⟩
    case zwBk=>
     (refine xN.same ?_; simp only [xQ,Fr.get,simprocAttr,-ZA,zS,hgs])
     exact yB (by omega)
    ·simp only; rw [xX,if_neg (by omega)]; exact hold2 q hq
    ·simp only; rw [xX,if_neg (by omega)]; exact hnode
  have hdj:¬ ((j:Int)<9):=by omega
  obtain rfl:j=9:=by omega
  rw [qz];simp only [simprocAttr,-ZA,↓zU,↓zD,zV,zT,zW,hdj];refine .zA ?_
  have hend:∀ (fr:Fr),xQ fr [(43,.int .i64 ((k+1:Nat):Int)),(42,.int .i64 c.length),(41,.sl 6 (ndR c)),(9,.osl nx2 1 (k+1)),(8,.ref kc 6 0 0)]->∃ b:Nat × Nat × Nat × List (Nat × Ob),
    (b.1<=c.length/\nb<=b.2.2.1/\(∀ k,k<nb->St.look b.2.2.2 k=St.look objs0 k)/\ (0<b.1->nb<=b.2.1/\b.2.1<b.2.2.1/\St.look b.2.2.2 b.2.1=some ⟨1,sN rs A T c b.1⟩))/\
    xN ⟨prog,97,0,[],none⟩ fr ⟨nx2+1,(nx2,⟨1,sN rs A T c (k+1)⟩) :: yC objs2 kv⟩ [(43,.int .i64 b.1),(42,.int .i64 c.length),(41,.sl 6 (ndR c)),(9,xD b.2.1 1 (sN rs A T c b.1)),(8,.ref kc 6 0 0)] ⟨b.2.2.1,b.2.2.2⟩/\ c.length-b.1<c.length-k:=by
   intro fr hfr;have hvl':=kE rs A T c (k+1);have hne':sN rs A T c (k+1)≠ []:=λe=>by rw [e] at hvl'; simp at hvl'
   refine⟨(k+1,nx2,nx2+1,_),⟨by show k+1<=c.length; omega,by show nb<=nx2+1; omega,λq hq=>?_,λ_=>⟨by show nb<=nx2; omega,η _,?_⟩⟩,xN.same ?_,by show c.length-(k+1)<c.length-k; omega⟩
   ·simp only; rw [xX,if_neg (by omega)]; rw [xM,if_neg (by omega),hold2 q (by omega),hold q hq]
   ·simp only; rw [xX,if_pos rfl]
   ·simp only;rw [pR hne',hvl']; exact hfr
  by_cases hop:n.op ∈ ij
  ·rw [if_pos hop];have hsx:=hsucc;generalize zH rs A T n ((wS rs A T c k).getD n.x.toNat λ_=>false) ((wS rs A T c k).getD n.y.toNat λ_=>false)= φ at hsx;obtain⟨e,r,her⟩:=ti R1 φ;have hp:((D.sl 1 (e :: r)).xL)= true:=rfl;rw [her] at hsx ⊢;simp only [simprocAttr,-ZA,↓zU,↓zD,zV,zT,zW,hp ,(hold2 kv v2).trans v3,hvl]
   (repeat refine sd ?_)
   rw [π (by omega),<- hsx];refine hend _ ?_;simp only [xQ,Fr.get,↓reduceIte,reduceIte,ζ,reduceCtorEq,D.int.injEq,D.osl.injEq,and_true,true_and,and_self]; exact yB (k:=k) (by omega)
  ·rw [if_neg hop];have hc:=SU (nx:=nx2) (xZ:=objs2) ok hopd hn3 (.sl _ _) (.sl _ _) hS2.c;rw [hnr,<- aK hop] at hc;have hsx:=hsucc;generalize zH rs A T n ((wS rs A T c k).getD n.x.toNat λ_=>false) ((wS rs A T c k).getD n.y.toNat λ_=>false)= φ at hsx hc;simp only [simprocAttr,-ZA,↓zU,↓zD,zV,zT,zW,hnode]
   (repeat refine sd ?_)
   refine .go hc ?_;simp only [simprocAttr,-ZA,↓zU,↓zD,zV,zT,zW,(hold2 kv v2).trans v3,hvl]
   (repeat refine sd ?_)
   rw [π (by omega),<- hsx];refine hend _ ?_;simp only [xQ,Fr.get,↓reduceIte,reduceIte,ζ,reduceCtorEq,D.int.injEq,D.osl.injEq,and_true,true_and,and_self]; exact yB (k:=k) (by omega)
end
end Go.Pd
