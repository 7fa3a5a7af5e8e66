/- Part C2. -/
import Derived.Test.YtndfaefmmcoapaaGreatUfSC
import Derived.Test.YtndfaefmmcoapaaGreatUfJA
import Derived.Test.YtndfaefmmcoapaaGreatUfP7
set_option linter.unusedSectionVars false
set_option linter.unusedVariables false
set_option linter.unusedSimpArgs false
set_option linter.defProp false
set_option maxRecDepth 20000
set_option maxHeartbeats 1000000
open Go.Proofs.Tryz
open List renaming mem_range->γ,all_eq_true->δ,mem_map->ε,any_eq_true->ζ,nil_append->η,map_congr_left->θ,mem_singleton->κ,getElem?_eq_getElem->μ,ext_getElem->ν,isEmpty_nil->ξ,foldl_cons->ο,take_of_length_le->π,length_pos_iff->τ,getElem_range->υ,getElem_set->χ,getElem_map->ω,cons_append->Aa
open Bool renaming true_and->Ab,and_eq_true->Ac,false_and->Ad,eq_iff_iff->Ae,or_false->Af,or_eq_false_iff->Ag,false_eq_true->Ah,and_true->Ai,eq_false_iff->Aj,or_eq_true->Ak,and_false->Al
open Nat renaming exists_eq_add_of_le->Am,le_refl->An,zero_le->Ao,pow_le_pow_right->Ap,lt_of_lt_of_le->Aq,shiftRight_eq_div_pow->Ar,reduceEqDiff->As,lt_succ_self->Au,testBit_lt_two_pow->Av,mul_pos->Aw,mul_one->Ax,eq_of_testBit_eq->Ay
open BitVec renaming getLsbD_zero->Az,getLsbD_not->A0,getLsbD_and->A3,getLsbD_or->A4,getLsbD_of_ge->A5
open Int renaming toNat_natCast->A6,eq_ofNat_of_zero_le->A7
namespace Go.Pd
open Go Go.Proofs
open BitVec renaming isValue -> ZA
open Rs Fm Ru Te
theorem Pz (s:BitVec 64) (l:List (BitVec 64)) (hl:l.length<=1000):xY prog 122 [.sl 1 (us (s :: l))] gR (.yD 0 1 (l.length+1)) ⟨1,[(0,⟨1,us (s :: l)⟩)]⟩:=by
 refine xY.xQ mixed func122 Kc (by simp) λhf=>?_;have hln:(us (s :: l)).length=l.length+1:=by simp [us]
 have h1:=YA (s :: l);have e:us (s :: l)= [.int .u64 (ui s)] :: us l:=rfl;rw [e] at hln h1 ⊢;simp only [simprocAttr,-ZA,↓zU,↓zD,zV,zT,zW];have hp:=oS (s :: l);rw [e] at hp;exact⟨by simp,h1,by omega,by omega,oK.name (n:=0) (by simp) hp (by simp [vw])⟩
theorem ZC {k sz:Nat} {a b:List (List D)} (h:a.length=b.length):xA k sz a=xA k sz b:=by
 cases a with
 | nil=>cases b with
  | nil=>rfl
  | cons e r=>simp at h
 | cons e r=>cases b with
  | nil=>simp at h
  | cons e' r'=>simp only [List.length_cons] at h; simp [xA,h]
theorem Uw (c:Nat) (l:List (BitVec 64)):(us l).map (D.wB c)= us l:=fS c (oS l)
theorem Yb {n:Nat} {xZ:List (Nat × Ob)} (l:List (BitVec 64)) (h:l ≠ []) (hl:l.length<=1000):xY prog 122 [.sl 1 (us l)] ⟨n,xZ⟩ (xA n 1 (us l)) ⟨n+1,yV n 1 (us l)++ xZ⟩:=by
 cases l with
 | nil=>exact absurd rfl h
 | cons s l=> have:=xY.own (σ:=⟨n,xZ⟩) (Pz s l (by simp at hl; omega)) (by simp [D.xP,D.xD]);simp only [D.shift,zM,Ob.shift,Uw,Aa,η,Nat.add_zero] at this;simp only [br,nw,nz,xH,Aa,η];exact this
namespace Ru
def PW (meet:Bool) (a b:BitVec 64):BitVec 64:=if meet=true then a &&& b else a ||| b
def mi (meet:Bool) (acc r:List (BitVec 64)):List (BitVec 64):=(List.range acc.length).map λi=>PW meet (acc.getD i 0) (r.getD i 0)
def mX (R:List (List (BitVec 64))) (G:Nat) (meet:Bool):Nat->List (BitVec 64)
 | 0=>[]
 | k+1=>if G.testBit k then(if (mX R G meet k).isEmpty then R.getD k [] else mi meet (mX R G meet k) (R.getD k [])) else mX R G meet k
def wA (m:rG) (G:Nat) (meet:Bool):List (BitVec 64):=mX m.R G meet m.R.length
def dY (meet:Bool) (acc r:List (BitVec 64)) (w:Nat):List (BitVec 64):=(List.range acc.length).map λi=>if i<w then PW meet (acc.getD i 0) (r.getD i 0) else acc.getD i 0
theorem UN (meet:Bool) (acc r:List (BitVec 64)):dY meet acc r 0=acc:=by refine ν (by simp [dY]) λi h1 h2=>?_;simp [dY,List.getD,h2]
theorem QT (meet:Bool) (acc r:List (BitVec 64)):dY meet acc r acc.length=mi meet acc r:=by unfold dY mi;refine θ λi hi=>?_;rw [γ] at hi;rw [if_pos hi]
theorem Xg (meet:Bool) (acc r:List (BitVec 64)) (w:Nat):(dY meet acc r w).length=acc.length:=by simp [dY]
theorem OB {meet:Bool} {acc r:List (BitVec 64)} {w:Nat} (h:w<acc.length):(dY meet acc r w).getD w 0=acc.getD w 0:=by simp [dY,List.getD,h]
theorem QU {meet:Bool} {acc r:List (BitVec 64)} {w:Nat} (h:w<acc.length):(dY meet acc r w).set w (PW meet (acc.getD w 0) (r.getD w 0))= dY meet acc r (w+1):=by
 refine ν (by simp [dY]) λi h1 h2=>?_;simp only [χ,dY,ω,υ]
 by_cases e:w=i
 ·subst e; simp
 ·rw [if_neg e]
  by_cases e2:i<w
  ·rw [if_pos e2,if_pos (by omega)]
  ·rw [if_neg e2,if_neg (by omega)]
theorem pz {m:rG} {W:Nat} (ok:lV m W) (G:Nat) (meet:Bool):∀ k,k<=m.R.length->mX m.R G meet k = []\/(mX m.R G meet k).length=W
 | 0,_=>.inl rfl
 | k+1,hk=>by
  have hr:=ok.row _ (xK (d:=[]) (show k<m.R.length by omega));rw [mX]
  split
  ·split
   ·exact .inr hr
   ·rcases pz ok G meet k (by omega) with h | h
    ·rename_i hn; rw [h] at hn; exact absurd rfl hn
    ·exact .inr (by simp [mi,h])
  ·exact pz ok G meet k (by omega)
theorem du (R:List (List (BitVec 64))) (G:Nat) (meet:Bool) (k:Nat):mX R G meet (k+1)= if G.testBit k then(if (mX R G meet k).isEmpty then R.getD k [] else mi meet (mX R G meet k) (R.getD k [])) else mX R G meet k:=rfl
end Ru
theorem gj {m:rG} {W:Nat} (ok:lV m W) {g:Nat} (hg:1<=g/\g<2 ^ m.R.length) (meet:Bool) (f:FuncId) (hop:∀ a b,yW prog f [.int .u64 (ui a),.int .u64 (ui b)] (.int .u64 (ui (PW meet a b)))):yW prog 252 [m.d,.int .i64 (g:Int),.fn f []] (.sl 1 (us (wA m g meet))):=by
 have hc:=ov ok;have h4:=ok.hR;obtain⟨W1,W64⟩:=ok.hW;have hsh:=bo (k:=m.R.length) (by omega);have h2:¬ (g:Int)<1:=by omega
 have h3:¬ ((2 ^ m.R.length:Nat):Int)<=(g:Int):=by omega
 have hg60:g<2 ^ 60:=Aq hg.2 (Ap (by decide) (by omega));have hall:mX m.R g meet m.R.length=wA m g meet:=rfl;unfold rG.d at hc ⊢;refine xY.xQ mixed func252 JL (by simp) λhf=>?_;simp only [simprocAttr,-ZA,↓zU,↓zD,zV,zT,zW]
 (repeat refine sd ?_)
 refine .go (cr hc) ?_;simp only [simprocAttr,-ZA,↓zU,↓zD,zV,zT,zW,h2,h3,hsh,wO]
 (repeat refine sd ?_)
 refine xO (λk:Nat=>[(29,.int .i64 k),(28,.int .i64 m.R.length),(27,.sl 1 (rr m.R)),(7,xA 1 1 (us (mX m.R g meet k))),(2,.fn f []),(1,.int .i64 g)])
  (λk=>⟨2,yV 1 1 (us (mX m.R g meet k))⟩) (λk=>k<=m.R.length) (λk=>m.R.length-k) 0 (Ao _) ?_ ?_
 ·(refine xT.sZ [] [1,0] (by simp) (by simp) (by decide) ?_; simp only [yT,zQ,simprocAttr,-ZA,exists_eq_left',ne_eq,zR,mX,vV,vU,η,uR])
 intro k hk;refine xL mixed ?_
 by_cases h:k<m.R.length
 ·have hd:((k:Int)<(m.R.length:Int)):=by omega
  have hu:=zZ (k:=k) (by omega);have hrl:=ok.row _ (xK (d:=[]) h);have hbr:=Y2 hg60 (show k<=60 by omega);have hs:=du m.R g meet k;have hL:=pz ok g meet k hk;have hrg:=kY m.R h;generalize mX m.R g meet k=acc at hs hL ⊢;generalize m.R.getD k []=r at hrl hs hrg
  cases hb:g.testBit k with
  | false=>
   rw [hb] at hbr hs;simp only [simprocAttr,-ZA,↓zU,↓zD,zV,zT,zW,hd,hbr,hu,hrg,wO]
   (repeat refine sd ?_)
   refine⟨k+1,by omega,?_,by omega⟩;rw [hs,if_neg (by simp)]
   (refine xT.same ?_; simp only [xR,Fr.get,simprocAttr,-ZA,zS])
  | true=>
   rw [hb] at hbr hs;rw [if_pos rfl] at hs hbr
   by_cases he:acc = []
   ·subst he;rw [ξ,if_pos rfl] at hs;simp only [simprocAttr,-ZA,↓zU,↓zD,zV,zT,zW,hd,hbr,hu,hrg,wO,ξ]
    (repeat refine sd ?_)
    have hrne:r ≠ []:=by rintro rfl; simp at hrl; omega
    refine .go (Yb r hrne (by omega)) ?_;simp only [simprocAttr,-ZA,↓zU,↓zD,zV,zT,zW,hu];refine⟨k+1,by omega,?_,by omega⟩;rw [hs]
    (refine xT.sZ [(1,2)] [1] (by simp) (by simp) (by decide) ?_; simp only [yT,zQ,simprocAttr,-ZA,exists_eq_left',ne_eq,zR])
   ·have hie:acc.isEmpty=false:=by simpa using he
    have hiu:(us acc).isEmpty=false:=by cases acc with | nil=>exact absurd rfl he | cons a l=>rfl
    rw [hie,if_neg (by simp)] at hs;have hL1:acc.length=W:=hL.resolve_left he;simp only [simprocAttr,-ZA,↓zU,↓zD,zV,zT,zW,hd,hbr,hu,hrg,wO,hiu]
    (repeat refine sd ?_)
    refine xO (λw:Nat=>[(45,.int .i64 w),(44,.int .i64 acc.length),(29,.int .i64 k),(28,.int .i64 m.R.length),(27,.sl 1 (rr m.R)),(9,.sl 1 (us r)),(7,xA 1 1 (us acc)),(2,.fn f []),(1,.int .i64 g)])
     (λw=>⟨2,yV 1 1 (us (dY meet acc r w))⟩) (λw=>w<=acc.length) (λw=>acc.length-w) 0 (Ao _) ?_ ?_
    ·rw [UN]
     (refine xT.same ?_; simp [xR,Fr.get])
    intro w hw;refine xL mixed ?_
    by_cases h4:w<acc.length
    ·have hd4:((w:Int)<(acc.length:Int)):=by omega
     have hw4:=zZ (k:=w) (by omega);have hx:w<r.length:=by omega
     have hx':(w:Int)<(r.length:Int):=by omega
     have hma:=OB (meet:=meet) (r:=r) h4;have hms:=QU (meet:=meet) (r:=r) h4;have hml:=Xg meet acc r w;have hmw:w<(dY meet acc r w).length:=by omega
     generalize dY meet acc r w=z at *;simp only [simprocAttr,-ZA,↓zU,↓zD,zV,zT,zW,hd4,hw4,vL _ hmw,vL _ hx,hma,hml,xH]
     (repeat refine sd ?_)
     refine .go (xY.zP (hop (acc.getD w 0) (r.getD w 0)) rfl) ?_;simp only [simprocAttr,-ZA,↓zU,↓zD,zV,zT,zW,hd4,hw4,vL _ hmw,jC,hma,hml,hms,xH]
     (repeat refine sd ?_)
     refine⟨w+1,by omega,?_,by omega⟩;rw [ph (by rw [xH,xH,Xg,hml])]
     (refine xT.same ?_; simp only [xR,Fr.get,simprocAttr,-ZA,zS])
    ·have hd4:¬ ((w:Int)<(acc.length:Int)):=by omega
     have hw':w=acc.length:=by omega
     subst hw';rw [QT];simp only [simprocAttr,-ZA,↓zU,↓zD,zV,zT,zW,hd4,hu];refine⟨k+1,by omega,?_,by omega⟩;rw [hs,ZC (show (us acc).length=(us (mi meet acc r)).length by simp [us,mi])]
     (refine xT.same ?_; simp only [xR,Fr.get,simprocAttr,-ZA,zS])
 ·have hd:¬ ((k:Int)<(m.R.length:Int)):=by omega
  have hk':k=m.R.length:=by omega
  subst hk';rw [hall];simp only [simprocAttr,-ZA,↓zU,↓zD,zV,zT,zW,hd]
  (repeat refine sd ?_)
  refine .drop (by simp) ?_;simp only [yT,zQ,simprocAttr,-ZA,exists_eq_left',ne_eq,zR]
theorem O7 (a b:BitVec 64):yW prog 254 [.int .u64 (ui a),.int .u64 (ui b)] (.int .u64 (ui (PW false a b))):=by refine xY.xQ mixed func254 JN (by simp) λhf=>?_;simp only [simprocAttr,-ZA,↓zU,↓zD,zV,zT,zW];exact .same
theorem O6 (a b:BitVec 64):yW prog 253 [.int .u64 (ui a),.int .u64 (ui b)] (.int .u64 (ui (PW true a b))):=by refine xY.xQ mixed func253 JM (by simp) λhf=>?_;simp only [simprocAttr,-ZA,↓zU,↓zD,zV,zT,zW];exact .same
theorem X0 {m:rG} {W:Nat} (ok:lV m W) {g:Nat} (hg:1<=g/\g<2 ^ m.R.length):yW prog 217 [m.d,.int .i64 (g:Int)] (.sl 1 (us (wA m g false))):=by
 have h:=gj ok hg false 254 O7;unfold rG.d at h ⊢;refine xY.xQ mixed func217 J9 (by simp) λhf=>?_;simp only [simprocAttr,-ZA,↓zU,↓zD,zV,zT,zW]
 (repeat refine sd ?_)
 refine .go (cr h) ?_;simp only [simprocAttr,-ZA,↓zU,↓zD,zV,zT,zW];exact .dv
theorem NL {m:rG} {W:Nat} (ok:lV m W) {g:Nat} (hg:1<=g/\g<2 ^ m.R.length):yW prog 216 [m.d,.int .i64 (g:Int)] (.sl 1 (us (wA m g true))):=by
 have h:=gj ok hg true 253 O6;unfold rG.d at h ⊢;refine xY.xQ mixed func216 J8 (by simp) λhf=>?_;simp only [simprocAttr,-ZA,↓zU,↓zD,zV,zT,zW]
 (repeat refine sd ?_)
 refine .go (cr h) ?_;simp only [simprocAttr,-ZA,↓zU,↓zD,zV,zT,zW];exact .dv
open Rs Fm Ru Te
namespace Ru
def pV (r:List (BitVec 64)) (a c s:BitVec 64):Nat->BitVec 64
 | 0=>a
 | n+1=>gM r (a &&& ~~~c ||| s &&& pV r a c s n)
theorem fh {r:List (BitVec 64)} {a c s:BitVec 64} {n:Nat} (h:pV r a c s (n+1)= pV r a c s n):∀ m,pV r a c s (n+m)= pV r a c s n
 | 0=>rfl
 | m+1=>by show gM r (a &&& ~~~c ||| s &&& pV r a c s (n+m))= _;rw [fh h m];exact h
theorem Nx {n:Nat} (hn:n<=64) {x:BitVec 64} (h:eA n x=false) {i:Nat} (hi:x.getLsbD i=true):i<n:=by
 unfold eA at h;rw [Bool.not_eq_false',decide_eq_true_iff] at h;have h64:i<64:=Decidable.byContradiction λhh=>by rw [A5 _ _ (by omega)] at hi; cases hi
 have:=congrArg (·.getLsbD i) h;simp only [A3,A0,oC hn h64,hi,h64,Az] at this;simpa using this
def tp (R:List (List (BitVec 64))) (G:Nat) (meet:Bool) (k w v:Nat):Bool:= if meet=true then(List.range k).all λa=>!G.testBit a || ((R.getD a []).getD w 0).getLsbD v else(List.range k).any λa=>G.testBit a&&((R.getD a []).getD w 0).getLsbD v
theorem OX (meet:Bool) (a b:BitVec 64) (v:Nat):(PW meet a b).getLsbD v=if meet=true then(a.getLsbD v&&b.getLsbD v) else(a.getLsbD v || b.getLsbD v):=by unfold PW;cases meet <;> simp
theorem zh (R:List (List (BitVec 64))) (G:Nat) (meet:Bool) (k w v:Nat):tp R G meet (k+1) w v=if G.testBit k=true then(if meet=true then(tp R G meet k w v&&((R.getD k []).getD w 0).getLsbD v) else(tp R G meet k w v || ((R.getD k []).getD w 0).getLsbD v)) else tp R G meet k w v:=by unfold tp;simp only [List.range_succ,List.any_append,List.all_append,List.any_cons,List.any_nil,List.all_cons,List.all_nil,Af,Ai];cases meet <;> cases hG:G.testBit k <;> simp
theorem dt {m:rG} {W:Nat} (ok:lV m W) (G:Nat) (meet:Bool):∀ k,k<=m.R.length->((∀ a,a<k->G.testBit a=false)/\ mX m.R G meet k = [])\/((∃ a,a<k/\G.testBit a=true)/\ (mX m.R G meet k).length=W/\∀ w,w<W->∀ v,((mX m.R G meet k).getD w 0).getLsbD v=tp m.R G meet k w v)
 | 0,_=>.inl ⟨λa h=>by omega,rfl⟩
 | k + 1,hk=>by
  have hr:=ok.row _ (xK (d:=[]) (show k<m.R.length by omega));rw [du];have ih:=dt ok G meet k (by omega)
  cases hb:G.testBit k with
  | false=>
   rw [if_neg (by simp)]
   rcases ih with ⟨h1,h2⟩ | ⟨⟨a,h1,h2⟩,h3,h4⟩
   ·refine .inl ⟨λa ha=>?_,h2⟩
    by_cases e:a=k
    ·rw [e]; exact hb
    ·exact h1 a (by omega)
   ·refine .inr ⟨⟨a,by omega,h2⟩,h3,λw hw v=>?_⟩;rw [zh,hb,h4 w hw v]; rfl
  | true=>
   rw [if_pos rfl];refine .inr ⟨⟨k,by omega,hb⟩,?_⟩
   rcases ih with ⟨h1,h2⟩ | ⟨_,h3,h4⟩
   ·rw [h2,ξ,if_pos rfl];refine⟨hr,λw hw v=>?_⟩;rw [zh,hb,if_pos rfl]
    have hz:tp m.R G meet k w v=meet:=by
     unfold tp
     cases meet
     ·simp only [Ah,↓reduceIte,List.any_eq_false,γ];intro a ha;rw [h1 a ha]; simp
     ·simp only [↓reduceIte,δ,γ];intro a ha;rw [h1 a ha]; simp
    rw [hz];cases meet <;> simp
   ·have hne:(mX m.R G meet k).isEmpty=false:=by
     cases hc:mX m.R G meet k with
     | nil=>rw [hc] at h3; have:=ok.hW; simp at h3; omega
     | cons a b=>rfl
    rw [hne,if_neg (by simp)];refine⟨by simp [mi,h3],λw hw v=>?_⟩;rw [zh,hb,if_pos rfl,<- h4 w hw v]
    have:(mi meet (mX m.R G meet k) (m.R.getD k [])).getD w 0=PW meet ((mX m.R G meet k).getD w 0) ((m.R.getD k []).getD w 0):=by simp [mi,List.getD,h3,hw]
    rw [this,OX]
theorem wc {m:rG} {W:Nat} (ok:lV m W) {g:Nat} (hg:1<=g/\g<2 ^ m.R.length) (meet:Bool):(∃ a,a<m.R.length/\g.testBit a=true)/\ (wA m g meet).length=W/\∀ w,w<W->∀ v,((wA m g meet).getD w 0).getLsbD v=tp m.R g meet m.R.length w v:=by
 rcases dt ok g meet m.R.length (An _) with ⟨h1,_⟩ | h
 ·exfalso
  have:g=0:=by
   refine Ay λi=>?_;rw [Nat.zero_testBit]
   by_cases hi:i<m.R.length
   ·exact h1 i hi
   ·exact Av (Aq hg.2 (Ap (by decide) (by omega)))
  omega
 ·exact h
theorem Sr {m:rG} {W:Nat} (ok:lV m W) {a:Nat} (ha:a<m.R.length):jm (m.R.getD a []):=by have hm:=xK (d:=[]) ha;have:=ok.hW;refine⟨by rw [ok.row _ hm]; omega,λx hx=>?_⟩;rw [ok.row _ hm];exact ok.rel _ hm x hx
theorem qk {m:rG} {W:Nat} (ok:lV m W) {g:Nat} (hg:1<=g/\g<2 ^ m.R.length) (meet:Bool):jm (wA m g meet):=by
 obtain⟨⟨a,ha,hb⟩,hl,hv⟩:=wc ok hg meet;have hW:=ok.hW;refine⟨by rw [hl]; omega,λx hx=>?_⟩;rw [hl];obtain⟨w,hw,rfl⟩:=List.mem_iff_getElem.1 hx;refine ba hW.2 λv h=>?_;have hw':w<W:=by omega
 have e:(wA m g meet)[w]=(wA m g meet).getD w 0:=by simp [List.getD,hw]
 rw [e,hv w hw' v] at h
 have key:∀ b,b<m.R.length->((m.R.getD b []).getD w 0).getLsbD v=true->v<W:=λb hb' h'=>by have hm:=xK (d:=[]) hb';exact Nx hW.2 (ok.rel _ hm _ (xK (d:=0) (by rw [ok.row _ hm]; exact hw'))) h'
 unfold tp at h
 split at h
 ·rw [δ] at h;have:=h a (γ.2 ha);rw [hb] at this;exact key a ha (by simpa using this)
 ·rw [ζ] at h;obtain⟨b,hb1,hb2⟩:=h;rw [Ac] at hb2;exact key b (γ.1 hb1) hb2.2
end Ru
theorem Ty {r:List (BitVec 64)} (ok:jm r) {a c s:BitVec 64} {N:Nat} (hN:pV r a c s (N+1)= pV r a c s N):yW prog 218 [.sl 1 (us r),.int .u64 (ui a),.int .u64 (ui c),.int .u64 (ui s)] (.int .u64 (ui (pV r a c s N))):=by
 have hb:=λx=>rq ok x;refine xY.xQ mixed func218 JB (by simp) λhf=>?_;simp only [simprocAttr,-ZA,↓zU,↓zD,zV,zT,zW]
 refine xO (λn:Nat=>[(9,.int .u64 (ui (pV r a c s n))),(3,.int .u64 (ui s)),(2,.int .u64 (ui c)),(1,.int .u64 (ui a)),(0,.sl 1 (us r))]) (λ_=>⟨0,[]⟩) (λn=>n<=N) (λn=>N-n) 0 (Ao _) ?_ ?_
 ·(refine xT.same ?_; simp [xR,Fr.get])
  rfl
 intro n hn;refine xL mixed ?_;have hs:pV r a c s (n+1)= gM r (a &&& ~~~c ||| s &&& pV r a c s n):=rfl;simp only [simprocAttr,-ZA,↓zU,↓zD,zV,zT,zW];refine .go (xY.zP (hb (a &&& ~~~c ||| s &&& pV r a c s n)) (by simp [D.xP,D.xD])) ?_;rw [<- hs]
 by_cases e:pV r a c s (n+1)= pV r a c s n
 ·obtain⟨k,hk⟩:=Am hn;have hst:=fh e k;rw [hk,hst];have e':(pV r a c s (n+1)== pV r a c s n)= true:=by rw [e]; simp
  simp only [simprocAttr,-ZA,↓zU,↓zD,zV,zT,zW,e'];exact .same
 ·have e':(pV r a c s (n+1)== pV r a c s n)= false:=by rw [beq_eq_false_iff_ne]; exact e
  have hlt:n<N:=Decidable.byContradiction λh=>e (by rw [show n=N by omega]; exact hN);simp only [simprocAttr,-ZA,↓zU,↓zD,zV,zT,zW,e'];refine⟨n+1,by omega,?_,by omega⟩
  (refine xT.same ?_; simp only [xR,Fr.get,simprocAttr,-ZA,zS])
open Rs Fm Ru Te
namespace Ru
def sR (m:rG) (W:Nat) (n:Nd) (x y:BitVec 64):BitVec 64 × Bool:=
 if n.op=1 then(sE W,true) else if n.op=2 then(0#64,true) else if n.op=3 then(if n.i<m.V.length then(m.V.getD n.i.toNat 0,true) else(0#64,false)) else if n.op=4 then(sE W &&& ~~~x,true)
 else if n.op=5 then(x &&& y,true) else if n.op=6 then(x ||| y,true) else if n.op=7 then(sE W &&& ~~~x ||| y,true) else if n.op=8 then(sE W &&& ~~~(x ^^^ y),true)
 else if n.op=9 then(if n.i<m.R.length then(gM (m.R.getD n.i.toNat []) x,true) else(0#64,false)) else if n.op=10 then(if n.i<m.R.length then(VJ (m.R.getD n.i.toNat []) x,true) else(0#64,false))
 else if n.op=11 then(if n.g<(2 ^ m.R.length:Nat) then(gM (wA m n.g.toNat false) x,true) else(0#64,false)) else if n.op=12 then(if n.g<(2 ^ m.R.length:Nat) then(gM (wA m n.g.toNat true) x,true) else(0#64,false))
 else if n.op=13 then(if n.g<(2 ^ m.R.length:Nat) then(pV (wA m n.g.toNat false) (sE W) x y W,true) else(0#64,false)) else(0#64,false)
theorem Pg {W:Nat} (h1:1<=W) (h2:W<=64):18446744073709551615#64 >>> (64-W)= sE W:=by
 have:∀ W,W<65->1<=W->18446744073709551615#64 >>> (64-W)= sE W:=by decide
 exact this W (by omega) h1
end Ru
theorem PA {m:rG} {W:Nat} (ok:lV m W) {n:Nd} {k:Int} (hn:yM n k=0) {x y:BitVec 64} (hcom:n.op=13->n.g<(2 ^ m.R.length:Nat)->pV (wA m n.g.toNat false) (sE W) x y (W+1)= pV (wA m n.g.toNat false) (sE W) x y W) :
  yW prog 177 [m.d,.agg n.row,.int .u64 (ui x),.int .u64 (ui y)] (.wE [.int .u64 (ui (sR m W n x y).1),.bool (sR m W n x y).2]):=by
 obtain⟨W1,W64⟩:=ok.hW;have hR4:=ok.hR;have hV8:=ok.hV;have hw:IntKind.i64.wrap (64-m.W)= ((64-W:Nat):Int):=by rw [ok.w,wrap_i64 (by omega)]; omega
 have hfull:(18446744073709551615:Int)= ui 18446744073709551615#64:=rfl;have hall:=Pg W1 W64
 have hi0:n.op=3\/n.op=9\/n.op=10->0<=n.i:=λh=>by
  rcases h with h | h | h
  ·exact(lQ hn (by rw [h]; rfl)).1
  ·exact(uJ hn (by rw [h]; rfl)).1
  ·exact(uJ hn (by rw [h]; rfl)).1
 have hg0:n.op=11\/n.op=12\/n.op=13->1<=n.g/\n.g<=15:=λh=>by
  have hgr:(xW n.op).1.gr=true:=by rcases h with h | h | h <;> rw [h] <;> rfl
  have h1:=(wN.1 hn).2.2.2.2;simp only [Ag,hgr,xG,Ab,decide_eq_false_iff_not] at h1;omega
 have hsh:=bo (k:=m.R.length) (by omega);obtain⟨op,i,e,g,a,b⟩:=n;simp only at hi0 hg0 hcom;have hrow:(Nd.row ⟨op,i,e,g,a,b⟩)= [.int .i64 op,.int .i64 i,.int .i64 e,.int .i64 g,.int .i64 a,.int .i64 b]:=rfl;rw [hrow];unfold rG.d
 rcases sU op with rfl | rfl | rfl | rfl | rfl | rfl | rfl | rfl | rfl | rfl | rfl | rfl | rfl | rfl | rfl | rfl | rfl | rfl | rfl | rfl | rfl | h | h
 ·rw [show sR m W ⟨1,i,e,g,a,b⟩ x y=(sE W,true) from rfl,<- hall];refine xY.xQ mixed func177 pZ (by simp) λhf=>?_;simp only [simprocAttr,-ZA,↓zU,↓zD,zV,zT,zW,hw]
  (repeat refine sd ?_)
  exact .drop (by simp) (by simp [vw,uR])
 ·rw [show sR m W ⟨2,i,e,g,a,b⟩ x y=(0#64,true) from rfl];refine xY.xQ mixed func177 pZ (by simp) λhf=>?_;simp only [simprocAttr,-ZA,↓zU,↓zD,zV,zT,zW,hw]
  (repeat refine sd ?_)
  exact .drop (by simp) (by simp [vw,uR])
 ·have h0:=hi0 (.inl rfl)
  by_cases hlt:i<(m.V.length:Int)
  ·have hv:sR m W ⟨3,i,e,g,a,b⟩ x y=(m.V.getD i.toNat 0,true):=if_pos hlt;have hge:¬ (m.V.length:Int)<=i:=by omega
   obtain⟨j,rfl⟩:=A7 h0;have hg:=vL m.V (show j<m.V.length by omega);rw [A6] at hv;rw [hv];generalize m.V.getD j 0=z at hg;refine xY.xQ mixed func177 pZ (by simp) λhf=>?_;simp only [simprocAttr,-ZA,↓zU,↓zD,zV,zT,zW,hw,xH,hge,hg]
   (repeat refine sd ?_)
   exact .drop (by simp) (by simp [vw,uR])
  ·have hv:sR m W ⟨3,i,e,g,a,b⟩ x y=(0#64,false):=if_neg hlt;have hge:(m.V.length:Int)<=i:=by omega
   rw [hv];refine xY.xQ mixed func177 pZ (by simp) λhf=>?_;simp only [simprocAttr,-ZA,↓zU,↓zD,zV,zT,zW,hw,xH,hge]
   (repeat refine sd ?_)
   exact .drop (by simp) (by simp [vw,uR])
 ·rw [show sR m W ⟨4,i,e,g,a,b⟩ x y=(sE W &&& ~~~x,true) from rfl,<- hall];refine xY.xQ mixed func177 pZ (by simp) λhf=>?_;simp only [simprocAttr,-ZA,↓zU,↓zD,zV,zT,zW,hw]
  (repeat refine sd ?_)
  exact .drop (by simp) (by simp [vw,uR])
 ·rw [show sR m W ⟨5,i,e,g,a,b⟩ x y=(x &&& y,true) from rfl];refine xY.xQ mixed func177 pZ (by simp) λhf=>?_;simp only [simprocAttr,-ZA,↓zU,↓zD,zV,zT,zW,hw]
  (repeat refine sd ?_)
  exact .drop (by simp) (by simp [vw,uR])
 ·rw [show sR m W ⟨6,i,e,g,a,b⟩ x y=(x ||| y,true) from rfl];refine xY.xQ mixed func177 pZ (by simp) λhf=>?_;simp only [simprocAttr,-ZA,↓zU,↓zD,zV,zT,zW,hw]
  (repeat refine sd ?_)
  exact .drop (by simp) (by simp [vw,uR])
 ·rw [show sR m W ⟨7,i,e,g,a,b⟩ x y=(sE W &&& ~~~x ||| y,true) from rfl,<- hall];refine xY.xQ mixed func177 pZ (by simp) λhf=>?_;simp only [simprocAttr,-ZA,↓zU,↓zD,zV,zT,zW,hw]
  (repeat refine sd ?_)
  exact .drop (by simp) (by simp [vw,uR])
 ·rw [show sR m W ⟨8,i,e,g,a,b⟩ x y=(sE W &&& ~~~(x ^^^ y),true) from rfl,<- hall];refine xY.xQ mixed func177 pZ (by simp) λhf=>?_;simp only [simprocAttr,-ZA,↓zU,↓zD,zV,zT,zW,hw]
  (repeat refine sd ?_)
  exact .drop (by simp) (by simp [vw,uR])
 ·have h0:=hi0 (.inr (.inl rfl))
  by_cases hlt:i<(m.R.length:Int)
  ·have hv:sR m W ⟨9,i,e,g,a,b⟩ x y=(gM (m.R.getD i.toNat []) x,true):=if_pos hlt;have hge:¬ (m.R.length:Int)<=i:=by omega
   obtain⟨j,rfl⟩:=A7 h0;have hg:=kY m.R (show j<m.R.length by omega);have hc:=rq (Sr ok (show j<m.R.length by omega)) x;rw [A6] at hv;rw [hv];generalize m.R.getD j []=z at hg hc;refine xY.xQ mixed func177 pZ (by simp) λhf=>?_;simp only [simprocAttr,-ZA,↓zU,↓zD,zV,zT,zW,hw,wO,hge,hg]
   (repeat refine sd ?_)
   refine .go (cr hc) ?_;simp only [simprocAttr,-ZA,↓zU,↓zD,zV,zT,zW];exact .drop (by simp) (by simp [vw,uR])
  ·have hv:sR m W ⟨9,i,e,g,a,b⟩ x y=(0#64,false):=if_neg hlt;have hge:(m.R.length:Int)<=i:=by omega
   rw [hv];refine xY.xQ mixed func177 pZ (by simp) λhf=>?_;simp only [simprocAttr,-ZA,↓zU,↓zD,zV,zT,zW,hw,wO,hge]
   (repeat refine sd ?_)
   exact .drop (by simp) (by simp [vw,uR])
 ·have h0:=hi0 (.inr (.inr rfl))
  by_cases hlt:i<(m.R.length:Int)
  ·have hv:sR m W ⟨10,i,e,g,a,b⟩ x y=(VJ (m.R.getD i.toNat []) x,true):=if_pos hlt;have hge:¬ (m.R.length:Int)<=i:=by omega
   obtain⟨j,rfl⟩:=A7 h0;have hg:=kY m.R (show j<m.R.length by omega);have hc:=Wm (Sr ok (show j<m.R.length by omega)) x;rw [A6] at hv;rw [hv];generalize m.R.getD j []=z at hg hc;refine xY.xQ mixed func177 pZ (by simp) λhf=>?_;simp only [simprocAttr,-ZA,↓zU,↓zD,zV,zT,zW,hw,wO,hge,hg]
   (repeat refine sd ?_)
   refine .go (cr hc) ?_;simp only [simprocAttr,-ZA,↓zU,↓zD,zV,zT,zW];exact .drop (by simp) (by simp [vw,uR])
  ·have hv:sR m W ⟨10,i,e,g,a,b⟩ x y=(0#64,false):=if_neg hlt;have hge:(m.R.length:Int)<=i:=by omega
   rw [hv];refine xY.xQ mixed func177 pZ (by simp) λhf=>?_;simp only [simprocAttr,-ZA,↓zU,↓zD,zV,zT,zW,hw,wO,hge]
   (repeat refine sd ?_)
   exact .drop (by simp) (by simp [vw,uR])
 ·have h0:=hg0 (.inl rfl)
  by_cases hlt:g<((2 ^ m.R.length:Nat):Int)
  ·have hv:sR m W ⟨11,i,e,g,a,b⟩ x y=(gM (wA m g.toNat false) x,true):=if_pos hlt;have hge:¬ ((2 ^ m.R.length:Nat):Int)<=g:=by omega
   obtain⟨j,rfl⟩:=A7 (show 0<=g by omega);have hj:1<=j/\j<2 ^ m.R.length:=by omega
   have hc:=X0 ok hj;have hb:=rq (qk ok hj false) x;rw [A6] at hv;rw [hv];unfold rG.d at hc;generalize wA m j false=z at hc hb ⊢;refine xY.xQ mixed func177 pZ (by simp) λhf=>?_;simp only [simprocAttr,-ZA,↓zU,↓zD,zV,zT,zW,hw,wO,hge,hsh]
   (repeat refine sd ?_)
   refine .go (cr hc) ?_;simp only [simprocAttr,-ZA,↓zU,↓zD,zV,zT,zW];refine .go (cr hb) ?_;simp only [simprocAttr,-ZA,↓zU,↓zD,zV,zT,zW];exact .drop (by simp) (by simp [vw,uR])
  ·have hv:sR m W ⟨11,i,e,g,a,b⟩ x y=(0#64,false):=if_neg hlt;have hge:((2 ^ m.R.length:Nat):Int)<=g:=by omega
   rw [hv];refine xY.xQ mixed func177 pZ (by simp) λhf=>?_;simp only [simprocAttr,-ZA,↓zU,↓zD,zV,zT,zW,hw,wO,hge,hsh]
   (repeat refine sd ?_)
   exact .drop (by simp) (by simp [vw,uR])
 ·have h0:=hg0 (.inr (.inl rfl))
  by_cases hlt:g<((2 ^ m.R.length:Nat):Int)
  ·have hv:sR m W ⟨12,i,e,g,a,b⟩ x y=(gM (wA m g.toNat true) x,true):=if_pos hlt;have hge:¬ ((2 ^ m.R.length:Nat):Int)<=g:=by omega
   obtain⟨j,rfl⟩:=A7 (show 0<=g by omega);have hj:1<=j/\j<2 ^ m.R.length:=by omega
   have hc:=NL ok hj;have hb:=rq (qk ok hj true) x;rw [A6] at hv;rw [hv];unfold rG.d at hc;generalize wA m j true=z at hc hb ⊢;refine xY.xQ mixed func177 pZ (by simp) λhf=>?_;simp only [simprocAttr,-ZA,↓zU,↓zD,zV,zT,zW,hw,wO,hge,hsh]
   (repeat refine sd ?_)
   refine .go (cr hc) ?_;simp only [simprocAttr,-ZA,↓zU,↓zD,zV,zT,zW];refine .go (cr hb) ?_;simp only [simprocAttr,-ZA,↓zU,↓zD,zV,zT,zW];exact .drop (by simp) (by simp [vw,uR])
  ·have hv:sR m W ⟨12,i,e,g,a,b⟩ x y=(0#64,false):=if_neg hlt;have hge:((2 ^ m.R.length:Nat):Int)<=g:=by omega
   rw [hv];refine xY.xQ mixed func177 pZ (by simp) λhf=>?_;simp only [simprocAttr,-ZA,↓zU,↓zD,zV,zT,zW,hw,wO,hge,hsh]
   (repeat refine sd ?_)
   exact .drop (by simp) (by simp [vw,uR])
 ·have h0:=hg0 (.inr (.inr rfl))
  by_cases hlt:g<((2 ^ m.R.length:Nat):Int)
  ·have hv:sR m W ⟨13,i,e,g,a,b⟩ x y=(pV (wA m g.toNat false) (sE W) x y W,true):=if_pos hlt;have hge:¬ ((2 ^ m.R.length:Nat):Int)<=g:=by omega
   have hcm:=hcom rfl hlt;obtain⟨j,rfl⟩:=A7 (show 0<=g by omega);have hj:1<=j/\j<2 ^ m.R.length:=by omega
   have hc:=X0 ok hj;have hb:=Ty (qk ok hj false) (by rw [A6] at hcm; exact hcm);rw [A6] at hv;rw [hv];unfold rG.d at hc;generalize wA m j false=z at hc hb ⊢;refine xY.xQ mixed func177 pZ (by simp) λhf=>?_;simp only [simprocAttr,-ZA,↓zU,↓zD,zV,zT,zW,hw,wO,hge,hsh]
   (repeat refine sd ?_)
   refine .go (cr hc) ?_;simp only [simprocAttr,-ZA,↓zU,↓zD,zV,zT,zW,hall];refine .go (cr hb) ?_;simp only [simprocAttr,-ZA,↓zU,↓zD,zV,zT,zW];exact .drop (by simp) (by simp [vw,uR])
  ·have hv:sR m W ⟨13,i,e,g,a,b⟩ x y=(0#64,false):=if_neg hlt;have hge:((2 ^ m.R.length:Nat):Int)<=g:=by omega
   rw [hv];refine xY.xQ mixed func177 pZ (by simp) λhf=>?_;simp only [simprocAttr,-ZA,↓zU,↓zD,zV,zT,zW,hw,wO,hge,hsh]
   (repeat refine sd ?_)
   exact .drop (by simp) (by simp [vw,uR])
 ·rw [show sR m W ⟨14,i,e,g,a,b⟩ x y=(0#64,false) from rfl];refine xY.xQ mixed func177 pZ (by simp) λhf=>?_;simp only [simprocAttr,-ZA,↓zU,↓zD,zV,zT,zW,hw]
  (repeat refine sd ?_)
  exact .drop (by simp) (by simp [vw,uR])
 ·rw [show sR m W ⟨15,i,e,g,a,b⟩ x y=(0#64,false) from rfl];refine xY.xQ mixed func177 pZ (by simp) λhf=>?_;simp only [simprocAttr,-ZA,↓zU,↓zD,zV,zT,zW,hw]
  (repeat refine sd ?_)
  exact .drop (by simp) (by simp [vw,uR])
 ·rw [show sR m W ⟨16,i,e,g,a,b⟩ x y=(0#64,false) from rfl];refine xY.xQ mixed func177 pZ (by simp) λhf=>?_;simp only [simprocAttr,-ZA,↓zU,↓zD,zV,zT,zW,hw]
  (repeat refine sd ?_)
  exact .drop (by simp) (by simp [vw,uR])
 ·rw [show sR m W ⟨17,i,e,g,a,b⟩ x y=(0#64,false) from rfl];refine xY.xQ mixed func177 pZ (by simp) λhf=>?_;simp only [simprocAttr,-ZA,↓zU,↓zD,zV,zT,zW,hw]
  (repeat refine sd ?_)
  exact .drop (by simp) (by simp [vw,uR])
 ·rw [show sR m W ⟨18,i,e,g,a,b⟩ x y=(0#64,false) from rfl];refine xY.xQ mixed func177 pZ (by simp) λhf=>?_;simp only [simprocAttr,-ZA,↓zU,↓zD,zV,zT,zW,hw]
  (repeat refine sd ?_)
  exact .drop (by simp) (by simp [vw,uR])
 ·rw [show sR m W ⟨19,i,e,g,a,b⟩ x y=(0#64,false) from rfl];refine xY.xQ mixed func177 pZ (by simp) λhf=>?_;simp only [simprocAttr,-ZA,↓zU,↓zD,zV,zT,zW,hw]
  (repeat refine sd ?_)
  exact .drop (by simp) (by simp [vw,uR])
 ·rw [show sR m W ⟨20,i,e,g,a,b⟩ x y=(0#64,false) from rfl];refine xY.xQ mixed func177 pZ (by simp) λhf=>?_;simp only [simprocAttr,-ZA,↓zU,↓zD,zV,zT,zW,hw]
  (repeat refine sd ?_)
  exact .drop (by simp) (by simp [vw,uR])
 ·rw [show sR m W ⟨21,i,e,g,a,b⟩ x y=(0#64,false) from rfl];refine xY.xQ mixed func177 pZ (by simp) λhf=>?_;simp only [simprocAttr,-ZA,↓zU,↓zD,zV,zT,zW,hw]
  (repeat refine sd ?_)
  exact .drop (by simp) (by simp [vw,uR])
 ·have hv:sR m W ⟨op,i,e,g,a,b⟩ x y=(0#64,false):=by unfold sR; simp only; repeat rw [if_neg (by omega)]
  have q1:(op==1)= false:=by rw [beq_eq_false_iff_ne]; omega
  have q2:(op==2)= false:=by rw [beq_eq_false_iff_ne]; omega
  have q3:(op==3)= false:=by rw [beq_eq_false_iff_ne]; omega
  have q4:(op==4)= false:=by rw [beq_eq_false_iff_ne]; omega
  have q5:(op==5)= false:=by rw [beq_eq_false_iff_ne]; omega
  have q6:(op==6)= false:=by rw [beq_eq_false_iff_ne]; omega
  have q7:(op==7)= false:=by rw [beq_eq_false_iff_ne]; omega
  have q8:(op==8)= false:=by rw [beq_eq_false_iff_ne]; omega
  have q9:(op==9)= false:=by rw [beq_eq_false_iff_ne]; omega
  have q10:(op==10)= false:=by rw [beq_eq_false_iff_ne]; omega
  have q11:(op==11)= false:=by rw [beq_eq_false_iff_ne]; omega
  have q12:(op==12)= false:=by rw [beq_eq_false_iff_ne]; omega
  have q13:(op==13)= false:=by rw [beq_eq_false_iff_ne]; omega
  rw [hv];refine xY.xQ mixed func177 pZ (by simp) λhf=>?_;simp only [simprocAttr,-ZA,↓zU,↓zD,zV,zT,zW,hw,q1,q2,q3,q4,q5,q6,q7,q8,q9,q10,q11,q12,q13]
  (repeat refine sd ?_)
  exact .drop (by simp) (by simp [vw,uR])
 ·have hv:sR m W ⟨op,i,e,g,a,b⟩ x y=(0#64,false):=by unfold sR; simp only; repeat rw [if_neg (by omega)]
  have q1:(op==1)= false:=by rw [beq_eq_false_iff_ne]; omega
  have q2:(op==2)= false:=by rw [beq_eq_false_iff_ne]; omega
  have q3:(op==3)= false:=by rw [beq_eq_false_iff_ne]; omega
  have q4:(op==4)= false:=by rw [beq_eq_false_iff_ne]; omega
  have q5:(op==5)= false:=by rw [beq_eq_false_iff_ne]; omega
  have q6:(op==6)= false:=by rw [beq_eq_false_iff_ne]; omega
  have q7:(op==7)= false:=by rw [beq_eq_false_iff_ne]; omega
  have q8:(op==8)= false:=by rw [beq_eq_false_iff_ne]; omega
  have q9:(op==9)= false:=by rw [beq_eq_false_iff_ne]; omega
  have q10:(op==10)= false:=by rw [beq_eq_false_iff_ne]; omega
  have q11:(op==11)= false:=by rw [beq_eq_false_iff_ne]; omega
  have q12:(op==12)= false:=by rw [beq_eq_false_iff_ne]; omega
  have q13:(op==13)= false:=by rw [beq_eq_false_iff_ne]; omega
  rw [hv];refine xY.xQ mixed func177 pZ (by simp) λhf=>?_;simp only [simprocAttr,-ZA,↓zU,↓zD,zV,zT,zW,hw,q1,q2,q3,q4,q5,q6,q7,q8,q9,q10,q11,q12,q13]
  (repeat refine sd ?_)
  exact .drop (by simp) (by simp [vw,uR])
section
open Rs Fm Ru Te
namespace Te
structure mT (n : Nd) (A : Nat) : Prop where
 ag:n.op=9\/n.op=10->∃ a:Nat,a<A/\n.i=a
 gr:n.op=11\/n.op=12\/n.op=13->∃ g:Nat,g<2 ^ 60/\n.g=g
theorem bD {nx:Nat} {xZ:List (Nat × Ob)} (hu:eT ⟨nx,xZ⟩) (nx':Nat) (ob:Ob):∀ k o,St.look xZ k=some o->St.get ⟨nx',(nx,ob) :: xZ⟩ k=some o:=λk o hk=>by have:=(hu k o hk).1;simp only at this;show St.look (_ :: _) k=_;rw [xX,if_neg (by omega)]; exact hk
end Te
theorem Lu {nx kc ks:Nat} {km:Nat->Nat} {xZ:List (Nat × Ob)} {rs:List xC} {A F T:Nat} {n:Nd} {x y:tJ} {xd yd:D} (ok:kQ rs A F T) (hS:qV rs A F T kc ks km xZ) (ho:bJ n rs.length T x y xd yd) (hn:mT n A) (he:n.op=9) :
  xY prog 150 [.ref kc 6 0 0,.agg n.row,xd,yd] ⟨nx,xZ⟩ (.sl 1 (yR rs.length T (zL rs A T n x y))) ⟨nx,xZ⟩:=by
 refine xY.wC ⟨_,func150,by kernel_rfl,by kernel_rfl⟩ λhu=>xY.clean ?_;have hk:=bD hu (nx+1);have hS1:=λob=>hS.mono (hk ob);have hp:zL rs A T n x y=wS rs T n.i.toNat x:=by unfold zL; rw [he]; simp
 rw [hp];have hxy:=ho;obtain⟨h1,h2⟩:=ho;rw [he] at h1 h2;have yc:¬ nx=kc:=by have:=(hu _ _ hS.c).1; simp only at this; omega
 rw [Nd.row];rw [h1 (by decide)];obtain⟨a,ha,hi⟩:=hn.ag (.inl he);rw [hi,A6];refine xY.xQ mixed func150 II (by simp) λhf=>?_;simp only [simprocAttr,-ZA,↓zU,↓zD,zV,zT,zW,yc]
 (repeat refine sd ?_)
 refine .go (cj ok (hS1 _) ha) ?_;simp only [simprocAttr,-ZA,↓zU,↓zD,zV,zT,zW];exact .gone hu (hk _) (by simp only [vw]; exact⟨trivial,trivial⟩)
theorem Lw {nx kc ks:Nat} {km:Nat->Nat} {xZ:List (Nat × Ob)} {rs:List xC} {A F T:Nat} {n:Nd} {x y:tJ} {xd yd:D} (ok:kQ rs A F T) (hS:qV rs A F T kc ks km xZ) (ho:bJ n rs.length T x y xd yd) (hn:mT n A) (he:n.op=11) :
  xY prog 156 [.ref kc 6 0 0,.agg n.row,xd,yd] ⟨nx,xZ⟩ (.sl 1 (yR rs.length T (zL rs A T n x y))) ⟨nx,xZ⟩:=by
 refine xY.wC ⟨_,func156,by kernel_rfl,by kernel_rfl⟩ λhu=>xY.clean ?_;have hk:=bD hu (nx+1);have hS1:=λob=>hS.mono (hk ob);have hp:zL rs A T n x y=uX rs A T n.g.toNat x:=by unfold zL; rw [he]; simp
 rw [hp];have hxy:=ho;obtain⟨h1,h2⟩:=ho;rw [he] at h1 h2;have yc:¬ nx=kc:=by have:=(hu _ _ hS.c).1; simp only at this; omega
 rw [Nd.row];rw [h1 (by decide)];obtain⟨g,hg,hi⟩:=hn.gr (.inl he);rw [hi,A6];refine xY.xQ mixed func156 IQ (by simp) λhf=>?_;simp only [simprocAttr,-ZA,↓zU,↓zD,zV,zT,zW,yc]
 (repeat refine sd ?_)
 refine .go (Vs ok (hS1 _) hg) ?_;simp only [simprocAttr,-ZA,↓zU,↓zD,zV,zT,zW];exact .gone hu (hk _) (by simp only [vw]; exact⟨trivial,trivial⟩)
theorem Lz {nx kc ks:Nat} {km:Nat->Nat} {xZ:List (Nat × Ob)} {rs:List xC} {A F T:Nat} {n:Nd} {x y:tJ} {xd yd:D} (ok:kQ rs A F T) (hS:qV rs A F T kc ks km xZ) (ho:bJ n rs.length T x y xd yd) (hn:mT n A) (he:n.op=12) :
  xY prog 158 [.ref kc 6 0 0,.agg n.row,xd,yd] ⟨nx,xZ⟩ (.sl 1 (yR rs.length T (zL rs A T n x y))) ⟨nx,xZ⟩:=by
 refine xY.wC ⟨_,func158,by kernel_rfl,by kernel_rfl⟩ λhu=>xY.clean ?_;have hk:=bD hu (nx+1);have hS1:=λob=>hS.mono (hk ob);have hp:zL rs A T n x y=kG rs A T n.g.toNat x:=by unfold zL; rw [he]; simp
 rw [hp];have hxy:=ho;obtain⟨h1,h2⟩:=ho;rw [he] at h1 h2;have yc:¬ nx=kc:=by have:=(hu _ _ hS.c).1; simp only at this; omega
 rw [Nd.row];rw [h1 (by decide)];obtain⟨g,hg,hi⟩:=hn.gr (.inr (.inl he));rw [hi,A6];refine xY.xQ mixed func158 IS (by simp) λhf=>?_;simp only [simprocAttr,-ZA,↓zU,↓zD,zV,zT,zW,yc]
 (repeat refine sd ?_)
 refine .go (LU ok hg (hS1 _).c) ?_;simp only [simprocAttr,-ZA,↓zU,↓zD,zV,zT,zW];exact .gone hu (hk _) (by simp only [vw]; exact⟨trivial,trivial⟩)
theorem Ly {nx kc ks:Nat} {km:Nat->Nat} {xZ:List (Nat × Ob)} {rs:List xC} {A F T:Nat} {n:Nd} {x y:tJ} {xd yd:D} (ok:kQ rs A F T) (hS:qV rs A F T kc ks km xZ) (ho:bJ n rs.length T x y xd yd) (hn:mT n A) (he:n.op=13) :
  xY prog 160 [.ref kc 6 0 0,.agg n.row,xd,yd] ⟨nx,xZ⟩ (.sl 1 (yR rs.length T (zL rs A T n x y))) ⟨nx,xZ⟩:=by
 refine xY.wC ⟨_,func160,by kernel_rfl,by kernel_rfl⟩ λhu=>xY.clean ?_;have hk:=bD hu (nx+1);have hS1:=λob=>hS.mono (hk ob);have hp:zL rs A T n x y=pM rs A T n.g.toNat x y:=by unfold zL; rw [he]; simp
 rw [hp];have hxy:=ho;obtain⟨h1,h2⟩:=ho;rw [he] at h1 h2;have yc:¬ nx=kc:=by have:=(hu _ _ hS.c).1; simp only at this; omega
 rw [Nd.row];rw [h1 (by decide)];rw [h2 (by decide)];obtain⟨g,hg,hi⟩:=hn.gr (.inr (.inr he));rw [hi,A6];refine xY.xQ mixed func160 IU (by simp) λhf=>?_;simp only [simprocAttr,-ZA,↓zU,↓zD,zV,zT,zW,yc]
 (repeat refine sd ?_)
 refine .go (Px ok (hS1 _) hg) ?_;simp only [simprocAttr,-ZA,↓zU,↓zD,zV,zT,zW];exact .gone hu (hk _) (by simp only [vw]; exact⟨trivial,trivial⟩)
theorem Lx {nx kc ks:Nat} {km:Nat->Nat} {xZ:List (Nat × Ob)} {rs:List xC} {A F T:Nat} {n:Nd} {x y:tJ} {xd yd:D} (ok:kQ rs A F T) (hS:qV rs A F T kc ks km xZ) (ho:bJ n rs.length T x y xd yd) (hn:mT n A) (he:n.op=18) :
  xY prog 162 [.ref kc 6 0 0,.agg n.row,xd,yd] ⟨nx,xZ⟩ (.sl 1 (yR rs.length T (zL rs A T n x y))) ⟨nx,xZ⟩:=by
 refine xY.wC ⟨_,func162,by kernel_rfl,by kernel_rfl⟩ λhu=>xY.clean ?_;have hk:=bD hu (nx+1);have hS1:=λob=>hS.mono (hk ob);have hp:zL rs A T n x y=NB T 1 x:=by unfold zL; rw [he]; simp
 rw [hp];have hxy:=ho;obtain⟨h1,h2⟩:=ho;rw [he] at h1 h2;have yc:¬ nx=kc:=by have:=(hu _ _ hS.c).1; simp only at this; omega
 rw [Nd.row];rw [h1 (by decide)];refine xY.xQ mixed func162 IW (by simp) λhf=>?_;simp only [simprocAttr,-ZA,↓zU,↓zD,zV,zT,zW,yc]
 (repeat refine sd ?_)
 refine .go (WL ok (by decide) (hS1 _).c) ?_;simp only [simprocAttr,-ZA,↓zU,↓zD,zV,zT,zW];exact .gone hu (hk _) (by simp only [vw]; exact⟨trivial,trivial⟩)
theorem M3 {nx kc ks:Nat} {km:Nat->Nat} {xZ:List (Nat × Ob)} {rs:List xC} {A F T:Nat} {n:Nd} {x y:tJ} {xd yd:D} (ok:kQ rs A F T) (hS:qV rs A F T kc ks km xZ) (ho:bJ n rs.length T x y xd yd) (hn:mT n A) (he:n.op=20) :
  xY prog 164 [.ref kc 6 0 0,.agg n.row,xd,yd] ⟨nx,xZ⟩ (.sl 1 (yR rs.length T (zL rs A T n x y))) ⟨nx,xZ⟩:=by
 refine xY.wC ⟨_,func164,by kernel_rfl,by kernel_rfl⟩ λhu=>xY.clean ?_;have hk:=bD hu (nx+1);have hS1:=λob=>hS.mono (hk ob);have hp:zL rs A T n x y=NB T (-1) x:=by unfold zL; rw [he]; simp
 rw [hp];have hxy:=ho;obtain⟨h1,h2⟩:=ho;rw [he] at h1 h2;have yc:¬ nx=kc:=by have:=(hu _ _ hS.c).1; simp only at this; omega
 rw [Nd.row];rw [h1 (by decide)];refine xY.xQ mixed func164 IY (by simp) λhf=>?_;simp only [simprocAttr,-ZA,↓zU,↓zD,zV,zT,zW,yc]
 (repeat refine sd ?_)
 refine .go (WL ok (by decide) (hS1 _).c) ?_;simp only [simprocAttr,-ZA,↓zU,↓zD,zV,zT,zW];exact .gone hu (hk _) (by simp only [vw]; exact⟨trivial,trivial⟩)
theorem M4 {nx kc ks:Nat} {km:Nat->Nat} {xZ:List (Nat × Ob)} {rs:List xC} {A F T:Nat} {n:Nd} {x y:tJ} {xd yd:D} (ok:kQ rs A F T) (hS:qV rs A F T kc ks km xZ) (ho:bJ n rs.length T x y xd yd) (hn:mT n A) (he:n.op=19) :
  xY prog 165 [.ref kc 6 0 0,.agg n.row,xd,yd] ⟨nx,xZ⟩ (.sl 1 (yR rs.length T (zL rs A T n x y))) ⟨nx,xZ⟩:=by
 refine xY.wC ⟨_,func165,by kernel_rfl,by kernel_rfl⟩ λhu=>xY.clean ?_;have hk:=bD hu (nx+1);have hS1:=λob=>hS.mono (hk ob);have hp:zL rs A T n x y=mh T 1 x y:=by unfold zL; rw [he]; simp
 rw [hp];have hxy:=ho;obtain⟨h1,h2⟩:=ho;rw [he] at h1 h2;have yc:¬ nx=kc:=by have:=(hu _ _ hS.c).1; simp only at this; omega
 rw [Nd.row];rw [h1 (by decide)];rw [h2 (by decide)];refine xY.xQ mixed func165 IX (by simp) λhf=>?_;simp only [simprocAttr,-ZA,↓zU,↓zD,zV,zT,zW,yc]
 (repeat refine sd ?_)
 refine .go (WT ok (hS1 _).c) ?_;simp only [simprocAttr,-ZA,↓zU,↓zD,zV,zT,zW];exact .gone hu (hk _) (by simp only [vw]; exact⟨trivial,trivial⟩)
theorem M5 {nx kc ks:Nat} {km:Nat->Nat} {xZ:List (Nat × Ob)} {rs:List xC} {A F T:Nat} {n:Nd} {x y:tJ} {xd yd:D} (ok:kQ rs A F T) (hS:qV rs A F T kc ks km xZ) (ho:bJ n rs.length T x y xd yd) (hn:mT n A) (he:n.op=21) :
  xY prog 167 [.ref kc 6 0 0,.agg n.row,xd,yd] ⟨nx,xZ⟩ (.sl 1 (yR rs.length T (zL rs A T n x y))) ⟨nx,xZ⟩:=by
 refine xY.wC ⟨_,func167,by kernel_rfl,by kernel_rfl⟩ λhu=>xY.clean ?_;have hk:=bD hu (nx+1);have hS1:=λob=>hS.mono (hk ob);have hp:zL rs A T n x y=mh T (-1) x y:=by unfold zL; rw [he]; simp
 rw [hp];have hxy:=ho;obtain⟨h1,h2⟩:=ho;rw [he] at h1 h2;have yc:¬ nx=kc:=by have:=(hu _ _ hS.c).1; simp only at this; omega
 rw [Nd.row];rw [h1 (by decide)];rw [h2 (by decide)];refine xY.xQ mixed func167 Ib (by simp) λhf=>?_;simp only [simprocAttr,-ZA,↓zU,↓zD,zV,zT,zW,yc]
 (repeat refine sd ?_)
 refine .go (WT ok (hS1 _).c) ?_;simp only [simprocAttr,-ZA,↓zU,↓zD,zV,zT,zW];exact .gone hu (hk _) (by simp only [vw]; exact⟨trivial,trivial⟩)
end
section
open Rs Fm Ru Te
theorem Jv {nx kx:Nat} {xZ:List (Nat × Ob)} {R T:Nat} {φ:Nat × Nat->Bool} (hR:R<=1000) (hT:T<=1000) (hx:St.look xZ kx=some ⟨1,[[.sl 1 (yR R T φ)]]⟩) {i t:Nat} (hi:i<R) (ht:t<T) :
  xY prog 155 ([.agg [.int .i64 (i:Int),.int .i64 (t:Int)]] ++ [.ref kx 1 0 0]) ⟨nx,xZ⟩ (.bool (!φ (i,t))) ⟨nx,xZ⟩:=by
 refine xY.wC ⟨_,func155,by kernel_rfl,by kernel_rfl⟩ λhu=>xY.clean ?_;have hk:=(hu kx _ hx).1;simp only at hk;have y1:¬ nx=kx:=by omega
 have g1:=vJ (T:=T) (φ:=φ) hi;have g2:=tP (i:=i) (φ:=φ) ht;refine xY.xQ mixed func155 IN (by simp) λhf=>?_;simp only [simprocAttr,-ZA,↓zU,↓zD,zV,zT,zW,hx,y1,wR,g1,vO,List.length_map,List.length_range,g2]
 (repeat refine sd ?_)
 exact .gone hu (bD hu _ _) (by simp only [vw])
theorem Lv {nx kc ks:Nat} {km:Nat->Nat} {xZ:List (Nat × Ob)} {rs:List xC} {A F T:Nat} {n:Nd} {x y:tJ} {xd yd:D} (ok:kQ rs A F T) (hS:qV rs A F T kc ks km xZ) (ho:bJ n rs.length T x y xd yd) (hn:mT n A) (he:n.op=10) :
  xY prog 152 [.ref kc 6 0 0,.agg n.row,xd,yd] ⟨nx,xZ⟩ (.sl 1 (yR rs.length T (zL rs A T n x y))) ⟨nx,xZ⟩:=by
 obtain⟨T1,T16⟩:=ok.hT;obtain⟨R1,R64⟩:=ok.hR;refine xY.wC ⟨_,func152,by kernel_rfl,by kernel_rfl⟩ λhu=>xY.clean ?_;have hp:zL rs A T n x y=λp=>!wS rs T n.i.toNat (λq=>!x q) p:=by unfold zL; rw [he]; simp
 rw [hp];obtain⟨h1,h2⟩:=ho;rw [he] at h1;obtain⟨a,ha,hi⟩:=hn.ag (.inr he);rw [hi,A6];have bc:kc<nx:=(hu _ _ hS.c).1;rw [Nd.row,h1 (by decide)]
 have hk2:∀ (a b:Ob) k o,St.look xZ k=some o->St.look ((nx+1,a) :: (nx,b) :: xZ) k=some o:=λa b k o hk=>by have:=(hu k o hk).1;simp only at this;rw [xX,if_neg (by omega),xX,if_neg (by omega)]; exact hk
 have hk3:∀ (a b c:Ob) k o,St.look xZ k=some o->St.look ((nx+1+1,c) :: (nx+1,a) :: (nx,b) :: xZ) k=some o:=λa b c k o hk=>by have:=(hu k o hk).1;simp only at this;rw [xX,if_neg (by omega)]; exact hk2 _ _ _ _ hk
 refine xY.xQ mixed func152 IK (by simp) λhf=>?_;have y1:¬ nx+1=nx:=by omega
 simp only [simprocAttr,-ZA,↓zU,↓zD,zV,zT,zW,y1]
 (repeat refine sd ?_)
 rw [hi]
 have hA:=iX (nx:=nx+1+1) (kc:=kc) (xZ:=(nx+1,⟨1,[[.sl 1 (yR rs.length T x)]]⟩) :: (nx,⟨6,[[.int .i64 n.op,.int .i64 (a:Int),.int .i64 n.e,.int .i64 n.g,.int .i64 n.x,.int .i64 n.y]]⟩) :: xZ) (g:=154) (caps:=[.ref (nx+1) 1 0 0]) (φ:=λp=>!x p) ok (hk2 _ _ _ _ hS.c) (λnx1 objs1 i t h1 h2 hi ht=> N2 (R:=rs.length) (T:=T) (by omega) (by omega) (by rw [h2 _ (by omega),xX,if_pos rfl]) hi ht)
 refine⟨_,hA,?_⟩;simp only [simprocAttr,-ZA,↓zU,↓zD,zV,zT,zW];refine⟨_,cj ok (hS.mono (hk2 _ _)) ha,?_⟩;have y2:¬ nx+1+1=nx:=by omega
 have hB:=iX (nx:=nx+1+1+1) (kc:=kc) (xZ:=(nx+1+1,⟨1,[[.xJ]]⟩) :: (nx+1,⟨1,[[.sl 1 (yR rs.length T x)]]⟩) :: (nx,⟨6,[[.int .i64 n.op,.int .i64 (a:Int),.int .i64 n.e,.int .i64 n.g,.int .i64 n.x,.int .i64 n.y]]⟩) :: xZ) (g:=154) (caps:=[.ref (nx+1) 1 0 0]) (φ:=λp=>!x p) ok (hk3 _ _ _ _ _ hS.c) (λnx1 objs1 i t h1 h2 hi ht=> N2 (R:=rs.length) (T:=T) (by omega) (by omega) (by rw [h2 _ (by omega),xX,if_neg (by omega),xX,if_pos rfl]) hi ht)
 simp only [simprocAttr,-ZA,↓zU,↓zD,zV,zT,zW,y1,y2]
 (repeat refine sd ?_)
 refine⟨⟨_,hB,?_⟩,?_⟩
 ·simp only [simprocAttr,-ZA,↓zU,↓zD,zV,zT,zW];refine⟨_,cj ok (hS.mono (hk3 _ _ _)) ha,?_⟩;simp only [simprocAttr,-ZA,↓zU,↓zD,zV,zT,zW]
 have hC:=iX (nx:=nx+1+1+1) (kc:=kc) (xZ:=(nx+1+1,⟨1,[[.sl 1 (yR rs.length T (wS rs T a λq=>!x q))]]⟩) :: (nx+1,⟨1,[[.sl 1 (yR rs.length T x)]]⟩) :: (nx,⟨6,[[.int .i64 n.op,.int .i64 (a:Int),.int .i64 n.e,.int .i64 n.g,.int .i64 n.x,.int .i64 n.y]]⟩) :: xZ) (g:=155) (caps:=[.ref (nx+1+1) 1 0 0]) (φ:=λp=>!wS rs T a (λq=>!x q) p) ok (hk3 _ _ _ _ _ hS.c) (λnx1 objs1 i t h1 h2 hi ht=> Jv (R:=rs.length) (T:=T) (by omega) (by omega) (by rw [h2 _ (by omega),xX,if_pos rfl]) hi ht)
 refine .go hC ?_;simp only [simprocAttr,-ZA,↓zU,↓zD,zV,zT,zW];exact .gone hu (hk3 _ _ _) (by simp only [vw]; exact⟨trivial,trivial⟩)
end
section
open Rs Fm Ru Te
theorem oA (c:Nat):∀ {l:List (Nat × Ob)} {k:Nat} {o:Ob},St.look l k=some o->St.look (zM c l) (c+k)= some (o.shift c)
 | [],k,o,h=>by cases h
 | (j,ob) :: r,k,o,h=>by
  rw [xX] at h;show St.look ((c+j,ob.shift c) :: zM c r) _=_;rw [xX]
  by_cases e:j=k
  ·rw [if_pos e] at h; rw [if_pos (by omega)]; cases h; rfl
  ·rw [if_neg e] at h; rw [if_neg (by omega)]; exact oA c h
namespace Te
def jG (s:sC) (f:List Nd):Int:=if jK s≠0 then jK s else if yZ f≠0 then yZ f else if (tS .andNot .i64 (zH f:Int) 271 != 0)= true then 10 else if tU f s.ag s.fa=false then 2 else 0
theorem aI {s:sC} {f:List Nd} (h:jG s f=0):jK s=0/\yZ f=0:=by
 unfold jG at h
 by_cases c1:jK s≠0
 ·rw [if_pos c1] at h; exact absurd h c1
 rw [if_neg c1] at h
 by_cases c2:yZ f≠0
 ·rw [if_pos c2] at h; exact absurd h c2
 exact⟨by simpa using c1,by simpa using c2⟩
def bM : List Int:=[9,10,11,12,13,18,20,19,21]
def kX : List (List D):=[[.int .i64 9,.fn 150 []],[.int .i64 10,.fn 152 []],[.int .i64 11,.fn 156 []],[.int .i64 12,.fn 158 []],[.int .i64 13,.fn 160 []],[.int .i64 18,.fn 162 []],[.int .i64 20,.fn 164 []],[.int .i64 19,.fn 165 []],[.int .i64 21,.fn 167 []]]
theorem pr (m:Nd->Nat) (b:Nat):∀ (l:List Nd) (a:Nat),(l.foldl (λa p=>a ||| m p) a).testBit b=(a.testBit b || l.any λp=>(m p).testBit b)
 | [],a=>by simp
 | p :: r,a=>by rw [ο,pr m b r,Nat.testBit_or,List.any_cons,Bool.or_assoc]
theorem Zo {m:Nd->Nat} {b:Nat} {c:List Nd} {p:Nd} (hp:p ∈ c) (h:(m p).testBit b=true):(yA m c).testBit b=true:=by have:=pr m b c 0;rw [ζ.2 ⟨p,hp,h⟩,Bool.or_true] at this;exact this
theorem Tb {c:List Nd} {n:Nat} (h:yA vX c / 2 ^ n=0):∀ p ∈ c,(xW p.op).1.ag=true->p.i.toNat<n:=by
 intro p hp ha;refine Decidable.byContradiction λhge=>?_;have h1:(vX p).testBit p.i.toNat=true:=by unfold vX; rw [if_pos ha]; exact Nat.testBit_two_pow_self
 have h2:=Zo hp h1
 have h3:yA vX c<2 ^ n:=by
  rcases Nat.div_eq_zero_iff.1 h with h | h
  ·have:=Nat.two_pow_pos n; omega
  ·exact h
 have h4:=Av (Aq h3 (Ap (by decide) (show n<=p.i.toNat by omega)));rw [h4] at h2;cases h2
theorem ON {s:sC} {f:List Nd} (h:jG s f=0) {A:Nat} (hA:s.ag=A) (hA4:A<=4):∀ p ∈ xE f,mT p A/\(p.op=3->0<=p.i):=by
 unfold jG at h
 by_cases c1:jK s≠0
 ·rw [if_pos c1] at h; exact absurd h c1
 rw [if_neg c1] at h
 by_cases c2:yZ f≠0
 ·rw [if_pos c2] at h; exact absurd h c2
 rw [if_neg c2] at h
 by_cases c3:(tS .andNot .i64 (zH f:Int) 271 != 0)= true
 ·rw [if_pos c3] at h; cases h
 rw [if_neg c3] at h
 by_cases c4:tU f s.ag s.fa=false
 ·rw [if_pos c4] at h; cases h
 have c4':tU f s.ag s.fa=true:=by simpa using c4
 unfold tU at c4';simp only [Ac] at c4';have hb:=c4'.1.2;unfold kT at hb;simp only [Ak,decide_eq_true_eq] at hb;rw [hA] at hb
 have hb2:rO f / 2 ^ A=0:=by
  rcases hb with hb | hb
  ·omega
  ·simpa using hb
 intro p hp;obtain⟨k,hk⟩:=kZ (jB f _) hp
 refine⟨⟨λho=>?_,λho=>?_⟩,λho=>?_⟩
 ·have hag:(xW p.op).1.ag=true:=by rcases ho with e | e <;> rw [e] <;> decide
  have h1:=uJ hk hag;have h2:=Tb hb2 p hp hag;exact⟨p.i.toNat,h2,by omega⟩
 ·have h1:=jT hk;exact⟨p.g.toNat,by omega,by omega⟩
 ·have hfa:(xW p.op).1.fa=true:=by rw [ho]; decide
  exact(lQ hk hfa).1
theorem pc {rs:List xC} {A T:Nat} {n:Nd} {x y:tJ} (h:n.op ∉ bM):zL rs A T n x y=cY rs n x y:=by simp only [bM,List.mem_cons,List.not_mem_nil,or_false,not_or] at h;obtain⟨h1,h2,h3,h4,h5,h6,h7,h8,h9⟩:=h;unfold zL;rw [if_neg h1,if_neg h2,if_neg h3,if_neg h4,if_neg h5,if_neg h6,if_neg h7,if_neg h8,if_neg h9]
structure LH (j : Nat) (o : Int) (g : FuncId) : Prop where
 at_:kX.getD j [] = [.int .i64 o,.fn g []]
 op:bM.getD j 0=o
 run:∀ {nx kc ks:Nat} {km:Nat->Nat} {xZ:List (Nat × Ob)} {rs:List xC} {A F T:Nat} {n:Nd} {x y:tJ} {xd yd:D},kQ rs A F T->qV rs A F T kc ks km xZ->bJ n rs.length T x y xd yd->mT n A->n.op=o ->
  xY prog g [.ref kc 6 0 0,.agg n.row,xd,yd] ⟨nx,xZ⟩ (.sl 1 (yR rs.length T (zL rs A T n x y))) ⟨nx,xZ⟩
theorem WJ {j:Nat} (h:j<9):∃ o g,LH j o g:=by
 have hc:j=0\/j=1\/j=2\/j=3\/j=4\/j=5\/j=6\/j=7\/j=8:=by omega
 rcases hc with rfl | rfl | rfl | rfl | rfl | rfl | rfl | rfl | rfl
 ·exact⟨_,_,rfl,rfl,Lu⟩
 ·exact⟨_,_,rfl,rfl,Lv⟩
 ·exact⟨_,_,rfl,rfl,Lw⟩
 ·exact⟨_,_,rfl,rfl,Lz⟩
 ·exact⟨_,_,rfl,rfl,Ly⟩
 ·exact⟨_,_,rfl,rfl,Lx⟩
 ·exact⟨_,_,rfl,rfl,M3⟩
 ·exact⟨_,_,rfl,rfl,M4⟩
 ·exact⟨_,_,rfl,rfl,M5⟩
def p5 (rs:List xC) (A T:Nat) (n:Nd) (x y:tJ) (j:Nat):D:=if n.op ∈ bM.take j then .sl 1 (yR rs.length T (zL rs A T n x y)) else .xJ
theorem gp {rs:List xC} {A T:Nat} {n:Nd} {x y:tJ} {j:Nat} (h:j<9):p5 rs A T n x y (j+1)= if n.op=bM.getD j 0 then .sl 1 (yR rs.length T (zL rs A T n x y)) else p5 rs A T n x y j:=by
 unfold p5
 have e:bM.take (j+1)= bM.take j ++ [bM.getD j 0]:=by rw [List.take_add_one];congr 1;simp [List.getD,show j<bM.length from h]
 rw [e]
 by_cases h1:n.op=bM.getD j 0
 ·rw [if_pos h1,if_pos (by simp [h1])]
 ·rw [if_neg h1]
  by_cases h2:n.op ∈ bM.take j
  ·rw [if_pos h2,if_pos (by simp [h2])]
  ·rw [if_neg h2,if_neg (by rw [List.mem_append,κ,not_or]; exact⟨h2,h1⟩)]
end Te
theorem WK : yW prog 104 [] (.sl 2 kX):=by
 refine xY.xQ mixed func104 Hj (by simp) λhf=>?_;simp only [simprocAttr,-ZA,↓zU,↓zD,zV,zT,zW]
 (repeat refine sd ?_)
 exact .same
structure Te.MS (A nb kc ks : Nat) (km : Nat -> Nat) : Prop where
 c:kc<nb
 s:ks<nb
 m:∀ i,i<A->km i<nb
theorem Te.qV.frame {rs:List xC} {A F T kc ks nb:Nat} {km:Nat->Nat} {xZ objs':List (Nat × Ob)} (h:qV rs A F T kc ks km xZ) (hb:MS A nb kc ks km) (hl:∀ k,k<nb->St.look objs' k=St.look xZ k):qV rs A F T kc ks km objs':=⟨by rw [hl _ hb.c]; exact h.c,λa=>by rw [hl _ hb.s]; exact h.s a,λi hi=>by rw [hl _ (hb.m i hi)]; exact h.m i hi⟩
theorem Te.qV.Mx {rs:List xC} {A F T kc ks nb nx2:Nat} {km:Nat->Nat} {xZ:List (Nat × Ob)} (h:qV rs A F T kc ks km xZ) (hb:MS A nb kc ks km) (hn:nb<=nx2) (ob:Ob):qV rs A F T kc ks km ((nx2,ob) :: xZ):= h.frame hb λk hk=>by rw [xX,if_neg (by omega)]
theorem Jj {rs:List xC} {A F T:Nat} (hz:jK ⟨A,F,T,rs⟩= 0) (ok:kQ rs A F T) (σ:St):∃ nx' objs',xY prog 102 [sD A F T rs] σ (.ref (σ.nx+1) 6 0 0) ⟨nx',objs'⟩/\ MS A nx' (σ.nx+1) (σ.nx+2) (λi=>σ.nx+(3+i))/\ qV rs A F T (σ.nx+1) (σ.nx+2) (λi=>σ.nx+(3+i)) objs':=by
 have h:=xY.own (σ:=σ) (ZU hz ok) rfl;refine⟨_,_,h,⟨by omega,by omega,λi hi=>by omega⟩,?_⟩;have hS:=qV.start (rs:=rs) (A:=A) (F:=F) (T:=T);have hl:∀ {k:Nat} {o:Ob},St.look (lB rs A F T A) k=some o->St.look (zM σ.nx (lB rs A F T A)++ σ.xZ) (σ.nx+k)= some (o.shift σ.nx):=λh=>by rw [mP,oA _ h]; rfl
 refine⟨?_,λha=>?_,λi hi=>?_⟩
 ·rw [hl hS.c];simp only [Ob.shift,List.map_cons,List.map_nil,D.wB,D.shift];congr 8;generalize List.range A=l;cases l <;> simp [xA,D.shift]
 ·rw [hl (hS.s ha)];simp only [Ob.shift,List.map_map];rfl
 ·rw [hl (hS.m i hi)];simp only [Ob.shift];congr 2;unfold sH mG;simp only [List.map_map];rfl
end
section
open Rs Fm Ru Te
namespace Te
def o5 (rs:List xC) (A T:Nat) (f:List Nd):tJ:=(yB rs A T (xE f) (xE f).length).getD ((xE f).length-1) λ_=>false
def xe (s:sC) (f:List Nd):List (List D):=if jG s f≠0 then [] else yR s.rs.length s.ln.toNat (o5 s.rs s.ag.toNat s.ln.toNat f)
def rX (rs:List xC) (A T:Nat) (c:List Nd) (k:Nat):List (List D):=(yB rs A T c k).map λx=>[.sl 1 (yR rs.length T x)]
theorem eO (rs:List xC) (A T:Nat) (c:List Nd) (k:Nat):(rX rs A T c k).length=k:=by simp [rX,nH]
theorem xb {rs:List xC} {A T:Nat} {c:List Nd} {k i:Nat} (h:i<k):(rX rs A T c k).getD i [] = [.sl 1 (yR rs.length T ((yB rs A T c k).getD i λ_=>false))]:=by have:=nH rs A T c k;simp [rX,List.getD,this,h]
theorem Zq (rs:List xC) (A T:Nat) (c:List Nd) (k:Nat):rX rs A T c (k+1)= rX rs A T c k ++ [[.sl 1 (yR rs.length T (zL rs A T (c.getD k wK) ((yB rs A T c k).getD (c.getD k wK).x.toNat λ_=>false) ((yB rs A T c k).getD (c.getD k wK).y.toNat λ_=>false)))]]:=by simp [rX,yB]
theorem jg {R T:Nat} (h:1<=R) (φ:tJ):∃ e r,yR R T φ=e :: r:=by
 cases hh:yR R T φ with
 | nil=>have:=wR R T φ; rw [hh] at this; simp at this; omega
 | cons e r=>exact⟨e,r,rfl⟩
theorem gn {rs:List xC} {A T:Nat} {n:Nd} {x y:tJ}:p5 rs A T n x y 9=if n.op ∈ bM then .sl 1 (yR rs.length T (zL rs A T n x y)) else .xJ:=rfl
end Te
theorem Va (s:sC) (f:List Nd):yW prog 44 [s.d,.sl 6 (zG f)] (.wE [.sl 1 (xe s f),.int .i64 (jG s f)]):=by
 have hD:s.d = .agg [.int .i64 s.ag,.int .i64 s.fa,.int .i64 s.ln,.sl 2 (wM s.rs)]:=rfl;have hC:=ae s;have hF:=mM f;have hG:=ug f;have hT:=cd f s.ag s.fa;have hE:jG s f=if jK s≠0 then jK s else if yZ f≠0 then yZ f else if (tS .andNot .i64 (zH f:Int) 271 != 0)= true then 10 else if tU f s.ag s.fa=false then 2 else 0:=rfl;have hR0:jG s f≠0->xe s f = []:=λh=>if_pos h;have hin:=λA=>ON (s:=s) (f:=f) (A:=A);rw [hD] at hC ⊢;by_cases c1:jK s=0
 case neg=>
  have e1:(jK s != 0)= true:=by simpa using c1
  rw [if_pos c1] at hE;rw [hR0 (by rw [hE]; exact c1),hE];refine xY.xQ mixed func44 Kn (by simp) λhf=>?_;simp only [simprocAttr,-ZA,↓zU,↓zD,zV,zT,zW]
  (repeat refine sd ?_)
  refine .go (cq hC) ?_;simp only [simprocAttr,-ZA,↓zU,↓zD,zV,zT,zW,e1];exact .drop (by simp) (by simp [vw,uR])
 rw [if_neg (by simpa using c1)] at hE;by_cases c2:yZ f=0
 case neg=>
  have e2:(yZ f != 0)= true:=by simpa using c2
  rw [if_pos c2] at hE;rw [hR0 (by rw [hE]; exact c2),hE];rw [c1] at hC;refine xY.xQ mixed func44 Kn (by simp) λhf=>?_;simp only [simprocAttr,-ZA,↓zU,↓zD,zV,zT,zW]
  (repeat refine sd ?_)
  refine .go (cq hC) ?_;simp only [simprocAttr,-ZA,↓zU,↓zD,zV,zT,zW];refine .go (cq hF) ?_;simp only [simprocAttr,-ZA,↓zU,↓zD,zV,zT,zW,e2];exact .drop (by simp) (by simp [vw,uR])
 rw [if_neg (by simpa using c2)] at hE;rw [c1] at hC;rw [c2] at hF
 by_cases c3:(tS .andNot .i64 (zH f:Int) 271 != 0)= true
 ·rw [if_pos c3] at hE;rw [hR0 (by rw [hE]; decide),hE];refine xY.xQ mixed func44 Kn (by simp) λhf=>?_;simp only [simprocAttr,-ZA,↓zU,↓zD,zV,zT,zW]
  (repeat refine sd ?_)
  refine .go (cq hC) ?_;simp only [simprocAttr,-ZA,↓zU,↓zD,zV,zT,zW];refine .go (cq hF) ?_;simp only [simprocAttr,-ZA,↓zU,↓zD,zV,zT,zW];refine .go (cq hG) ?_;simp only [simprocAttr,-ZA,↓zU,↓zD,zV,zT,zW,c3];exact .drop (by simp) (by simp [vw,uR])
 rw [if_neg c3] at hE;have c3':(tS .andNot .i64 (zH f:Int) 271 != 0)= false:=by simpa using c3
 by_cases c4:tU f s.ag s.fa=false
 ·rw [if_pos c4] at hE;rw [hR0 (by rw [hE]; decide),hE];rw [c4] at hT;refine xY.xQ mixed func44 Kn (by simp) λhf=>?_;simp only [simprocAttr,-ZA,↓zU,↓zD,zV,zT,zW]
  (repeat refine sd ?_)
  refine .go (cq hC) ?_;simp only [simprocAttr,-ZA,↓zU,↓zD,zV,zT,zW];refine .go (cq hF) ?_;simp only [simprocAttr,-ZA,↓zU,↓zD,zV,zT,zW];refine .go (cq hG) ?_;simp only [simprocAttr,-ZA,↓zU,↓zD,zV,zT,zW,c3']
  (repeat refine sd ?_)
  refine .go (cq hT) ?_;simp only [simprocAttr,-ZA,↓zU,↓zD,zV,zT,zW];exact .drop (by simp) (by simp [vw,uR])
 rw [if_neg c4] at hE;rw [show tU f s.ag s.fa=true by simpa using c4] at hT;rw [show xe s f=yR s.rs.length s.ln.toNat (o5 s.rs s.ag.toNat s.ln.toNat f) from if_neg (by rw [hE]; simp),hE];obtain⟨A,F,T,rs,rfl,ok⟩:=Na c1;obtain⟨T1,T16⟩:=ok.hT;obtain⟨R1,R64⟩:=ok.hR;have hin:=hin A hE rfl ok.hA;have hcv:=mY f;have hc0:=oU c2;have hc2:(xE f).length<=200:=nS f _;have hP:=eE f;have hlast:o5 rs A T f=(yB rs A T (xE f) (xE f).length).getD ((xE f).length-1) λ_=>false:=rfl;simp only [A6] at *;rw [hlast];generalize xE f=c at hin hcv hc0 hc2 hP;refine xY.xQ mixed func44 Kn (by simp) λhf=>?_;simp only [simprocAttr,-ZA,↓zU,↓zD,zV,zT,zW]
 (repeat refine sd ?_)
 refine .go (cq hC) ?_;simp only [simprocAttr,-ZA,↓zU,↓zD,zV,zT,zW];refine .go (cq hF) ?_;simp only [simprocAttr,-ZA,↓zU,↓zD,zV,zT,zW];refine .go (cq hG) ?_;simp only [simprocAttr,-ZA,↓zU,↓zD,zV,zT,zW,c3']
 (repeat refine sd ?_)
 refine .go (cq hT) ?_;simp only [simprocAttr,-ZA,↓zU,↓zD,zV,zT,zW];obtain⟨nb,objs0,hN,hB,hS⟩:=Jj c1 ok ⟨1,[(0,⟨4,[[.int .i64 (A:Int),.int .i64 (F:Int),.int .i64 (T:Int),.sl 2 (wM rs)]]⟩)]⟩;unfold sD at hN;simp only at hN hS hB;generalize (1+1:Nat)= kc at hN hS hB;generalize (1+2:Nat)= ks at hS hB;generalize (λi=>1+(3+i))= km at hS hB
 (repeat refine sd ?_)
 refine .go hN ?_;simp only [simprocAttr,-ZA,↓zU,↓zD,zV,zT,zW];refine .go (cr hP) ?_;simp only [simprocAttr,-ZA,↓zU,↓zD,zV,zT,zW,xI];have bc:=hB.c
 refine xO (λb:Nat × Nat × Nat × List (Nat × Ob)=>[(43,.int .i64 b.1),(42,.int .i64 c.length),(41,.sl 6 (zG c)),(9,xA b.2.1 1 (rX rs A T c b.1)),(8,.ref kc 6 0 0)]) (λb=>⟨b.2.2.1,b.2.2.2⟩)
  (λb=>b.1<=c.length/\nb<=b.2.2.1/\(∀ k,k<nb->St.look b.2.2.2 k=St.look objs0 k)/\ (0<b.1->nb<=b.2.1/\b.2.1<b.2.2.1/\St.look b.2.2.2 b.2.1=some ⟨1,rX rs A T c b.1⟩)) (λb=>c.length-b.1)
  (0,nb,nb,objs0) ⟨Ao _,An _,λ_ _=>rfl,λh=>absurd h (Nat.lt_irrefl _)⟩ ?_ ?_
 ·(refine xT.same ?_; simp [xR,Fr.get,rX,yB,xA])
 rintro ⟨k,kv,nx1,objs1⟩ ⟨hk,hn,hold,hval⟩;simp only at hk hn hold hval ⊢;refine xL mixed ?_;by_cases hkl:k<c.length
 case neg=>
  have hd:¬ ((k:Int)<(c.length:Int)):=by omega
  obtain rfl:k=c.length:=by omega
  obtain⟨v1,v2,v3⟩:=hval hc0;have hvl:=eO rs A T c c.length;have hne:rX rs A T c c.length ≠ []:=λe=>by rw [e] at hvl; simp at hvl; omega
  rw [mN hne,hvl];have hw:IntKind.i64.wrap ((c.length:Int)-1)= ((c.length-1:Nat):Int):=by rw [wrap_i64 (by omega)]; omega
  have hg:=xb (rs:=rs) (A:=A) (T:=T) (c:=c) (k:=c.length) (i:=c.length-1) (by omega);simp only [simprocAttr,-ZA,↓zU,↓zD,zV,zT,zW,hd,hw,v3,hvl,hg]
  (repeat refine sd ?_)
  exact .drop (by simp) (by simp [vw,uR])
 have hd:((k:Int)<(c.length:Int)):=by omega
 have hng:=sX c hkl;have hnv:=hcv k hkl;have hpm:=xK (d:=wK) hkl;obtain⟨hni,hn3⟩:=hin _ hpm;have hsucc:=Zq rs A T c k;obtain⟨ox,oy,ox0,oy0⟩:=uQ hnv;generalize c.getD k wK=n at hng hnv hni hn3 hsucc ox oy ox0 oy0;have hnr:n.row = [.int .i64 n.op,.int .i64 n.i,.int .i64 n.e,.int .i64 n.g,.int .i64 n.x,.int .i64 n.y]:=rfl;rw [hnr] at hng
 rcases Nat.eq_zero_or_pos k with hk0 | hkp
 ·subst hk0;have hopd:bJ n rs.length T ((yB rs A T c 0).getD n.x.toNat λ_=>false) ((yB rs A T c 0).getD n.y.toNat λ_=>false) .xJ .xJ:=⟨λh=>absurd (ox h).2 (Nat.not_lt_zero _),λh=>absurd (oy h).2 (Nat.not_lt_zero _)⟩;rw [show xA kv 1 (rX rs A T c 0)= .xJ from rfl];have hd0:((0:Int)<(c.length:Int)):=by omega
  simp only [simprocAttr,-ZA,↓zU,↓zD,zV,zT,zW,hd0,xI,hng]
  (repeat refine sd ?_)
  refine .go (cq WK) ?_;simp only [simprocAttr,-ZA,↓zU,↓zD,zV,zT,zW]
  (repeat refine sd ?_)
  rw [show kX.length=9 from rfl]
  refine wH (λb:Nat × Nat × List (Nat × Ob)=>[(62,.int .i64 b.1),(61,.int .i64 9),(60,.sl 2 kX),(14,p5 rs A T n ((yB rs A T c 0).getD n.x.toNat λ_=>false) ((yB rs A T c 0).getD n.y.toNat λ_=>false) b.1),(43,.int .i64 (0:Nat)),(42,.int .i64 c.length),(41,.sl 6 (zG c)),(13,.xJ),(12,.xJ),(11,.ref nx1 6 0 0),(9,.xJ),(8,.ref kc 6 0 0)]) (λb=>⟨b.2.1,b.2.2⟩)
   (λb=>b.1<=9/\nx1<b.2.1/\(∀ q,q<nx1->St.look b.2.2 q=St.look objs1 q)/\ St.look b.2.2 nx1=some ⟨6,[[.int .i64 n.op,.int .i64 n.i,.int .i64 n.e,.int .i64 n.g,.int .i64 n.x,.int .i64 n.y]]⟩) (λb=>9-b.1)
   (0,nx1+1,(nx1,⟨6,[[.int .i64 n.op,.int .i64 n.i,.int .i64 n.e,.int .i64 n.g,.int .i64 n.x,.int .i64 n.y]]⟩) :: objs1) ⟨Ao _,Au _,λq hq=>?_,?_⟩ ?_ ?_
  ·simp only; rw [xX,if_neg (by omega)]
  ·simp only; rw [xX,if_pos rfl]
  ·(refine xT.same ?_; simp [xR,Fr.get,p5])
  rintro ⟨j,nx2,objs2⟩ ⟨hj,hn2,hold2,hnode⟩;simp only at hj hn2 hold2 hnode ⊢;have hS2:qV rs A F T kc ks km objs2:=hS.frame hB λq hq=>by rw [hold2 q (by omega),hold q hq]
  refine xL mixed ?_
  by_cases hj9:j<9
  ·have hdj:((j:Int)<9):=by omega
   obtain⟨o,g,hat,hop,hrun⟩:=WJ hj9;have hgs:=gp (rs:=rs) (A:=A) (T:=T) (n:=n) (x:=((yB rs A T c 0).getD n.x.toNat λ_=>false)) (y:=((yB rs A T c 0).getD n.y.toNat λ_=>false)) hj9;rw [hop] at hgs;have z3:¬ nx2=nx1:=by omega
   by_cases ho:n.op=o
   ·have hc:=hrun (nx:=nx2+1) (xZ:=(nx2,⟨2,[[.int .i64 o,.fn g []]]⟩) :: objs2) ok (hS2.Mx (nx2:=nx2) (nb:=nb) hB (by omega) _) hopd hni ho;rw [hnr] at hc;rw [if_pos ho] at hgs;have e1:(o==n.op)= true:=by rw [ho]; exact beq_self_eq_true _
    simp only [simprocAttr,-ZA,↓zU,↓zD,zV,zT,zW,hdj,hat,show kX.length=9 from rfl,hnode,z3,e1]
    (repeat refine sd ?_)
    refine .go hc ?_;simp only [simprocAttr,-ZA,↓zU,↓zD,zV,zT,zW];refine⟨(j+1,nx2+1,?zoA0),⟨by show j+1<=9; omega,by show nx1<nx2+1; omega,λq hq=>?_,?_⟩,?zwA0,by show 9-(j+1)<9-j; omega⟩
    case zwA0=>
     (refine xT.same ?_; simp only [xR,Fr.get,simprocAttr,-ZA,zS,hgs])
     exact zZ (by omega)
    ·simp only; rw [xX,if_neg (by omega)]; exact hold2 q hq
    ·simp only; rw [xX,if_neg (by omega)]; exact hnode
   ·rw [if_neg ho] at hgs;have e1:(o==n.op)= false:=by rw [beq_eq_false_iff_ne]; exact λe=>ho e.symm
    simp only [simprocAttr,-ZA,↓zU,↓zD,zV,zT,zW,hdj,hat,show kX.length=9 from rfl,hnode,z3,e1]
    (repeat refine sd ?_)
    refine⟨(j+1,nx2+1,?zoB0),⟨by show j+1<=9; omega,by show nx1<nx2+1; omega,λq hq=>?_,?_⟩,?zwB0,by show 9-(j+1)<9-j; omega⟩
    case zwB0=>
     (refine xT.same ?_; simp only [xR,Fr.get,simprocAttr,-ZA,zS,hgs])
     exact zZ (by omega)
    ·simp only; rw [xX,if_neg (by omega)]; exact hold2 q hq
    ·simp only; rw [xX,if_neg (by omega)]; exact hnode
  have hdj:¬ ((j:Int)<9):=by omega
  obtain rfl:j=9:=by omega
  rw [gn];simp only [simprocAttr,-ZA,↓zU,↓zD,zV,zT,zW,hdj];refine .yJ ?_
  have hend:∀ (fr:Fr),xR fr [(43,.int .i64 ((0+1:Nat):Int)),(42,.int .i64 c.length),(41,.sl 6 (zG c)),(9,.yD nx2 1 (0+1)),(8,.ref kc 6 0 0)]->∃ b:Nat × Nat × Nat × List (Nat × Ob),
    (b.1<=c.length/\nb<=b.2.2.1/\(∀ k,k<nb->St.look b.2.2.2 k=St.look objs0 k)/\ (0<b.1->nb<=b.2.1/\b.2.1<b.2.2.1/\St.look b.2.2.2 b.2.1=some ⟨1,rX rs A T c b.1⟩))/\
    xT ⟨prog,97,0,[],none⟩ fr ⟨nx2+1,(nx2,⟨1,rX rs A T c (0+1)⟩) :: objs2⟩ [(43,.int .i64 b.1),(42,.int .i64 c.length),(41,.sl 6 (zG c)),(9,xA b.2.1 1 (rX rs A T c b.1)),(8,.ref kc 6 0 0)] ⟨b.2.2.1,b.2.2.2⟩/\ c.length-b.1<c.length-0:=by
   intro fr hfr;have hvl':=eO rs A T c (0+1);have hne':rX rs A T c (0+1)≠ []:=λe=>by rw [e] at hvl'; simp at hvl'
   refine⟨(0+1,nx2,nx2+1,_),⟨by show 0+1<=c.length; omega,by show nb<=nx2+1; omega,λq hq=>?_,λ_=>⟨by show nb<=nx2; omega,Au _,?_⟩⟩,xT.same ?_,by show c.length-(0+1)<c.length-0; omega⟩
   ·simp only; rw [xX,if_neg (by omega)]; rw [hold2 q (by omega),hold q hq]
   ·simp only; rw [xX,if_pos rfl]
   ·simp only;rw [mN hne',hvl']; exact hfr
  by_cases hop:n.op ∈ bM
  ·rw [if_pos hop];have hsx:=hsucc;generalize zL rs A T n ((yB rs A T c 0).getD n.x.toNat λ_=>false) ((yB rs A T c 0).getD n.y.toNat λ_=>false)= φ at hsx;obtain⟨e,r,her⟩:=jg R1 φ;have hp:((D.sl 1 (e :: r)).xD)= true:=rfl;rw [her] at hsx ⊢;simp only [simprocAttr,-ZA,↓zU,↓zD,zV,zT,zW,hp ]
   (repeat refine sd ?_)
   rw [show rX rs A T c 0 = [] from rfl,η] at hsx;rw [<- hsx];refine hend _ ?_;simp only [xR,Fr.get,↓reduceIte,reduceIte,As,reduceCtorEq,D.int.injEq,D.yD.injEq,and_true,true_and,and_self]; exact zZ (k:=0) (by omega)
  ·rw [if_neg hop];have hc:=Sa (nx:=nx2) (xZ:=objs2) ok hopd hn3 .xJ .xJ hS2.c;rw [hnr,<- pc hop] at hc;have hsx:=hsucc;generalize zL rs A T n ((yB rs A T c 0).getD n.x.toNat λ_=>false) ((yB rs A T c 0).getD n.y.toNat λ_=>false)= φ at hsx hc;simp only [simprocAttr,-ZA,↓zU,↓zD,zV,zT,zW,hnode]
   (repeat refine sd ?_)
   refine .go hc ?_;simp only [simprocAttr,-ZA,↓zU,↓zD,zV,zT,zW,hnode]
   (repeat refine sd ?_)
   rw [show rX rs A T c 0 = [] from rfl,η] at hsx;rw [<- hsx];refine hend _ ?_;simp only [xR,Fr.get,↓reduceIte,reduceIte,As,reduceCtorEq,D.int.injEq,D.yD.injEq,and_true,true_and,and_self]; exact zZ (k:=0) (by omega)
 ·have hdp:((0:Int)<(k:Int)):=by omega
  obtain⟨v1,v2,v3⟩:=hval hkp;have hvl:=eO rs A T c k;have hne:rX rs A T c k ≠ []:=λe=>by rw [e] at hvl; simp at hvl; omega
  rw [mN hne,hvl]
  have hxk:0<=n.x/\n.x.toNat<k:=by
   cases hu:(xW n.op).1.x with
   | true=>exact ox hu
   | false=>rw [ox0 hu]; exact⟨Int.le_refl _,hkp⟩
  have hyk:0<=n.y/\n.y.toNat<k:=by
   cases hu:(xW n.op).1.y with
   | true=>exact oy hu
   | false=>rw [oy0 hu]; exact⟨Int.le_refl _,hkp⟩
  have hgx:=xb (rs:=rs) (A:=A) (T:=T) (c:=c) hxk.2;have hgy:=xb (rs:=rs) (A:=A) (T:=T) (c:=c) hyk.2;have hopd:bJ n rs.length T ((yB rs A T c k).getD n.x.toNat λ_=>false) ((yB rs A T c k).getD n.y.toNat λ_=>false) (.sl 1 (yR rs.length T ((yB rs A T c k).getD n.x.toNat λ_=>false))) (.sl 1 (yR rs.length T ((yB rs A T c k).getD n.y.toNat λ_=>false))):=⟨λ_=>rfl,λ_=>rfl⟩;have z1:¬ nx1=kv:=by omega
  simp only [simprocAttr,-ZA,↓zU,↓zD,zV,zT,zW,hd,xI,hng,hdp,v3,hvl,hgx,hgy,z1]
  (repeat refine sd ?_)
  refine .go (cq WK) ?_;simp only [simprocAttr,-ZA,↓zU,↓zD,zV,zT,zW]
  (repeat refine sd ?_)
  rw [show kX.length=9 from rfl]
  refine wH (λb:Nat × Nat × List (Nat × Ob)=>[(62,.int .i64 b.1),(61,.int .i64 9),(60,.sl 2 kX),(14,p5 rs A T n ((yB rs A T c k).getD n.x.toNat λ_=>false) ((yB rs A T c k).getD n.y.toNat λ_=>false) b.1),(43,.int .i64 (k:Nat)),(42,.int .i64 c.length),(41,.sl 6 (zG c)),(13,(.sl 1 (yR rs.length T ((yB rs A T c k).getD n.y.toNat λ_=>false)))),(12,(.sl 1 (yR rs.length T ((yB rs A T c k).getD n.x.toNat λ_=>false)))),(11,.ref nx1 6 0 0),(9,.yD kv 1 k),(8,.ref kc 6 0 0)]) (λb=>⟨b.2.1,b.2.2⟩)
   (λb=>b.1<=9/\nx1<b.2.1/\(∀ q,q<nx1->St.look b.2.2 q=St.look objs1 q)/\ St.look b.2.2 nx1=some ⟨6,[[.int .i64 n.op,.int .i64 n.i,.int .i64 n.e,.int .i64 n.g,.int .i64 n.x,.int .i64 n.y]]⟩) (λb=>9-b.1)
   (0,nx1+1,(nx1,⟨6,[[.int .i64 n.op,.int .i64 n.i,.int .i64 n.e,.int .i64 n.g,.int .i64 n.x,.int .i64 n.y]]⟩) :: objs1) ⟨Ao _,Au _,λq hq=>?_,?_⟩ ?_ ?_
  ·simp only; rw [xX,if_neg (by omega)]
  ·simp only; rw [xX,if_pos rfl]
  ·(refine xT.same ?_; simp [xR,Fr.get,p5])
  rintro ⟨j,nx2,objs2⟩ ⟨hj,hn2,hold2,hnode⟩;simp only at hj hn2 hold2 hnode ⊢;have hS2:qV rs A F T kc ks km objs2:=hS.frame hB λq hq=>by rw [hold2 q (by omega),hold q hq]
  refine xL mixed ?_
  by_cases hj9:j<9
  ·have hdj:((j:Int)<9):=by omega
   obtain⟨o,g,hat,hop,hrun⟩:=WJ hj9;have hgs:=gp (rs:=rs) (A:=A) (T:=T) (n:=n) (x:=((yB rs A T c k).getD n.x.toNat λ_=>false)) (y:=((yB rs A T c k).getD n.y.toNat λ_=>false)) hj9;rw [hop] at hgs;have z3:¬ nx2=nx1:=by omega
   by_cases ho:n.op=o
   ·have hc:=hrun (nx:=nx2+1) (xZ:=(nx2,⟨2,[[.int .i64 o,.fn g []]]⟩) :: objs2) ok (hS2.Mx (nx2:=nx2) (nb:=nb) hB (by omega) _) hopd hni ho;rw [hnr] at hc;rw [if_pos ho] at hgs;have e1:(o==n.op)= true:=by rw [ho]; exact beq_self_eq_true _
    simp only [simprocAttr,-ZA,↓zU,↓zD,zV,zT,zW,hdj,hat,show kX.length=9 from rfl,hnode,z3,e1]
    (repeat refine sd ?_)
    refine .go hc ?_;simp only [simprocAttr,-ZA,↓zU,↓zD,zV,zT,zW];refine⟨(j+1,nx2+1,?zoAk),⟨by show j+1<=9; omega,by show nx1<nx2+1; omega,λq hq=>?_,?_⟩,?zwAk,by show 9-(j+1)<9-j; omega⟩
    case zwAk=>
     (refine xT.same ?_; simp only [xR,Fr.get,simprocAttr,-ZA,zS,hgs])
     exact zZ (by omega)
    ·simp only; rw [xX,if_neg (by omega)]; exact hold2 q hq
    ·simp only; rw [xX,if_neg (by omega)]; exact hnode
   ·rw [if_neg ho] at hgs;have e1:(o==n.op)= false:=by rw [beq_eq_false_iff_ne]; exact λe=>ho e.symm
    simp only [simprocAttr,-ZA,↓zU,↓zD,zV,zT,zW,hdj,hat,show kX.length=9 from rfl,hnode,z3,e1]
    (repeat refine sd ?_)
    refine⟨(j+1,nx2+1,?zoBk),⟨by show j+1<=9; omega,by show nx1<nx2+1; omega,λq hq=>?_,?_⟩,?zwBk,by show 9-(j+1)<9-j; omega⟩
    case zwBk=>
     (refine xT.same ?_; simp only [xR,Fr.get,simprocAttr,-ZA,zS,hgs])
     exact zZ (by omega)
    ·simp only; rw [xX,if_neg (by omega)]; exact hold2 q hq
    ·simp only; rw [xX,if_neg (by omega)]; exact hnode
  have hdj:¬ ((j:Int)<9):=by omega
  obtain rfl:j=9:=by omega
  rw [gn];simp only [simprocAttr,-ZA,↓zU,↓zD,zV,zT,zW,hdj];refine .yJ ?_
  have hend:∀ (fr:Fr),xR fr [(43,.int .i64 ((k+1:Nat):Int)),(42,.int .i64 c.length),(41,.sl 6 (zG c)),(9,.yD nx2 1 (k+1)),(8,.ref kc 6 0 0)]->∃ b:Nat × Nat × Nat × List (Nat × Ob),
    (b.1<=c.length/\nb<=b.2.2.1/\(∀ k,k<nb->St.look b.2.2.2 k=St.look objs0 k)/\ (0<b.1->nb<=b.2.1/\b.2.1<b.2.2.1/\St.look b.2.2.2 b.2.1=some ⟨1,rX rs A T c b.1⟩))/\
    xT ⟨prog,97,0,[],none⟩ fr ⟨nx2+1,(nx2,⟨1,rX rs A T c (k+1)⟩) :: zX objs2 kv⟩ [(43,.int .i64 b.1),(42,.int .i64 c.length),(41,.sl 6 (zG c)),(9,xA b.2.1 1 (rX rs A T c b.1)),(8,.ref kc 6 0 0)] ⟨b.2.2.1,b.2.2.2⟩/\ c.length-b.1<c.length-k:=by
   intro fr hfr;have hvl':=eO rs A T c (k+1);have hne':rX rs A T c (k+1)≠ []:=λe=>by rw [e] at hvl'; simp at hvl'
   refine⟨(k+1,nx2,nx2+1,_),⟨by show k+1<=c.length; omega,by show nb<=nx2+1; omega,λq hq=>?_,λ_=>⟨by show nb<=nx2; omega,Au _,?_⟩⟩,xT.same ?_,by show c.length-(k+1)<c.length-k; omega⟩
   ·simp only; rw [xX,if_neg (by omega)]; rw [yX,if_neg (by omega),hold2 q (by omega),hold q hq]
   ·simp only; rw [xX,if_pos rfl]
   ·simp only;rw [mN hne',hvl']; exact hfr
  by_cases hop:n.op ∈ bM
  ·rw [if_pos hop];have hsx:=hsucc;generalize zL rs A T n ((yB rs A T c k).getD n.x.toNat λ_=>false) ((yB rs A T c k).getD n.y.toNat λ_=>false)= φ at hsx;obtain⟨e,r,her⟩:=jg R1 φ;have hp:((D.sl 1 (e :: r)).xD)= true:=rfl;rw [her] at hsx ⊢;simp only [simprocAttr,-ZA,↓zU,↓zD,zV,zT,zW,hp ,(hold2 kv v2).trans v3,hvl]
   (repeat refine sd ?_)
   rw [π (by omega),<- hsx];refine hend _ ?_;simp only [xR,Fr.get,↓reduceIte,reduceIte,As,reduceCtorEq,D.int.injEq,D.yD.injEq,and_true,true_and,and_self]; exact zZ (k:=k) (by omega)
  ·rw [if_neg hop];have hc:=Sa (nx:=nx2) (xZ:=objs2) ok hopd hn3 (.sl _ _) (.sl _ _) hS2.c;rw [hnr,<- pc hop] at hc;have hsx:=hsucc;generalize zL rs A T n ((yB rs A T c k).getD n.x.toNat λ_=>false) ((yB rs A T c k).getD n.y.toNat λ_=>false)= φ at hsx hc;simp only [simprocAttr,-ZA,↓zU,↓zD,zV,zT,zW,hnode]
   (repeat refine sd ?_)
   refine .go hc ?_;simp only [simprocAttr,-ZA,↓zU,↓zD,zV,zT,zW,(hold2 kv v2).trans v3,hvl]
   (repeat refine sd ?_)
   rw [π (by omega),<- hsx];refine hend _ ?_;simp only [xR,Fr.get,↓reduceIte,reduceIte,As,reduceCtorEq,D.int.injEq,D.yD.injEq,and_true,true_and,and_self]; exact zZ (k:=k) (by omega)
end
open Rs Fm Ru Te
namespace Te
def pt (T p:Nat):Nat × Nat:=(p / T,p % T)
def jF (rs:List xC) (g:Nat) (m:Bool) (p q:Nat × Nat) (a:Nat):Bool:=(List.range a).all λb=>!g.testBit b || (decide (yO rs b p=yO rs b q)== m)
end Te
end Go.Pd

/- Part S9. -/
namespace Go.Pd
open Go Go.Proofs
open Ru
namespace Ru
def oM (rs:List xC) (l:List (Nat × Nat)) (A F:Nat):rG:=⟨(l.length:Int),jI rs l F,qC rs l A⟩
def uO (R t:Nat):List (Nat × Nat):=(List.range R).map λr=>(r,t)
theorem ji (R t:Nat):(uO R t).length=R:=by simp [uO]
theorem oF {k:Nat} (hk:k<64) (i:Nat):(1#64 <<< k).getLsbD i=decide (i=k):=by
 by_cases hi:i<64
 ·have:∀ k,k<64->∀ i,i<64->(1#64 <<< k).getLsbD i=decide (i=k):=by decide
  exact this k hk i hi
 ·rw [A5 _ _ (by omega)];exact(decide_eq_false (by omega)).symm
theorem rk {rs:List xC} {l:List (Nat × Nat)} {f:Nat}:∀ (k i:Nat),k<=64->(mA rs l f k).getLsbD i=(decide (i<k)&& (lZ rs (l.getD i (0,0))).getLsbD f)
 | 0,i,_=>by simp [mA]
 | k+1,i,hk=>by
  unfold mA;rw [A4,rk k i (by omega)]
  by_cases e:i=k
  ·subst e
   cases hb:(lZ rs (l.getD i (0,0))).getLsbD f
   ·simp
   ·rw [if_pos rfl,oF (by omega)];simp
  ·have h2:(if (lZ rs (l.getD k (0,0))).getLsbD f=true then 1#64 <<< k else 0#64).getLsbD i=false:=by
    split
    ·rw [oF (by omega)]; exact decide_eq_false e
    ·exact Az
   rw [h2,Af];congr 1;rw [Ae,decide_eq_true_iff,decide_eq_true_iff]; omega
theorem gB {rs:List xC} {l:List (Nat × Nat)} {a:Nat} {x:Int}:∀ (k i:Nat),k<=64->(jF rs l a x k).getLsbD i=(decide (i<k)&& decide (yO rs a (l.getD i (0,0))= x))
 | 0,i,_=>by simp [jF]
 | k+1,i,hk=>by
  unfold jF;rw [A4,gB k i (by omega)]
  by_cases e:i=k
  ·subst e
   by_cases hb:yO rs a (l.getD i (0,0))= x
   ·rw [if_pos hb,oF (by omega),decide_eq_true hb];simp
   ·rw [if_neg hb,decide_eq_false hb];simp
  ·have h2:(if yO rs a (l.getD k (0,0))= x then 1#64 <<< k else 0#64).getLsbD i=false:=by
    split
    ·rw [oF (by omega)]; exact decide_eq_false e
    ·exact Az
   rw [h2,Af];congr 1;rw [Ae,decide_eq_true_iff,decide_eq_true_iff]; omega
theorem ar {rs:List xC} {A F T:Nat} (ok:kQ rs A F T) {l:List (Nat × Nat)} (h1:1<=l.length) (h2:l.length<=64):lV (oM rs l A F) l.length where
 w:=rfl
 hW:=⟨h1,h2⟩
 hV:=by have:=ok.hF; simp [oM,jI]; exact this
 hR:=by have:=ok.hA; simp [oM,qC]; exact this
 row:=λr hr=>by simp only [oM,qC,ε] at hr;obtain⟨a,_,rfl⟩:=hr;simp [pH]
 val:=λx hx=>by simp only [oM,jI,ε] at hx;obtain⟨f,_,rfl⟩:=hx;refine ba h2 λi hi=>?_;rw [rk _ _ h2,Ac] at hi;exact of_decide_eq_true hi.1
 rel:=λr hr x hx=>by simp only [oM,qC,ε] at hr;obtain⟨a,_,rfl⟩:=hr;simp only [pH,ε] at hx;obtain⟨p,_,rfl⟩:=hx;refine ba h2 λi hi=>?_;rw [gB _ _ h2,Ac] at hi;exact of_decide_eq_true hi.1
end Ru
open Rs Fm Ru Te
namespace Te
end Te
namespace Te
end Te
open Rs Fm Ru Te
namespace Te
def eD (rs:List xC) (A T:Nat):Tr->tJ
 | .nil=>λ_=>false
 | .nd op i e g x y=>zL rs A T ⟨op,i,e,g,0,0⟩ (eD rs A T x) (eD rs A T y)
theorem iq {rs:List xC} {A T:Nat} {n m:Nd} {x y x' y':tJ} (h1:n.op=m.op) (h2:n.i=m.i) (h3:n.g=m.g) (hx:(xW n.op).1.x=true->x=x') (hy:(xW n.op).1.y=true->y=y') :
  zL rs A T n x y=zL rs A T m x' y':=by
 obtain⟨op,i,e,g,a,b⟩:=n;obtain⟨op',i',e',g',a',b'⟩:=m;simp only at h1 h2 h3 hx hy;subst h1 h2 h3;rcases sU op with rfl | rfl | rfl | rfl | rfl | rfl | rfl | rfl | rfl | rfl | rfl | rfl | rfl | rfl | rfl | rfl | rfl | rfl | rfl | rfl | rfl | h | h
 all_goals first
  | (have hx':=hx rfl; have hy':=hy rfl; subst hx' hy'; rfl)
  | (have hx':=hx rfl; subst hx'; rfl)
  | rfl
  | (unfold zL cY; simp only; funext p; repeat rw [if_neg (by omega)])
theorem jQ {rs:List xC} {A T:Nat} {c:List Nd} {k:Nat}:∀ (m:Nat) {i:Nat},i<k->(yB rs A T c (k+m)).getD i (λ_=>false)= (yB rs A T c k).getD i λ_=>false
 | 0,_,_=>rfl
 | m+1,i,h=>by rw [show k+(m+1)= (k+m)+ 1 from rfl,yB,List.getD,List.getElem?_append_left (by rw [nH]; omega)];exact jQ m h
theorem jh {rs:List xC} {A T:Nat} {c:List Nd} {k n:Nat} (h:k<n):(yB rs A T c n).getD k (λ_=>false)= zL rs A T (c.getD k wK) ((yB rs A T c k).getD (c.getD k wK).x.toNat λ_=>false) ((yB rs A T c k).getD (c.getD k wK).y.toNat λ_=>false):=by obtain⟨m,rfl⟩:=Am (show k+1<=n by omega);rw [jQ m (by omega),yB,List.getD,List.getElem?_append_right (by rw [nH]; omega),nH,Nat.sub_self];rfl
theorem Zk {rs:List xC} {A T:Nat} {c:List Nd} (hv:wP c) {n:Nat} (hn:n<=c.length):∀ (i:Nat),i<n->(yB rs A T c n).getD i (λ_=>false)= eD rs A T (tree c i):=by
 intro i
 induction i using Nat.strongRecOn with
 | _ i ih=>
  intro hi;obtain⟨ox,oy,_,_⟩:=uQ (hv i (by omega));rw [jh hi,tR hv (by omega)];show _=zL _ _ _ _ _ _
  refine iq rfl rfl rfl (λhx=>?_) λhy=>?_
  ·have:=ox hx;obtain⟨m,hm⟩:=Am (show i<=n by omega);rw [if_pos hx,<- ih _ (by omega) (by omega),hm,jQ m (by omega)]
  ·have:=oy hy;obtain⟨m,hm⟩:=Am (show i<=n by omega);rw [if_pos hy,<- ih _ (by omega) (by omega),hm,jQ m (by omega)]
theorem od {rs:List xC} {A T:Nat} {f:List Nd} (h:yZ f=0):o5 rs A T f=eD rs A T (uE f):=by unfold o5;have:=oU h;rw [Zk (mY f) (An _) _ (by omega),(nL h).1]
def Wj (A F:Nat) (p:Nd):Bool:=decide (sN p &&& 3824=0)&& decide (vX p / 2 ^ A=0)&& decide (rK p / 2 ^ F=0)
theorem mJ {m:Nd->Nat} {φ:Nat->Nat} (h0:φ 0=0) (h:∀ a b,φ (a ||| b)= φ a ||| φ b) (l:List Nd):φ (yA m l)= yA (λp=>φ (m p)) l:=by
 have key:∀ (l:List Nd) (a:Nat),φ (l.foldl (λa p=>a ||| m p) a)= l.foldl (λa p=>a ||| φ (m p)) (φ a):=by
  intro l
  induction l with
  | nil=>intro a; rfl
  | cons p r ih=>intro a; rw [ο,ο,ih,h]
 unfold yA;rw [key,h0]
theorem aD {n:Nat} (h:n<4096):(tS .andNot .i64 (n:Int) 271 != 0)= !decide (n &&& 3824=0):=by
 have:∀ n:Fin 4096,(tS .andNot .i64 ((n.val:Nat):Int) 271 != 0)= !decide (n.val &&& 3824=0):=by decide +kernel
 exact this ⟨n,h⟩
theorem bh {s:sC} {A F T:Nat} {rs:List xC} (hs:s=⟨A,F,T,rs⟩) (hz:jK s=0) (ok:kQ rs A F T) {f:List Nd} (hc:yZ f=0):jG s f=0 ↔ ∀ p ∈ xE f,Wj A F p=true:=by
 have hlt:zH f<4096:=by refine nI λp _=>?_;have:=fF p.op;unfold sN; omega
 have e1:(zH f &&& 3824=0) ↔ ∀ p ∈ xE f,sN p &&& 3824=0:=by unfold zH;rw [mJ (φ:=λn=>n &&& 3824) (by decide) (λa b=>Nat.and_or_distrib_right a b 3824),rR]
 have dv:∀ n a b:Nat,(a ||| b)/ 2 ^ n=a / 2 ^ n ||| b / 2 ^ n:=λn a b=>by rw [<- Ar,<- Ar,<- Ar,Nat.shiftRight_or_distrib]
 have e2:rO f / 2 ^ A=0 ↔ ∀ p ∈ xE f,vX p / 2 ^ A=0:=by unfold rO;rw [mJ (φ:=λn=>n / 2 ^ A) (by simp) (dv A),rR]
 have e3:kU f / 2 ^ F=0 ↔ ∀ p ∈ xE f,rK p / 2 ^ F=0:=by unfold kU;rw [mJ (φ:=λn=>n / 2 ^ F) (by simp) (dv F),rR]
 have hA:=ok.hA;have hF:=ok.hF
 have ef:tU f s.ag s.fa=true ↔ rO f / 2 ^ A=0/\kU f / 2 ^ F=0:=by
  subst hs;unfold tU kT;simp only [Ac,Ak,decide_eq_true_eq,A6]
  constructor
  ·rintro ⟨⟨_,h1⟩,h2⟩; exact⟨h1.resolve_left (by omega),h2.resolve_left (by omega)⟩
  ·rintro ⟨h1,h2⟩; exact⟨⟨hc,.inr h1⟩,.inr h2⟩
 unfold jG;rw [if_neg (by simpa using hz),if_neg (by simpa using hc),aD hlt]
 constructor
 ·intro h p hp
  by_cases c:zH f &&& 3824=0
  ·rw [if_neg (by simp [c])] at h
   cases h2:tU f s.ag s.fa with
   | false=>rw [h2,if_pos rfl] at h; cases h
   | true=> have h3:=ef.1 h2;unfold Wj;simp only [Ac,decide_eq_true_eq];exact⟨⟨e1.1 c p hp,e2.1 h3.1 p hp⟩,e3.1 h3.2 p hp⟩
  ·rw [if_pos (by simp [c])] at h; cases h
 ·intro h;have h':∀ p ∈ xE f,(sN p &&& 3824=0/\vX p / 2 ^ A=0)/\ rK p / 2 ^ F=0:=λp hp=>by simpa [Wj] using h p hp
  have c:zH f &&& 3824=0:=e1.2 λp hp=>(h' p hp).1.1;rw [if_neg (by simp [c]),ef.2 ⟨e2.2 λp hp=>(h' p hp).1.2,e3.2 λp hp=>(h' p hp).2⟩,if_neg (by decide)]
def Ko (A F:Nat):Tr->Prop
 | .nil=>True
 | .nd op i e g x y=>Wj A F ⟨op,i,e,g,0,0⟩= true/\Ko A F x/\Ko A F y
theorem Qv {A F:Nat} {c:List Nd} (hv:wP c) (h:∀ p ∈ c,Wj A F p=true):∀ i,i<c.length->Ko A F (tree c i):=by
 intro i
 induction i using Nat.strongRecOn with
 | _ i ih=>
  intro hi;obtain⟨ox,oy,_,_⟩:=uQ (hv i hi);rw [tR hv hi]
  refine⟨?_,?_,?_⟩
  ·have:=h (c.getD i wK) (by rw [List.getD,μ hi]; exact List.getElem_mem hi);exact this
  ·split
   ·rename_i hx; have:=ox hx; exact ih _ (by omega) (by omega)
   ·trivial
  ·split
   ·rename_i hy; have:=oy hy; exact ih _ (by omega) (by omega)
   ·trivial
theorem au {A F:Nat}:∀ (t:Tr) (out:List Nd),Ko A F t->(∀ q ∈ out,Wj A F q=true)->∀ q ∈ (tD t out).2,Wj A F q=true
 | .nil,out,_,h=>h
 | .nd op i e g x y,out,⟨h1,h2,h3⟩,h=>by
  have hx:∀ q ∈ (if (xW op).1.x=true then tD x out else(0,out)).2,Wj A F q=true:=by
   split
   ·exact au x out h2 h
   ·exact h
  have hy:∀ q ∈ (if (xW op).1.y=true then tD y (if (xW op).1.x=true then tD x out else(0,out)).2 else(0,(if (xW op).1.x=true then tD x out else(0,out)).2)).2,Wj A F q=true:=by
   split
   ·exact au y _ h3 hx
   ·exact hx
  intro q hq;unfold tD at hq;simp only at hq
  split at hq
  ·exact hy q hq
  ·simp only [List.mem_append,κ] at hq
   rcases hq with hq | rfl
   ·exact hy q hq
   ·exact h1
end Te
namespace Fm
theorem U8 {t:Tr} (h:Ta t) (hl:(canon t).length<=200):yZ (canon t)= 0/\uE (canon t)= t:=by obtain⟨a,_,c,d⟩:=bW h;exact⟨Tw c hl a,d⟩
def VY (t:Tr):Nat:=(canon t).length
theorem K7 {f:List Nd} (h:yZ f=0):VY (uE f)<=f.length:=Pr h
theorem M8 {op i e g:Int} {x:Tr} (hx:(xW op).1.x=true) (hy:(xW op).1.y=false) (hw:yM ⟨op,i,e,g,0,0⟩ 1=0) (h:Ta x):VY (.nd op i e g x .nil)<=VY x+1:=by
 obtain⟨hv,_,hp,ht⟩:=bW h;unfold VY;generalize canon x=c at hv hp ht
 have hq:yM ⟨op,i,e,g,(c.length:Int)-1,0⟩ c.length=0:=by
  refine nF (p:=⟨op,i,e,g,0,0⟩) hw ?_ ?_
  ·simp only [hx,↓reduceIte]; omega
  ·simp only [hy,Ah,↓reduceIte]
 have hvs:wP (c ++ [⟨op,i,e,g,(c.length:Int)-1,0⟩]):=lL hv hq
 have htr:tree (c ++ [⟨op,i,e,g,(c.length:Int)-1,0⟩]) c.length = .nd op i e g x .nil:=by
  rw [tR hvs (by simp)];have hgl:(c ++ [(⟨op,i,e,g,(c.length:Int)-1,0⟩:Nd)]).getD c.length wK=⟨op,i,e,g,(c.length:Int)-1,0⟩:=by simp [List.getD]
  rw [hgl];simp only [hx,hy,Ah,↓reduceIte];rw [jX hvs _ (by omega),show ((c.length:Int)-1).toNat=c.length-1 by omega,ht]
 have:=cB hvs (i:=c.length) (by simp);rw [pJ hvs (by simp),htr] at this;simpa using this
end Fm
namespace Te
structure Is (A F : Nat) (f : List Nd) (t : Tr) : Prop where
 c:yZ f=0
 e:uE f=t
 o:Ko A F t
theorem Is.wf {A F:Nat} {f:List Nd} {t:Tr} (h:Is A F f t):Ta t:=by rw [<- h.e]; exact aP h.c
theorem Is.start {s:sC} {A F T:Nat} {rs:List xC} (hs:s=⟨A,F,T,rs⟩) (hz:jK s=0) (ok:kQ rs A F T) {f:List Nd} (h:jG s f=0):Is A F f (uE f):=by have hc:=(aI h).2;refine⟨hc,rfl,?_⟩;have:=oU hc;rw [<- (nL hc).1];exact Qv (mY f) ((bh hs hz ok hc).1 h) _ (by omega)
theorem Is.FR {s:sC} {A F T:Nat} {rs:List xC} (hs:s=⟨A,F,T,rs⟩) (hz:jK s=0) (ok:kQ rs A F T) {f:List Nd} {t:Tr} (h:Is A F f t):jG s f=0:=by refine(bh hs hz ok h.c).2 ?_;rw [vt h.c];exact au _ [] (by have:=h.o; rw [<- h.e] at this; exact this) λq hq=>by cases hq
theorem Is.un {A F:Nat} {x:Nd} {f:List Nd} {t:Tr} (h:Is A F f t) (hx:(xW x.op).1.x=true) (hy:(xW x.op).1.y=false) (hw:yM ⟨x.op,x.i,x.e,x.g,0,0⟩ 1=0) (hx0:x.y=0) (ho:Wj A F ⟨x.op,x.i,x.e,x.g,0,0⟩= true) (hl:VY t<200) :
  Is A F (pC x [f]) (.nd x.op x.i x.e x.g t .nil)/\ VY (.nd x.op x.i x.e x.g t .nil)<=VY t+1:=by
 have h1:=M8 hx hy hw h.wf;have hwf:Ta (.nd x.op x.i x.e x.g t .nil):=⟨hw,by rw [if_pos hx]; exact h.wf,by rw [if_neg (by rw [hy]; decide)]⟩;refine⟨?_,h1⟩;rw [Tl h.c hx hy hw hx0,h.e,if_neg (by unfold VY at h1 hl; omega)];obtain⟨a,b⟩:=U8 hwf (by unfold VY at h1 hl; omega);exact⟨a,b,ho,h.o,trivial⟩
end Te
open Rs Fm Ru Te
namespace Te
def TM (φ:Nat->Bool):Nat->BitVec 64
 | 0=>0#64
 | k+1=>TM φ k ||| (if φ k=true then 1#64 <<< k else 0#64)
theorem Xn {φ:Nat->Bool}:∀ (k i:Nat),k<=64->(TM φ k).getLsbD i=(decide (i<k)&& φ i)
 | 0,i,_=>by simp [TM]
 | k+1,i,hk=>by
  unfold TM;rw [A4,Xn k i (by omega)]
  by_cases e:i=k
  ·subst e
   cases hb:φ i
   ·simp
   ·rw [if_pos rfl,oF (by omega)];simp
  ·have h2:(if φ k=true then 1#64 <<< k else 0#64).getLsbD i=false:=by
    split
    ·rw [oF (by omega)]; exact decide_eq_false e
    ·exact Az
   rw [h2,Af];congr 1;exact decide_eq_decide.2 (by omega)
def sW (T W:Nat) (x:tJ):BitVec 64:=TM (λw=>x (pt T w)) W
theorem yI {T W:Nat} {x:tJ} (hW:W<=64) (i:Nat):(sW T W x).getLsbD i=(decide (i<W)&& x (pt T i)):=Xn W i hW
theorem eU {a b:BitVec 64} (h:∀ i,i<64->a.getLsbD i=b.getLsbD i):a=b:=BitVec.eq_of_getLsbD_eq h
theorem XK (r:List (BitVec 64)) (s:BitVec 64):∀ (k i:Nat),k<=64->(xm r s k).getLsbD i=(decide (i<k)&& (r.getD i 0 &&& ~~~s==0#64))
 | 0,i,_=>by simp [xm]
 | k+1,i,hk=>by
  unfold xm
  have e1:(if (r.getD k 0 &&& ~~~s==0#64)= true then xm r s k ||| 1#64 <<< k else xm r s k)= xm r s k ||| (if (r.getD k 0 &&& ~~~s==0#64)= true then 1#64 <<< k else 0#64):=by
   split
   ·rfl
   ·exact BitVec.or_zero.symm
  rw [e1,A4,XK r s k i (by omega)]
  by_cases e:i=k
  ·subst e
   cases hb:(r.getD i 0 &&& ~~~s==0#64)
   ·simp
   ·rw [if_pos rfl,oF (by omega)];simp
  ·have h2:(if (r.getD k 0 &&& ~~~s==0#64)= true then 1#64 <<< k else 0#64).getLsbD i=false:=by
    split
    ·rw [oF (by omega)]; exact decide_eq_false e
    ·exact Az
   rw [h2,Af];congr 1;exact decide_eq_decide.2 (by omega)
theorem WM {a s:BitVec 64}:(a &&& ~~~s==0#64)= true ↔ ∀ v,v<64->a.getLsbD v=true->s.getLsbD v=true:=by
 rw [beq_iff_eq]
 constructor
 ·intro h v hv ha;have:=congrArg (·.getLsbD v) h;simp only [A3,A0,ha,hv,Az] at this;simpa using this
 ·intro h;refine eU λv hv=>?_;rw [A3,A0,Az]
  cases ha:a.getLsbD v
  ·rfl
  ·rw [h v hv ha]; simp
theorem Y7 {rs:List xC} {T v:Nat} (h:v<rs.length*T):(wQ rs T).getD v (0,0)= pt T v:=bf T h
theorem NM {rs:List xC} {T:Nat} {P:Nat × Nat->Bool}:(wQ rs T).all P=true ↔ ∀ v,v<rs.length*T->P (pt T v)= true:=by
 rw [δ]
 constructor
 ·intro h v hv;refine h _ ?_;unfold wQ qF;exact ε.2 ⟨v,γ.2 hv,rfl⟩
 ·intro h q hq;unfold wQ qF at hq;obtain⟨v,hv,rfl⟩:=ε.1 hq;exact h v (γ.1 hv)
def YC (rs:List xC) (T:Nat) (r:List (BitVec 64)) (ρ:Nat × Nat->Nat × Nat->Bool):Prop:= r.length=rs.length*T/\∀ w,w<rs.length*T->∀ v,(r.getD w 0).getLsbD v=(decide (v<rs.length*T)&& ρ (pt T w) (pt T v))
theorem aR {rs:List xC} {T:Nat} (hW:rs.length*T<=64) {r:List (BitVec 64)} {ρ:Nat × Nat->Nat × Nat->Bool} (h:YC rs T r ρ) {s:BitVec 64} {x:tJ} (hs:∀ v,v<rs.length*T->s.getLsbD v=x (pt T v)) :
  gM r s=sW T (rs.length*T) λp=>(wQ rs T).all λq=>!ρ p q || x q:=by
 obtain⟨hl,hr⟩:=h;refine eU λi _=>?_;rw [yI hW,gM,XK r s _ i (by omega),hl]
 by_cases hi:i<rs.length*T
 ·rw [decide_eq_true hi,Ab,Ab,Ae,WM,NM]
  constructor
  ·intro h v hv
   cases e:ρ (pt T i) (pt T v) with
   | false=>rfl
   | true=> have:=h v (by omega) (by rw [hr i hi v,decide_eq_true hv,e]; rfl);rw [hs v hv] at this;simpa using this
  ·intro h v _ ha;rw [hr i hi v,Ac] at ha;have hv:=of_decide_eq_true ha.1;have:=h v hv;rw [ha.2] at this;rw [hs v hv];simpa using this
 ·rw [decide_eq_false hi,Ad,Ad]
section
variable {rs : List xC} {A F T : Nat}
theorem a8 {a:Nat} (ha:a<A) (hW:rs.length*T<=64):YC rs T ((oM rs (wQ rs T) A F).R.getD a []) λp q=>decide (yO rs a q=yO rs a p):=by
 have hl:(wQ rs T).length=rs.length*T:=tA T _
 have hg:(oM rs (wQ rs T) A F).R.getD a []=pH rs (wQ rs T) a:=by show (qC rs (wQ rs T) A).getD a []=_;simp [qC,List.getD,ha]
 rw [hg];refine⟨by simp [pH,hl],λw hw v=>?_⟩
 have hw':(pH rs (wQ rs T) a).getD w 0=Ru.jF rs (wQ rs T) a (yO rs a (pt T w)) (rs.length*T):=by
  have h1:w<(wQ rs T).length:=by omega
  have h2:=Y7 (rs:=rs) hw;rw [List.getD,μ h1] at h2;simp only [Option.getD_some] at h2;simp only [pH,List.getD,List.getElem?_map,μ h1,Option.map_some,Option.getD_some,h2,hl]
 rw [hw',gB _ _ hW]
 by_cases hv:v<rs.length*T
 ·rw [decide_eq_true hv,Y7 hv]
 ·rw [decide_eq_false hv,Ad,Ad]
theorem zr {m:rG} {W:Nat} (ok:lV m W) (hW:rs.length*T=W) (hR:m.R.length=A) {g:Nat} (hg:1<=g/\g<2 ^ m.R.length) (meet:Bool) (hk:∀ a,a<A->YC rs T (m.R.getD a []) λp q=>decide (yO rs a q=yO rs a p)) :
  YC rs T (wA m g meet) λp q=>if meet=true then bR rs A g p q else YH rs A g p q:=by
 obtain⟨⟨a0,ha0,hb0⟩,hl,hv⟩:=wc ok hg meet;refine⟨by rw [hl,hW],λw hw v=>?_⟩;rw [hv w (by omega) v];unfold tp;rw [hR] at ha0 ⊢
 have hbit:∀ a,a<A->((m.R.getD a []).getD w 0).getLsbD v=(decide (v<rs.length*T)&& decide (yO rs a (pt T w)= yO rs a (pt T v))):=λa ha=>by rw [(hk a ha).2 w hw v];congr 1;exact decide_eq_decide.2 ⟨λh=>h.symm,λh=>h.symm⟩
 cases meet with
 | true=>
  show _=(decide (v<rs.length*T)&& bR rs A g (pt T w) (pt T v));rw [if_pos rfl];unfold bR
  by_cases hvw:v<rs.length*T
  ·rw [decide_eq_true hvw,Ab];refine nO λa ha=>?_;rw [hbit a (γ.1 ha),decide_eq_true hvw,Ab]
  ·rw [decide_eq_false hvw,Ad];refine Aj.2 λh=>?_;rw [δ] at h;have:=h a0 (γ.2 ha0);rw [hb0,hbit a0 ha0,decide_eq_false hvw] at this;simp at this
 | false=>
  show _=(decide (v<rs.length*T)&& YH rs A g (pt T w) (pt T v));rw [if_neg (by decide)];unfold YH
  by_cases hvw:v<rs.length*T
  ·rw [decide_eq_true hvw,Ab,Ae,ζ,ζ]
   constructor
   ·rintro ⟨a,ha,h⟩;refine⟨a,ha,?_⟩
    rwa [hbit a (γ.1 ha),decide_eq_true hvw,Ab] at h
   ·rintro ⟨a,ha,h⟩;refine⟨a,ha,?_⟩
    rwa [hbit a (γ.1 ha),decide_eq_true hvw,Ab]
  ·rw [decide_eq_false hvw,Ad];refine Aj.2 λh=>?_;rw [ζ] at h;obtain⟨a,ha,h⟩:=h;rw [hbit a (γ.1 ha),decide_eq_false hvw] at h;simp at h
theorem fk {g:Nat} {x:tJ} {p:Nat × Nat}:uX rs A T g x p=(wQ rs T).all λq=>!YH rs A g p q || x q:=by
 rw [Ae,Z9,δ]
 constructor
 ·intro h q hq
  cases e:YH rs A g p q with
  | false=>rfl
  | true=>rw [h q hq e]; rfl
 ·intro h q hq e;have:=h q hq;rw [e] at this;simpa using this
theorem XB {W T:Nat} (hW:W<=64):sE W=sW T W λ_=>true:=by refine eU λi hi=>?_;rw [oC hW hi,yI hW,Ai]
theorem iG {m:rG} {W:Nat} (ok:lV m W) (hW:rs.length*T=W) (hR:m.R.length=A) {g:Nat} (hg:1<=g/\g<2 ^ m.R.length) (hk:∀ a,a<A->YC rs T (m.R.getD a []) λp q=>decide (yO rs a q=yO rs a p)) (x y:tJ) :
  ∀ n,pV (wA m g false) (sE W) (sW T W x) (sW T W y) n=sW T W (wJ rs A T g x y n)
 | 0=>by have:=ok.hW; exact XB this.2
 | n+1=>by
  have hW64:=ok.hW.2;show gM _ _=_;rw [iG ok hW hR hg hk x y n];have hrel:=zr ok hW hR hg false hk
  rw [aR (by omega) hrel (x:=λq=>!x q || (y q&&wJ rs A T g x y n q)) λv hv=>?_]
  ·rw [hW];congr 1;funext p;simp only [Ah,↓reduceIte];rw [<- fk];rfl
  ·rw [hW] at hv;simp only [A4,A3,A0,oC hW64 (show v<64 by omega),yI hW64,decide_eq_true hv,decide_eq_true (show v<64 by omega),Ab]
end
end Te
open Rs Fm Ru Te
namespace Te
def rL (A F:Nat) (n:Nd):Bool:= if n.op<1 then false else if n.op=3 then decide (n.i<(F:Int)) else if n.op<=8 then true else if n.op<=10 then decide (n.i<(A:Int)) else if n.op<=13 then decide (n.g<((2 ^ A:Nat):Int)) else false
theorem Rh {A F:Nat} {n:Nd} (h:n.op<1\/21<n.op):rL A F n=false:=by rcases h with h | h <;> unfold rL <;> repeat (first | rw [if_pos (by omega)] | rw [if_neg (by omega)])
theorem P9 {m:rG} {W:Nat} {n:Nd} {x y:BitVec 64} (h:n.op<1\/21<n.op):sR m W n x y=(0#64,false):=by unfold sR; repeat rw [if_neg (by omega)]
theorem pb {T W:Nat} {x y:tJ} (h:∀ v,v<W->x (pt T v)= y (pt T v)) (hW:W<=64):sW T W x=sW T W y:=by
 refine eU λi _=>?_;rw [yI hW,yI hW]
 by_cases hi:i<W
 ·rw [h i hi]
 ·rw [decide_eq_false hi,Ad,Ad]
theorem Og {rs:List xC} {T v:Nat} (hv:v<rs.length*T):pt T v ∈ wQ rs T:=by unfold wQ qF;exact ε.2 ⟨v,γ.2 hv,rfl⟩
theorem Py (rs:List xC) (A T g:Nat) (x y:tJ) {p:Nat × Nat} (hp:p ∈ wQ rs T):wJ rs A T g x y (rs.length*T+1) p=wJ rs A T g x y (rs.length*T) p:=by obtain⟨n,h1,h2⟩:=XN (rs:=rs) (A:=A) (T:=T) g x y;obtain⟨m,hm⟩:=Am h1;rw [hm,nD h2 m p hp,show n+m+1=n+(m+1) by omega,nD h2 (m+1) p hp]
section
variable {rs : List xC} {A F T : Nat}
theorem Nc (ok:kQ rs A F T) (hW:rs.length*T<=64) {g:Nat} (hg:1<=g/\g<2 ^ A) (x y:tJ) :
  pV (wA (oM rs (wQ rs T) A F) g false) (sE (rs.length*T)) (sW T (rs.length*T) x) (sW T (rs.length*T) y) (rs.length*T+1)= pV (wA (oM rs (wQ rs T) A F) g false) (sE (rs.length*T)) (sW T (rs.length*T) x) (sW T (rs.length*T) y) (rs.length*T):=by
 have hl:(wQ rs T).length=rs.length*T:=tA T _;have h1:1<=rs.length*T:=Aw ok.hR.1 ok.hT.1;have hm:=ar (F:=F) ok (l:=wQ rs T) (by omega) (by omega);rw [hl] at hm;have hRl:(oM rs (wQ rs T) A F).R.length=A:=by show (qC rs (wQ rs T) A).length=A; simp [qC]
 have hk:∀ a,a<A->YC rs T ((oM rs (wQ rs T) A F).R.getD a []) λp q=>decide (yO rs a q=yO rs a p):=λa ha=>a8 ha hW;rw [iG hm rfl hRl (by rw [hRl]; exact hg) hk,iG hm rfl hRl (by rw [hRl]; exact hg) hk];exact pb (λv hv=>Py rs A T g x y (Og hv)) hW
theorem Rx (ok:kQ rs A F T) (hW:rs.length*T<=64) {n:Nd} {k:Int} (hn:yM n k=0) {x y:BitVec 64} {tx ty:tJ} (hx:(xW n.op).1.x=true->x=sW T (rs.length*T) tx) (hy:(xW n.op).1.y=true->y=sW T (rs.length*T) ty) :
  sR (oM rs (wQ rs T) A F) (rs.length*T) n x y=if rL A F n=true then(sW T (rs.length*T) (zL rs A T n tx ty),true) else(0#64,false):=by
 have hl:(wQ rs T).length=rs.length*T:=tA T _;have h1:1<=rs.length*T:=Aw ok.hR.1 ok.hT.1;have hm:=ar (F:=F) ok (l:=wQ rs T) (by omega) (by omega);rw [hl] at hm;have hRl:(oM rs (wQ rs T) A F).R.length=A:=by show (qC rs (wQ rs T) A).length=A; simp [qC]
 have hVl:(oM rs (wQ rs T) A F).V.length=F:=by show (jI rs (wQ rs T) F).length=F; simp [jI]
 have hk:∀ a,a<A->YC rs T ((oM rs (wQ rs T) A F).R.getD a []) λp q=>decide (yO rs a q=yO rs a p):=λa ha=>a8 ha hW
 have hVg:∀ f,f<F->∀ i,((oM rs (wQ rs T) A F).V.getD f 0).getLsbD i=(decide (i<rs.length*T)&& (lZ rs (pt T i)).getLsbD f):=λf hf i=>by
  have e:(oM rs (wQ rs T) A F).V.getD f 0=mA rs (wQ rs T) f (wQ rs T).length:=by show (jI rs (wQ rs T) F).getD f 0=_;simp [jI,List.getD,hf]
  rw [e,hl,rk _ _ hW]
  by_cases hi:i<rs.length*T
  ·rw [Y7 hi]
  ·rw [decide_eq_false hi,Ad,Ad]
 have hi0:n.op=3\/n.op=9\/n.op=10->0<=n.i:=λh=>by
  rcases h with h | h | h
  ·exact(lQ hn (by rw [h]; rfl)).1
  ·exact(uJ hn (by rw [h]; rfl)).1
  ·exact(uJ hn (by rw [h]; rfl)).1
 have hg0:n.op=11\/n.op=12\/n.op=13->1<=n.g/\n.g<=15:=λh=>by
  have hgr:(xW n.op).1.gr=true:=by rcases h with h | h | h <;> rw [h] <;> rfl
  have h1:=(wN.1 hn).2.2.2.2;simp only [Ag,hgr,xG,Ab,decide_eq_false_iff_not] at h1;omega
 obtain⟨op,i,e,g,a,b⟩:=n;simp only at hi0 hg0 hx hy;generalize hm':oM rs (wQ rs T) A F=m at *;generalize hWW:rs.length*T=W at *;have fin:∀ {p q:BitVec 64},(∀ v,v<64->p.getLsbD v=q.getLsbD v)->(p,true)= (q,true):=λh=>by rw [eU h]
 rcases sU op with rfl | rfl | rfl | rfl | rfl | rfl | rfl | rfl | rfl | rfl | rfl | rfl | rfl | rfl | rfl | rfl | rfl | rfl | rfl | rfl | rfl | h | h
 ·show (sE W,true)= (sW T W λ_=>true,true);rw [XB hW]
 ·show (0#64,true)= (sW T W λ_=>false,true);refine fin λv _=>?_;rw [yI hW,Al,Az]
 ·have h0:=hi0 (.inl rfl);show (if i<(m.V.length:Int) then(m.V.getD i.toNat 0,true) else(0#64,false))= if decide (i<(F:Int))= true then(sW T W λp=>(lZ rs p).getLsbD i.toNat,true) else(0#64,false);rw [hVl]
  by_cases hlt:i<(F:Int)
  ·rw [if_pos hlt,if_pos (decide_eq_true hlt)];refine fin λv _=>?_;rw [hVg i.toNat (by omega),yI hW]
  ·rw [if_neg hlt,if_neg (by simpa using hlt)]
 ·have hx:=hx rfl;show (sE W &&& ~~~x,true)= (sW T W λp=>!tx p,true);refine fin λv hv=>?_;rw [hx,A3,A0,oC hW hv,yI hW,yI hW,decide_eq_true hv];cases decide (v<W) <;> simp
 ·have hx:=hx rfl;have hy:=hy rfl;show (x &&& y,true)= (sW T W λp=>tx p&&ty p,true);refine fin λv hv=>?_;rw [hx,hy,A3,yI hW,yI hW,yI hW];cases decide (v<W) <;> simp
 ·have hx:=hx rfl;have hy:=hy rfl;show (x ||| y,true)= (sW T W λp=>tx p || ty p,true);refine fin λv hv=>?_;rw [hx,hy,A4,yI hW,yI hW,yI hW];cases decide (v<W) <;> simp
 ·have hx:=hx rfl;have hy:=hy rfl;show (sE W &&& ~~~x ||| y,true)= (sW T W λp=>!tx p || ty p,true);refine fin λv hv=>?_;rw [hx,hy,A4,A3,A0,oC hW hv,yI hW,yI hW,yI hW,decide_eq_true hv];cases decide (v<W) <;> simp
 ·have hx:=hx rfl;have hy:=hy rfl;show (sE W &&& ~~~(x ^^^ y),true)= (sW T W λp=>tx p==ty p,true);refine fin λv hv=>?_;rw [hx,hy,A3,A0,BitVec.getLsbD_xor,oC hW hv,yI hW,yI hW,yI hW,decide_eq_true hv];cases decide (v<W) <;> cases tx (pt T v) <;> cases ty (pt T v) <;> rfl
 ·have h0:=hi0 (.inr (.inl rfl));have hx:=hx rfl;show (if i<(m.R.length:Int) then(gM (m.R.getD i.toNat []) x,true) else(0#64,false))= if decide (i<(A:Int))= true then(sW T W (wS rs T i.toNat tx),true) else(0#64,false);rw [hRl]
  by_cases hlt:i<(A:Int)
  ·rw [if_pos hlt,if_pos (decide_eq_true hlt)];have:=aR (by omega) (hk i.toNat (by omega)) (s:=x) (x:=tx) λv hv=>by rw [hx,yI hW,decide_eq_true (by omega),Ab]
   rw [this,hWW];rfl
  ·rw [if_neg hlt,if_neg (by simpa using hlt)]
 ·have h0:=hi0 (.inr (.inr rfl));have hx:=hx rfl;show (if i<(m.R.length:Int) then(VJ (m.R.getD i.toNat []) x,true) else(0#64,false))= if decide (i<(A:Int))= true then(sW T W λp=>!wS rs T i.toNat (λq=>!tx q) p,true) else(0#64,false);rw [hRl]
  by_cases hlt:i<(A:Int)
  ·rw [if_pos hlt,if_pos (decide_eq_true hlt)];have hkk:=hk i.toNat (by omega);have:=aR (by omega) hkk (s:= ~~~x) (x:=λq=>!tx q) λv hv=>by rw [hx,A0,yI hW,decide_eq_true (show v<64 by omega),decide_eq_true (show v<W by omega),Ab,Ab]
   unfold VJ;rw [this,hkk.1,hWW];refine fin λv hv=>?_;rw [A3,A0,oC hW hv,yI hW,yI hW,decide_eq_true hv];show (decide (v<W)&& (true&&!(decide (v<W)&& wS rs T i.toNat (λq=>!tx q) (pt T v))))= _;cases decide (v<W) <;> simp
  ·rw [if_neg hlt,if_neg (by simpa using hlt)]
 ·have h0:=hg0 (.inl rfl);have hx:=hx rfl;show (if g<((2 ^ m.R.length:Nat):Int) then(gM (wA m g.toNat false) x,true) else(0#64,false))= if decide (g<((2 ^ A:Nat):Int))= true then(sW T W (uX rs A T g.toNat tx),true) else(0#64,false);rw [hRl]
  by_cases hlt:g<((2 ^ A:Nat):Int)
  ·rw [if_pos hlt,if_pos (decide_eq_true hlt)];have hrel:=zr hm hWW hRl (g:=g.toNat) (by rw [hRl]; omega) false hk;have:=aR (by omega) hrel (s:=x) (x:=tx) λv hv=>by rw [hx,yI hW,decide_eq_true (by omega),Ab]
   rw [this,hWW];refine congrArg (λz=>(z,true)) (pb (λv _=>?_) hW);rw [fk];rfl
  ·rw [if_neg hlt,if_neg (by simpa using hlt)]
 ·have h0:=hg0 (.inr (.inl rfl));have hx:=hx rfl;show (if g<((2 ^ m.R.length:Nat):Int) then(gM (wA m g.toNat true) x,true) else(0#64,false))= if decide (g<((2 ^ A:Nat):Int))= true then(sW T W (kG rs A T g.toNat tx),true) else(0#64,false);rw [hRl]
  by_cases hlt:g<((2 ^ A:Nat):Int)
  ·rw [if_pos hlt,if_pos (decide_eq_true hlt)];have hrel:=zr hm hWW hRl (g:=g.toNat) (by rw [hRl]; omega) true hk;have:=aR (by omega) hrel (s:=x) (x:=tx) λv hv=>by rw [hx,yI hW,decide_eq_true (by omega),Ab]
   rw [this,hWW];rfl
  ·rw [if_neg hlt,if_neg (by simpa using hlt)]
 ·have h0:=hg0 (.inr (.inr rfl));have hx:=hx rfl;have hy:=hy rfl;show (if g<((2 ^ m.R.length:Nat):Int) then(pV (wA m g.toNat false) (sE W) x y W,true) else(0#64,false))= if decide (g<((2 ^ A:Nat):Int))= true then(sW T W (pM rs A T g.toNat tx ty),true) else(0#64,false);rw [hRl]
  by_cases hlt:g<((2 ^ A:Nat):Int)
  ·rw [if_pos hlt,if_pos (decide_eq_true hlt),hx,hy,iG hm hWW hRl (by rw [hRl]; omega) hk];unfold pM;rw [hWW]
  ·rw [if_neg hlt,if_neg (by simpa using hlt)]
 all_goals first
  | rfl
  | (rw [Rh (by first | exact .inl h | exact .inr h),if_neg (by decide)]; exact P9 (by first | exact .inl h | exact .inr h))
end
end Te
end Go.Pd

/- Part C7. -/
namespace Go.Pd
open Go Go.Proofs
open BitVec renaming isValue -> ZA
open Rs Fm Ru Te
namespace Te
def nB {α:Type} (L:Nat) (g h:Nat->α) (k:Nat):List α:=(List.range L).map λi=>if i<k then g i else h i
theorem Xe {α:Type} (L:Nat) (g h:Nat->α) (k:Nat):(nB L g h k).length=L:=by simp [nB]
theorem aG {α:Type} {L:Nat} (g h:Nat->α) (k:Nat) {i:Nat} (hi:i<L) (d:α):(nB L g h k).getD i d=if i<k then g i else h i:=by simp [nB,List.getD,hi]
theorem Xf {α:Type} (L:Nat) (g h:Nat->α) (k:Nat):(nB L g h k).set k (g k)= nB L g h (k+1):=by
 refine ν (by simp [nB]) λi h1 h2=>?_;rw [χ];simp only [nB,ω,υ]
 by_cases e:k=i
 ·subst e; rw [if_pos rfl,if_pos (by omega)]
 ·rw [if_neg e]
  by_cases hk:i<k
  ·rw [if_pos hk,if_pos (by omega)]
  ·rw [if_neg hk,if_neg (by omega)]
theorem ij {α:Type} {L:Nat} {g h:Nat->α} {k:Nat} (e:g k=h k):nB L g h k=nB L g h (k+1):=by
 unfold nB;refine θ λi _=>?_
 by_cases hk:i<k
 ·rw [if_pos hk,if_pos (by omega)]
 ·rw [if_neg hk]
  by_cases e2:i=k
  ·subst e2; rw [if_pos (by omega),e]
  ·rw [if_neg (by omega)]
theorem ik {α:Type} (L:Nat) (g:Nat->α) (c:α):nB L g (λ_=>c) 0=List.replicate L c:=by refine ν (by simp [nB]) λi h1 h2=>by simp [nB]
theorem Xd {α:Type} (L:Nat) (g h:Nat->α):nB L g h L=(List.range L).map g:=by refine θ λf hf=>?_;rw [if_pos (γ.1 hf)]
def lh (op:Int):Bool:=(decide (5<=op)&& decide (op<=8)) || decide (op=13)
def okF (f:List Nd) (fv:Nat->Bool) (k:Nat):Bool:=(if 4<=(f.getD k wK).op then fv (f.getD k wK).x.toNat else true)&& (if lh (f.getD k wK).op=true then fv (f.getD k wK).y.toNat else true)
end Te
theorem LI {m:rG} {f:List Nd} (hc:yZ f=0) (hreq:yW prog 176 [m.d,.sl 6 (zG f)] (.int .i64 0)) {sv:Nat->BitVec 64} {fv:Nat->Bool}
  (hcall:∀ k,k<f.length->okF f fv k=true->∀ x y,((xW (f.getD k wK).op).1.x=true->x=sv (f.getD k wK).x.toNat)->((xW (f.getD k wK).op).1.y=true->y=sv (f.getD k wK).y.toNat) ->
   yW prog 177 [m.d,.agg (f.getD k wK).row,.int .u64 (ui x),.int .u64 (ui y)] (.wE [.int .u64 (ui (sv k)),.bool (fv k)]))
  (hno:∀ k,k<f.length->okF f fv k=false->sv k=0#64/\fv k=false) :
  yW prog 113 [m.d,.sl 6 (zG f)] (.wE [.sl 1 (us ((List.range f.length).map sv)),.int .i64 0]):=by
 obtain⟨c1,c2,c3⟩:=vH hc;have hn:0<f.length:=τ.2 c1;unfold rG.d at hreq hcall ⊢;refine xY.xQ mixed func113 Ho (by simp) λhf=>?_;simp only [simprocAttr,-ZA,↓zU,↓zD,zV,zT,zW]
 (repeat refine sd ?_)
 refine .go (cr hreq) ?_;simp only [simprocAttr,-ZA,↓zU,↓zD,zV,zT,zW,xI]
 (repeat refine sd ?_)
 refine xO (λk:Nat=>[(26,.int .i64 k),(25,.int .i64 f.length),(24,.sl 6 (zG f)),(8,.yD 2 1 f.length),(7,.yD 1 1 f.length),(2,.ref 0 3 0 0)])
  (λk=>⟨3,[(2,⟨1,rb (nB f.length fv (λ_=>false) k)⟩),(1,⟨1,us (nB f.length sv (λ_=>0#64) k)⟩),(0,⟨3,[[.int .i64 m.W,.sl 1 (us m.V),.sl 1 (rr m.R)]]⟩)]⟩)
  (λk=>k<=f.length) (λk=>f.length-k) 0 (Ao _) ?_ ?_
 ·rw [ik,ik,<- xy,<- w8]
  (refine xT.same ?_; simp [xR,Fr.get])
 intro k hk;refine xL mixed ?_;by_cases hkl:k<f.length
 case neg=>
  have hd:¬ ((k:Int)<(f.length:Int)):=by omega
  have hke:k=f.length:=by omega
  subst hke;rw [Xd,Xd];have hlen:((List.range f.length).map sv).length=f.length:=by simp
  generalize (List.range f.length).map sv=l at hlen ⊢;simp only [simprocAttr,-ZA,↓zU,↓zD,zV,zT,zW,hd];refine .drop (by simp) ?_;simp only [vw,uR];exact⟨rfl,⟨trivial,by decide,by simp,⟨1,us l⟩,rfl,rfl,by simp only [xH]; omega,by rw [<- hlen,<- xH,List.take_length],oS l⟩,trivial,trivial⟩
 have hd:((k:Int)<(f.length:Int)):=by omega
 have hcall:=hcall k hkl;have hno:=hno k hkl;have hnd:=c3 k hkl;have hg:=sX f hkl;have hux:=Sw (f.getD k wK).op;obtain⟨hox,hoy⟩:=mQ hnd;obtain⟨⟨x,hx,hxk⟩,⟨y,hy,hyk⟩⟩:=W5 hnd;unfold okF at hcall hno;generalize f.getD k wK=p at hcall hno hnd hg hux hox hoy hx hy;obtain⟨op,i,e,g,px,py⟩:=p;simp only at hx hy;subst hx hy;have hrow:(Nd.row ⟨op,i,e,g,x,y⟩)= [.int .i64 op,.int .i64 i,.int .i64 e,.int .i64 g,.int .i64 x,.int .i64 y]:=rfl;rw [hrow] at hg hcall;have hxl:x<f.length:=by omega
 have hyl:y<f.length:=by omega
 have hxl':((x:Int)<(f.length:Int)):=by omega
 have hyl':((y:Int)<(f.length:Int)):=by omega
 have hSx:=aG sv (λ_=>0#64) k hxl 0#64;have hSy:=aG sv (λ_=>0#64) k hyl 0#64;have hBx:=aG fv (λ_=>false) k hxl false;have hBy:=aG fv (λ_=>false) k hyl false;have hSl:=Xe f.length sv (λ_=>0#64) k;have hBl:=Xe f.length fv (λ_=>false) k;have hSs:=Xf f.length sv (λ_=>0#64) k;have hBs:=Xf f.length fv (λ_=>false) k;have hSk:sv k=0#64->nB f.length sv (λ_=>0#64) k=nB f.length sv (λ_=>0#64) (k+1):=λh=>ij h;have hBk:fv k=false->nB f.length fv (λ_=>false) k=nB f.length fv (λ_=>false) (k+1):=λh=>ij h;generalize nB f.length sv (λ_=>0#64) k=S at hSx hSy hSl hSs hSk ⊢;generalize nB f.length fv (λ_=>false) k=B at hBx hBy hBl hBs hBk ⊢;simp only [A6] at hcall hno hux hox hoy;have gSx:=vL S (show x<S.length by omega);have gSy:=vL S (show y<S.length by omega);have gBx:=Y8 B (show x<B.length by omega);have gBy:=Y8 B (show y<B.length by omega)
 have hop:1<=op/\op<=21:=by have h2:=(wN.1 hnd).1;simp only at h2;refine Decidable.byContradiction λhh=>?_;rw [vY (by omega)] at h2;cases h2
 have hxu:(xW op).1.x=true->S.getD x 0#64=sv x:=λh=>by rw [hSx,if_pos (by have:=hox h; omega)]
 have hyu:(xW op).1.y=true->S.getD y 0#64=sv y:=λh=>by rw [hSy,if_pos (by have:=hoy h; omega)]
 have hfx:4<=op->B.getD x false=fv x:=λh=>by
  have hu:(xW op).1.x=true:=by rw [hux,decide_eq_true h,decide_eq_true hop.2]; rfl
  rw [hBx,if_pos (by have:=hox hu; omega)]
 have hby:lh op=true->(xW op).1.y=true:=λh=>by
  unfold lh at h;simp only [Ak,Ac,decide_eq_true_eq] at h;have:op=5\/op=6\/op=7\/op=8\/op=13:=by omega
  rcases this with rfl | rfl | rfl | rfl | rfl <;> rfl
 have hfy:lh op=true->B.getD y false=fv y:=λh=>by rw [hBy,if_pos (by have:=hoy (hby h); omega)]
 have hc':=λh=>hcall h (S.getD x 0#64) (S.getD y 0#64) hxu hyu;clear hcall hxu hyu hSx hSy hBx hBy;generalize S.getD x 0#64=sx at gSx hc';generalize S.getD y 0#64=sy at gSy hc';generalize B.getD x false=bx at gBx hfx;generalize B.getD y false=by' at gBy hfy
 have hwu:IntKind.i64.wrap ((k:Int)+ 1)= ((k+1:Nat):Int):=wrap_i64 (by omega);have gSk:=vL S (show k<S.length by omega);have gBk:=Y8 B (show k<B.length by omega);by_cases h4:4<=op
 case neg=>
  have h5:¬ (5:Int)<=op:=by omega
  have h13:(op==13)= false:=by rw [beq_eq_false_iff_ne]; omega
  have hb:lh op=false:=by unfold lh; rw [decide_eq_false h5,decide_eq_false (show ¬ op=13 by omega)]; rfl
  simp only [simprocAttr,-ZA,↓zU,↓zD,zV,zT,zW,hd,hwu,xI,hg,xH,rF,hSl,hBl,hxl',hyl',gSx,gSy,gBx,gBy,gSk,gBk,eB,h4,h5,h13]
  (repeat refine sd ?_)
  refine .go (xY.zP (hc' (by rw [if_neg h4,hb]; rfl)) (by simp [D.xP,D.xD])) ?_;simp only [simprocAttr,-ZA,↓zU,↓zD,zV,zT,zW,hd,hwu,xI,hg,xH,rF,hSl,hBl,hxl',hyl',gSx,gSy,gBx,gBy,gSk,gBk,eB,h4,h5,h13,jC,sr,hSs,hBs]
  (repeat refine sd ?_)
  refine⟨k+1,by omega,?_,by omega⟩
  (refine xT.sZ [] [2,1,0] (by simp) (by simp) (by decide) ?_; simp only [yT,zQ,simprocAttr,-ZA,exists_eq_left',ne_eq,zR,wU,rW])
 have hfx:=hfx h4;subst hfx;rw [if_pos h4] at hc' hno
 cases hb:lh op with
 | false=>
  rw [hb,if_neg (by decide),Ai] at hc' hno
  have h13:(op==13)= false:=by rw [beq_eq_false_iff_ne]; rintro rfl; cases hb
  have h58:¬ (5<=op/\op<=8):=by rintro ⟨z1,z2⟩; unfold lh at hb; rw [decide_eq_true z1,decide_eq_true z2] at hb; cases hb
  by_cases h5:5<=op
  ·have h8:¬ op<=8:=by omega
   cases hf:fv x with
   | true=>
    simp only [simprocAttr,-ZA,↓zU,↓zD,zV,zT,zW,hd,hwu,xI,hg,xH,rF,hSl,hBl,hxl',hyl',gSx,gSy,gBx,gBy,gSk,gBk,eB,h4,h5,h8,h13,hf]
    (repeat refine sd ?_)
    refine .go (cr (hc' hf)) ?_;simp only [simprocAttr,-ZA,↓zU,↓zD,zV,zT,zW,hd,hwu,xI,hg,xH,rF,hSl,hBl,hxl',hyl',gSx,gSy,gBx,gBy,gSk,gBk,eB,h4,h5,h8,h13,hf,jC,sr,hSs,hBs]
    (repeat refine sd ?_)
    refine⟨k+1,by omega,?_,by omega⟩
    (refine xT.sZ [] [2,1,0] (by simp) (by simp) (by decide) ?_; simp only [yT,zQ,simprocAttr,-ZA,exists_eq_left',ne_eq,zR,wU,rW])
   | false=>
    simp only [simprocAttr,-ZA,↓zU,↓zD,zV,zT,zW,hd,hwu,xI,hg,xH,rF,hSl,hBl,hxl',hyl',gSx,gSy,gBx,gBy,gSk,gBk,eB,h4,h5,h8,h13,hf]
    (repeat refine sd ?_)
    obtain⟨q1,q2⟩:=hno hf;rw [hSk q1,hBk q2];refine⟨k+1,by omega,?_,by omega⟩
    (refine xT.sZ [] [2,1,0] (by simp) (by simp) (by decide) ?_; simp only [yT,zQ,simprocAttr,-ZA,exists_eq_left',ne_eq,zR,wU,rW])
  ·cases hf:fv x with
   | true=>
    simp only [simprocAttr,-ZA,↓zU,↓zD,zV,zT,zW,hd,hwu,xI,hg,xH,rF,hSl,hBl,hxl',hyl',gSx,gSy,gBx,gBy,gSk,gBk,eB,h4,h5,h13,hf]
    (repeat refine sd ?_)
    refine .go (cr (hc' hf)) ?_;simp only [simprocAttr,-ZA,↓zU,↓zD,zV,zT,zW,hd,hwu,xI,hg,xH,rF,hSl,hBl,hxl',hyl',gSx,gSy,gBx,gBy,gSk,gBk,eB,h4,h5,h13,hf,jC,sr,hSs,hBs]
    (repeat refine sd ?_)
    refine⟨k+1,by omega,?_,by omega⟩
    (refine xT.sZ [] [2,1,0] (by simp) (by simp) (by decide) ?_; simp only [yT,zQ,simprocAttr,-ZA,exists_eq_left',ne_eq,zR,wU,rW])
   | false=>
    simp only [simprocAttr,-ZA,↓zU,↓zD,zV,zT,zW,hd,hwu,xI,hg,xH,rF,hSl,hBl,hxl',hyl',gSx,gSy,gBx,gBy,gSk,gBk,eB,h4,h5,h13,hf]
    (repeat refine sd ?_)
    obtain⟨q1,q2⟩:=hno hf;rw [hSk q1,hBk q2];refine⟨k+1,by omega,?_,by omega⟩
    (refine xT.sZ [] [2,1,0] (by simp) (by simp) (by decide) ?_; simp only [yT,zQ,simprocAttr,-ZA,exists_eq_left',ne_eq,zR,wU,rW])
 | true=>
  have hfy:=hfy hb;subst hfy;rw [hb,if_pos rfl] at hc' hno
  by_cases h13:op=13
  ·subst h13
   cases hf:fv x with
   | false=>
    simp only [simprocAttr,-ZA,↓zU,↓zD,zV,zT,zW,hd,hwu,xI,hg,xH,rF,hSl,hBl,hxl',hyl',gSx,gSy,gBx,gBy,gSk,gBk,eB,hf]
    (repeat refine sd ?_)
    obtain⟨q1,q2⟩:=hno (by rw [hf]; rfl);rw [hSk q1,hBk q2];refine⟨k+1,by omega,?_,by omega⟩
    (refine xT.sZ [] [2,1,0] (by simp) (by simp) (by decide) ?_; simp only [yT,zQ,simprocAttr,-ZA,exists_eq_left',ne_eq,zR,wU,rW])
   | true=>
    cases hf2:fv y with
    | true=>
     simp only [simprocAttr,-ZA,↓zU,↓zD,zV,zT,zW,hd,hwu,xI,hg,xH,rF,hSl,hBl,hxl',hyl',gSx,gSy,gBx,gBy,gSk,gBk,eB,hf,hf2]
     (repeat refine sd ?_)
     refine .go (xY.zP (hc' (by rw [hf,hf2]; rfl)) (by simp [D.xP,D.xD])) ?_;simp only [simprocAttr,-ZA,↓zU,↓zD,zV,zT,zW,hd,hwu,xI,hg,xH,rF,hSl,hBl,hxl',hyl',gSx,gSy,gBx,gBy,gSk,gBk,eB,hf,hf2,jC,sr,hSs,hBs]
     (repeat refine sd ?_)
     refine⟨k+1,by omega,?_,by omega⟩
     (refine xT.sZ [] [2,1,0] (by simp) (by simp) (by decide) ?_; simp only [yT,zQ,simprocAttr,-ZA,exists_eq_left',ne_eq,zR,wU,rW])
    | false=>
     simp only [simprocAttr,-ZA,↓zU,↓zD,zV,zT,zW,hd,hwu,xI,hg,xH,rF,hSl,hBl,hxl',hyl',gSx,gSy,gBx,gBy,gSk,gBk,eB,hf,hf2]
     (repeat refine sd ?_)
     obtain⟨q1,q2⟩:=hno (by rw [hf,hf2]; rfl);rw [hSk q1,hBk q2];refine⟨k+1,by omega,?_,by omega⟩
     (refine xT.sZ [] [2,1,0] (by simp) (by simp) (by decide) ?_; simp only [yT,zQ,simprocAttr,-ZA,exists_eq_left',ne_eq,zR,wU,rW])
  ·have h58:5<=op/\op<=8:=by unfold lh at hb; rw [decide_eq_false h13,Af,Ac] at hb; exact⟨of_decide_eq_true hb.1,of_decide_eq_true hb.2⟩
   have h5:=h58.1;have h8:=h58.2
   cases hf:fv x with
   | false=>
    simp only [simprocAttr,-ZA,↓zU,↓zD,zV,zT,zW,hd,hwu,xI,hg,xH,rF,hSl,hBl,hxl',hyl',gSx,gSy,gBx,gBy,gSk,gBk,eB,h4,h5,h8,hf]
    (repeat refine sd ?_)
    obtain⟨q1,q2⟩:=hno (by rw [hf]; rfl);rw [hSk q1,hBk q2];refine⟨k+1,by omega,?_,by omega⟩
    (refine xT.sZ [] [2,1,0] (by simp) (by simp) (by decide) ?_; simp only [yT,zQ,simprocAttr,-ZA,exists_eq_left',ne_eq,zR,wU,rW])
   | true=>
    cases hf2:fv y with
    | true=>
     simp only [simprocAttr,-ZA,↓zU,↓zD,zV,zT,zW,hd,hwu,xI,hg,xH,rF,hSl,hBl,hxl',hyl',gSx,gSy,gBx,gBy,gSk,gBk,eB,h4,h5,h8,hf,hf2]
     (repeat refine sd ?_)
     refine .go (xY.zP (hc' (by rw [hf,hf2]; rfl)) (by simp [D.xP,D.xD])) ?_;simp only [simprocAttr,-ZA,↓zU,↓zD,zV,zT,zW,hd,hwu,xI,hg,xH,rF,hSl,hBl,hxl',hyl',gSx,gSy,gBx,gBy,gSk,gBk,eB,h4,h5,h8,hf,hf2,jC,sr,hSs,hBs]
     (repeat refine sd ?_)
     refine⟨k+1,by omega,?_,by omega⟩
     (refine xT.sZ [] [2,1,0] (by simp) (by simp) (by decide) ?_; simp only [yT,zQ,simprocAttr,-ZA,exists_eq_left',ne_eq,zR,wU,rW])
    | false=>
     simp only [simprocAttr,-ZA,↓zU,↓zD,zV,zT,zW,hd,hwu,xI,hg,xH,rF,hSl,hBl,hxl',hyl',gSx,gSy,gBx,gBy,gSk,gBk,eB,h4,h5,h8,hf,hf2]
     (repeat refine sd ?_)
     obtain⟨q1,q2⟩:=hno (by rw [hf,hf2]; rfl);rw [hSk q1,hBk q2];refine⟨k+1,by omega,?_,by omega⟩
     (refine xT.sZ [] [2,1,0] (by simp) (by simp) (by decide) ?_; simp only [yT,zQ,simprocAttr,-ZA,exists_eq_left',ne_eq,zR,wU,rW])
open Rs Fm Ru Te
theorem Ul {m:rG} {W:Nat} (ok:lV m W) {f:List Nd} (hc:yZ f=0) (hfr:(tS .andNot .i64 (zH f:Int) 15 != 0)= false) (hft:tU f m.R.length m.V.length=true):yW prog 176 [m.d,.sl 6 (zG f)] (.int .i64 0):=by
 have h1:=ov ok;have h2:=mM f;have h3:=ug f;have h4:=cd f m.R.length m.V.length;rw [hc] at h2;rw [hft] at h4;unfold rG.d at h1 ⊢;refine xY.xQ mixed func176 Ig (by simp) λhf=>?_;simp only [simprocAttr,-ZA,↓zU,↓zD,zV,zT,zW]
 (repeat refine sd ?_)
 refine .go (cr h1) ?_;simp only [simprocAttr,-ZA,↓zU,↓zD,zV,zT,zW];refine .go (cr h2) ?_;simp only [simprocAttr,-ZA,↓zU,↓zD,zV,zT,zW];refine .go (cr h3) ?_;simp only [simprocAttr,-ZA,↓zU,↓zD,zV,zT,zW,hfr,wO,xH]
 (repeat refine sd ?_)
 refine .go (cr h4) ?_;simp only [simprocAttr,-ZA,↓zU,↓zD,zV,zT,zW];exact .dv
namespace Te
def tT (A F:Nat):Tr->Bool
 | .nil=>true
 | .nd op i e g x y=>rL A F ⟨op,i,e,g,0,0⟩&& (tT A F x&&tT A F y)
def xq (rs:List xC) (A F T:Nat) (t:Tr):BitVec 64:=if tT A F t=true then sW T (rs.length*T) (eD rs A T t) else 0#64
def PU (rs:List xC) (A F T:Nat) (t:Tr):tJ:=if tT A F t=true then eD rs A T t else λ_=>false
theorem RZ (rs:List xC) (A F T:Nat) (hW:rs.length*T<=64) (t:Tr):xq rs A F T t=sW T (rs.length*T) (PU rs A F T t):=by
 unfold xq PU
 split
 ·rfl
 ·refine eU λi _=>?_;rw [yI hW,Al,Az]
theorem aK {A F:Nat} {op i e g:Int} (h:rL A F ⟨op,i,e,g,0,0⟩= true):1<=op/\op<=13:=by
 unfold rL at h;simp only at h
 refine⟨Decidable.byContradiction λhh=>?_,Decidable.byContradiction λhh=>?_⟩
 ·rw [if_pos (by omega)] at h; cases h
 ·rw [if_neg (by omega),if_neg (by omega),if_neg (by omega),if_neg (by omega),if_neg (by omega)] at h; cases h
theorem XJ {op:Int} (h1:1<=op) (h2:op<=13):(xW op).1.y=lh op/\(xW op).1.x=decide (4<=op):=by
 have:op=1\/op=2\/op=3\/op=4\/op=5\/op=6\/op=7\/op=8\/op=9\/op=10\/op=11\/op=12\/op=13:=by omega
 rcases this with rfl | rfl | rfl | rfl | rfl | rfl | rfl | rfl | rfl | rfl | rfl | rfl | rfl <;> exact⟨rfl,rfl⟩
end Te
theorem XL {rs:List xC} {A F T:Nat} (ok:kQ rs A F T) (hW:rs.length*T<=64) {f:List Nd} (hc:yZ f=0) (hfr:(tS .andNot .i64 (zH f:Int) 15 != 0)= false) (hft:tU f A F=true) :
  yW prog 54 [(oM rs (wQ rs T) A F).d,.sl 6 (zG f)] (.wE [.int .u64 (ui (xq rs A F T (uE f))),.int .i64 0]):=by
 have hl:(wQ rs T).length=rs.length*T:=tA T _;have h1:1<=rs.length*T:=Aw ok.hR.1 ok.hT.1;have hm:=ar (F:=F) ok (l:=wQ rs T) (by omega) (by omega);rw [hl] at hm;have hRl:(oM rs (wQ rs T) A F).R.length=A:=by show (qC rs (wQ rs T) A).length=A; simp [qC]
 have hVl:(oM rs (wQ rs T) A F).V.length=F:=by show (jI rs (wQ rs T) F).length=F; simp [jI]
 obtain⟨c1,c2,c3⟩:=vH hc;have hn:0<f.length:=τ.2 c1;have hreq:=Ul hm hc hfr (by rw [hRl,hVl]; exact hft);have hS:=LI (sv:=λk=>xq rs A F T (tree f k)) (fv:=λk=>tT A F (tree f k)) hc hreq (λk hk hok x y hx hy=>?_) λk hk hno=>?_
 rotate_left
 ·have hnd:=c3 k hk;have ht:=tR c3 hk;unfold okF at hok;dsimp only at hok;generalize f.getD k wK=n at hnd ht hok hx hy ⊢;rw [RZ rs A F T hW] at hx hy
  have hcom:n.op=13->n.g<(2 ^ (oM rs (wQ rs T) A F).R.length:Nat)->pV (wA (oM rs (wQ rs T) A F) n.g.toNat false) (sE (rs.length*T)) x y (rs.length*T+1)= pV (wA (oM rs (wQ rs T) A F) n.g.toNat false) (sE (rs.length*T)) x y (rs.length*T):=λh13 hg=>by
   have hu:(xW n.op).1.x=true/\(xW n.op).1.y=true/\(xW n.op).1.gr=true:=by rw [h13]; exact⟨rfl,rfl,rfl⟩
   have h1:=(wN.1 hnd).2.2.2.2;simp only [Ag,hu.2.2,xG,Ab,decide_eq_false_iff_not] at h1;rw [hRl] at hg;rw [hx hu.1,hy hu.2.1];exact Nc ok hW (by omega) _ _
  have hv:=PA hm hnd (x:=x) (y:=y) hcom;have hs:=Rx ok hW (F:=F) hnd hx hy
  have key:(sR (oM rs (wQ rs T) A F) (rs.length*T) n x y)= (xq rs A F T (tree f k),tT A F (tree f k)):=by
   rw [hs,ht];unfold xq;show _=(if (rL A F ⟨n.op,n.i,n.e,n.g,0,0⟩&& (tT A F (if (xW n.op).1.x=true then tree f n.x.toNat else .nil)&& tT A F (if (xW n.op).1.y=true then tree f n.y.toNat else .nil)))= true then _ else _,rL A F ⟨n.op,n.i,n.e,n.g,0,0⟩&& (tT A F (if (xW n.op).1.x=true then tree f n.x.toNat else .nil)&& tT A F (if (xW n.op).1.y=true then tree f n.y.toNat else .nil)));have hst:rL A F ⟨n.op,n.i,n.e,n.g,0,0⟩= rL A F n:=rfl;rw [hst]
   cases hst2:rL A F n with
   | false=>rfl
   | true=>
    obtain⟨o1,o2⟩:=aK (hst.trans hst2);obtain⟨uy,ux⟩:=XJ o1 o2;rw [<- uy] at hok
    have fx:(xW n.op).1.x=true->tT A F (tree f n.x.toNat)= true:=λh=>by rw [ux,decide_eq_true_iff] at h;rw [if_pos h,Ac] at hok;exact hok.1
    have fy:(xW n.op).1.y=true->tT A F (tree f n.y.toNat)= true:=λh=>by rw [if_pos h,Ac] at hok;exact hok.2
    have fx':tT A F (if (xW n.op).1.x=true then tree f n.x.toNat else .nil)= true:=by
     split
     ·rename_i h; exact fx h
     ·rfl
    have fy':tT A F (if (xW n.op).1.y=true then tree f n.y.toNat else .nil)= true:=by
     split
     ·rename_i h; exact fy h
     ·rfl
    rw [fx',fy',if_pos rfl,if_pos (show (true&&(true&&true))= true from rfl)];refine Prod.ext ?_ rfl;refine congrArg (sW T (rs.length*T)) ?_;show _=zL rs A T ⟨n.op,n.i,n.e,n.g,0,0⟩ _ _
    refine iq rfl rfl rfl (λh=>?_) λh=>?_
    ·rw [if_pos h,PU,if_pos (fx h)]
    ·rw [if_pos h,PU,if_pos (fy h)]
  rw [key] at hv;exact hv
 ·have ht:=tR c3 hk;unfold okF at hno;dsimp only at hno;generalize f.getD k wK=n at ht hno
  have hf:tT A F (tree f k)= false:=by
   rw [ht];show (rL A F ⟨n.op,n.i,n.e,n.g,0,0⟩&& (tT A F (if (xW n.op).1.x=true then tree f n.x.toNat else .nil)&& tT A F (if (xW n.op).1.y=true then tree f n.y.toNat else .nil)))= false
   cases hst:rL A F ⟨n.op,n.i,n.e,n.g,0,0⟩ with
   | false=>rfl
   | true=>
    obtain⟨o1,o2⟩:=aK hst;obtain⟨uy,ux⟩:=XJ o1 o2;rw [<- uy] at hno;rw [Ab]
    by_cases h4:4<=n.op
    ·rw [if_pos h4] at hno;rw [if_pos (by rw [ux,decide_eq_true h4])]
     cases hy:(xW n.op).1.y with
     | true=>rw [hy,if_pos rfl] at hno; rw [if_pos rfl]; exact hno
     | false=>rw [hy,if_neg (by decide),Ai] at hno; rw [hno]; rfl
    ·rw [if_neg h4] at hno
     cases hy:(xW n.op).1.y with
     | true=>rw [hy,if_pos rfl,Ab] at hno; rw [if_pos rfl,hno,Al]
     | false=>rw [hy] at hno; cases hno
  exact⟨by unfold xq; rw [hf,if_neg (by decide)],hf⟩
 have hlast:((List.range f.length).map λk=>xq rs A F T (tree f k)).getD (f.length-1) 0=xq rs A F T (uE f):=by
  have:f.length-1<f.length:=by omega
  simp [List.getD,this,uE]
 have hlen:((List.range f.length).map λk=>xq rs A F T (tree f k)).length=f.length:=by simp
 generalize ((List.range f.length).map λk=>xq rs A F T (tree f k))= l at hS hlast hlen;have hg:=vL l (show f.length-1<l.length by omega);rw [hlast] at hg;have hw:IntKind.i64.wrap ((l.length:Int)-1)= ((f.length-1:Nat):Int):=by rw [hlen,wrap_i64 (by omega)]; omega
 have hlt:((f.length-1:Nat):Int)<(l.length:Int):=by omega
 unfold rG.d at hS ⊢;refine xY.xQ mixed func54 Eu (by simp) λhf=>?_;simp only [simprocAttr,-ZA,↓zU,↓zD,zV,zT,zW]
 (repeat refine sd ?_)
 refine .go (cr hS) ?_;simp only [simprocAttr,-ZA,↓zU,↓zD,zV,zT,zW,xH,hw,hg,hlt]
 (repeat refine sd ?_)
 exact .drop (by simp) (by simp [vw,uR])
open Rs Fm Ru Te
namespace Te
def oO (rs:List xC) (t:Nat):List xC:=rs.map λr=>⟨[r.loc.getD t []],[r.cU.getD t 0]⟩
section
variable {rs : List xC} {A F T t : Nat}
theorem lR : (oO rs t).length=rs.length:=by simp [oO]
theorem W9 {i:Nat} (hi:i<rs.length):(oO rs t).getD i rI=⟨[(rs.getD i rI).loc.getD t []],[(rs.getD i rI).cU.getD t 0]⟩:=by simp [oO,List.getD,hi]
theorem nQ {a i:Nat} (hi:i<rs.length):yO (oO rs t) a (i,0)= yO rs a (i,t):=by unfold yO;simp only [W9 hi];rfl
theorem W8 {i:Nat} (hi:i<rs.length):lZ (oO rs t) (i,0)= lZ rs (i,t):=by unfold lZ;simp only [W9 hi];rfl
theorem jR {R i:Nat} (hi:i<R):(uO R t).getD i (0,0)= (i,t):=by simp [uO,List.getD,hi]
theorem lS (a:Nat) (x:Int):∀ k,k<=rs.length->Ru.jF (oO rs t) (uO rs.length 0) a x k=Ru.jF rs (uO rs.length t) a x k
 | 0,_=>rfl
 | k+1,h=>by unfold Ru.jF;rw [lS a x k (by omega),jR (by omega),jR (by omega),nQ (by omega)]
def N5 (rs:List xC) (A T:Nat):Prop:=∀ a,a<A->∀ p q:Nat × Nat,p.1<rs.length/\p.2<T->q.1<rs.length/\q.2<T->yO rs a p=yO rs a q->p.2=q.2
section
variable (hs : N5 rs A T) (hT : 1 <= T) (ht : t < T)
include hs hT ht
theorem qt {a:Nat} (ha:a<A) {x y:tJ} (h:∀ j,j<rs.length->x (j,0)= y (j,t)) {i:Nat} (hi:i<rs.length):wS (oO rs t) 1 a x (i,0)= wS rs T a y (i,t):=by
 have hin:∀ {q},q ∈ wQ (oO rs t) 1->q.1<rs.length/\q.2<1:=λhq=>by have:=cK (An 1) hq; rwa [lR] at this
 unfold wS;rw [Ae,δ,δ]
 constructor
 ·intro h1 q hq;obtain⟨j,u⟩:=q;obtain⟨hj,hu⟩:=cK hT hq;simp only at hj hu
  by_cases e:yO rs a (j,u)= yO rs a (i,t)
  ·have e2:=hs a ha (j,u) (i,t) ⟨hj,hu⟩ ⟨hi,ht⟩ e;simp only at e2;subst e2;have:=h1 (j,0) (lP (An 1) (by rw [lR]; exact hj) (by omega));rw [nQ hj,nQ hi,h j hj] at this;exact this
  ·rw [decide_eq_false e]; rfl
 ·intro h1 q hq;obtain⟨j,u⟩:=q;obtain⟨hj,hu⟩:=hin hq;simp only at hj hu;have:u=0:=by omega
  subst this;rw [nQ hj,nQ hi,h j hj];exact h1 (j,t) (lP hT hj ht)
theorem fp {g:Nat} {x y:tJ} (h:∀ j,j<rs.length->x (j,0)= y (j,t)) {i:Nat} (hi:i<rs.length):uX (oO rs t) A 1 g x (i,0)= uX rs A T g y (i,t):=by unfold uX;refine nO λa ha=>?_;rw [qt hs hT ht (γ.1 ha) h hi]
theorem Vp {g:Nat} {x y x' y':tJ} (h:∀ j,j<rs.length->x (j,0)= x' (j,t)) (h':∀ j,j<rs.length->y (j,0)= y' (j,t)):∀ (n:Nat) {i:Nat},i<rs.length->wJ (oO rs t) A 1 g x y n (i,0)= wJ rs A T g x' y' n (i,t)
 | 0,_,_=>rfl
 | n+1,i,hi=>by show uX (oO rs t) A 1 g _ (i,0)= uX rs A T g _ (i,t);refine fp hs hT ht (λj hj=>?_) hi;show (!x (j,0) || (y (j,0)&& wJ (oO rs t) A 1 g x y n (j,0)))= (!x' (j,t) || (y' (j,t)&& wJ rs A T g x' y' n (j,t)));rw [h j hj,h' j hj,Vp h h' n hj]
theorem Z0 {g:Nat} {x y x' y':tJ} (h:∀ j,j<rs.length->x (j,0)= x' (j,t)) (h':∀ j,j<rs.length->y (j,0)= y' (j,t)) {i:Nat} (hi:i<rs.length):pM (oO rs t) A 1 g x y (i,0)= pM rs A T g x' y' (i,t):=by unfold pM;obtain⟨n,h1,h2⟩:=XN (rs:=oO rs t) (A:=A) (T:=1) g x y;rw [lR,Ax] at h1;have hm:rs.length<=rs.length*T:=Nat.le_mul_of_pos_right _ hT;obtain⟨m,e1⟩:=Am h1;obtain⟨k,e2⟩:=Am (Nat.le_trans h1 hm);have hp:(i,0)∈ wQ (oO rs t) 1:=lP (An 1) (by rw [lR]; exact hi) (by omega);rw [lR,Ax,<- Vp hs hT ht h h' _ hi,e2,nD h2 k _ hp];rw [e1,nD h2 m _ hp]
theorem Q1 {g:Nat} (hg:1<=g/\g<2 ^ A) {x y:tJ} (h:∀ j,j<rs.length->x (j,0)= y (j,t)) {i:Nat} (hi:i<rs.length):kG (oO rs t) A 1 g x (i,0)= kG rs A T g y (i,t):=by
 have hin:∀ {q},q ∈ wQ (oO rs t) 1->q.1<rs.length/\q.2<1:=λhq=>by have:=cK (An 1) hq; rwa [lR] at this
 have htog:∀ j,j<rs.length->bR (oO rs t) A g (i,0) (j,0)= bR rs A g (i,t) (j,t):=λj hj=>by unfold bR;refine nO λa _=>?_;rw [nQ hi,nQ hj]
 have hbit:∃ a,a<A/\g.testBit a=true:=by
  refine Decidable.byContradiction λhn=>?_
  have:g=0:=by
   refine Ay λa=>?_;rw [Nat.zero_testBit]
   by_cases ha:a<A
   ·exact Aj.2 λe=>hn ⟨a,ha,e⟩
   ·exact Av (Aq hg.2 (Ap (by decide) (by omega)))
  omega
 unfold kG;rw [Ae,δ,δ]
 constructor
 ·intro h1 q hq;obtain⟨j,u⟩:=q;obtain⟨hj,hu⟩:=cK hT hq;simp only at hj hu
  cases e:bR rs A g (i,t) (j,u) with
  | false=>rfl
  | true=> obtain⟨a,ha,hb⟩:=hbit;have e1:=(δ.1 e) a (γ.2 ha);rw [hb] at e1;have e2:t=u:=hs a ha (i,t) (j,u) ⟨hi,ht⟩ ⟨hj,hu⟩ (by simpa using e1);subst e2;have:=h1 (j,0) (lP (An 1) (by rw [lR]; exact hj) (by omega));rw [htog j hj,e,h j hj] at this;exact this
 ·intro h1 q hq;obtain⟨j,u⟩:=q;obtain⟨hj,hu⟩:=hin hq;simp only at hj hu;have:u=0:=by omega
  subst this;rw [htog j hj,h j hj];exact h1 (j,t) (lP hT hj ht)
theorem Qq {n:Nd} {k:Int} (hn:yM n k=0) (hst:rL A F n=true) {x y x' y':tJ} (hx:∀ j,j<rs.length->x (j,0)= x' (j,t)) (hy:∀ j,j<rs.length->y (j,0)= y' (j,t)) {i:Nat} (hi:i<rs.length) :
  zL (oO rs t) A 1 n x y (i,0)= zL rs A T n x' y' (i,t):=by
 have hi0:n.op=9\/n.op=10->0<=n.i:=λh=>by
  rcases h with h | h
  ·exact(uJ hn (by rw [h]; rfl)).1
  ·exact(uJ hn (by rw [h]; rfl)).1
 have hg0:n.op=11\/n.op=12\/n.op=13->1<=n.g/\n.g<=15:=λh=>by
  have hgr:(xW n.op).1.gr=true:=by rcases h with h | h | h <;> rw [h] <;> rfl
  have h1:=(wN.1 hn).2.2.2.2;simp only [Ag,hgr,xG,Ab,decide_eq_false_iff_not] at h1;omega
 obtain⟨op,a,e,g,p,q⟩:=n;have hop:=aK (A:=A) (F:=F) (op:=op) (i:=a) (e:=e) (g:=g) hst;have:op=1\/op=2\/op=3\/op=4\/op=5\/op=6\/op=7\/op=8\/op=9\/op=10\/op=11\/op=12\/op=13:=by omega
 rcases this with rfl | rfl | rfl | rfl | rfl | rfl | rfl | rfl | rfl | rfl | rfl | rfl | rfl
 ·rfl
 ·rfl
 ·show (lZ (oO rs t) (i,0)).getLsbD a.toNat=(lZ rs (i,t)).getLsbD a.toNat;rw [W8 hi]
 ·show (!x (i,0))= !x' (i,t);rw [hx i hi]
 ·show (x (i,0)&& y (i,0))= (x' (i,t)&& y' (i,t));rw [hx i hi,hy i hi]
 ·show (x (i,0) || y (i,0))= (x' (i,t) || y' (i,t));rw [hx i hi,hy i hi]
 ·show (!x (i,0) || y (i,0))= (!x' (i,t) || y' (i,t));rw [hx i hi,hy i hi]
 ·show (x (i,0)== y (i,0))= (x' (i,t)== y' (i,t));rw [hx i hi,hy i hi]
 ·have h0:0<=a:=hi0 (.inl rfl);have h1:a<(A:Int):=of_decide_eq_true hst;exact qt hs hT ht (show a.toNat<A by omega) hx hi
 ·have h0:0<=a:=hi0 (.inr rfl);have h1:a<(A:Int):=of_decide_eq_true hst;show (!wS (oO rs t) 1 a.toNat (λq=>!x q) (i,0))= !wS rs T a.toNat (λq=>!x' q) (i,t);rw [qt hs hT ht (by omega) (x:=λq=>!x q) (y:=λq=>!x' q) (λj hj=>by rw [hx j hj]) hi]
 ·exact fp hs hT ht hx hi
 ·have h0:1<=g/\g<=15:=hg0 (.inr (.inl rfl));have h1:g<((2 ^ A:Nat):Int):=of_decide_eq_true hst;exact Q1 hs hT ht (show 1<=g.toNat/\g.toNat<2 ^ A by omega) hx hi
 ·exact Z0 hs hT ht hx hy hi
theorem Y0 : ∀ (x:Tr),Ta x->tT A F x=true->∀ {i:Nat},i<rs.length->eD (oO rs t) A 1 x (i,0)= eD rs A T x (i,t)
 | .nil,_,_,_,_=>rfl
 | .nd op i e g x y,hw,hf,j,hj=>by
  obtain⟨hn,hwx,hwy⟩:=hw;have hf':(rL A F ⟨op,i,e,g,0,0⟩&& (tT A F x&&tT A F y))= true:=hf;simp only [Ac] at hf';obtain⟨h1,h2,h3⟩:=hf';show zL (oO rs t) A 1 ⟨op,i,e,g,0,0⟩ (eD (oO rs t) A 1 x) (eD (oO rs t) A 1 y) (j,0)= zL rs A T ⟨op,i,e,g,0,0⟩ (eD rs A T x) (eD rs A T y) (j,t)
  refine Qq hs hT ht hn h1 (λi hi=>?_) (λi hi=>?_) hj
  ·split at hwx
   ·exact Y0 x hwx h2 hi
   ·rw [hwx]; rfl
  ·split at hwy
   ·exact Y0 y hwy h3 hi
   ·rw [hwy]; rfl
end
end
end Te
open Rs Fm Ru Te Kb
namespace Kb
def vN (sts:List (List (BitVec 64))) (i:Nat):List (BitVec 64):=sts.getD i []
def tq (xN:List (BitVec 64)) (sts:List (List (BitVec 64))) (t a w:Nat):Nat:=(List.range sts.length).findIdx λv=>decide (tN xN (vN sts v) a t=tN xN (vN sts w) a t)
def wD (xN:List (BitVec 64)) (sts:List (List (BitVec 64))) (t:Nat):List xC:=(List.range sts.length).map λw=>⟨[(List.range xN.length).map λa=>((tq xN sts t a w:Nat):Int)],[(vN sts w).getD t 0]⟩
section
variable {xN : List (BitVec 64)} {sts : List (List (BitVec 64))} {t : Nat}
theorem qM : (wD xN sts t).length=sts.length:=by simp [wD]
theorem xa {i:Nat} (hi:i<sts.length):(wD xN sts t).getD i rI=⟨[(List.range xN.length).map λa=>((tq xN sts t a i:Nat):Int)],[(vN sts i).getD t 0]⟩:=by simp [wD,List.getD,hi]
theorem ki {n:Nat} {q:Nat->Bool} (h:∃ i,i<n/\q i=true):(List.range n).findIdx q<n/\q ((List.range n).findIdx q)= true:=by obtain⟨i,hi,hq⟩:=h;have h1:(List.range n).findIdx q<(List.range n).length:=List.findIdx_lt_length.2 ⟨i,γ.2 hi,hq⟩;refine⟨by simpa using h1,?_⟩;have:=List.findIdx_getElem (p:=q) (w:=h1);simpa using this
theorem ia {a w:Nat} (hw:w<sts.length):tq xN sts t a w<sts.length/\tN xN (vN sts (tq xN sts t a w)) a t=tN xN (vN sts w) a t:=by have:=ki (n:=sts.length) (q:=λv=>decide (tN xN (vN sts v) a t=tN xN (vN sts w) a t)) ⟨w,hw,by simp⟩;refine⟨this.1,?_⟩;have h2:=this.2;simp only [decide_eq_true_eq] at h2;exact h2
theorem QS {a v w:Nat} (hv:v<sts.length) (hw:w<sts.length):tq xN sts t a v=tq xN sts t a w ↔ tN xN (vN sts v) a t=tN xN (vN sts w) a t:=by
 constructor
 ·intro h;rw [<- (ia (xN:=xN) (t:=t) (a:=a) hv).2,<- (ia (xN:=xN) (t:=t) (a:=a) hw).2,h]
 ·intro h;unfold tq;rw [h]
theorem aO {a v w:Nat} (ha:a<xN.length) (hv:v<sts.length) (hw:w<sts.length):yO (wD xN sts t) a (v,0)= yO (wD xN sts t) a (w,0) ↔ tN xN (vN sts v) a t=tN xN (vN sts w) a t:=by unfold yO;simp only [xa hv,xa hw];rw [<- QS hv hw];simp [List.getD,ha];omega
theorem j7 {w:Nat} (hw:w<sts.length):lZ (wD xN sts t) (w,0)= (vN sts w).getD t 0:=by unfold lZ;simp only [xa hw];rfl
theorem Rn : wQ (wD xN sts t) 1=uO sts.length 0:=by unfold wQ qF uO;rw [qM,Ax];refine θ λi _=>?_;rw [Nat.div_one,Nat.mod_one]
theorem Ow {F:Nat} (hA:xN.length<=4) (hF:F<=8) (hR:1<=sts.length/\sts.length<=64) (hv:∀ w,w<sts.length->(vN sts w).getD t 0 >>> F=0#64):kQ (wD xN sts t) xN.length F 1 where
 hA:=hA
 hF:=hF
 hT:=⟨by omega,by omega⟩
 hR:=by rw [qM]; exact hR
 hP:=by rw [qM]; omega
 loc:=λr hr=>by simp only [wD,ε] at hr;obtain⟨i,_,rfl⟩:=hr;rfl
 cU:=λr hr=>by simp only [wD,ε] at hr;obtain⟨i,_,rfl⟩:=hr;rfl
 row:=λr hr l hl=>by simp only [wD,ε] at hr;obtain⟨i,_,rfl⟩:=hr;simp only [κ] at hl;subst hl;simp
 val:=λr hr x hx=>by simp only [wD,ε,γ] at hr;obtain⟨i,hi,rfl⟩:=hr;simp only [κ] at hx;subst hx;exact hv i hi
end
def Wg (xN:List (BitVec 64)) (sts:List (List (BitVec 64))) (t F:Nat):D:=VO (wD xN sts t) (uO sts.length 0) xN.length F
end Kb
theorem Nu {xN:List (BitVec 64)} {sts:List (List (BitVec 64))} {t a v w:Nat} (ha:a<xN.length) (hv:v<sts.length) (hw:w<sts.length) :
  decide ((tN xN (vN sts w) a t).map ui=(tN xN (vN sts v) a t).map ui)= decide (yO (wD xN sts t) a (v,0)= yO (wD xN sts t) a (w,0)):=by
 have h1:=aO (xN:=xN) (sts:=sts) (t:=t) ha hv hw
 have h2:(tN xN (vN sts w) a t).map ui=(tN xN (vN sts v) a t).map ui ↔ tN xN (vN sts v) a t=tN xN (vN sts w) a t:=⟨λh=>((List.map_inj_right λx y=>ct.1).1 h).symm,λh=>by rw [h]⟩
 rw [Ae,decide_eq_true_eq,decide_eq_true_eq,h2,h1]
end Go.Pd
