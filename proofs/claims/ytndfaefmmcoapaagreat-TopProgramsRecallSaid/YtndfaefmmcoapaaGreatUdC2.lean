/- Part C2. -/
import Derived.Test.YtndfaefmmcoapaaGreatUdKG
import Derived.Test.YtndfaefmmcoapaaGreatUdJB
set_option linter.unusedSectionVars false
set_option linter.unusedVariables false
set_option linter.unusedSimpArgs false
set_option linter.defProp false
set_option maxRecDepth 20000
set_option maxHeartbeats 1000000
namespace Go.Pd
open Go Go.Proofs
open BitVec renaming isValue -> ZA
open Rs Fm Ru Te
theorem aEx (s:BitVec 64) (l:List (BitVec 64)) (hl:l.length<=1000):xY Tryz.prog 122 [.sl 1 (us (s :: l))] St0 (.osl 0 1 (l.length+1)) ⟨1,[(0,⟨1,us (s :: l)⟩)]⟩:=by
 refine xY.xR mixed Tryz.func122 bTg (by simp) fun hf=>?_;have hln:(us (s :: l)).length=l.length+1:=by simp [us]
 have h1:=aNx (s :: l);have e:us (s :: l)= [.int .u64 (ui s)] :: us l:=rfl;rw [e] at hln h1 ⊢;simp only [simprocAttr,-ZA,↓zU,↓zD,zV,zT,zW];have hp:=rN (s :: l);rw [e] at hp;exact⟨by simp,h1,by omega,by omega,iT.name (n:=0) (by simp) hp (by simp [vw])⟩
theorem aOd {k sz:Nat} {a b:List (List D)} (h:a.length=b.length):xA k sz a=xA k sz b:=by
 cases a with
 | nil=>cases b with
  | nil=>rfl
  | cons e r=>simp at h
 | cons e r=>cases b with
  | nil=>simp at h
  | cons e' r'=>simp only [List.length_cons] at h; simp [xA,h]
theorem aKh (c:Nat) (l:List (BitVec 64)):(us l).map (D.wV c)= us l:=mL c (rN l)
theorem aT4 {n:Nat} {xZ:List (Nat × Ob)} (l:List (BitVec 64)) (h:l ≠ []) (hl:l.length<=1000):xY Tryz.prog 122 [.sl 1 (us l)] ⟨n,xZ⟩ (xA n 1 (us l)) ⟨n+1,yY n 1 (us l)++ xZ⟩:=by
 cases l with
 | nil=>exact absurd rfl h
 | cons s l=> have:=xY.own (σ:=⟨n,xZ⟩) (aEx s l (by simp at hl; omega)) (by simp [D.xU,D.xL]);simp only [D.shift,yS,Ob.shift,aKh,List.cons_append,List.nil_append,Nat.add_zero] at this;simp only [aUg,aS,aT,xK,List.cons_append,List.nil_append];exact this
namespace Ru
def op2 (meet:Bool) (a b:BitVec 64):BitVec 64:=if meet=true then a &&& b else a ||| b
def aIu (meet:Bool) (acc r:List (BitVec 64)):List (BitVec 64):=(List.range acc.length).map fun i=>op2 meet (acc.getD i 0) (r.getD i 0)
def gK (R:List (List (BitVec 64))) (G:Nat) (meet:Bool):Nat->List (BitVec 64)
 | 0=>[]
 | k+1=>if G.testBit k then(if (gK R G meet k).isEmpty then R.getD k [] else aIu meet (gK R G meet k) (R.getD k [])) else gK R G meet k
def wU (m:nI) (G:Nat) (meet:Bool):List (BitVec 64):=gK m.R G meet m.R.length
def aVv (meet:Bool) (acc r:List (BitVec 64)) (w:Nat):List (BitVec 64):=(List.range acc.length).map fun i=>if i<w then op2 meet (acc.getD i 0) (r.getD i 0) else acc.getD i 0
theorem aJg (meet:Bool) (acc r:List (BitVec 64)):aVv meet acc r 0=acc:=by refine List.ext_getElem (by simp [aVv]) fun i h1 h2=>?_;simp [aVv,List.getD,h2]
theorem aF6 (meet:Bool) (acc r:List (BitVec 64)):aVv meet acc r acc.length=aIu meet acc r:=by unfold aVv aIu;refine List.map_congr_left fun i hi=>?_;rw [List.mem_range] at hi;rw [if_pos hi]
theorem aRy (meet:Bool) (acc r:List (BitVec 64)) (w:Nat):(aVv meet acc r w).length=acc.length:=by simp [aVv]
theorem aAr {meet:Bool} {acc r:List (BitVec 64)} {w:Nat} (h:w<acc.length):(aVv meet acc r w).getD w 0=acc.getD w 0:=by simp [aVv,List.getD,h]
theorem aF5 {meet:Bool} {acc r:List (BitVec 64)} {w:Nat} (h:w<acc.length):(aVv meet acc r w).set w (op2 meet (acc.getD w 0) (r.getD w 0))= aVv meet acc r (w+1):=by
 refine List.ext_getElem (by simp [aVv]) fun i h1 h2=>?_;simp only [List.getElem_set,aVv,List.getElem_map,List.getElem_range]
 by_cases e:w=i
 ·subst e; simp
 ·rw [if_neg e]
  by_cases e2:i<w
  ·rw [if_pos e2,if_pos (by omega)]
  ·rw [if_neg e2,if_neg (by omega)]
theorem aYo {m:nI} {W:Nat} (ok:lW m W) (G:Nat) (meet:Bool):∀ k,k<=m.R.length->gK m.R G meet k = []\/(gK m.R G meet k).length=W
 | 0,_=>.inl rfl
 | k+1,hk=>by
  have hr:=ok.row _ (xS (d:=[]) (show k<m.R.length by omega));rw [gK]
  split
  ·split
   ·exact .inr hr
   ·rcases aYo ok G meet k (by omega) with h | h
    ·rename_i hn; rw [h] at hn; exact absurd rfl hn
    ·exact .inr (by simp [aIu,h])
  ·exact aYo ok G meet k (by omega)
theorem aVa (R:List (List (BitVec 64))) (G:Nat) (meet:Bool) (k:Nat):gK R G meet (k+1)= if G.testBit k then(if (gK R G meet k).isEmpty then R.getD k [] else aIu meet (gK R G meet k) (R.getD k [])) else gK R G meet k:=rfl
end Ru
theorem aWv {m:nI} {W:Nat} (ok:lW m W) {g:Nat} (hg:1<=g/\g<2 ^ m.R.length) (meet:Bool) (f:FuncId) (hop:∀ a b,yB Tryz.prog f [.int .u64 (ui a),.int .u64 (ui b)] (.int .u64 (ui (op2 meet a b)))):yB Tryz.prog 252 [m.d,.int .i64 (g:Int),.fn f []] (.sl 1 (us (wU m g meet))):=by
 have hc:=bB ok;have h4:=ok.hR;obtain⟨W1,W64⟩:=ok.hW;have hsh:=aUk (k:=m.R.length) (by omega);have h2:¬ (g:Int)<1:=by omega
 have h3:¬ ((2 ^ m.R.length:Nat):Int)<=(g:Int):=by omega
 have hg60:g<2 ^ 60:=Nat.lt_of_lt_of_le hg.2 (Nat.pow_le_pow_right (by decide) (by omega));have hall:gK m.R g meet m.R.length=wU m g meet:=rfl;unfold nI.d at hc ⊢;refine xY.xR mixed Tryz.func252 bTx (by simp) fun hf=>?_;simp only [simprocAttr,-ZA,↓zU,↓zD,zV,zT,zW]
 (repeat refine sd ?_)
 refine .go (cr hc) ?_;simp only [simprocAttr,-ZA,↓zU,↓zD,zV,zT,zW,h2,h3,hsh,zP]
 (repeat refine sd ?_)
 refine xQ (fun k:Nat=>[(29,.int .i64 k),(28,.int .i64 m.R.length),(27,.sl 1 (rr m.R)),(7,xA 1 1 (us (gK m.R g meet k))),(2,.fn f []),(1,.int .i64 g)])
  (fun k=>⟨2,yY 1 1 (us (gK m.R g meet k))⟩) (fun k=>k<=m.R.length) (fun k=>m.R.length-k) 0 (Nat.zero_le _) ?_ ?_
 ·(refine xM.ren [] [1,0] (by simp) (by simp) (by decide) ?_; simp only [yK,vwL,vw,vwF,sw,St.get,St.look,Fr.get,simprocAttr,-ZA,exists_eq_left',ne_eq,zR,gK,zB,zA,List.nil_append,vwL])
 intro k hk;refine xN mixed ?_
 by_cases h:k<m.R.length
 ·have hd:((k:Int)<(m.R.length:Int)):=by omega
  have hu:=yH (k:=k) (by omega);have hrl:=ok.row _ (xS (d:=[]) h);have hbr:=aN6 hg60 (show k<=60 by omega);have hs:=aVa m.R g meet k;have hL:=aYo ok g meet k hk;have hrg:=nD m.R h;generalize gK m.R g meet k=acc at hs hL ⊢;generalize m.R.getD k []=r at hrl hs hrg
  cases hb:g.testBit k with
  | false=>
   rw [hb] at hbr hs;simp only [simprocAttr,-ZA,↓zU,↓zD,zV,zT,zW,hd,hbr,hu,hrg,zP]
   (repeat refine sd ?_)
   refine⟨k+1,by omega,?_,by omega⟩;rw [hs,if_neg (by simp)]
   (refine xM.same ?_; simp only [xP,Fr.get,simprocAttr,-ZA,zS])
  | true=>
   rw [hb] at hbr hs;rw [if_pos rfl] at hs hbr
   by_cases he:acc = []
   ·subst he;rw [List.isEmpty_nil,if_pos rfl] at hs;simp only [simprocAttr,-ZA,↓zU,↓zD,zV,zT,zW,hd,hbr,hu,hrg,zP,List.isEmpty_nil]
    (repeat refine sd ?_)
    have hrne:r ≠ []:=by rintro rfl; simp at hrl; omega
    refine .go (aT4 r hrne (by omega)) ?_;simp only [simprocAttr,-ZA,↓zU,↓zD,zV,zT,zW,hu];refine⟨k+1,by omega,?_,by omega⟩;rw [hs]
    (refine xM.ren [(1,2)] [1] (by simp) (by simp) (by decide) ?_; simp only [yK,vwL,vw,vwF,sw,St.get,St.look,Fr.get,simprocAttr,-ZA,exists_eq_left',ne_eq,zR])
   ·have hie:acc.isEmpty=false:=by simpa using he
    have hiu:(us acc).isEmpty=false:=by cases acc with | nil=>exact absurd rfl he | cons a l=>rfl
    rw [hie,if_neg (by simp)] at hs;have hL1:acc.length=W:=hL.resolve_left he;simp only [simprocAttr,-ZA,↓zU,↓zD,zV,zT,zW,hd,hbr,hu,hrg,zP,hiu]
    (repeat refine sd ?_)
    refine xQ (fun w:Nat=>[(45,.int .i64 w),(44,.int .i64 acc.length),(29,.int .i64 k),(28,.int .i64 m.R.length),(27,.sl 1 (rr m.R)),(9,.sl 1 (us r)),(7,xA 1 1 (us acc)),(2,.fn f []),(1,.int .i64 g)])
     (fun w=>⟨2,yY 1 1 (us (aVv meet acc r w))⟩) (fun w=>w<=acc.length) (fun w=>acc.length-w) 0 (Nat.zero_le _) ?_ ?_
    ·rw [aJg]
     (refine xM.same ?_; simp [xP,Fr.get])
    intro w hw;refine xN mixed ?_
    by_cases h4:w<acc.length
    ·have hd4:((w:Int)<(acc.length:Int)):=by omega
     have hw4:=yH (k:=w) (by omega);have hx:w<r.length:=by omega
     have hx':(w:Int)<(r.length:Int):=by omega
     have hma:=aAr (meet:=meet) (r:=r) h4;have hms:=aF5 (meet:=meet) (r:=r) h4;have hml:=aRy meet acc r w;have hmw:w<(aVv meet acc r w).length:=by omega
     generalize aVv meet acc r w=z at *;simp only [simprocAttr,-ZA,↓zU,↓zD,zV,zT,zW,hd4,hw4,uW _ hmw,uW _ hx,hma,hml,xK]
     (repeat refine sd ?_)
     refine .go (xY.yM (hop (acc.getD w 0) (r.getD w 0)) rfl) ?_;simp only [simprocAttr,-ZA,↓zU,↓zD,zV,zT,zW,hd4,hw4,uW _ hmw,lU,hma,hml,hms,xK]
     (repeat refine sd ?_)
     refine⟨w+1,by omega,?_,by omega⟩;rw [bM (by rw [xK,xK,aRy,hml])]
     (refine xM.same ?_; simp only [xP,Fr.get,simprocAttr,-ZA,zS])
    ·have hd4:¬ ((w:Int)<(acc.length:Int)):=by omega
     have hw':w=acc.length:=by omega
     subst hw';rw [aF6];simp only [simprocAttr,-ZA,↓zU,↓zD,zV,zT,zW,hd4,hu];refine⟨k+1,by omega,?_,by omega⟩;rw [hs,aOd (show (us acc).length=(us (aIu meet acc r)).length by simp [us,aIu])]
     (refine xM.same ?_; simp only [xP,Fr.get,simprocAttr,-ZA,zS])
 ·have hd:¬ ((k:Int)<(m.R.length:Int)):=by omega
  have hk':k=m.R.length:=by omega
  subst hk';rw [hall];simp only [simprocAttr,-ZA,↓zU,↓zD,zV,zT,zW,hd]
  (repeat refine sd ?_)
  refine .drop (by simp) ?_;simp only [yK,vwL,vw,vwF,sw,St.get,St.look,Fr.get,simprocAttr,-ZA,exists_eq_left',ne_eq,zR]
theorem aAv (a b:BitVec 64):yB Tryz.prog 254 [.int .u64 (ui a),.int .u64 (ui b)] (.int .u64 (ui (op2 false a b))):=by refine xY.xR mixed Tryz.func254 bTv (by simp) fun hf=>?_;simp only [simprocAttr,-ZA,↓zU,↓zD,zV,zT,zW];exact .same
theorem aAw (a b:BitVec 64):yB Tryz.prog 253 [.int .u64 (ui a),.int .u64 (ui b)] (.int .u64 (ui (op2 true a b))):=by refine xY.xR mixed Tryz.func253 bTw (by simp) fun hf=>?_;simp only [simprocAttr,-ZA,↓zU,↓zD,zV,zT,zW];exact .same
theorem aQs {m:nI} {W:Nat} (ok:lW m W) {g:Nat} (hg:1<=g/\g<2 ^ m.R.length):yB Tryz.prog 217 [m.d,.int .i64 (g:Int)] (.sl 1 (us (wU m g false))):=by
 have h:=aWv ok hg false 254 aAv;unfold nI.d at h ⊢;refine xY.xR mixed Tryz.func217 bT5 (by simp) fun hf=>?_;simp only [simprocAttr,-ZA,↓zU,↓zD,zV,zT,zW]
 (repeat refine sd ?_)
 refine .go (cr h) ?_;simp only [simprocAttr,-ZA,↓zU,↓zD,zV,zT,zW];exact .dv
theorem bX1 {m:nI} {W:Nat} (ok:lW m W) {g:Nat} (hg:1<=g/\g<2 ^ m.R.length):yB Tryz.prog 216 [m.d,.int .i64 (g:Int)] (.sl 1 (us (wU m g true))):=by
 have h:=aWv ok hg true 253 aAw;unfold nI.d at h ⊢;refine xY.xR mixed Tryz.func216 bT6 (by simp) fun hf=>?_;simp only [simprocAttr,-ZA,↓zU,↓zD,zV,zT,zW]
 (repeat refine sd ?_)
 refine .go (cr h) ?_;simp only [simprocAttr,-ZA,↓zU,↓zD,zV,zT,zW];exact .dv
open Rs Fm Ru Te
namespace Ru
def lY (r:List (BitVec 64)) (a c s:BitVec 64):Nat->BitVec 64
 | 0=>a
 | n+1=>aY4 r (a &&& ~~~c ||| s &&& lY r a c s n)
theorem aW3 {r:List (BitVec 64)} {a c s:BitVec 64} {n:Nat} (h:lY r a c s (n+1)= lY r a c s n):∀ m,lY r a c s (n+m)= lY r a c s n
 | 0=>rfl
 | m+1=>by show aY4 r (a &&& ~~~c ||| s &&& lY r a c s (n+m))= _;rw [aW3 h m];exact h
theorem aA0 {n:Nat} (hn:n<=64) {x:BitVec 64} (h:aVu n x=false) {i:Nat} (hi:x.getLsbD i=true):i<n:=by
 unfold aVu at h;rw [Bool.not_eq_false',decide_eq_true_iff] at h;have h64:i<64:=Decidable.byContradiction fun hh=>by rw [BitVec.getLsbD_of_ge _ _ (by omega)] at hi; cases hi
 have:=congrArg (·.getLsbD i) h;simp only [BitVec.getLsbD_and,BitVec.getLsbD_not,rS hn h64,hi,h64,BitVec.getLsbD_zero] at this;simpa using this
def aNm (R:List (List (BitVec 64))) (G:Nat) (meet:Bool) (k w v:Nat):Bool:= if meet=true then(List.range k).all fun a=>!G.testBit a || ((R.getD a []).getD w 0).getLsbD v else(List.range k).any fun a=>G.testBit a&&((R.getD a []).getD w 0).getLsbD v
theorem aB3 (meet:Bool) (a b:BitVec 64) (v:Nat):(op2 meet a b).getLsbD v=if meet=true then(a.getLsbD v&&b.getLsbD v) else(a.getLsbD v || b.getLsbD v):=by unfold op2;cases meet <;> simp
theorem eA (R:List (List (BitVec 64))) (G:Nat) (meet:Bool) (k w v:Nat):aNm R G meet (k+1) w v=if G.testBit k=true then(if meet=true then(aNm R G meet k w v&&((R.getD k []).getD w 0).getLsbD v) else(aNm R G meet k w v || ((R.getD k []).getD w 0).getLsbD v)) else aNm R G meet k w v:=by unfold aNm;simp only [List.range_succ,List.any_append,List.all_append,List.any_cons,List.any_nil,List.all_cons,List.all_nil,Bool.or_false,Bool.and_true];cases meet <;> cases hG:G.testBit k <;> simp
theorem aVb {m:nI} {W:Nat} (ok:lW m W) (G:Nat) (meet:Bool):∀ k,k<=m.R.length->((∀ a,a<k->G.testBit a=false)/\ gK m.R G meet k = [])\/((∃ a,a<k/\G.testBit a=true)/\ (gK m.R G meet k).length=W/\∀ w,w<W->∀ v,((gK m.R G meet k).getD w 0).getLsbD v=aNm m.R G meet k w v)
 | 0,_=>.inl ⟨fun a h=>by omega,rfl⟩
 | k + 1,hk=>by
  have hr:=ok.row _ (xS (d:=[]) (show k<m.R.length by omega));rw [aVa];have ih:=aVb ok G meet k (by omega)
  cases hb:G.testBit k with
  | false=>
   rw [if_neg (by simp)]
   rcases ih with ⟨h1,h2⟩ | ⟨⟨a,h1,h2⟩,h3,h4⟩
   ·refine .inl ⟨fun a ha=>?_,h2⟩
    by_cases e:a=k
    ·rw [e]; exact hb
    ·exact h1 a (by omega)
   ·refine .inr ⟨⟨a,by omega,h2⟩,h3,fun w hw v=>?_⟩;rw [eA,hb,h4 w hw v]; rfl
  | true=>
   rw [if_pos rfl];refine .inr ⟨⟨k,by omega,hb⟩,?_⟩
   rcases ih with ⟨h1,h2⟩ | ⟨_,h3,h4⟩
   ·rw [h2,List.isEmpty_nil,if_pos rfl];refine⟨hr,fun w hw v=>?_⟩;rw [eA,hb,if_pos rfl]
    have hz:aNm m.R G meet k w v=meet:=by
     unfold aNm
     cases meet
     ·simp only [Bool.false_eq_true,↓reduceIte,List.any_eq_false,List.mem_range];intro a ha;rw [h1 a ha]; simp
     ·simp only [↓reduceIte,List.all_eq_true,List.mem_range];intro a ha;rw [h1 a ha]; simp
    rw [hz];cases meet <;> simp
   ·have hne:(gK m.R G meet k).isEmpty=false:=by
     cases hc:gK m.R G meet k with
     | nil=>rw [hc] at h3; have:=ok.hW; simp at h3; omega
     | cons a b=>rfl
    rw [hne,if_neg (by simp)];refine⟨by simp [aIu,h3],fun w hw v=>?_⟩;rw [eA,hb,if_pos rfl,<- h4 w hw v]
    have:(aIu meet (gK m.R G meet k) (m.R.getD k [])).getD w 0=op2 meet ((gK m.R G meet k).getD w 0) ((m.R.getD k []).getD w 0):=by simp [aIu,List.getD,h3,hw]
    rw [this,aB3]
theorem dD {m:nI} {W:Nat} (ok:lW m W) {g:Nat} (hg:1<=g/\g<2 ^ m.R.length) (meet:Bool):(∃ a,a<m.R.length/\g.testBit a=true)/\ (wU m g meet).length=W/\∀ w,w<W->∀ v,((wU m g meet).getD w 0).getLsbD v=aNm m.R g meet m.R.length w v:=by
 rcases aVb ok g meet m.R.length (Nat.le_refl _) with ⟨h1,_⟩ | h
 ·exfalso
  have:g=0:=by
   refine Nat.eq_of_testBit_eq fun i=>?_;rw [Nat.zero_testBit]
   by_cases hi:i<m.R.length
   ·exact h1 i hi
   ·exact Nat.testBit_lt_two_pow (Nat.lt_of_lt_of_le hg.2 (Nat.pow_le_pow_right (by decide) (by omega)))
  omega
 ·exact h
theorem aDz {m:nI} {W:Nat} (ok:lW m W) {a:Nat} (ha:a<m.R.length):aPa (m.R.getD a []):=by have hm:=xS (d:=[]) ha;have:=ok.hW;refine⟨by rw [ok.row _ hm]; omega,fun x hx=>?_⟩;rw [ok.row _ hm];exact ok.rel _ hm x hx
theorem aYe {m:nI} {W:Nat} (ok:lW m W) {g:Nat} (hg:1<=g/\g<2 ^ m.R.length) (meet:Bool):aPa (wU m g meet):=by
 obtain⟨⟨a,ha,hb⟩,hl,hv⟩:=dD ok hg meet;have hW:=ok.hW;refine⟨by rw [hl]; omega,fun x hx=>?_⟩;rw [hl];obtain⟨w,hw,rfl⟩:=List.mem_iff_getElem.1 hx;refine aUs hW.2 fun v h=>?_;have hw':w<W:=by omega
 have e:(wU m g meet)[w]=(wU m g meet).getD w 0:=by simp [List.getD,hw]
 rw [e,hv w hw' v] at h
 have key:∀ b,b<m.R.length->((m.R.getD b []).getD w 0).getLsbD v=true->v<W:=fun b hb' h'=>by have hm:=xS (d:=[]) hb';exact aA0 hW.2 (ok.rel _ hm _ (xS (d:=0) (by rw [ok.row _ hm]; exact hw'))) h'
 unfold aNm at h
 split at h
 ·rw [List.all_eq_true] at h;have:=h a (List.mem_range.2 ha);rw [hb] at this;exact key a ha (by simpa using this)
 ·rw [List.any_eq_true] at h;obtain⟨b,hb1,hb2⟩:=h;rw [Bool.and_eq_true] at hb2;exact key b (List.mem_range.1 hb1) hb2.2
end Ru
theorem aJ7 {r:List (BitVec 64)} (ok:aPa r) {a c s:BitVec 64} {N:Nat} (hN:lY r a c s (N+1)= lY r a c s N):yB Tryz.prog 218 [.sl 1 (us r),.int .u64 (ui a),.int .u64 (ui c),.int .u64 (ui s)] (.int .u64 (ui (lY r a c s N))):=by
 have hb:=fun x=>aZp ok x;refine xY.xR mixed Tryz.func218 bT4 (by simp) fun hf=>?_;simp only [simprocAttr,-ZA,↓zU,↓zD,zV,zT,zW]
 refine xQ (fun n:Nat=>[(9,.int .u64 (ui (lY r a c s n))),(3,.int .u64 (ui s)),(2,.int .u64 (ui c)),(1,.int .u64 (ui a)),(0,.sl 1 (us r))]) (fun _=>⟨0,[]⟩) (fun n=>n<=N) (fun n=>N-n) 0 (Nat.zero_le _) ?_ ?_
 ·(refine xM.same ?_; simp [xP,Fr.get])
  rfl
 intro n hn;refine xN mixed ?_;have hs:lY r a c s (n+1)= aY4 r (a &&& ~~~c ||| s &&& lY r a c s n):=rfl;simp only [simprocAttr,-ZA,↓zU,↓zD,zV,zT,zW];refine .go (xY.yM (hb (a &&& ~~~c ||| s &&& lY r a c s n)) (by simp [D.xU,D.xL])) ?_;rw [<- hs]
 by_cases e:lY r a c s (n+1)= lY r a c s n
 ·obtain⟨k,hk⟩:=Nat.exists_eq_add_of_le hn;have hst:=aW3 e k;rw [hk,hst];have e':(lY r a c s (n+1)== lY r a c s n)= true:=by rw [e]; simp
  simp only [simprocAttr,-ZA,↓zU,↓zD,zV,zT,zW,e'];exact .same
 ·have e':(lY r a c s (n+1)== lY r a c s n)= false:=by rw [beq_eq_false_iff_ne]; exact e
  have hlt:n<N:=Decidable.byContradiction fun h=>e (by rw [show n=N by omega]; exact hN);simp only [simprocAttr,-ZA,↓zU,↓zD,zV,zT,zW,e'];refine⟨n+1,by omega,?_,by omega⟩
  (refine xM.same ?_; simp only [xP,Fr.get,simprocAttr,-ZA,zS])
open Rs Fm Ru Te
namespace Ru
def pV (m:nI) (W:Nat) (n:Nd) (x y:BitVec 64):BitVec 64 × Bool:=
 if n.op=1 then(pO W,true) else if n.op=2 then(0#64,true) else if n.op=3 then(if n.i<m.V.length then(m.V.getD n.i.toNat 0,true) else(0#64,false)) else if n.op=4 then(pO W &&& ~~~x,true)
 else if n.op=5 then(x &&& y,true) else if n.op=6 then(x ||| y,true) else if n.op=7 then(pO W &&& ~~~x ||| y,true) else if n.op=8 then(pO W &&& ~~~(x ^^^ y),true)
 else if n.op=9 then(if n.i<m.R.length then(aY4 (m.R.getD n.i.toNat []) x,true) else(0#64,false)) else if n.op=10 then(if n.i<m.R.length then(bYn (m.R.getD n.i.toNat []) x,true) else(0#64,false))
 else if n.op=11 then(if n.g<(2 ^ m.R.length:Nat) then(aY4 (wU m n.g.toNat false) x,true) else(0#64,false)) else if n.op=12 then(if n.g<(2 ^ m.R.length:Nat) then(aY4 (wU m n.g.toNat true) x,true) else(0#64,false))
 else if n.op=13 then(if n.g<(2 ^ m.R.length:Nat) then(lY (wU m n.g.toNat false) (pO W) x y W,true) else(0#64,false)) else(0#64,false)
theorem aDd {W:Nat} (h1:1<=W) (h2:W<=64):18446744073709551615#64 >>> (64-W)= pO W:=by
 have:∀ W,W<65->1<=W->18446744073709551615#64 >>> (64-W)= pO W:=by decide
 exact this W (by omega) h1
end Ru
theorem aBg {m:nI} {W:Nat} (ok:lW m W) {n:Nd} {k:Int} (hn:yE n k=0) {x y:BitVec 64} (hcom:n.op=13->n.g<(2 ^ m.R.length:Nat)->lY (wU m n.g.toNat false) (pO W) x y (W+1)= lY (wU m n.g.toNat false) (pO W) x y W) :
  yB Tryz.prog 177 [m.d,.agg n.row,.int .u64 (ui x),.int .u64 (ui y)] (.tup [.int .u64 (ui (pV m W n x y).1),.bool (pV m W n x y).2]):=by
 obtain⟨W1,W64⟩:=ok.hW;have hR4:=ok.hR;have hV8:=ok.hV;have hw:IntKind.i64.wrap (64-m.W)= ((64-W:Nat):Int):=by rw [ok.w,wrap_i64 (by omega)]; omega
 have hfull:(18446744073709551615:Int)= ui 18446744073709551615#64:=rfl;have hall:=aDd W1 W64
 have hi0:n.op=3\/n.op=9\/n.op=10->0<=n.i:=fun h=>by
  rcases h with h | h | h
  ·exact(jR hn (by rw [h]; rfl)).1
  ·exact(tB hn (by rw [h]; rfl)).1
  ·exact(tB hn (by rw [h]; rfl)).1
 have hg0:n.op=11\/n.op=12\/n.op=13->1<=n.g/\n.g<=15:=fun h=>by
  have hgr:(xW n.op).1.gr=true:=by rcases h with h | h | h <;> rw [h] <;> rfl
  have h1:=(vZ.1 hn).2.2.2.2;simp only [Bool.or_eq_false_iff,hgr,xC,Bool.true_and,decide_eq_false_iff_not] at h1;omega
 have hsh:=aUk (k:=m.R.length) (by omega);obtain⟨op,i,e,g,a,b⟩:=n;simp only at hi0 hg0 hcom;have hrow:(Nd.row ⟨op,i,e,g,a,b⟩)= [.int .i64 op,.int .i64 i,.int .i64 e,.int .i64 g,.int .i64 a,.int .i64 b]:=rfl;rw [hrow];unfold nI.d
 rcases lK op with rfl | rfl | rfl | rfl | rfl | rfl | rfl | rfl | rfl | rfl | rfl | rfl | rfl | rfl | rfl | rfl | rfl | rfl | rfl | rfl | rfl | h | h
 ·rw [show pV m W ⟨1,i,e,g,a,b⟩ x y=(pO W,true) from rfl,<- hall];refine xY.xR mixed Tryz.func177 lX (by simp) fun hf=>?_;simp only [simprocAttr,-ZA,↓zU,↓zD,zV,zT,zW,hw]
  (repeat refine sd ?_)
  exact .drop (by simp) (by simp [vw,vwL])
 ·rw [show pV m W ⟨2,i,e,g,a,b⟩ x y=(0#64,true) from rfl];refine xY.xR mixed Tryz.func177 lX (by simp) fun hf=>?_;simp only [simprocAttr,-ZA,↓zU,↓zD,zV,zT,zW,hw]
  (repeat refine sd ?_)
  exact .drop (by simp) (by simp [vw,vwL])
 ·have h0:=hi0 (.inl rfl)
  by_cases hlt:i<(m.V.length:Int)
  ·have hv:pV m W ⟨3,i,e,g,a,b⟩ x y=(m.V.getD i.toNat 0,true):=if_pos hlt;have hge:¬ (m.V.length:Int)<=i:=by omega
   obtain⟨j,rfl⟩:=Int.eq_ofNat_of_zero_le h0;have hg:=uW m.V (show j<m.V.length by omega);rw [Int.toNat_natCast] at hv;rw [hv];generalize m.V.getD j 0=z at hg;refine xY.xR mixed Tryz.func177 lX (by simp) fun hf=>?_;simp only [simprocAttr,-ZA,↓zU,↓zD,zV,zT,zW,hw,xK,hge,hg]
   (repeat refine sd ?_)
   exact .drop (by simp) (by simp [vw,vwL])
  ·have hv:pV m W ⟨3,i,e,g,a,b⟩ x y=(0#64,false):=if_neg hlt;have hge:(m.V.length:Int)<=i:=by omega
   rw [hv];refine xY.xR mixed Tryz.func177 lX (by simp) fun hf=>?_;simp only [simprocAttr,-ZA,↓zU,↓zD,zV,zT,zW,hw,xK,hge]
   (repeat refine sd ?_)
   exact .drop (by simp) (by simp [vw,vwL])
 ·rw [show pV m W ⟨4,i,e,g,a,b⟩ x y=(pO W &&& ~~~x,true) from rfl,<- hall];refine xY.xR mixed Tryz.func177 lX (by simp) fun hf=>?_;simp only [simprocAttr,-ZA,↓zU,↓zD,zV,zT,zW,hw]
  (repeat refine sd ?_)
  exact .drop (by simp) (by simp [vw,vwL])
 ·rw [show pV m W ⟨5,i,e,g,a,b⟩ x y=(x &&& y,true) from rfl];refine xY.xR mixed Tryz.func177 lX (by simp) fun hf=>?_;simp only [simprocAttr,-ZA,↓zU,↓zD,zV,zT,zW,hw]
  (repeat refine sd ?_)
  exact .drop (by simp) (by simp [vw,vwL])
 ·rw [show pV m W ⟨6,i,e,g,a,b⟩ x y=(x ||| y,true) from rfl];refine xY.xR mixed Tryz.func177 lX (by simp) fun hf=>?_;simp only [simprocAttr,-ZA,↓zU,↓zD,zV,zT,zW,hw]
  (repeat refine sd ?_)
  exact .drop (by simp) (by simp [vw,vwL])
 ·rw [show pV m W ⟨7,i,e,g,a,b⟩ x y=(pO W &&& ~~~x ||| y,true) from rfl,<- hall];refine xY.xR mixed Tryz.func177 lX (by simp) fun hf=>?_;simp only [simprocAttr,-ZA,↓zU,↓zD,zV,zT,zW,hw]
  (repeat refine sd ?_)
  exact .drop (by simp) (by simp [vw,vwL])
 ·rw [show pV m W ⟨8,i,e,g,a,b⟩ x y=(pO W &&& ~~~(x ^^^ y),true) from rfl,<- hall];refine xY.xR mixed Tryz.func177 lX (by simp) fun hf=>?_;simp only [simprocAttr,-ZA,↓zU,↓zD,zV,zT,zW,hw]
  (repeat refine sd ?_)
  exact .drop (by simp) (by simp [vw,vwL])
 ·have h0:=hi0 (.inr (.inl rfl))
  by_cases hlt:i<(m.R.length:Int)
  ·have hv:pV m W ⟨9,i,e,g,a,b⟩ x y=(aY4 (m.R.getD i.toNat []) x,true):=if_pos hlt;have hge:¬ (m.R.length:Int)<=i:=by omega
   obtain⟨j,rfl⟩:=Int.eq_ofNat_of_zero_le h0;have hg:=nD m.R (show j<m.R.length by omega);have hc:=aZp (aDz ok (show j<m.R.length by omega)) x;rw [Int.toNat_natCast] at hv;rw [hv];generalize m.R.getD j []=z at hg hc;refine xY.xR mixed Tryz.func177 lX (by simp) fun hf=>?_;simp only [simprocAttr,-ZA,↓zU,↓zD,zV,zT,zW,hw,zP,hge,hg]
   (repeat refine sd ?_)
   refine .go (cr hc) ?_;simp only [simprocAttr,-ZA,↓zU,↓zD,zV,zT,zW];exact .drop (by simp) (by simp [vw,vwL])
  ·have hv:pV m W ⟨9,i,e,g,a,b⟩ x y=(0#64,false):=if_neg hlt;have hge:(m.R.length:Int)<=i:=by omega
   rw [hv];refine xY.xR mixed Tryz.func177 lX (by simp) fun hf=>?_;simp only [simprocAttr,-ZA,↓zU,↓zD,zV,zT,zW,hw,zP,hge]
   (repeat refine sd ?_)
   exact .drop (by simp) (by simp [vw,vwL])
 ·have h0:=hi0 (.inr (.inr rfl))
  by_cases hlt:i<(m.R.length:Int)
  ·have hv:pV m W ⟨10,i,e,g,a,b⟩ x y=(bYn (m.R.getD i.toNat []) x,true):=if_pos hlt;have hge:¬ (m.R.length:Int)<=i:=by omega
   obtain⟨j,rfl⟩:=Int.eq_ofNat_of_zero_le h0;have hg:=nD m.R (show j<m.R.length by omega);have hc:=aO2 (aDz ok (show j<m.R.length by omega)) x;rw [Int.toNat_natCast] at hv;rw [hv];generalize m.R.getD j []=z at hg hc;refine xY.xR mixed Tryz.func177 lX (by simp) fun hf=>?_;simp only [simprocAttr,-ZA,↓zU,↓zD,zV,zT,zW,hw,zP,hge,hg]
   (repeat refine sd ?_)
   refine .go (cr hc) ?_;simp only [simprocAttr,-ZA,↓zU,↓zD,zV,zT,zW];exact .drop (by simp) (by simp [vw,vwL])
  ·have hv:pV m W ⟨10,i,e,g,a,b⟩ x y=(0#64,false):=if_neg hlt;have hge:(m.R.length:Int)<=i:=by omega
   rw [hv];refine xY.xR mixed Tryz.func177 lX (by simp) fun hf=>?_;simp only [simprocAttr,-ZA,↓zU,↓zD,zV,zT,zW,hw,zP,hge]
   (repeat refine sd ?_)
   exact .drop (by simp) (by simp [vw,vwL])
 ·have h0:=hg0 (.inl rfl)
  by_cases hlt:g<((2 ^ m.R.length:Nat):Int)
  ·have hv:pV m W ⟨11,i,e,g,a,b⟩ x y=(aY4 (wU m g.toNat false) x,true):=if_pos hlt;have hge:¬ ((2 ^ m.R.length:Nat):Int)<=g:=by omega
   obtain⟨j,rfl⟩:=Int.eq_ofNat_of_zero_le (show 0<=g by omega);have hj:1<=j/\j<2 ^ m.R.length:=by omega
   have hc:=aQs ok hj;have hb:=aZp (aYe ok hj false) x;rw [Int.toNat_natCast] at hv;rw [hv];unfold nI.d at hc;generalize wU m j false=z at hc hb ⊢;refine xY.xR mixed Tryz.func177 lX (by simp) fun hf=>?_;simp only [simprocAttr,-ZA,↓zU,↓zD,zV,zT,zW,hw,zP,hge,hsh]
   (repeat refine sd ?_)
   refine .go (cr hc) ?_;simp only [simprocAttr,-ZA,↓zU,↓zD,zV,zT,zW];refine .go (cr hb) ?_;simp only [simprocAttr,-ZA,↓zU,↓zD,zV,zT,zW];exact .drop (by simp) (by simp [vw,vwL])
  ·have hv:pV m W ⟨11,i,e,g,a,b⟩ x y=(0#64,false):=if_neg hlt;have hge:((2 ^ m.R.length:Nat):Int)<=g:=by omega
   rw [hv];refine xY.xR mixed Tryz.func177 lX (by simp) fun hf=>?_;simp only [simprocAttr,-ZA,↓zU,↓zD,zV,zT,zW,hw,zP,hge,hsh]
   (repeat refine sd ?_)
   exact .drop (by simp) (by simp [vw,vwL])
 ·have h0:=hg0 (.inr (.inl rfl))
  by_cases hlt:g<((2 ^ m.R.length:Nat):Int)
  ·have hv:pV m W ⟨12,i,e,g,a,b⟩ x y=(aY4 (wU m g.toNat true) x,true):=if_pos hlt;have hge:¬ ((2 ^ m.R.length:Nat):Int)<=g:=by omega
   obtain⟨j,rfl⟩:=Int.eq_ofNat_of_zero_le (show 0<=g by omega);have hj:1<=j/\j<2 ^ m.R.length:=by omega
   have hc:=bX1 ok hj;have hb:=aZp (aYe ok hj true) x;rw [Int.toNat_natCast] at hv;rw [hv];unfold nI.d at hc;generalize wU m j true=z at hc hb ⊢;refine xY.xR mixed Tryz.func177 lX (by simp) fun hf=>?_;simp only [simprocAttr,-ZA,↓zU,↓zD,zV,zT,zW,hw,zP,hge,hsh]
   (repeat refine sd ?_)
   refine .go (cr hc) ?_;simp only [simprocAttr,-ZA,↓zU,↓zD,zV,zT,zW];refine .go (cr hb) ?_;simp only [simprocAttr,-ZA,↓zU,↓zD,zV,zT,zW];exact .drop (by simp) (by simp [vw,vwL])
  ·have hv:pV m W ⟨12,i,e,g,a,b⟩ x y=(0#64,false):=if_neg hlt;have hge:((2 ^ m.R.length:Nat):Int)<=g:=by omega
   rw [hv];refine xY.xR mixed Tryz.func177 lX (by simp) fun hf=>?_;simp only [simprocAttr,-ZA,↓zU,↓zD,zV,zT,zW,hw,zP,hge,hsh]
   (repeat refine sd ?_)
   exact .drop (by simp) (by simp [vw,vwL])
 ·have h0:=hg0 (.inr (.inr rfl))
  by_cases hlt:g<((2 ^ m.R.length:Nat):Int)
  ·have hv:pV m W ⟨13,i,e,g,a,b⟩ x y=(lY (wU m g.toNat false) (pO W) x y W,true):=if_pos hlt;have hge:¬ ((2 ^ m.R.length:Nat):Int)<=g:=by omega
   have hcm:=hcom rfl hlt;obtain⟨j,rfl⟩:=Int.eq_ofNat_of_zero_le (show 0<=g by omega);have hj:1<=j/\j<2 ^ m.R.length:=by omega
   have hc:=aQs ok hj;have hb:=aJ7 (aYe ok hj false) (by rw [Int.toNat_natCast] at hcm; exact hcm);rw [Int.toNat_natCast] at hv;rw [hv];unfold nI.d at hc;generalize wU m j false=z at hc hb ⊢;refine xY.xR mixed Tryz.func177 lX (by simp) fun hf=>?_;simp only [simprocAttr,-ZA,↓zU,↓zD,zV,zT,zW,hw,zP,hge,hsh]
   (repeat refine sd ?_)
   refine .go (cr hc) ?_;simp only [simprocAttr,-ZA,↓zU,↓zD,zV,zT,zW,hall];refine .go (cr hb) ?_;simp only [simprocAttr,-ZA,↓zU,↓zD,zV,zT,zW];exact .drop (by simp) (by simp [vw,vwL])
  ·have hv:pV m W ⟨13,i,e,g,a,b⟩ x y=(0#64,false):=if_neg hlt;have hge:((2 ^ m.R.length:Nat):Int)<=g:=by omega
   rw [hv];refine xY.xR mixed Tryz.func177 lX (by simp) fun hf=>?_;simp only [simprocAttr,-ZA,↓zU,↓zD,zV,zT,zW,hw,zP,hge,hsh]
   (repeat refine sd ?_)
   exact .drop (by simp) (by simp [vw,vwL])
 ·rw [show pV m W ⟨14,i,e,g,a,b⟩ x y=(0#64,false) from rfl];refine xY.xR mixed Tryz.func177 lX (by simp) fun hf=>?_;simp only [simprocAttr,-ZA,↓zU,↓zD,zV,zT,zW,hw]
  (repeat refine sd ?_)
  exact .drop (by simp) (by simp [vw,vwL])
 ·rw [show pV m W ⟨15,i,e,g,a,b⟩ x y=(0#64,false) from rfl];refine xY.xR mixed Tryz.func177 lX (by simp) fun hf=>?_;simp only [simprocAttr,-ZA,↓zU,↓zD,zV,zT,zW,hw]
  (repeat refine sd ?_)
  exact .drop (by simp) (by simp [vw,vwL])
 ·rw [show pV m W ⟨16,i,e,g,a,b⟩ x y=(0#64,false) from rfl];refine xY.xR mixed Tryz.func177 lX (by simp) fun hf=>?_;simp only [simprocAttr,-ZA,↓zU,↓zD,zV,zT,zW,hw]
  (repeat refine sd ?_)
  exact .drop (by simp) (by simp [vw,vwL])
 ·rw [show pV m W ⟨17,i,e,g,a,b⟩ x y=(0#64,false) from rfl];refine xY.xR mixed Tryz.func177 lX (by simp) fun hf=>?_;simp only [simprocAttr,-ZA,↓zU,↓zD,zV,zT,zW,hw]
  (repeat refine sd ?_)
  exact .drop (by simp) (by simp [vw,vwL])
 ·rw [show pV m W ⟨18,i,e,g,a,b⟩ x y=(0#64,false) from rfl];refine xY.xR mixed Tryz.func177 lX (by simp) fun hf=>?_;simp only [simprocAttr,-ZA,↓zU,↓zD,zV,zT,zW,hw]
  (repeat refine sd ?_)
  exact .drop (by simp) (by simp [vw,vwL])
 ·rw [show pV m W ⟨19,i,e,g,a,b⟩ x y=(0#64,false) from rfl];refine xY.xR mixed Tryz.func177 lX (by simp) fun hf=>?_;simp only [simprocAttr,-ZA,↓zU,↓zD,zV,zT,zW,hw]
  (repeat refine sd ?_)
  exact .drop (by simp) (by simp [vw,vwL])
 ·rw [show pV m W ⟨20,i,e,g,a,b⟩ x y=(0#64,false) from rfl];refine xY.xR mixed Tryz.func177 lX (by simp) fun hf=>?_;simp only [simprocAttr,-ZA,↓zU,↓zD,zV,zT,zW,hw]
  (repeat refine sd ?_)
  exact .drop (by simp) (by simp [vw,vwL])
 ·rw [show pV m W ⟨21,i,e,g,a,b⟩ x y=(0#64,false) from rfl];refine xY.xR mixed Tryz.func177 lX (by simp) fun hf=>?_;simp only [simprocAttr,-ZA,↓zU,↓zD,zV,zT,zW,hw]
  (repeat refine sd ?_)
  exact .drop (by simp) (by simp [vw,vwL])
 ·have hv:pV m W ⟨op,i,e,g,a,b⟩ x y=(0#64,false):=by unfold pV; simp only; repeat rw [if_neg (by omega)]
  have q1:(op==1)= false:=by rw [beq_eq_false_iff_ne]; omega
  have q2:(op==2)= false:=by rw [beq_eq_false_iff_ne]; omega
  have q3:(op==3)= false:=by rw [beq_eq_false_iff_ne]; omega
  have q4:(op==4)= false:=by rw [beq_eq_false_iff_ne]; omega
  have q5:(op==5)= false:=by rw [beq_eq_false_iff_ne]; omega
  have q6:(op==6)= false:=by rw [beq_eq_false_iff_ne]; omega
  have q7:(op==7)= false:=by rw [beq_eq_false_iff_ne]; omega
  have q8:(op==8)= false:=by rw [beq_eq_false_iff_ne]; omega
  have q9:(op==9)= false:=by rw [beq_eq_false_iff_ne]; omega
  have q10:(op==10)= false:=by rw [beq_eq_false_iff_ne]; omega
  have q11:(op==11)= false:=by rw [beq_eq_false_iff_ne]; omega
  have q12:(op==12)= false:=by rw [beq_eq_false_iff_ne]; omega
  have q13:(op==13)= false:=by rw [beq_eq_false_iff_ne]; omega
  rw [hv];refine xY.xR mixed Tryz.func177 lX (by simp) fun hf=>?_;simp only [simprocAttr,-ZA,↓zU,↓zD,zV,zT,zW,hw,q1,q2,q3,q4,q5,q6,q7,q8,q9,q10,q11,q12,q13]
  (repeat refine sd ?_)
  exact .drop (by simp) (by simp [vw,vwL])
 ·have hv:pV m W ⟨op,i,e,g,a,b⟩ x y=(0#64,false):=by unfold pV; simp only; repeat rw [if_neg (by omega)]
  have q1:(op==1)= false:=by rw [beq_eq_false_iff_ne]; omega
  have q2:(op==2)= false:=by rw [beq_eq_false_iff_ne]; omega
  have q3:(op==3)= false:=by rw [beq_eq_false_iff_ne]; omega
  have q4:(op==4)= false:=by rw [beq_eq_false_iff_ne]; omega
  have q5:(op==5)= false:=by rw [beq_eq_false_iff_ne]; omega
  have q6:(op==6)= false:=by rw [beq_eq_false_iff_ne]; omega
  have q7:(op==7)= false:=by rw [beq_eq_false_iff_ne]; omega
  have q8:(op==8)= false:=by rw [beq_eq_false_iff_ne]; omega
  have q9:(op==9)= false:=by rw [beq_eq_false_iff_ne]; omega
  have q10:(op==10)= false:=by rw [beq_eq_false_iff_ne]; omega
  have q11:(op==11)= false:=by rw [beq_eq_false_iff_ne]; omega
  have q12:(op==12)= false:=by rw [beq_eq_false_iff_ne]; omega
  have q13:(op==13)= false:=by rw [beq_eq_false_iff_ne]; omega
  rw [hv];refine xY.xR mixed Tryz.func177 lX (by simp) fun hf=>?_;simp only [simprocAttr,-ZA,↓zU,↓zD,zV,zT,zW,hw,q1,q2,q3,q4,q5,q6,q7,q8,q9,q10,q11,q12,q13]
  (repeat refine sd ?_)
  exact .drop (by simp) (by simp [vw,vwL])
end Go.Pd
