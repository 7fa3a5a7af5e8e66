/- Part C2. -/
import Derived.Test.YtndfaefmmcoapaaGreatKaC1
set_option linter.unusedSectionVars false
set_option linter.unusedVariables false
set_option linter.unusedSimpArgs false
set_option linter.defProp false
set_option maxRecDepth 20000
set_option maxHeartbeats 1000000
namespace Go.Pd
open Go Go.Proofs
open Int renaming reduceToNat -> ZA, reduceLT -> ZB, reduceLE -> ZC, reduceBEq -> ZD, reduceBNe -> ZE
open Nat renaming reduceEqDiff -> ZF, reduceAdd -> ZG, reduceBEq -> ZH, reduceLT -> ZI, reduceLeDiff -> ZJ, reduceMul -> ZK
open Rs Fm Ru Te
theorem aK8 (s:BitVec 64) (l:List (BitVec 64)) (hl:l.length<=1000):xX Tryz.prog 122 [.sl 1 (us (s :: l))] St0 (.osl 0 1 (l.length+1)) ⟨1,[(0,⟨1,us (s :: l)⟩)]⟩:=by
 refine xX.go_fn mixed Tryz.func122 aAq (by simp) fun hf=>?_;have hln:(us (s :: l)).length=l.length+1:=by simp [us]
 have h1:=aRp (s :: l);have e:us (s :: l)= [.int .u64 (ui s)] :: us l:=rfl;rw [e] at hln h1 ⊢;simp only [ZA,ZB,ZC,ZD,ZE,↓reduceIte,ZF,ZG,ZH,ZI,ZJ,reduceCtorEq,ZK,↓zU,↓zD,zV,zT,zW];have hp:=tA (s :: l);rw [e] at hp;exact⟨by simp,h1,by omega,by omega,nA.name (n:=0) (by simp) hp (by simp [vw])⟩
theorem aSc {k sz:Nat} {a b:List (List D)} (h:a.length=b.length):xG k sz a=xG k sz b:=by
 cases a with
 | nil=>cases b with
  | nil=>rfl
  | cons e r=>simp at h
 | cons e r=>cases b with
  | nil=>simp at h
  | cons e' r'=>simp only [List.length_cons] at h; simp [xG,h]
theorem aPm (c:Nat) (l:List (BitVec 64)):(us l).map (D.shiftL c)= us l:=pC c (tA l)
theorem aWb {n:Nat} {objs:List (Nat × Ob)} (l:List (BitVec 64)) (h:l ≠ []) (hl:l.length<=1000):xX Tryz.prog 122 [.sl 1 (us l)] ⟨n,objs⟩ (xG n 1 (us l)) ⟨n+1,xE n 1 (us l)++ objs⟩:=by
 cases l with
 | nil=>exact absurd rfl h
 | cons s l=>
  have:=xX.own (σ:=⟨n,objs⟩) (aK8 s l (by simp at hl; omega)) (by simp [D.isPureL,D.isPure]);simp only [D.shift,yZ,Ob.shift,aPm,List.cons_append,List.nil_append,Nat.add_zero] at this;simp only [aYz,fE,fF,xR,List.cons_append,List.nil_append];exact this
namespace Ru
def op2 (meet:Bool) (a b:BitVec 64):BitVec 64:=if meet=true then a &&& b else a ||| b
def aNp (meet:Bool) (acc r:List (BitVec 64)):List (BitVec 64):=(List.range acc.length).map fun i=>op2 meet (acc.getD i 0) (r.getD i 0)
def kF (R:List (List (BitVec 64))) (G:Nat) (meet:Bool):Nat->List (BitVec 64)
 | 0=>[]
 | k+1=>if G.testBit k then(if (kF R G meet k).isEmpty then R.getD k [] else aNp meet (kF R G meet k) (R.getD k [])) else kF R G meet k
def zZ (m:pR) (G:Nat) (meet:Bool):List (BitVec 64):=kF m.R G meet m.R.length
def aYg (meet:Bool) (acc r:List (BitVec 64)) (w:Nat):List (BitVec 64):=(List.range acc.length).map fun i=>if i<w then op2 meet (acc.getD i 0) (r.getD i 0) else acc.getD i 0
theorem aOi (meet:Bool) (acc r:List (BitVec 64)):aYg meet acc r 0=acc:=by
 refine List.ext_getElem (by simp [aYg]) fun i h1 h2=>?_;simp [aYg,List.getD,h2]
theorem aKk (meet:Bool) (acc r:List (BitVec 64)):aYg meet acc r acc.length=aNp meet acc r:=by
 unfold aYg aNp;refine List.map_congr_left fun i hi=>?_;rw [List.mem_range] at hi;rw [if_pos hi]
theorem aVr (meet:Bool) (acc r:List (BitVec 64)) (w:Nat):(aYg meet acc r w).length=acc.length:=by simp [aYg]
theorem aGo {meet:Bool} {acc r:List (BitVec 64)} {w:Nat} (h:w<acc.length):(aYg meet acc r w).getD w 0=acc.getD w 0:=by
 simp [aYg,List.getD,h]
theorem aKj {meet:Bool} {acc r:List (BitVec 64)} {w:Nat} (h:w<acc.length):(aYg meet acc r w).set w (op2 meet (acc.getD w 0) (r.getD w 0))= aYg meet acc r (w+1):=by
 refine List.ext_getElem (by simp [aYg]) fun i h1 h2=>?_;simp only [List.getElem_set,aYg,List.getElem_map,List.getElem_range]
 by_cases e:w=i
 ·subst e; simp
 ·rw [if_neg e]
  by_cases e2:i<w
  ·rw [if_pos e2,if_pos (by omega)]
  ·rw [if_neg e2,if_neg (by omega)]
theorem cS {m:pR} {W:Nat} (ok:oN m W) (G:Nat) (meet:Bool):∀ k,k<=m.R.length->kF m.R G meet k = []\/(kF m.R G meet k).length=W
 | 0,_=>.inl rfl
 | k+1,hk=>by
  have hr:=ok.row _ (xN (d:=[]) (show k<m.R.length by omega));rw [kF]
  split
  ·split
   ·exact .inr hr
   ·rcases cS ok G meet k (by omega) with h | h
    ·rename_i hn; rw [h] at hn; exact absurd rfl hn
    ·exact .inr (by simp [aNp,h])
  ·exact cS ok G meet k (by omega)
theorem aXs (R:List (List (BitVec 64))) (G:Nat) (meet:Bool) (k:Nat):kF R G meet (k+1)= if G.testBit k then(if (kF R G meet k).isEmpty then R.getD k [] else aNp meet (kF R G meet k) (R.getD k [])) else kF R G meet k:=rfl
end Ru
theorem aC {m:pR} {W:Nat} (ok:oN m W) {g:Nat} (hg:1<=g/\g<2 ^ m.R.length) (meet:Bool) (f:FuncId) (hop:∀ a b,yX Tryz.prog f [.int .u64 (ui a),.int .u64 (ui b)] (.int .u64 (ui (op2 meet a b)))):yX Tryz.prog 252 [m.d,.int .i64 (g:Int),.fn f []] (.sl 1 (us (zZ m g meet))):=by
 have hc:=fM ok;have h4:=ok.hR;obtain⟨W1,W64⟩:=ok.hW;have hsh:=aY1 (k:=m.R.length) (by omega);have h2:¬ (g:Int)<1:=by omega
 have h3:¬ ((2 ^ m.R.length:Nat):Int)<=(g:Int):=by omega
 have hg60:g<2 ^ 60:=Nat.lt_of_lt_of_le hg.2 (Nat.pow_le_pow_right (by decide) (by omega));have hall:kF m.R g meet m.R.length=zZ m g meet:=rfl;unfold pR.d at hc ⊢;refine xX.go_fn mixed Tryz.func252 aA8 (by simp) fun hf=>?_;simp only [ZA,ZB,ZC,ZD,ZE,↓reduceIte,ZF,ZG,ZH,ZI,ZJ,reduceCtorEq,ZK,↓zU,↓zD,zV,zT,zW]
 (repeat refine sd ?_)
 refine .go (cr hc) ?_;simp only [ZA,ZB,ZC,ZD,ZE,↓reduceIte,ZF,ZG,ZH,ZI,ZJ,reduceCtorEq,ZK,↓zU,↓zD,zV,zT,zW,h2,h3,hsh,yF]
 (repeat refine sd ?_)
 refine xV (fun k:Nat=>[(29,.int .i64 k),(28,.int .i64 m.R.length),(27,.sl 1 (rr m.R)),(7,xG 1 1 (us (kF m.R g meet k))),(2,.fn f []),(1,.int .i64 g)])
  (fun k=>⟨2,xE 1 1 (us (kF m.R g meet k))⟩) (fun k=>k<=m.R.length) (fun k=>m.R.length-k) 0 (Nat.zero_le _) ?_ ?_
 ·(refine xM.ren [] [1,0] (by simp) (by simp) (by decide) ?_; simp only [yP,vwL,vw,vwF,sw,St.get,St.look,Fr.get,↓reduceIte,reduceIte,Nat.reduceEqDiff,Nat.reduceAdd,Nat.reduceBEq,Nat.reduceLT,Nat.reduceLeDiff,exists_eq_left',ne_eq,reduceCtorEq,zR,kF,zN,zM,List.nil_append,vwL])
 intro k hk;refine xQ mixed ?_
 by_cases h:k<m.R.length
 ·have hd:((k:Int)<(m.R.length:Int)):=by omega
  have hu:=uB (k:=k) (by omega);have hrl:=ok.row _ (xN (d:=[]) h);have hbr:=aD8 hg60 (show k<=60 by omega);have hs:=aXs m.R g meet k;have hL:=cS ok g meet k hk;have hrg:=pP m.R h;generalize kF m.R g meet k=acc at hs hL ⊢;generalize m.R.getD k []=r at hrl hs hrg
  cases hb:g.testBit k with
  | false=>
   rw [hb] at hbr hs;simp only [ZA,ZB,ZC,ZD,ZE,↓reduceIte,ZF,ZG,ZH,ZI,ZJ,reduceCtorEq,ZK,↓zU,↓zD,zV,zT,zW,hd,hbr,hu,hrg,yF]
   (repeat refine sd ?_)
   refine⟨k+1,by omega,?_,by omega⟩;rw [hs,if_neg (by simp)]
   (refine xM.same ?_; simp only [xS,Fr.get,↓reduceIte,reduceIte,Nat.reduceEqDiff,reduceCtorEq,D.int.injEq,D.bool.injEq,D.sl.injEq,and_true,true_and,and_self])
  | true=>
   rw [hb] at hbr hs;rw [if_pos rfl] at hs hbr
   by_cases he:acc = []
   ·subst he;rw [List.isEmpty_nil,if_pos rfl] at hs;simp only [ZA,ZB,ZC,ZD,ZE,↓reduceIte,ZF,ZG,ZH,ZI,ZJ,reduceCtorEq,ZK,↓zU,↓zD,zV,zT,zW,hd,hbr,hu,hrg,yF,List.isEmpty_nil]
    (repeat refine sd ?_)
    have hrne:r ≠ []:=by rintro rfl; simp at hrl; omega
    refine .go (aWb r hrne (by omega)) ?_;simp only [ZA,ZB,ZC,ZD,ZE,↓reduceIte,ZF,ZG,ZH,ZI,ZJ,reduceCtorEq,ZK,↓zU,↓zD,zV,zT,zW,hu];refine⟨k+1,by omega,?_,by omega⟩;rw [hs]
    (refine xM.ren [(1,2)] [1] (by simp) (by simp) (by decide) ?_; simp only [yP,vwL,vw,vwF,sw,St.get,St.look,Fr.get,↓reduceIte,reduceIte,Nat.reduceEqDiff,Nat.reduceAdd,Nat.reduceBEq,Nat.reduceLT,Nat.reduceLeDiff,exists_eq_left',ne_eq,reduceCtorEq,zR])
   ·have hie:acc.isEmpty=false:=by simpa using he
    have hiu:(us acc).isEmpty=false:=by cases acc with | nil=>exact absurd rfl he | cons a l=>rfl
    rw [hie,if_neg (by simp)] at hs;have hL1:acc.length=W:=hL.resolve_left he;simp only [ZA,ZB,ZC,ZD,ZE,↓reduceIte,ZF,ZG,ZH,ZI,ZJ,reduceCtorEq,ZK,↓zU,↓zD,zV,zT,zW,hd,hbr,hu,hrg,yF,hiu]
    (repeat refine sd ?_)
    refine xV (fun w:Nat=>[(45,.int .i64 w),(44,.int .i64 acc.length),(29,.int .i64 k),(28,.int .i64 m.R.length),(27,.sl 1 (rr m.R)),(9,.sl 1 (us r)),(7,xG 1 1 (us acc)),(2,.fn f []),(1,.int .i64 g)])
     (fun w=>⟨2,xE 1 1 (us (aYg meet acc r w))⟩) (fun w=>w<=acc.length) (fun w=>acc.length-w) 0 (Nat.zero_le _) ?_ ?_
    ·rw [aOi]
     (refine xM.same ?_; simp [xS,Fr.get])
    intro w hw;refine xQ mixed ?_
    by_cases h4:w<acc.length
    ·have hd4:((w:Int)<(acc.length:Int)):=by omega
     have hw4:=uB (k:=w) (by omega);have hx:w<r.length:=by omega
     have hx':(w:Int)<(r.length:Int):=by omega
     have hma:=aGo (meet:=meet) (r:=r) h4;have hms:=aKj (meet:=meet) (r:=r) h4;have hml:=aVr meet acc r w;have hmw:w<(aYg meet acc r w).length:=by omega
     generalize aYg meet acc r w=z at *;simp only [ZA,ZB,ZC,ZD,ZE,↓reduceIte,ZF,ZG,ZH,ZI,ZJ,reduceCtorEq,ZK,↓zU,↓zD,zV,zT,zW,hd4,hw4,zI _ hmw,zI _ hx,hma,hml,xR]
     (repeat refine sd ?_)
     refine .go (xX.of_runs (hop (acc.getD w 0) (r.getD w 0)) rfl) ?_;simp only [ZA,ZB,ZC,ZD,ZE,↓reduceIte,ZF,ZG,ZH,ZI,ZJ,reduceCtorEq,ZK,↓zU,↓zD,zV,zT,zW,hd4,hw4,zI _ hmw,oM,hma,hml,hms,xR]
     (repeat refine sd ?_)
     refine⟨w+1,by omega,?_,by omega⟩;rw [fT (by rw [xR,xR,aVr,hml])]
     (refine xM.same ?_; simp only [xS,Fr.get,↓reduceIte,reduceIte,Nat.reduceEqDiff,reduceCtorEq,D.int.injEq,D.bool.injEq,D.sl.injEq,and_true,true_and,and_self])
    ·have hd4:¬ ((w:Int)<(acc.length:Int)):=by omega
     have hw':w=acc.length:=by omega
     subst hw';rw [aKk];simp only [ZA,ZB,ZC,ZD,ZE,↓reduceIte,ZF,ZG,ZH,ZI,ZJ,reduceCtorEq,ZK,↓zU,↓zD,zV,zT,zW,hd4,hu];refine⟨k+1,by omega,?_,by omega⟩;rw [hs,aSc (show (us acc).length=(us (aNp meet acc r)).length by simp [us,aNp])]
     (refine xM.same ?_; simp only [xS,Fr.get,↓reduceIte,reduceIte,Nat.reduceEqDiff,reduceCtorEq,D.int.injEq,D.bool.injEq,D.sl.injEq,and_true,true_and,and_self])
 ·have hd:¬ ((k:Int)<(m.R.length:Int)):=by omega
  have hk':k=m.R.length:=by omega
  subst hk';rw [hall];simp only [ZA,ZB,ZC,ZD,ZE,↓reduceIte,ZF,ZG,ZH,ZI,ZJ,reduceCtorEq,ZK,↓zU,↓zD,zV,zT,zW,hd]
  (repeat refine sd ?_)
  refine .drop (by simp) ?_;simp only [yP,vwL,vw,vwF,sw,St.get,St.look,Fr.get,↓reduceIte,reduceIte,Nat.reduceEqDiff,Nat.reduceAdd,Nat.reduceBEq,Nat.reduceLT,Nat.reduceLeDiff,exists_eq_left',ne_eq,reduceCtorEq,zR]
theorem aGt (a b:BitVec 64):yX Tryz.prog 254 [.int .u64 (ui a),.int .u64 (ui b)] (.int .u64 (ui (op2 false a b))):=by
 refine xX.go_fn mixed Tryz.func254 aA6 (by simp) fun hf=>?_;simp only [ZA,ZB,ZC,ZD,ZE,↓reduceIte,ZF,ZG,ZH,ZI,ZJ,reduceCtorEq,ZK,↓zU,↓zD,zV,zT,zW];exact .same
theorem aGu (a b:BitVec 64):yX Tryz.prog 253 [.int .u64 (ui a),.int .u64 (ui b)] (.int .u64 (ui (op2 true a b))):=by
 refine xX.go_fn mixed Tryz.func253 aA7 (by simp) fun hf=>?_;simp only [ZA,ZB,ZC,ZD,ZE,↓reduceIte,ZF,ZG,ZH,ZI,ZJ,reduceCtorEq,ZK,↓zU,↓zD,zV,zT,zW];exact .same
theorem aUr {m:pR} {W:Nat} (ok:oN m W) {g:Nat} (hg:1<=g/\g<2 ^ m.R.length):yX Tryz.prog 217 [m.d,.int .i64 (g:Int)] (.sl 1 (us (zZ m g false))):=by
 have h:=aC ok hg false 254 aGt;unfold pR.d at h ⊢;refine xX.go_fn mixed Tryz.func217 bXk (by simp) fun hf=>?_;simp only [ZA,ZB,ZC,ZD,ZE,↓reduceIte,ZF,ZG,ZH,ZI,ZJ,reduceCtorEq,ZK,↓zU,↓zD,zV,zT,zW]
 (repeat refine sd ?_)
 refine .go (cr h) ?_;simp only [ZA,ZB,ZC,ZD,ZE,↓reduceIte,ZF,ZG,ZH,ZI,ZJ,reduceCtorEq,ZK,↓zU,↓zD,zV,zT,zW];exact .drop (by simp) (by simp [vw])
theorem aFt {m:pR} {W:Nat} (ok:oN m W) {g:Nat} (hg:1<=g/\g<2 ^ m.R.length):yX Tryz.prog 216 [m.d,.int .i64 (g:Int)] (.sl 1 (us (zZ m g true))):=by
 have h:=aC ok hg true 253 aGu;unfold pR.d at h ⊢;refine xX.go_fn mixed Tryz.func216 bXl (by simp) fun hf=>?_;simp only [ZA,ZB,ZC,ZD,ZE,↓reduceIte,ZF,ZG,ZH,ZI,ZJ,reduceCtorEq,ZK,↓zU,↓zD,zV,zT,zW]
 (repeat refine sd ?_)
 refine .go (cr h) ?_;simp only [ZA,ZB,ZC,ZD,ZE,↓reduceIte,ZF,ZG,ZH,ZI,ZJ,reduceCtorEq,ZK,↓zU,↓zD,zV,zT,zW];exact .drop (by simp) (by simp [vw])
open Rs Fm Ru Te
namespace Ru
def oR (r:List (BitVec 64)) (a c s:BitVec 64):Nat->BitVec 64
 | 0=>a
 | n+1=>cE r (a &&& ~~~c ||| s &&& oR r a c s n)
theorem aXj {r:List (BitVec 64)} {a c s:BitVec 64} {n:Nat} (h:oR r a c s (n+1)= oR r a c s n):∀ m,oR r a c s (n+m)= oR r a c s n
 | 0=>rfl
 | m+1=>by
  show cE r (a &&& ~~~c ||| s &&& oR r a c s (n+m))= _;rw [aXj h m];exact h
theorem aGx {n:Nat} (hn:n<=64) {x:BitVec 64} (h:aYe n x=false) {i:Nat} (hi:x.getLsbD i=true):i<n:=by
 unfold aYe at h;rw [Bool.not_eq_false',decide_eq_true_iff] at h;have h64:i<64:=Decidable.byContradiction fun hh=>by rw [BitVec.getLsbD_of_ge _ _ (by omega)] at hi; cases hi
 have:=congrArg (·.getLsbD i) h;simp only [BitVec.getLsbD_and,BitVec.getLsbD_not,tI hn h64,hi,h64,BitVec.getLsbD_zero] at this;simpa using this
def aRf (R:List (List (BitVec 64))) (G:Nat) (meet:Bool) (k w v:Nat):Bool:=
 if meet=true then(List.range k).all fun a=>!G.testBit a || ((R.getD a []).getD w 0).getLsbD v else(List.range k).any fun a=>G.testBit a&&((R.getD a []).getD w 0).getLsbD v
theorem aH3 (meet:Bool) (a b:BitVec 64) (v:Nat):(op2 meet a b).getLsbD v=if meet=true then(a.getLsbD v&&b.getLsbD v) else(a.getLsbD v || b.getLsbD v):=by
 unfold op2;cases meet <;> simp
theorem iR (R:List (List (BitVec 64))) (G:Nat) (meet:Bool) (k w v:Nat):aRf R G meet (k+1) w v=if G.testBit k=true then(if meet=true then(aRf R G meet k w v&&((R.getD k []).getD w 0).getLsbD v) else(aRf R G meet k w v || ((R.getD k []).getD w 0).getLsbD v)) else aRf R G meet k w v:=by
 unfold aRf;simp only [List.range_succ,List.any_append,List.all_append,List.any_cons,List.any_nil,List.all_cons,List.all_nil,Bool.or_false,Bool.and_true];cases meet <;> cases hG:G.testBit k <;> simp
theorem aXt {m:pR} {W:Nat} (ok:oN m W) (G:Nat) (meet:Bool):∀ k,k<=m.R.length->((∀ a,a<k->G.testBit a=false)/\ kF m.R G meet k = [])\/((∃ a,a<k/\G.testBit a=true)/\ (kF m.R G meet k).length=W/\∀ w,w<W->∀ v,((kF m.R G meet k).getD w 0).getLsbD v=aRf m.R G meet k w v)
 | 0,_=>.inl ⟨fun a h=>by omega,rfl⟩
 | k + 1,hk=>by
  have hr:=ok.row _ (xN (d:=[]) (show k<m.R.length by omega));rw [aXs];have ih:=aXt ok G meet k (by omega)
  cases hb:G.testBit k with
  | false=>
   rw [if_neg (by simp)]
   rcases ih with ⟨h1,h2⟩ | ⟨⟨a,h1,h2⟩,h3,h4⟩
   ·refine .inl ⟨fun a ha=>?_,h2⟩
    by_cases e:a=k
    ·rw [e]; exact hb
    ·exact h1 a (by omega)
   ·refine .inr ⟨⟨a,by omega,h2⟩,h3,fun w hw v=>?_⟩;rw [iR,hb,h4 w hw v]; rfl
  | true=>
   rw [if_pos rfl];refine .inr ⟨⟨k,by omega,hb⟩,?_⟩
   rcases ih with ⟨h1,h2⟩ | ⟨_,h3,h4⟩
   ·rw [h2,List.isEmpty_nil,if_pos rfl];refine⟨hr,fun w hw v=>?_⟩;rw [iR,hb,if_pos rfl]
    have hz:aRf m.R G meet k w v=meet:=by
     unfold aRf
     cases meet
     ·simp only [Bool.false_eq_true,↓reduceIte,List.any_eq_false,List.mem_range];intro a ha;rw [h1 a ha]; simp
     ·simp only [↓reduceIte,List.all_eq_true,List.mem_range];intro a ha;rw [h1 a ha]; simp
    rw [hz];cases meet <;> simp
   ·have hne:(kF m.R G meet k).isEmpty=false:=by
     cases hc:kF m.R G meet k with
     | nil=>rw [hc] at h3; have:=ok.hW; simp at h3; omega
     | cons a b=>rfl
    rw [hne,if_neg (by simp)];refine⟨by simp [aNp,h3],fun w hw v=>?_⟩;rw [iR,hb,if_pos rfl,<- h4 w hw v]
    have:(aNp meet (kF m.R G meet k) (m.R.getD k [])).getD w 0=op2 meet ((kF m.R G meet k).getD w 0) ((m.R.getD k []).getD w 0):=by
     simp [aNp,List.getD,h3,hw]
    rw [this,aH3]
theorem iE {m:pR} {W:Nat} (ok:oN m W) {g:Nat} (hg:1<=g/\g<2 ^ m.R.length) (meet:Bool):(∃ a,a<m.R.length/\g.testBit a=true)/\ (zZ m g meet).length=W/\∀ w,w<W->∀ v,((zZ m g meet).getD w 0).getLsbD v=aRf m.R g meet m.R.length w v:=by
 rcases aXt ok g meet m.R.length (Nat.le_refl _) with ⟨h1,_⟩ | h
 ·exfalso
  have:g=0:=by
   refine Nat.eq_of_testBit_eq fun i=>?_;rw [Nat.zero_testBit]
   by_cases hi:i<m.R.length
   ·exact h1 i hi
   ·exact Nat.testBit_lt_two_pow (Nat.lt_of_lt_of_le hg.2 (Nat.pow_le_pow_right (by decide) (by omega)))
  omega
 ·exact h
theorem aJ3 {m:pR} {W:Nat} (ok:oN m W) {a:Nat} (ha:a<m.R.length):aTb (m.R.getD a []):=by
 have hm:=xN (d:=[]) ha;have:=ok.hW;refine⟨by rw [ok.row _ hm]; omega,fun x hx=>?_⟩;rw [ok.row _ hm];exact ok.rel _ hm x hx
theorem dD {m:pR} {W:Nat} (ok:oN m W) {g:Nat} (hg:1<=g/\g<2 ^ m.R.length) (meet:Bool):aTb (zZ m g meet):=by
 obtain⟨⟨a,ha,hb⟩,hl,hv⟩:=iE ok hg meet;have hW:=ok.hW;refine⟨by rw [hl]; omega,fun x hx=>?_⟩;rw [hl];obtain⟨w,hw,rfl⟩:=List.mem_iff_getElem.1 hx;refine aY7 hW.2 fun v h=>?_;have hw':w<W:=by omega
 have e:(zZ m g meet)[w]=(zZ m g meet).getD w 0:=by simp [List.getD,hw]
 rw [e,hv w hw' v] at h
 have key:∀ b,b<m.R.length->((m.R.getD b []).getD w 0).getLsbD v=true->v<W:=fun b hb' h'=>by
  have hm:=xN (d:=[]) hb';exact aGx hW.2 (ok.rel _ hm _ (xN (d:=0) (by rw [ok.row _ hm]; exact hw'))) h'
 unfold aRf at h
 split at h
 ·rw [List.all_eq_true] at h;have:=h a (List.mem_range.2 ha);rw [hb] at this;exact key a ha (by simpa using this)
 ·rw [List.any_eq_true] at h;obtain⟨b,hb1,hb2⟩:=h;rw [Bool.and_eq_true] at hb2;exact key b (List.mem_range.1 hb1) hb2.2
end Ru
theorem aO6 {r:List (BitVec 64)} (ok:aTb r) {a c s:BitVec 64} {N:Nat} (hN:oR r a c s (N+1)= oR r a c s N):yX Tryz.prog 218 [.sl 1 (us r),.int .u64 (ui a),.int .u64 (ui c),.int .u64 (ui s)] (.int .u64 (ui (oR r a c s N))):=by
 have hb:=fun x=>bJ ok x;refine xX.go_fn mixed Tryz.func218 bXj (by simp) fun hf=>?_;simp only [ZA,ZB,ZC,ZD,ZE,↓reduceIte,ZF,ZG,ZH,ZI,ZJ,reduceCtorEq,ZK,↓zU,↓zD,zV,zT,zW]
 refine xV (fun n:Nat=>[(9,.int .u64 (ui (oR r a c s n))),(3,.int .u64 (ui s)),(2,.int .u64 (ui c)),(1,.int .u64 (ui a)),(0,.sl 1 (us r))]) (fun _=>⟨0,[]⟩) (fun n=>n<=N) (fun n=>N-n) 0 (Nat.zero_le _) ?_ ?_
 ·(refine xM.same ?_; simp [xS,Fr.get])
  rfl
 intro n hn;refine xQ mixed ?_;have hs:oR r a c s (n+1)= cE r (a &&& ~~~c ||| s &&& oR r a c s n):=rfl;simp only [ZA,ZB,ZC,ZD,ZE,↓reduceIte,ZF,ZG,ZH,ZI,ZJ,reduceCtorEq,ZK,↓zU,↓zD,zV,zT,zW];refine .go (xX.of_runs (hb (a &&& ~~~c ||| s &&& oR r a c s n)) (by simp [D.isPureL,D.isPure])) ?_;rw [<- hs]
 by_cases e:oR r a c s (n+1)= oR r a c s n
 ·obtain⟨k,hk⟩:=Nat.exists_eq_add_of_le hn;have hst:=aXj e k;rw [hk,hst];have e':(oR r a c s (n+1)== oR r a c s n)= true:=by rw [e]; simp
  simp only [ZA,ZB,ZC,ZD,ZE,↓reduceIte,ZF,ZG,ZH,ZI,ZJ,reduceCtorEq,ZK,↓zU,↓zD,zV,zT,zW,e'];exact .same
 ·have e':(oR r a c s (n+1)== oR r a c s n)= false:=by rw [beq_eq_false_iff_ne]; exact e
  have hlt:n<N:=Decidable.byContradiction fun h=>e (by rw [show n=N by omega]; exact hN);simp only [ZA,ZB,ZC,ZD,ZE,↓reduceIte,ZF,ZG,ZH,ZI,ZJ,reduceCtorEq,ZK,↓zU,↓zD,zV,zT,zW,e'];refine⟨n+1,by omega,?_,by omega⟩
  (refine xM.same ?_; simp only [xS,Fr.get,↓reduceIte,reduceIte,Nat.reduceEqDiff,reduceCtorEq,D.int.injEq,D.bool.injEq,D.sl.injEq,and_true,true_and,and_self])
end Go.Pd
