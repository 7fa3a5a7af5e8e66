/- Part KV. -/
import Derived.Test.YtndfaefmmcoapaaGreatKaKT
set_option linter.unusedSectionVars false
set_option linter.unusedVariables false
set_option linter.unusedSimpArgs false
set_option linter.defProp false
set_option maxRecDepth 20000
set_option maxHeartbeats 1000000
namespace Go.Pd
open Go Go.Proofs
open Int renaming reduceToNat -> ZA, reduceLT -> ZB, reduceLE -> ZC, reduceBEq -> ZD, reduceBNe -> ZE
open Nat renaming reduceEqDiff -> ZF, reduceAdd -> ZG, reduceBEq -> ZH, reduceLT -> ZI, reduceLeDiff -> ZJ, reduceMul -> ZK
open Rs Fm Ru Te Kb
theorem aUn {p:PrA} {F:Nat} (h:p.F=(F:Int)) {a:AsA} (he:asE p a=0):0<=a.fact/\a.fact<F/\fmE p a.to 0=0:=by
 unfold asE at he
 split at he
 ·cases he
 ·rename_i q; exact⟨by omega,by omega,he⟩
theorem aPl {p:PrA} {F:Nat} (h:PrV p F) {s:BitVec 64} (hs:s >>> F=0#64) {f:List Nd} (hE:fmE p f 0=0) :
  yX Tryz.prog 54 [aEc (sW p.see.length s) (vY 1 0) p.see.length F,.sl 6 (ndR f)] (.tup [.int .u64 (ui (qQ 1 1 (evT (sW p.see.length s) p.see.length 1 (lI f)))),.int .i64 0]):=by
 obtain⟨h1,h2,h3⟩:=aQo hE;rw [h.fe] at h3;have h0:zY f=0:=aB3 ⟨zY f,oD f⟩ h2;have h2':(rQ .andNot .i64 (zY f:Int) 15 != 0)= false:=by rw [h0]; decide
 have ok:=aHl (s:=s) h.hA.2 h.hF hs;have hh:=aUf ok (by show 1*1<=64; omega) h1 h2' h3
 have e1:ptl (sW p.see.length s) 1=vY 1 0:=by
  simp [ptl,ptN,vY,sW,List.range_succ]
 have e2:(sW p.see.length s).length*1=1:=rfl;unfold aUt at hh;rw [if_pos (bG ok h1 h2' h3),e1,e2] at hh;exact hh
theorem aGe {p:PrA} {F:Nat} (h:PrV p F) (sts:List (List (BitVec 64))) {s:BitVec 64} (hs:s >>> F=0#64) {mv:List Int} (hl:mv.length<=1000) (hmv:∀ k ∈ mv,k<p.moves.length) :
  yX Tryz.prog 183 [plD p sts,.int .u64 (ui s),.sl 1 (rows .i64 mv)] (.int .u64 (ui (aEu p s mv))):=by
 have hF:=h.hF;have hA:=h.hA;have hrep:=aTm (n:=p.see.length) ⟨by omega,by omega⟩;have hH:=fun f hE=>aPl h hs (f:=f) hE;have hmod:=aTh p.see.length F s;rw [hmod] at hH;unfold plD plC at *;rw [h.fe];refine xX.go_fn mixed Tryz.func183 bX3 (by simp) fun hf=>?_;simp only [ZA,ZB,ZC,ZD,ZE,↓reduceIte,ZF,ZG,ZH,ZI,ZJ,reduceCtorEq,ZK,↓zU,↓zD,zV,zT,zW,xR,↓aWw]
 (refine bI mixed ?_; unfold aRh; simp only [ZA,ZB,ZC,ZD,ZE,↓reduceIte,ZF,ZG,ZH,ZI,ZJ,reduceCtorEq,ZK,↓zU,↓zD,zV,zT,zW,↓aF8,↓aF7,↓rz1,↓rz2,↓rz3,↓rz4,↓rz5,↓rz6,↓aRc,rZ,pY,xR])
 have hpp:D.isPureL [D.sl 1 [[D.sl 1 (us [1#64])]],D.int .i64 p.see.length]=true:=by simp [D.isPureL,D.isPure]
 have q1:D.isPureL [D.int IntKind.u64 (ui 1#64)]=true:=rfl;have q2:D.isPureL [D.sl 1 [[D.int IntKind.u64 (ui 1#64)]]]=true:=rfl;have q3:(0:Int)<=(F:Int):=by omega
 have q4:8*(F:Int)<=281474976710656:=by omega
 have hrep':∀ σ:St,xX Tryz.prog 224 [.sl 1 [[.sl 1 [[.int .u64 (ui 1#64)]]]],.int .i64 (p.see.length:Int)] σ (.sl 1 (rr (List.replicate p.see.length [1#64]))) σ:=fun σ=>xX.of_runs hrep hpp;repeat (first | (refine And.intro ⟨q1,q2,bX.go (hrep' _) ?_⟩ ?_; focus ((simp only [ZA,ZB,ZC,ZD,ZE,↓reduceIte,ZF,ZG,ZH,ZI,ZJ,reduceCtorEq,ZK,↓zU,↓zD,zV,zT,zW,↓aF8,↓aF7,↓rz1,↓rz2,↓rz3,↓rz4,↓rz5,↓rz6,↓aRc,rZ,pY,xR]))) | refine And.intro q1 ?_ | refine And.intro q2 ?_ | refine And.intro q3 ?_ | refine And.intro q4 ?_ | (refine bX.go (hrep' _) ?_; (simp only [ZA,ZB,ZC,ZD,ZE,↓reduceIte,ZF,ZG,ZH,ZI,ZJ,reduceCtorEq,ZK,↓zU,↓zD,zV,zT,zW,↓aF8,↓aF7,↓rz1,↓rz2,↓rz3,↓rz4,↓rz5,↓rz6,↓aRc,rZ,pY,xR])))
 have hz:List.replicate F [D.int .u64 (ui 0#64)]=us (cI F (fun i=>s >>> i &&& 1#64) (fun _=>0#64) 0):=by
  rw [aR,lP];congr 1;refine List.ext_getElem (by simp) fun i h1 h2=>by simp
 refine And.intro ?_ ?_
 ·rw [hz]
  (refine xM.ren [(0,1),(1,0)] [1,0] (by simp) (by simp) (by decide) ?_; simp only [yP,vwL,vw,vwF,sw,St.get,St.look,Fr.get,↓reduceIte,reduceIte,Nat.reduceEqDiff,Nat.reduceAdd,Nat.reduceBEq,Nat.reduceLT,Nat.reduceLeDiff,exists_eq_left',ne_eq,reduceCtorEq,zR,yL,tK])
 refine tX (fun i:Nat=>[(35,.int .i64 i),(34,.int .i64 F),(7,.ref 1 3 0 0),(2,.sl 1 (rows .i64 mv)),(1,.int .u64 (ui s)),(0,.ptr [.int .i64 F,.sl 1 (us p.init),.sl 1 (us p.see),.sl 1 (mvR p.moves),.sl 1 (cdR p.code),.sl 1 (rr sts)])])
  (fun i=>⟨2,[(1,⟨3,[[.int .i64 1,.osl 0 1 F,.sl 1 (rr (List.replicate p.see.length [1#64]))]]⟩),(0,⟨1,us (cI F (fun i=>s >>> i &&& 1#64) (fun _=>0#64) i)⟩)]⟩)
  (fun i=>i<=F) (fun i=>F-i) 0 (Nat.zero_le _) ?_ ?_
 ·rw [hz]
  (refine xM.same ?_; simp [xS,Fr.get])
 intro i hi;refine xQ mixed ?_;have hml:=dJ F (fun i=>s >>> i &&& 1#64) (fun _=>0#64) i
 by_cases hil:i<F
 ·have hd:((i:Int)<(F:Int)):=by omega
  have hmg:=zI (cI F (fun i=>s >>> i &&& 1#64) (fun _=>0#64) i) (show i<_ by rw [hml]; exact hil);rw [aVp _ _ hil] at hmg;have hms:=aVo F (fun i=>s >>> i &&& 1#64) (fun _=>0#64) i;generalize cI F (fun i=>s >>> i &&& 1#64) (fun _=>0#64) i=M at hmg hms hml;simp only [ZA,ZB,ZC,ZD,ZE,↓reduceIte,ZF,ZG,ZH,ZI,ZJ,reduceCtorEq,ZK,↓zU,↓zD,zV,zT,zW,hd,xR,hml,hmg,oM,hms]
  (repeat refine sd ?_)
  refine⟨i+1,by omega,?_,by omega⟩
  (refine xM.same ?_; simp only [xS,Fr.get,↓reduceIte,reduceIte,Nat.reduceEqDiff,reduceCtorEq,D.int.injEq,D.bool.injEq,D.sl.injEq,and_true,true_and,and_self])
  exact wrap_i64 (by omega)
 have hd:¬ ((i:Int)<(F:Int)):=by omega
 have hvl:(us ((List.range F).map fun i=>s >>> i &&& 1#64)).length=F:=by simp [us]
 rw [aVq _ _ _ (by omega:F<=i)];generalize hV:((List.range F).map fun i=>s >>> i &&& 1#64)= V at *;simp only [ZA,ZB,ZC,ZD,ZE,↓reduceIte,ZF,ZG,ZH,ZI,ZJ,reduceCtorEq,ZK,↓zU,↓zD,zV,zT,zW,hd]
 refine .go [(7,.ref 1 3 0 0),(2,.sl 1 (rows .i64 mv)),(1,.int .u64 (ui s)),(0,.ptr [.int .i64 F,.sl 1 (us p.init),.sl 1 (us p.see),.sl 1 (mvR p.moves),.sl 1 (cdR p.code),.sl 1 (rr sts)])]
  ⟨2,[(1,⟨3,[[.int .i64 1,.sl 1 (us V),.sl 1 (rr (List.replicate p.see.length [1#64]))]]⟩)]⟩ ?_ ?_
 ·(refine xM.ren [] [1] (by simp) (by simp) (by decide) ?_; simp only [yP,vwL,vw,vwF,sw,St.get,St.look,Fr.get,↓reduceIte,reduceIte,Nat.reduceEqDiff,Nat.reduceAdd,Nat.reduceBEq,Nat.reduceLT,Nat.reduceLeDiff,exists_eq_left',ne_eq,reduceCtorEq,zR,yL,tK])
  refine⟨?_,by omega,(List.take_of_length_le (by omega)).symm,tA _⟩
  rintro q (rfl | h)
  ·exact Nat.one_ne_zero
  ·exact h.elim
 simp only [ZA,ZB,ZC,ZD,ZE,↓reduceIte,ZF,ZG,ZH,ZI,ZJ,reduceCtorEq,ZK,↓zU,↓zD,zV,zT,zW,xF]
 refine xV (fun k:Nat=>[(50,.int .i64 k),(49,.int .i64 mv.length),(48,.sl 1 (rows .i64 mv)),(9,.int .u64 (ui ((mv.take k).foldl (aS8 p s) s))),(7,.ref 1 3 0 0),(0,.ptr [.int .i64 F,.sl 1 (us p.init),.sl 1 (us p.see),.sl 1 (mvR p.moves),.sl 1 (cdR p.code),.sl 1 (rr sts)])])
  (fun _=>⟨2,[(1,⟨3,[[.int .i64 1,.sl 1 (us V),.sl 1 (rr (List.replicate p.see.length [1#64]))]]⟩)]⟩)
  (fun k=>k<=mv.length) (fun k=>mv.length-k) 0 (Nat.zero_le _) ?_ ?_
 ·(refine xM.same ?_; simp only [xS,Fr.get,↓reduceIte,reduceIte,Nat.reduceEqDiff,reduceCtorEq,D.int.injEq,D.bool.injEq,D.sl.injEq,and_true,true_and,and_self,List.take_zero,List.foldl_nil])
  rfl
 intro k hk;refine xQ mixed ?_;by_cases hkl:k<mv.length
 case neg=>
  have hd2:¬ ((k:Int)<(mv.length:Int)):=by omega
  rw [List.take_of_length_le (by omega)];simp only [ZA,ZB,ZC,ZD,ZE,↓reduceIte,ZF,ZG,ZH,ZI,ZJ,reduceCtorEq,ZK,↓zU,↓zD,zV,zT,zW,hd2];exact .drop (by simp) (by simp [vw,aEu])
 have hd2:((k:Int)<(mv.length:Int)):=by omega
 have hg:=yM .i64 mv hkl;have hlt:=hmv _ (xN (d:=0) hkl)
 have hfo:(mv.take (k+1)).foldl (aS8 p s) s=aS8 p s ((mv.take k).foldl (aS8 p s) s) (mv.getD k 0):=by
  rw [yE (d:=0) hkl,List.foldl_append]; rfl
 generalize (mv.take k).foldl (aS8 p s) s=out0 at hfo ⊢;generalize mv.getD k 0=q at hg hlt hfo
 by_cases hq:q<0
 ·have hm0:aS8 p s out0 q=out0:=by unfold aS8; rw [if_pos hq]
  rw [hm0] at hfo;simp only [ZA,ZB,ZC,ZD,ZE,↓reduceIte,ZF,ZG,ZH,ZI,ZJ,reduceCtorEq,ZK,↓zU,↓zD,zV,zT,zW,hd2,xF,hg,hq]
  (repeat refine sd ?_)
  refine⟨k+1,by omega,?_,by omega⟩
  (refine xM.same ?_; simp only [xS,Fr.get,↓reduceIte,reduceIte,Nat.reduceEqDiff,reduceCtorEq,D.int.injEq,D.bool.injEq,D.sl.injEq,and_true,true_and,and_self,hfo])
  exact wrap_i64 (by omega)
 have hqn:q.toNat<p.moves.length:=by omega
 have hq0:0<=q:=by omega
 have hgm:=mM p.moves hqn;have hm0:aS8 p s out0 q=(p.moves.getD q.toNat []).foldl (aRg p.see.length s) out0:=by unfold aS8; rw [if_neg hq]
 have hmem:=xN (d:=[]) hqn;generalize p.moves.getD q.toNat []=m at hgm hm0 hmem;have hml8:=aJj h hmem;rw [hm0] at hfo;simp only [ZA,ZB,ZC,ZD,ZE,↓reduceIte,ZF,ZG,ZH,ZI,ZJ,reduceCtorEq,ZK,↓zU,↓zD,zV,zT,zW,hd2,xF,hg,hq,xA,hlt,hgm,zF]
 (repeat refine sd ?_)
 refine xV (fun j:Nat=>[(66,.int .i64 j),(65,.int .i64 m.length),(64,.sl 2 (asR m)),(50,.int .i64 k),(49,.int .i64 mv.length),(48,.sl 1 (rows .i64 mv)),(9,.int .u64 (ui ((m.take j).foldl (aRg p.see.length s) out0))),(7,.ref 1 3 0 0),(0,.ptr [.int .i64 F,.sl 1 (us p.init),.sl 1 (us p.see),.sl 1 (mvR p.moves),.sl 1 (cdR p.code),.sl 1 (rr sts)])])
  (fun _=>⟨2,[(1,⟨3,[[.int .i64 1,.sl 1 (us V),.sl 1 (rr (List.replicate p.see.length [1#64]))]]⟩)]⟩)
  (fun j=>j<=m.length) (fun j=>m.length-j) 0 (Nat.zero_le _) ?_ ?_
 ·(refine xM.same ?_; simp only [xS,Fr.get,↓reduceIte,reduceIte,Nat.reduceEqDiff,reduceCtorEq,D.int.injEq,D.bool.injEq,D.sl.injEq,and_true,true_and,and_self,List.take_zero,List.foldl_nil])
  rfl
 intro j hj;refine xQ mixed ?_;by_cases hjl:j<m.length
 case neg=>
  have hd3:¬ ((j:Int)<(m.length:Int)):=by omega
  rw [List.take_of_length_le (by omega)];simp only [ZA,ZB,ZC,ZD,ZE,↓reduceIte,ZF,ZG,ZH,ZI,ZJ,reduceCtorEq,ZK,↓zU,↓zD,zV,zT,zW,hd3];refine⟨k+1,by omega,?_,by omega⟩
  (refine xM.same ?_; simp only [xS,Fr.get,↓reduceIte,reduceIte,Nat.reduceEqDiff,reduceCtorEq,D.int.injEq,D.bool.injEq,D.sl.injEq,and_true,true_and,and_self,hfo])
  exact wrap_i64 (by omega)
 have hd3:((j:Int)<(m.length:Int)):=by omega
 have hg2:=pF m hjl
 have hfo2:(m.take (j+1)).foldl (aRg p.see.length s) out0=aRg p.see.length s ((m.take j).foldl (aRg p.see.length s) out0) (m.getD j as0):=by
  rw [yE (d:=as0) hjl,List.foldl_append]; rfl
 obtain⟨a1,a2,a3⟩:=aUn h.fe (h.mv m hmem _ (xN (d:=as0) hjl));unfold AsA.row at hg2;generalize (m.take j).foldl (aRg p.see.length s) out0=out1 at hfo2 ⊢;generalize m.getD j as0=a at hg2 hfo2 a1 a2 a3;have hh:=hH a.to a3;have hsol:=aM2 p.see.length a.to s a.fact.toNat;simp only [ZA,ZB,ZC,ZD,ZE,↓reduceIte,ZF,ZG,ZH,ZI,ZJ,reduceCtorEq,ZK,↓zU,↓zD,zV,zT,zW,hd3,zF,hg2]
 (repeat refine sd ?_)
 refine .go (cr hh) ?_;simp only [ZA,ZB,ZC,ZD,ZE,↓reduceIte,ZF,ZG,ZH,ZI,ZJ,reduceCtorEq,ZK,↓zU,↓zD,zV,zT,zW]
 (repeat refine sd ?_)
 refine⟨j+1,by omega,?_,by omega⟩;rw [hfo2];unfold aRg;rw [<- hsol]
 (refine xM.ren [] [1] (by simp) (by simp) (by decide) ?_; simp only [yP,vwL,vw,vwF,sw,St.get,St.look,Fr.get,↓reduceIte,reduceIte,Nat.reduceEqDiff,Nat.reduceAdd,Nat.reduceBEq,Nat.reduceLT,Nat.reduceLeDiff,exists_eq_left',ne_eq,reduceCtorEq,zR])
 exact wrap_i64 (by omega)
open Rs Fm Ru Te Kb
section
variable [tP]
theorem xX.deep {P:Program} {g:FuncId} {args:List D} {σ:St} {d1 d:D} {n1:Nat} {objs1 objs':List (Nat × Ob)} (K:Nat->Prop) (hc:xX P g args σ d1 ⟨n1,objs1⟩) (hd:Seen ⟨n1,objs1⟩ K d1 d)
  (hs:∀ k o,St.look objs' k=some o->K k/\St.look objs1 k=some o):xX P g args σ d ⟨n1,objs'⟩:=by
 refine⟨hc.ord,fun M0 w ι vals hS hl hv=>(hc.run M0 w ι vals hS hl hv).mono fun e w' hh=>?_⟩;obtain⟨v,ι1,he,kept,sim,nx,stay,mine,hR⟩:=hh;refine⟨v,ι1,he,kept,sim.sub (objs':=objs') fun k o hk=>(hs k o hk).2,nx,stay,fun k o hk=>mine k o (hs k o hk).2,.pure ((hd M0 w' ι1 v sim hR).keep (fun _ _ _=>rfl) fun b _ hb=>?_)⟩;exact hb.imp id fun⟨k,o,h1,h2⟩=>⟨k,o,(hs k o h1).1,(hs k o h1).2,h2⟩
theorem cN (c:Nat) {l:List (Nat × Ob)} {k:Nat} (h:k<c):St.look (yZ c l) k=none:=by
 cases e:St.look (yZ c l) k with
 | none=>rfl
 | some o=>
  obtain⟨k0,_,h1,_⟩:=qC c l k o e;omega
theorem xX.lentDeep {P:Program} {g:FuncId} {args args':List D} {d0 d:D} {nx m:Nat} {objs ob:List (Nat × Ob)} (hc:xX P g args' St0 d0 ⟨m,objs⟩) (hl:oO ⟨nx,ob⟩ (fun _=>False) args args') (hf:d0.fl=true) (ho:∀ p ∈ objs,∀ e ∈ p.2.els,D.flL e=true)
  (hd:Seen ⟨nx+m,yZ nx objs++ob⟩ (fun k=>k<nx) (d0.shift nx) d):xX P g args ⟨nx,ob⟩ d ⟨nx+m,ob⟩:=
 xX.unders hc.ord fun hu=>xX.deep (fun k=>k<nx) (xX.lentSO hc hl hf ho) hd fun k o hk=>by
  have h1:=(hu k o hk).1;exact⟨h1,by rw [vH,cN nx h1]; exact hk⟩
end
namespace Kb
def sZ (ks:List Nat) (ess:List (List (List D))):List (List D):=List.zipWith (fun k e=>[D.osl k 1 e.length]) ks ess
def nsl (ess:List (List (List D))):List (List D):=ess.map fun e=>[.sl 1 e]
structure Nst (objs : List (Nat × Ob)) (kO : Nat) (ks : List Nat) (ess : List (List (List D))) : Prop where
 out:St.look objs kO=some ⟨1,sZ ks ess⟩
 len:ks.length=ess.length
 each:∀ i,i<ess.length->St.look objs (ks.getD i 0)= some ⟨1,ess.getD i []⟩
theorem vO {ks:List Nat} {ess:List (List (List D))} (h:ks.length=ess.length):(sZ ks ess).length=ess.length:=by simp [sZ]; omega
theorem qK {ks:List Nat} {ess:List (List (List D))} (h:ks.length=ess.length) {i:Nat} (hi:i<ess.length):(sZ ks ess).getD i [] = [.osl (ks.getD i 0) 1 (ess.getD i []).length]:=by
 have h1:i<ks.length:=by omega
 simp [sZ,List.getD,hi,h1,List.getElem?_zipWith]
theorem jF {ks:List Nat} {ess:List (List (List D))} (h:ks.length=ess.length) (k:Nat) (e:List (List D)):sZ ks ess ++ [[.osl k 1 e.length]]=sZ (ks ++ [k]) (ess ++ [e]):=by
 unfold sZ;rw [List.zipWith_append h]; rfl
theorem aL2 {ks:List Nat} {ess:List (List (List D))} (h:ks.length=ess.length) {i:Nat} (hi:i<ess.length) (k:Nat) (e:List (List D)):(sZ ks ess).set i [.osl k 1 e.length]=sZ (ks.set i k) (ess.set i e):=by
 refine List.ext_getElem (by simp [sZ]) fun j h1 h2=>?_;simp only [sZ,List.getElem_set,List.getElem_zipWith];split <;> rfl
theorem aGd (ess:List (List (List D))):(nsl ess).length=ess.length:=by simp [nsl]
theorem aDy (sts:List (List (BitVec 64))):nsl (sts.map us)= rr sts:=by
 simp only [nsl,rr,List.map_map];rfl
theorem aRv (mv:List (List Int)):nsl (mv.map (rows .i64))= rl mv:=by
 simp only [nsl,rl,List.map_map];rfl
theorem vN {l:List Nat} {i:Nat} (h:i<l.length):l.getD i 0 ∈ l:=by
 simp [List.getD,h]
end Kb
theorem Nst.seen {nx:Nat} {objs:List (Nat × Ob)} {K:Nat->Prop} {kO n:Nat} {ks:List Nat} {ess:List (List (List D))} (h:Nst objs kO ks ess) (hn:n=ess.length) (hK:¬ K kO) (hKs:∀ k ∈ ks,¬ K k) (hp:∀ e ∈ ess,∀ r ∈ e,r.length=1/\D.isPureL r=true) :
  Seen ⟨nx,objs⟩ K (.osl kO 1 n) (.sl 1 (nsl ess)):=by
 refine Seen.osl (ob:=⟨1,sZ ks ess⟩) h.out hK (by decide) rfl (by show n<=(sZ ks ess).length; rw [vO h.len]; omega) (by rw [aGd]; omega) (fun e he=>?_) fun i hi j hj=>?_
 ·simp only [nsl,List.mem_map] at he;obtain⟨x,_,rfl⟩:=he;rfl
 ·obtain rfl:j=0:=by omega
  have hi':i<ess.length:=by omega
  show Seen _ _ (((sZ ks ess).getD i []).getD 0 .top) _;rw [qK h.len hi'];have e2:(nsl ess).getD i [] = [.sl 1 (ess.getD i [])]:=by simp [nsl,List.getD,hi']
  rw [e2];have hm:=xN (d:=[]) hi';exact Seen.rows (h.each i hi') (hKs _ (vN (by rw [h.len]; exact hi'))) (by decide) rfl (fun r hr=>(hp _ hm r hr).1) fun r hr=>(hp _ hm r hr).2
theorem Nst.shift {objs r:List (Nat × Ob)} {kO c:Nat} {ks:List Nat} {ess:List (List (List D))} (h:Nst objs kO ks ess) (hp:∀ e ∈ ess,∀ r ∈ e,D.isPureL r=true):Nst (yZ c objs++r) (c+kO) (ks.map (c + ·)) ess where
 out:=by
  rw [vH,rX c h.out];show some (Ob.shift c _)= _;unfold Ob.shift sZ;simp only;congr 2;refine List.ext_getElem (by simp) fun i h1 h2=>?_;simp [D.shiftL,D.shift]
 len:=by rw [List.length_map]; exact h.len
 each:=fun i hi=>by
  have hk:(ks.map (c + ·)).getD i 0=c+ks.getD i 0:=by simp [List.getD,show i<ks.length by rw [h.len]; exact hi]
  rw [hk,vH,rX c (h.each i hi)];show some (Ob.shift c _)= _;unfold Ob.shift;rw [pC c fun e he=>hp _ (xN hi) e he]
namespace Kb
def aUv (ess:List (List (List D))):List (Nat × Ob):=(0,⟨1,sZ (List.range' 1 ess.length) ess⟩) :: (List.range ess.length).map fun i=>(1+i,⟨1,ess.getD i []⟩)
theorem aN {f:Nat->Ob}:∀ {l:List Nat} {i:Nat},i ∈ l->St.look (l.map fun i=>(1+i,f i)) (1+i)= some (f i)
 | [],i,h=>by cases h
 | j :: r,i,h=>by
  show St.look ((1+j,f j) :: _) _=_;rw [xY]
  by_cases e:i=j
  ·subst e; rw [if_pos rfl]
  ·rw [if_neg (by omega)];exact aN ((List.mem_cons.1 h).resolve_left e)
theorem dN (ess:List (List (List D))):Nst (aUv ess) 0 (List.range' 1 ess.length) ess where
 out:=by unfold aUv; rw [xY,if_pos rfl]
 len:=by simp
 each:=fun i hi=>by
  have e:(List.range' 1 ess.length).getD i 0=1+i:=by simp [List.getD,hi]
  unfold aUv;rw [e,xY,if_neg (by omega)];exact aN (List.mem_range.2 hi)
theorem aQf {ess:List (List (List D))} (hp:∀ e ∈ ess,∀ r ∈ e,D.flL r=true):∀ p ∈ aUv ess,∀ e ∈ p.2.els,D.flL e=true:=by
 intro p hm e he;unfold aUv at hm
 rcases List.mem_cons.1 hm with rfl | hm
 ·simp only [sZ] at he;obtain⟨i,hi,rfl⟩:=List.getElem_of_mem he;simp [D.flL,D.fl]
 ·simp only [List.mem_map,List.mem_range] at hm;obtain⟨i,hi,rfl⟩:=hm;exact hp _ (xN hi) e he
end Kb
theorem aRo {σ σ':St} {ρ:Nat->Nat}:∀ {xs bs:List (List D)},xs.length=bs.length->(∀ i,i<bs.length->(xs.getD i []).length=(bs.getD i []).length/\vwL σ σ' ρ (xs.getD i []) (bs.getD i []))->vwE σ σ' ρ xs bs
 | [],[],_,_=>.nil
 | [],_ :: _,h,_=>by cases h
 | _ :: _,[],h,_=>by cases h
 | a :: xs,b :: bs,h,hh=>by
  have h0:=hh 0 (by simp);refine .cons h0.1 h0.2 (aRo (by simpa using h) fun i hi=>?_);simpa using hh (i+1) (by simp; omega)
theorem aZd {ks:List Nat} (hd:ks.Nodup) {i j:Nat} (hi:i<ks.length) (hj:j<ks.length) (e:ks.getD i 0=ks.getD j 0):i=j:=by
 simp only [List.getD,hi,hj,List.getElem?_eq_getElem,Option.getD_some] at e;have hp:=List.pairwise_iff_getElem.1 hd
 rcases Nat.lt_trichotomy i j with h | h | h
 ·exact absurd e (hp i j hi hj h)
 ·exact h
 ·exact absurd e.symm (hp j i hj hi h)
theorem nA.nst {nx n:Nat} {objs:List (Nat × Ob)} {kO:Nat} {ks:List Nat} {ess:List (List (List D))} (h:Nst objs kO ks ess) (hn:n=ess.length) (hd:ks.Nodup) (hk:kO ∉ ks) (hp:∀ e ∈ ess,∀ r ∈ e,D.isPureL r=true) :
  nA 0 ⟨nx,objs⟩ (.osl kO 1 n) ⟨1+ess.length,aUv ess⟩ (.osl 0 1 n):=by
 subst hn;have hlen:=h.len;have hr:(List.range' 1 ess.length).length=ess.length:=by simp
 have key:∀ q ∈ aUv ess,q.1=0\/∃ i,i<ess.length/\q.1=1+i:=fun q hq=>by
  unfold aUv at hq
  rcases List.mem_cons.1 hq with rfl | hq
  ·exact .inl rfl
  ·simp only [List.mem_map,List.mem_range] at hq;obtain⟨i,hi,rfl⟩:=hq;exact .inr ⟨i,hi,rfl⟩
 refine .inr ⟨fun k=>if k=0 then kO else ks.getD (k-1) 0,Nat.zero_le _,fun k hk=>absurd hk (Nat.not_lt_zero _),?_,?_,?_⟩
 ·simp only [vw,↓reduceIte,and_true];omega
 ·intro q hq;unfold aUv at hq
  rcases List.mem_cons.1 hq with rfl | hq
  ·refine⟨by show 0<1+ess.length; omega,_,h.out,rfl,aRo (by rw [vO hlen,vO hr]) fun i hi=>?_⟩;rw [vO hr] at hi;rw [qK hlen hi,qK hr hi];refine⟨rfl,?_⟩;have e:(List.range' 1 ess.length).getD i 0=1+i:=by simp [List.getD,hi]
   simp only [vwL,vw,e,and_true];rw [if_neg (by omega),show 1+i-1=i by omega];exact⟨by omega,rfl⟩
  ·simp only [List.mem_map,List.mem_range] at hq;obtain⟨i,hi,rfl⟩:=hq;refine⟨by show 1+i<1+ess.length; omega,⟨1,ess.getD i []⟩,?_,rfl,.same fun r hr=>hp _ (xN hi) r hr⟩;show St.look objs (if 1+i=0 then kO else ks.getD (1+i-1) 0)= _;rw [if_neg (by omega),show 1+i-1=i by omega];exact h.each i hi
 ·intro a ha b hb e;simp only at e
  rcases key a ha with h1 | ⟨i,hi,h1⟩ <;> rcases key b hb with h2 | ⟨j,hj,h2⟩ <;> rw [h1,h2] at e ⊢
  ·rw [if_pos rfl,if_neg (by omega)] at e;exact absurd (e ▸ vN (by omega)) hk
  ·rw [if_pos rfl,if_neg (by omega)] at e;exact absurd (e ▸ vN (by omega)) hk
  ·rw [if_neg (by omega),if_neg (by omega),show 1+i-1=i by omega,show 1+j-1=j by omega] at e;rw [aZd hd (by omega) (by omega) e]
end Go.Pd
