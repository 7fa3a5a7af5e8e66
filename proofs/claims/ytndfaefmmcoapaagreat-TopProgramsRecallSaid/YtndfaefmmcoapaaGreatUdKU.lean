/- Part KU. -/
import Derived.Test.YtndfaefmmcoapaaGreatUdSF
set_option linter.unusedSectionVars false
set_option linter.unusedVariables false
set_option linter.unusedSimpArgs false
set_option linter.defProp false
set_option maxRecDepth 20000
set_option maxHeartbeats 1000000
namespace Go.Pd
open Go Go.Proofs
open Rs Fm Ru Te Kb
namespace Kb
structure PrV (p : PrA) (F : Nat) : Prop where
 fe:p.F=(F:Int)
 hF:F<=8
 hA:1<=p.see.length/\p.see.length<=4
 hI:1<=p.init.length/\p.init.length<=16
 hM:p.xF.length<=8
 hC:p.code.length=p.see.length
 cl:∀ l ∈ p.code,l.length<=6
 init:∀ s ∈ p.init,s >>> F=0#64
 see:∀ s ∈ p.see,s >>> F=0#64
 asc:bYp p.init=true
 bOw:∀ m ∈ p.xF,aDo m=true
 mv:∀ m ∈ p.xF,∀ a ∈ m,asE p a=0
 code:∀ l ∈ p.code,∀ c ∈ l,clE p c=0
theorem bJ {p:PrA} {F:Nat} (h:p.F=(F:Int)) {s:BitVec 64} (hs:aNh p s=false):s >>> F=0#64:=by unfold aNh at hs;rw [h] at hs;simpa using hs
theorem aW6 {p:PrA} (h:qU p=0):∃ F,PrV p F:=by
 unfold qU at h
 split at h
 ·rename_i h0; exact absurd h h0
 rename_i h0;have h0:nF p=0:=by simpa using h0
 split at h
 ·rename_i h1; exact absurd h h1
 rename_i h1;have h1:sE (sE (asE p)) p.xF=0:=by simpa using h1
 unfold nF at h0
 split at h0
 ·cases h0
 rename_i q1
 split at h0
 ·cases h0
 rename_i q2
 split at h0
 ·cases h0
 rename_i q3
 split at h0
 ·cases h0
 rename_i q4;simp only [not_or] at q1 q2 q3 q4;obtain⟨F,hF⟩:∃ F:Nat,p.F=(F:Int):=⟨p.F.toNat,by omega⟩
 refine⟨F,hF,by omega,by omega,by omega,by omega,by have:=q3.2.2.1; omega,fun l hl=>?_,fun s hs=>bJ hF ?_,fun s hs=>bJ hF ?_,by simpa using q4.1,fun m hm=>?_,fun m hm a ha=>?_,fun l hl c hc=>?_⟩
 ·have:=List.any_eq_false.1 (Bool.eq_false_iff.2 q2.2.2.2) l hl;simpa using this
 ·have:=List.any_eq_false.1 (Bool.eq_false_iff.2 q3.2.2.2.1) s hs;simpa using this
 ·have:=List.any_eq_false.1 (Bool.eq_false_iff.2 q3.2.2.2.2) s hs;simpa using this
 ·have:=List.any_eq_false.1 (Bool.eq_false_iff.2 q4.2) m hm;simpa using this
 ·exact oR.1 (oR.1 h1 m hm) a ha
 ·exact oR.1 (oR.1 h l hl) c hc
theorem aE9 {p:PrA} {F:Nat} (h:PrV p F) {m:List AsA} (hm:m ∈ p.xF):m.length<=8:=by
 have ha:=aDa.1 (h.bOw m hm)
 have hf:∀ i,i<m.length->0<=(m.getD i as0).fact/\(m.getD i as0).fact<F:=fun i hi=>by
  have:=h.mv m hm _ (xS (d:=as0) hi);unfold asE at this
  split at this
  ·cases this
  ·rename_i q; have:=h.fe; omega
 have hg:∀ i,i<m.length->(m.map (·.fact)).getD i 0=(m.getD i as0).fact:=fun i hi=>by simp [List.getD,hi]
 have key:∀ i,i<m.length->(i:Int)<=(m.getD i as0).fact:=by
  intro i
  induction i with
  | zero=>intro hi; exact(hf 0 hi).1
  | succ i ih=> intro hi;have h1:=ih (by omega);have h2:=ha i (by simpa using hi);rw [hg i (by omega),hg (i+1) hi] at h2;omega
 by_cases h0:m.length=0
 ·omega
 ·have h1:=key (m.length-1) (by omega);have h2:=hf (m.length-1) (by omega);have:=h.hF;omega
end Kb
theorem aPl (A F:Nat) (s:BitVec 64):bYj (rJ A s) (vA 1 0) A F = .agg [.int .i64 1,.sl 1 (us ((List.range F).map fun i=>s >>> i &&& 1#64)),.sl 1 (rr (List.replicate A [1#64]))]:=by
 unfold bYj
 have h1:aH (rJ A s) (vA 1 0) F=(List.range F).map fun i=>s >>> i &&& 1#64:=by refine List.map_congr_left fun i _=>?_;rw [aQi];show 0#64 ||| (if s.getLsbD i then 1#64 <<< 0 else 0#64)= _;cases s.getLsbD i <;> rfl
 have h2:mA (rJ A s) (vA 1 0) A=List.replicate A [1#64]:=by refine List.eq_replicate_iff.2 ⟨by simp [mA],fun r hr=>?_⟩;simp only [mA,List.mem_map,List.mem_range] at hr;obtain⟨a,ha,rfl⟩:=hr;show [0#64 ||| (if yQ (rJ A s) a (0,0)= yQ (rJ A s) a (0,0) then 1#64 <<< 0 else 0#64)]=_;rw [if_pos rfl];rfl
 rw [h1,h2];rfl
theorem aGb (A:Nat) (f:List Nd) (s:BitVec 64) (n:Nat):oL 1 1 (evT (rJ A s) A 1 (uQ f)) <<< n=if bVv A f s=true then 1#64 <<< n else 0#64:=by show (0#64 ||| (if bVv A f s=true then 1#64 <<< 0 else 0#64)) <<< n=_;split <;> simp
theorem aPq {n:Nat} (hn:1<=n/\n<=64):yB Tryz.prog 224 [.sl 1 [[.sl 1 (us [1#64])]],.int .i64 (n:Int)] (.sl 1 (rr (List.replicate n [1#64]))):=by have h:=aKu (d:=.sl 1 (us [1#64])) rfl rfl hn;rw [aB5] at h;exact xY.ret h (.drop (Nat.zero_le _) (aRn (by decide) (aUn _) (by simp [rr])))
end Go.Pd

/- Part KV. -/
namespace Go.Pd
open Go Go.Proofs
open BitVec renaming isValue -> ZA
open Rs Fm Ru Te Kb
theorem aQo {p:PrA} {F:Nat} (h:p.F=(F:Int)) {a:AsA} (he:asE p a=0):0<=a.fact/\a.fact<F/\fmE p a.to 0=0:=by
 unfold asE at he
 split at he
 ·cases he
 ·rename_i q; exact⟨by omega,by omega,he⟩
theorem aKg {p:PrA} {F:Nat} (h:PrV p F) {s:BitVec 64} (hs:s >>> F=0#64) {f:List Nd} (hE:fmE p f 0=0) :
  yB Tryz.prog 54 [bYj (rJ p.see.length s) (vA 1 0) p.see.length F,.sl 6 (ndR f)] (.tup [.int .u64 (ui (oL 1 1 (evT (rJ p.see.length s) p.see.length 1 (uQ f)))),.int .i64 0]):=by
 obtain⟨h1,h2,h3⟩:=aLf hE;rw [h.fe] at h3;have h0:zC f=0:=bUw ⟨zC f,lH f⟩ h2;have h2':(pT .andNot .i64 (zC f:Int) 15 != 0)= false:=by rw [h0]; decide
 have ok:=aBq (s:=s) h.hA.2 h.hF hs;have hh:=aQg ok (by show 1*1<=64; omega) h1 h2' h3
 have e1:ptl (rJ p.see.length s) 1=vA 1 0:=by simp [ptl,ptN,vA,rJ,List.range_succ]
 have e2:(rJ p.see.length s).length*1=1:=rfl;unfold aQv at hh;rw [if_pos (aZv ok h1 h2' h3),e1,e2] at hh;exact hh
theorem aAh {p:PrA} {F:Nat} (h:PrV p F) (sts:List (List (BitVec 64))) {s:BitVec 64} (hs:s >>> F=0#64) {mv:List Int} (hl:mv.length<=1000) (hmv:∀ k ∈ mv,k<p.xF.length) :
  yB Tryz.prog 183 [plD p sts,.int .u64 (ui s),.sl 1 (rows .i64 mv)] (.int .u64 (ui (bY4 p s mv))):=by
 have hF:=h.hF;have hA:=h.hA;have hrep:=aPq (n:=p.see.length) ⟨by omega,by omega⟩;have hH:=fun f hE=>aKg h hs (f:=f) hE;have hmod:=aPl p.see.length F s;rw [hmod] at hH;unfold plD plC at *;rw [h.fe];refine xY.xR mixed Tryz.func183 bSr (by simp) fun hf=>?_;simp only [simprocAttr,-ZA,↓zU,↓zD,zV,zT,zW,xK,↓aSv]
 (refine aZr mixed ?_; unfold aNp; simp only [simprocAttr,-ZA,↓zU,↓zD,zV,zT,zW,↓bYh,↓bYg,↓rz1,↓rz2,↓rz3,↓rz4,↓rz5,↓rz6,↓aNd,pZ,nR,xK])
 have hpp:D.xU [D.sl 1 [[D.sl 1 (us [1#64])]],D.int .i64 p.see.length]=true:=by simp [D.xU,D.xL]
 have q1:D.xU [D.int IntKind.u64 (ui 1#64)]=true:=rfl;have q2:D.xU [D.sl 1 [[D.int IntKind.u64 (ui 1#64)]]]=true:=rfl;have q3:(0:Int)<=(F:Int):=by omega
 have q4:8*(F:Int)<=281474976710656:=by omega
 have hrep':∀ σ:St,xY Tryz.prog 224 [.sl 1 [[.sl 1 [[.int .u64 (ui 1#64)]]]],.int .i64 (p.see.length:Int)] σ (.sl 1 (rr (List.replicate p.see.length [1#64]))) σ:=fun σ=>xY.yM hrep hpp;repeat (first | (refine And.intro ⟨q1,q2,aY9.go (hrep' _) ?_⟩ ?_; focus ((simp only [simprocAttr,-ZA,↓zU,↓zD,zV,zT,zW,↓bYh,↓bYg,↓rz1,↓rz2,↓rz3,↓rz4,↓rz5,↓rz6,↓aNd,pZ,nR,xK]))) | refine And.intro q1 ?_ | refine And.intro q2 ?_ | refine And.intro q3 ?_ | refine And.intro q4 ?_ | (refine aY9.go (hrep' _) ?_; (simp only [simprocAttr,-ZA,↓zU,↓zD,zV,zT,zW,↓bYh,↓bYg,↓rz1,↓rz2,↓rz3,↓rz4,↓rz5,↓rz6,↓aNd,pZ,nR,xK])))
 have hz:List.replicate F [D.int .u64 (ui 0#64)]=us (aY2 F (fun i=>s >>> i &&& 1#64) (fun _=>0#64) 0):=by rw [aWe,iM];congr 1;refine List.ext_getElem (by simp) fun i h1 h2=>by simp
 refine And.intro ?_ ?_
 ·rw [hz]
  (refine xM.ren [(0,1),(1,0)] [1,0] (by simp) (by simp) (by decide) ?_; simp only [yK,vwL,vw,vwF,sw,St.get,St.look,Fr.get,simprocAttr,-ZA,exists_eq_left',ne_eq,zR,yD,rV])
 refine zN (fun i:Nat=>[(35,.int .i64 i),(34,.int .i64 F),(7,.ref 1 3 0 0),(2,.sl 1 (rows .i64 mv)),(1,.int .u64 (ui s)),(0,.ptr [.int .i64 F,.sl 1 (us p.init),.sl 1 (us p.see),.sl 1 (mvR p.xF),.sl 1 (cdR p.code),.sl 1 (rr sts)])])
  (fun i=>⟨2,[(1,⟨3,[[.int .i64 1,.osl 0 1 F,.sl 1 (rr (List.replicate p.see.length [1#64]))]]⟩),(0,⟨1,us (aY2 F (fun i=>s >>> i &&& 1#64) (fun _=>0#64) i)⟩)]⟩)
  (fun i=>i<=F) (fun i=>F-i) 0 (Nat.zero_le _) ?_ ?_
 ·rw [hz]
  (refine xM.same ?_; simp [xP,Fr.get])
 intro i hi;refine xN mixed ?_;have hml:=aX6 F (fun i=>s >>> i &&& 1#64) (fun _=>0#64) i
 by_cases hil:i<F
 ·have hd:((i:Int)<(F:Int)):=by omega
  have hmg:=uW (aY2 F (fun i=>s >>> i &&& 1#64) (fun _=>0#64) i) (show i<_ by rw [hml]; exact hil);rw [aRw _ _ hil] at hmg;have hms:=aRv F (fun i=>s >>> i &&& 1#64) (fun _=>0#64) i;generalize aY2 F (fun i=>s >>> i &&& 1#64) (fun _=>0#64) i=M at hmg hms hml;simp only [simprocAttr,-ZA,↓zU,↓zD,zV,zT,zW,hd,xK,hml,hmg,lU,hms]
  (repeat refine sd ?_)
  refine⟨i+1,by omega,?_,by omega⟩
  (refine xM.same ?_; simp only [xP,Fr.get,simprocAttr,-ZA,zS])
  exact wrap_i64 (by omega)
 have hd:¬ ((i:Int)<(F:Int)):=by omega
 have hvl:(us ((List.range F).map fun i=>s >>> i &&& 1#64)).length=F:=by simp [us]
 rw [aRx _ _ _ (by omega:F<=i)];generalize hV:((List.range F).map fun i=>s >>> i &&& 1#64)= V at *;simp only [simprocAttr,-ZA,↓zU,↓zD,zV,zT,zW,hd]
 refine .go [(7,.ref 1 3 0 0),(2,.sl 1 (rows .i64 mv)),(1,.int .u64 (ui s)),(0,.ptr [.int .i64 F,.sl 1 (us p.init),.sl 1 (us p.see),.sl 1 (mvR p.xF),.sl 1 (cdR p.code),.sl 1 (rr sts)])]
  ⟨2,[(1,⟨3,[[.int .i64 1,.sl 1 (us V),.sl 1 (rr (List.replicate p.see.length [1#64]))]]⟩)]⟩ ?_ ?_
 ·(refine xM.ren [] [1] (by simp) (by simp) (by decide) ?_; simp only [yK,vwL,vw,vwF,sw,St.get,St.look,Fr.get,simprocAttr,-ZA,exists_eq_left',ne_eq,zR,yD,rV])
  refine⟨?_,by omega,(List.take_of_length_le (by omega)).symm,rN _⟩
  rintro q (rfl | h)
  ·exact Nat.one_ne_zero
  ·exact h.elim
 simp only [simprocAttr,-ZA,↓zU,↓zD,zV,zT,zW,yW]
 refine xQ (fun k:Nat=>[(50,.int .i64 k),(49,.int .i64 mv.length),(48,.sl 1 (rows .i64 mv)),(9,.int .u64 (ui ((mv.take k).foldl (aO7 p s) s))),(7,.ref 1 3 0 0),(0,.ptr [.int .i64 F,.sl 1 (us p.init),.sl 1 (us p.see),.sl 1 (mvR p.xF),.sl 1 (cdR p.code),.sl 1 (rr sts)])])
  (fun _=>⟨2,[(1,⟨3,[[.int .i64 1,.sl 1 (us V),.sl 1 (rr (List.replicate p.see.length [1#64]))]]⟩)]⟩)
  (fun k=>k<=mv.length) (fun k=>mv.length-k) 0 (Nat.zero_le _) ?_ ?_
 ·(refine xM.same ?_; simp only [xP,Fr.get,simprocAttr,-ZA,zS,List.take_zero,List.foldl_nil])
  all_goals rfl
 intro k hk;refine xN mixed ?_;by_cases hkl:k<mv.length
 case neg=>
  have hd2:¬ ((k:Int)<(mv.length:Int)):=by omega
  rw [List.take_of_length_le (by omega)];simp only [simprocAttr,-ZA,↓zU,↓zD,zV,zT,zW,hd2];exact .drop (by simp) (by simp [vw,bY4])
 have hd2:((k:Int)<(mv.length:Int)):=by omega
 have hg:=yX .i64 mv hkl;have hlt:=hmv _ (xS (d:=0) hkl)
 have hfo:(mv.take (k+1)).foldl (aO7 p s) s=aO7 p s ((mv.take k).foldl (aO7 p s) s) (mv.getD k 0):=by rw [wT (d:=0) hkl,List.foldl_append]; rfl
 generalize (mv.take k).foldl (aO7 p s) s=out0 at hfo ⊢;generalize mv.getD k 0=q at hg hlt hfo
 by_cases hq:q<0
 ·have hm0:aO7 p s out0 q=out0:=by unfold aO7; rw [if_pos hq]
  rw [hm0] at hfo;simp only [simprocAttr,-ZA,↓zU,↓zD,zV,zT,zW,hd2,yW,hg,hq]
  (repeat refine sd ?_)
  refine⟨k+1,by omega,?_,by omega⟩
  (refine xM.same ?_; simp only [xP,Fr.get,simprocAttr,-ZA,zS,hfo])
  exact wrap_i64 (by omega)
 have hqn:q.toNat<p.xF.length:=by omega
 have hq0:0<=q:=by omega
 have hgm:=aUx p.xF hqn;have hm0:aO7 p s out0 q=(p.xF.getD q.toNat []).foldl (aNn p.see.length s) out0:=by unfold aO7; rw [if_neg hq]
 have hmem:=xS (d:=[]) hqn;generalize p.xF.getD q.toNat []=m at hgm hm0 hmem;have hml8:=aE9 h hmem;rw [hm0] at hfo;simp only [simprocAttr,-ZA,↓zU,↓zD,zV,zT,zW,hd2,yW,hg,hq,qM,hlt,hgm,qL]
 (repeat refine sd ?_)
 refine xQ (fun j:Nat=>[(66,.int .i64 j),(65,.int .i64 m.length),(64,.sl 2 (asR m)),(50,.int .i64 k),(49,.int .i64 mv.length),(48,.sl 1 (rows .i64 mv)),(9,.int .u64 (ui ((m.take j).foldl (aNn p.see.length s) out0))),(7,.ref 1 3 0 0),(0,.ptr [.int .i64 F,.sl 1 (us p.init),.sl 1 (us p.see),.sl 1 (mvR p.xF),.sl 1 (cdR p.code),.sl 1 (rr sts)])])
  (fun _=>⟨2,[(1,⟨3,[[.int .i64 1,.sl 1 (us V),.sl 1 (rr (List.replicate p.see.length [1#64]))]]⟩)]⟩)
  (fun j=>j<=m.length) (fun j=>m.length-j) 0 (Nat.zero_le _) ?_ ?_
 ·(refine xM.same ?_; simp only [xP,Fr.get,simprocAttr,-ZA,zS,List.take_zero,List.foldl_nil])
  all_goals rfl
 intro j hj;refine xN mixed ?_;by_cases hjl:j<m.length
 case neg=>
  have hd3:¬ ((j:Int)<(m.length:Int)):=by omega
  rw [List.take_of_length_le (by omega)];simp only [simprocAttr,-ZA,↓zU,↓zD,zV,zT,zW,hd3];refine⟨k+1,by omega,?_,by omega⟩
  (refine xM.same ?_; simp only [xP,Fr.get,simprocAttr,-ZA,zS,hfo])
  exact wrap_i64 (by omega)
 have hd3:((j:Int)<(m.length:Int)):=by omega
 have hg2:=aU9 m hjl
 have hfo2:(m.take (j+1)).foldl (aNn p.see.length s) out0=aNn p.see.length s ((m.take j).foldl (aNn p.see.length s) out0) (m.getD j as0):=by rw [wT (d:=as0) hjl,List.foldl_append]; rfl
 obtain⟨a1,a2,a3⟩:=aQo h.fe (h.mv m hmem _ (xS (d:=as0) hjl));unfold AsA.row at hg2;generalize (m.take j).foldl (aNn p.see.length s) out0=out1 at hfo2 ⊢;generalize m.getD j as0=a at hg2 hfo2 a1 a2 a3;have hh:=hH a.to a3;have hsol:=aGb p.see.length a.to s a.fact.toNat;simp only [simprocAttr,-ZA,↓zU,↓zD,zV,zT,zW,hd3,qL,hg2]
 (repeat refine sd ?_)
 refine .go (cr hh) ?_;simp only [simprocAttr,-ZA,↓zU,↓zD,zV,zT,zW]
 (repeat refine sd ?_)
 refine⟨j+1,by omega,?_,by omega⟩;rw [hfo2];unfold aNn;rw [<- hsol]
 (refine xM.ren [] [1] (by simp) (by simp) (by decide) ?_; simp only [yK,vwL,vw,vwF,sw,St.get,St.look,Fr.get,simprocAttr,-ZA,exists_eq_left',ne_eq,zR])
 exact wrap_i64 (by omega)
open Rs Fm Ru Te Kb
section
variable [sC]
theorem xY.deep {P:Program} {g:FuncId} {args:List D} {σ:St} {d1 d:D} {n1:Nat} {objs1 objs':List (Nat × Ob)} (K:Nat->Prop) (hc:xY P g args σ d1 ⟨n1,objs1⟩) (hd:Seen ⟨n1,objs1⟩ K d1 d)
  (hs:∀ k o,St.look objs' k=some o->K k/\St.look objs1 k=some o):xY P g args σ d ⟨n1,objs'⟩:=by
 refine⟨hc.ord,fun M0 w ι vals hS hl hv=>(hc.run M0 w ι vals hS hl hv).mono fun e w' hh=>?_⟩;obtain⟨v,ι1,he,kept,sim,nx,stay,nG,hR⟩:=hh;refine⟨v,ι1,he,kept,sim.sub (objs':=objs') fun k o hk=>(hs k o hk).2,nx,stay,fun k o hk=>nG k o (hs k o hk).2,.pure ((hd M0 w' ι1 v sim hR).zI (fun _ _ _=>rfl) fun b _ hb=>?_)⟩;exact hb.imp id fun⟨k,o,h1,h2⟩=>⟨k,o,(hs k o h1).1,(hs k o h1).2,h2⟩
theorem aYu (c:Nat) {l:List (Nat × Ob)} {k:Nat} (h:k<c):St.look (yS c l) k=none:=by
 cases e:St.look (yS c l) k with
 | none=>rfl
 | some o=> obtain⟨k0,_,h1,_⟩:=nS c l k o e;omega
theorem xY.aF9 {P:Program} {g:FuncId} {args args':List D} {d0 d:D} {nx m:Nat} {xZ ob:List (Nat × Ob)} (hc:xY P g args' St0 d0 ⟨m,xZ⟩) (hl:jV ⟨nx,ob⟩ (fun _=>False) args args') (hf:d0.fl=true) (ho:∀ p ∈ xZ,∀ e ∈ p.2.els,D.flL e=true)
  (hd:Seen ⟨nx+m,yS nx xZ++ob⟩ (fun k=>k<nx) (d0.shift nx) d):xY P g args ⟨nx,ob⟩ d ⟨nx+m,ob⟩:=
 xY.wW hc.ord fun hu=>xY.deep (fun k=>k<nx) (xY.bWv hc hl hf ho) hd fun k o hk=>by have h1:=(hu k o hk).1;exact⟨h1,by rw [uA,aYu nx h1]; exact hk⟩
end
namespace Kb
def pU (ks:List Nat) (ess:List (List (List D))):List (List D):=List.zipWith (fun k e=>[D.osl k 1 e.length]) ks ess
def nsl (ess:List (List (List D))):List (List D):=ess.map fun e=>[.sl 1 e]
structure Nst (xZ : List (Nat × Ob)) (kO : Nat) (ks : List Nat) (ess : List (List (List D))) : Prop where
 out:St.look xZ kO=some ⟨1,pU ks ess⟩
 len:ks.length=ess.length
 each:∀ i,i<ess.length->St.look xZ (ks.getD i 0)= some ⟨1,ess.getD i []⟩
theorem tW {ks:List Nat} {ess:List (List (List D))} (h:ks.length=ess.length):(pU ks ess).length=ess.length:=by simp [pU]; omega
theorem oE {ks:List Nat} {ess:List (List (List D))} (h:ks.length=ess.length) {i:Nat} (hi:i<ess.length):(pU ks ess).getD i [] = [.osl (ks.getD i 0) 1 (ess.getD i []).length]:=by
 have h1:i<ks.length:=by omega
 simp [pU,List.getD,hi,h1,List.getElem?_zipWith]
theorem aWb {ks:List Nat} {ess:List (List (List D))} (h:ks.length=ess.length) (k:Nat) (e:List (List D)):pU ks ess ++ [[.osl k 1 e.length]]=pU (ks ++ [k]) (ess ++ [e]):=by unfold pU;rw [List.zipWith_append h]; rfl
theorem aFj {ks:List Nat} {ess:List (List (List D))} (h:ks.length=ess.length) {i:Nat} (hi:i<ess.length) (k:Nat) (e:List (List D)):(pU ks ess).set i [.osl k 1 e.length]=pU (ks.set i k) (ess.set i e):=by refine List.ext_getElem (by simp [pU]) fun j h1 h2=>?_;simp only [pU,List.getElem_set,List.getElem_zipWith];split <;> rfl
theorem aAf (ess:List (List (List D))):(nsl ess).length=ess.length:=by simp [nsl]
theorem bWj (sts:List (List (BitVec 64))):nsl (sts.map us)= rr sts:=by simp only [nsl,rr,List.map_map];rfl
theorem bWk (mv:List (List Int)):nsl (mv.map (rows .i64))= rl mv:=by simp only [nsl,rl,List.map_map];rfl
theorem uI {l:List Nat} {i:Nat} (h:i<l.length):l.getD i 0 ∈ l:=by simp [List.getD,h]
end Kb
theorem Nst.seen {nx:Nat} {xZ:List (Nat × Ob)} {K:Nat->Prop} {kO n:Nat} {ks:List Nat} {ess:List (List (List D))} (h:Nst xZ kO ks ess) (hn:n=ess.length) (hK:¬ K kO) (hKs:∀ k ∈ ks,¬ K k) (hp:∀ e ∈ ess,∀ r ∈ e,r.length=1/\D.xU r=true) :
  Seen ⟨nx,xZ⟩ K (.osl kO 1 n) (.sl 1 (nsl ess)):=by
 refine Seen.osl (ob:=⟨1,pU ks ess⟩) h.out hK (by decide) rfl (by show n<=(pU ks ess).length; rw [tW h.len]; omega) (by rw [aAf]; omega) (fun e he=>?_) fun i hi j hj=>?_
 ·simp only [nsl,List.mem_map] at he;obtain⟨x,_,rfl⟩:=he;rfl
 ·obtain rfl:j=0:=by omega
  have hi':i<ess.length:=by omega
  show Seen _ _ (((pU ks ess).getD i []).getD 0 .top) _;rw [oE h.len hi'];have e2:(nsl ess).getD i [] = [.sl 1 (ess.getD i [])]:=by simp [nsl,List.getD,hi']
  rw [e2];have hm:=xS (d:=[]) hi';exact Seen.rows (h.each i hi') (hKs _ (uI (by rw [h.len]; exact hi'))) (by decide) rfl (fun r hr=>(hp _ hm r hr).1) fun r hr=>(hp _ hm r hr).2
theorem Nst.shift {xZ r:List (Nat × Ob)} {kO c:Nat} {ks:List Nat} {ess:List (List (List D))} (h:Nst xZ kO ks ess) (hp:∀ e ∈ ess,∀ r ∈ e,D.xU r=true):Nst (yS c xZ++r) (c+kO) (ks.map (c + ·)) ess where
 out:=by rw [uA,sG c h.out];show some (Ob.shift c _)= _;unfold Ob.shift pU;simp only;congr 2;refine List.ext_getElem (by simp) fun i h1 h2=>?_;simp [D.wV,D.shift]
 len:=by rw [List.length_map]; exact h.len
 each:=fun i hi=>by
  have hk:(ks.map (c + ·)).getD i 0=c+ks.getD i 0:=by simp [List.getD,show i<ks.length by rw [h.len]; exact hi]
  rw [hk,uA,sG c (h.each i hi)];show some (Ob.shift c _)= _;unfold Ob.shift;rw [mL c fun e he=>hp _ (xS hi) e he]
namespace Kb
def aNi (ess:List (List (List D))):List (Nat × Ob):=(0,⟨1,pU (List.range' 1 ess.length) ess⟩) :: (List.range ess.length).map fun i=>(1+i,⟨1,ess.getD i []⟩)
theorem aWi {f:Nat->Ob}:∀ {l:List Nat} {i:Nat},i ∈ l->St.look (l.map fun i=>(1+i,f i)) (1+i)= some (f i)
 | [],i,h=>by cases h
 | j :: r,i,h=>by
  show St.look ((1+j,f j) :: _) _=_;rw [xX]
  by_cases e:i=j
  ·subst e; rw [if_pos rfl]
  ·rw [if_neg (by omega)];exact aWi ((List.mem_cons.1 h).resolve_left e)
theorem aFi (ess:List (List (List D))):Nst (aNi ess) 0 (List.range' 1 ess.length) ess where
 out:=by unfold aNi; rw [xX,if_pos rfl]
 len:=by simp
 each:=fun i hi=>by
  have e:(List.range' 1 ess.length).getD i 0=1+i:=by simp [List.getD,hi]
  unfold aNi;rw [e,xX,if_neg (by omega)];exact aWi (List.mem_range.2 hi)
theorem aAe {ess:List (List (List D))} (hp:∀ e ∈ ess,∀ r ∈ e,D.flL r=true):∀ p ∈ aNi ess,∀ e ∈ p.2.els,D.flL e=true:=by
 intro p hm e he;unfold aNi at hm
 rcases List.mem_cons.1 hm with rfl | hm
 ·simp only [pU] at he;obtain⟨i,hi,rfl⟩:=List.getElem_of_mem he;simp [D.flL,D.fl]
 ·simp only [List.mem_map,List.mem_range] at hm;obtain⟨i,hi,rfl⟩:=hm;exact hp _ (xS hi) e he
end Kb
theorem aNw {σ σ':St} {ρ:Nat->Nat}:∀ {xs bs:List (List D)},xs.length=bs.length->(∀ i,i<bs.length->(xs.getD i []).length=(bs.getD i []).length/\vwL σ σ' ρ (xs.getD i []) (bs.getD i []))->vwE σ σ' ρ xs bs
 | [],[],_,_=>.nil
 | [],_ :: _,h,_=>by cases h
 | _ :: _,[],h,_=>by cases h
 | a :: xs,b :: bs,h,hh=>by have h0:=hh 0 (by simp);refine .cons h0.1 h0.2 (aNw (by simpa using h) fun i hi=>?_);simpa using hh (i+1) (by simp; omega)
theorem aU2 {ks:List Nat} (hd:ks.Nodup) {i j:Nat} (hi:i<ks.length) (hj:j<ks.length) (e:ks.getD i 0=ks.getD j 0):i=j:=by
 simp only [List.getD,hi,hj,List.getElem?_eq_getElem,Option.getD_some] at e;have hp:=List.pairwise_iff_getElem.1 hd
 rcases Nat.lt_trichotomy i j with h | h | h
 ·exact absurd e (hp i j hi hj h)
 ·exact h
 ·exact absurd e.symm (hp j i hj hi h)
theorem iT.nst {nx n:Nat} {xZ:List (Nat × Ob)} {kO:Nat} {ks:List Nat} {ess:List (List (List D))} (h:Nst xZ kO ks ess) (hn:n=ess.length) (hd:ks.Nodup) (hk:kO ∉ ks) (hp:∀ e ∈ ess,∀ r ∈ e,D.xU r=true) :
  iT 0 ⟨nx,xZ⟩ (.osl kO 1 n) ⟨1+ess.length,aNi ess⟩ (.osl 0 1 n):=by
 subst hn;have hlen:=h.len;have hr:(List.range' 1 ess.length).length=ess.length:=by simp
 have key:∀ q ∈ aNi ess,q.1=0\/∃ i,i<ess.length/\q.1=1+i:=fun q hq=>by
  unfold aNi at hq
  rcases List.mem_cons.1 hq with rfl | hq
  ·exact .inl rfl
  ·simp only [List.mem_map,List.mem_range] at hq;obtain⟨i,hi,rfl⟩:=hq;exact .inr ⟨i,hi,rfl⟩
 refine .inr ⟨fun k=>if k=0 then kO else ks.getD (k-1) 0,Nat.zero_le _,fun k hk=>absurd hk (Nat.not_lt_zero _),?_,?_,?_⟩
 ·simp only [vw,↓reduceIte,and_true];omega
 ·intro q hq;unfold aNi at hq
  rcases List.mem_cons.1 hq with rfl | hq
  ·refine⟨by show 0<1+ess.length; omega,_,h.out,rfl,aNw (by rw [tW hlen,tW hr]) fun i hi=>?_⟩;rw [tW hr] at hi;rw [oE hlen hi,oE hr hi];refine⟨rfl,?_⟩;have e:(List.range' 1 ess.length).getD i 0=1+i:=by simp [List.getD,hi]
   simp only [vwL,vw,e,and_true];rw [if_neg (by omega),show 1+i-1=i by omega];exact⟨by omega,rfl⟩
  ·simp only [List.mem_map,List.mem_range] at hq;obtain⟨i,hi,rfl⟩:=hq;refine⟨by show 1+i<1+ess.length; omega,⟨1,ess.getD i []⟩,?_,rfl,.same fun r hr=>hp _ (xS hi) r hr⟩;show St.look xZ (if 1+i=0 then kO else ks.getD (1+i-1) 0)= _;rw [if_neg (by omega),show 1+i-1=i by omega];exact h.each i hi
 ·intro a ha b hb e;simp only at e
  rcases key a ha with h1 | ⟨i,hi,h1⟩ <;> rcases key b hb with h2 | ⟨j,hj,h2⟩ <;> rw [h1,h2] at e ⊢
  ·rw [if_pos rfl,if_neg (by omega)] at e;exact absurd (e ▸ uI (by omega)) hk
  ·rw [if_pos rfl,if_neg (by omega)] at e;exact absurd (e ▸ uI (by omega)) hk
  ·rw [if_neg (by omega),if_neg (by omega),show 1+i-1=i by omega,show 1+j-1=j by omega] at e;rw [aU2 hd (by omega) (by omega) e]
end Go.Pd
