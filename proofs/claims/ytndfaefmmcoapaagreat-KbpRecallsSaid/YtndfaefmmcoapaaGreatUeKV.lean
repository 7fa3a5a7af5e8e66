/- Part KV. -/
import Derived.Test.YtndfaefmmcoapaaGreatUeSF
set_option linter.unusedSectionVars false
set_option linter.unusedVariables false
set_option linter.unusedSimpArgs false
set_option linter.defProp false
set_option maxRecDepth 20000
set_option maxHeartbeats 1000000
namespace Go.Pd
open Go Go.Proofs
open BitVec renaming isValue -> ZA
open Rs Fm Ru Te Kb
theorem aRr {p:PrA} {F:Nat} (h:p.F=(F:Int)) {a:AsA} (he:asE p a=0):0<=a.fact/\a.fact<F/\fmE p a.to 0=0:=by
 unfold asE at he
 split at he
 ·cases he
 ·rename_i q; exact⟨by omega,by omega,he⟩
theorem aLf {p:PrA} {F:Nat} (h:PrV p F) {s:BitVec 64} (hs:s >>> F=0#64) {f:List Nd} (hE:fmE p f 0=0) :
  yV Tryz.prog 54 [aAv (rP p.see.length s) (vF 1 0) p.see.length F,.sl 6 (ndR f)] (.tup [.int .u64 (ui (pB 1 1 (evT (rP p.see.length s) p.see.length 1 (iX f)))),.int .i64 0]):=by
 obtain⟨h1,h2,h3⟩:=aMf hE;rw [h.fe] at h3;have h0:wX f=0:=bW0 ⟨wX f,mE f⟩ h2;have h2':(qI .andNot .i64 (wX f:Int) 15 != 0)= false:=by rw [h0]; decide
 have ok:=aD5 (s:=s) h.hA.2 h.hF hs;have hh:=aRi ok (by show 1*1<=64; omega) h1 h2' h3
 have e1:ptl (rP p.see.length s) 1=vF 1 0:=by simp [ptl,ptN,vF,rP,List.range_succ]
 have e2:(rP p.see.length s).length*1=1:=rfl;unfold aRz at hh;rw [if_pos (aYx ok h1 h2' h3),e1,e2] at hh;exact hh
theorem aCy {p:PrA} {F:Nat} (h:PrV p F) (sts:List (List (BitVec 64))) {s:BitVec 64} (hs:s >>> F=0#64) {mv:List Int} (hl:mv.length<=1000) (hmv:∀ k ∈ mv,k<p.xL.length) :
  yV Tryz.prog 183 [plD p sts,.int .u64 (ui s),.sl 1 (rows .i64 mv)] (.int .u64 (ui (bXe p s mv))):=by
 have hF:=h.hF;have hA:=h.hA;have hrep:=aQu (n:=p.see.length) ⟨by omega,by omega⟩;have hH:=fun f hE=>aLf h hs (f:=f) hE;have hmod:=aQp p.see.length F s;rw [hmod] at hH;unfold plD plC at *;rw [h.fe];refine xX.xP mixed Tryz.func183 bU4 (by simp) fun hf=>?_;simp only [simprocAttr,-ZA,↓zU,↓zD,zV,zT,zW,xO,↓aTr]
 (refine aYv mixed ?_; unfold aOx; simp only [simprocAttr,-ZA,↓zU,↓zD,zV,zT,zW,↓aAs,↓aAr,↓rz1,↓rz2,↓rz3,↓rz4,↓rz5,↓rz6,↓aOs,qQ,oJ,xO])
 have hpp:D.xU [D.sl 1 [[D.sl 1 (us [1#64])]],D.int .i64 p.see.length]=true:=by simp [D.xU,D.xG]
 have q1:D.xU [D.int IntKind.u64 (ui 1#64)]=true:=rfl;have q2:D.xU [D.sl 1 [[D.int IntKind.u64 (ui 1#64)]]]=true:=rfl;have q3:(0:Int)<=(F:Int):=by omega
 have q4:8*(F:Int)<=281474976710656:=by omega
 have hrep':∀ σ:St,xX Tryz.prog 224 [.sl 1 [[.sl 1 [[.int .u64 (ui 1#64)]]]],.int .i64 (p.see.length:Int)] σ (.sl 1 (rr (List.replicate p.see.length [1#64]))) σ:=fun σ=>xX.yN hrep hpp;repeat (first | (refine And.intro ⟨q1,q2,aYf.go (hrep' _) ?_⟩ ?_; focus ((simp only [simprocAttr,-ZA,↓zU,↓zD,zV,zT,zW,↓aAs,↓aAr,↓rz1,↓rz2,↓rz3,↓rz4,↓rz5,↓rz6,↓aOs,qQ,oJ,xO]))) | refine And.intro q1 ?_ | refine And.intro q2 ?_ | refine And.intro q3 ?_ | refine And.intro q4 ?_ | (refine aYf.go (hrep' _) ?_; (simp only [simprocAttr,-ZA,↓zU,↓zD,zV,zT,zW,↓aAs,↓aAr,↓rz1,↓rz2,↓rz3,↓rz4,↓rz5,↓rz6,↓aOs,qQ,oJ,xO])))
 have hz:List.replicate F [D.int .u64 (ui 0#64)]=us (aX5 F (fun i=>s >>> i &&& 1#64) (fun _=>0#64) 0):=by rw [aZe,jH];congr 1;refine List.ext_getElem (by simp) fun i h1 h2=>by simp
 refine And.intro ?_ ?_
 ·rw [hz]
  (refine xI.ren [(0,1),(1,0)] [1,0] (by simp) (by simp) (by decide) ?_; simp only [yQ,vwL,vw,vwF,sw,St.get,St.look,Fr.get,simprocAttr,-ZA,exists_eq_left',ne_eq,zR,yC,sF])
 refine sW (fun i:Nat=>[(35,.int .i64 i),(34,.int .i64 F),(7,.ref 1 3 0 0),(2,.sl 1 (rows .i64 mv)),(1,.int .u64 (ui s)),(0,.ptr [.int .i64 F,.sl 1 (us p.init),.sl 1 (us p.see),.sl 1 (mvR p.xL),.sl 1 (cdR p.code),.sl 1 (rr sts)])])
  (fun i=>⟨2,[(1,⟨3,[[.int .i64 1,.osl 0 1 F,.sl 1 (rr (List.replicate p.see.length [1#64]))]]⟩),(0,⟨1,us (aX5 F (fun i=>s >>> i &&& 1#64) (fun _=>0#64) i)⟩)]⟩)
  (fun i=>i<=F) (fun i=>F-i) 0 (Nat.zero_le _) ?_ ?_
 ·rw [hz]
  (refine xI.same ?_; simp [xR,Fr.get])
 intro i hi;refine xQ mixed ?_;have hml:=aXc F (fun i=>s >>> i &&& 1#64) (fun _=>0#64) i
 by_cases hil:i<F
 ·have hd:((i:Int)<(F:Int)):=by omega
  have hmg:=zE (aX5 F (fun i=>s >>> i &&& 1#64) (fun _=>0#64) i) (show i<_ by rw [hml]; exact hil);rw [aSq _ _ hil] at hmg;have hms:=aSp F (fun i=>s >>> i &&& 1#64) (fun _=>0#64) i;generalize aX5 F (fun i=>s >>> i &&& 1#64) (fun _=>0#64) i=M at hmg hms hml;simp only [simprocAttr,-ZA,↓zU,↓zD,zV,zT,zW,hd,xO,hml,hmg,mS,hms]
  (repeat refine sd ?_)
  refine⟨i+1,by omega,?_,by omega⟩
  (refine xI.same ?_; simp only [xR,Fr.get,simprocAttr,-ZA,zS])
  exact wrap_i64 (by omega)
 have hd:¬ ((i:Int)<(F:Int)):=by omega
 have hvl:(us ((List.range F).map fun i=>s >>> i &&& 1#64)).length=F:=by simp [us]
 rw [aSr _ _ _ (by omega:F<=i)];generalize hV:((List.range F).map fun i=>s >>> i &&& 1#64)= V at *;simp only [simprocAttr,-ZA,↓zU,↓zD,zV,zT,zW,hd]
 refine .go [(7,.ref 1 3 0 0),(2,.sl 1 (rows .i64 mv)),(1,.int .u64 (ui s)),(0,.ptr [.int .i64 F,.sl 1 (us p.init),.sl 1 (us p.see),.sl 1 (mvR p.xL),.sl 1 (cdR p.code),.sl 1 (rr sts)])]
  ⟨2,[(1,⟨3,[[.int .i64 1,.sl 1 (us V),.sl 1 (rr (List.replicate p.see.length [1#64]))]]⟩)]⟩ ?_ ?_
 ·(refine xI.ren [] [1] (by simp) (by simp) (by decide) ?_; simp only [yQ,vwL,vw,vwF,sw,St.get,St.look,Fr.get,simprocAttr,-ZA,exists_eq_left',ne_eq,zR,yC,sF])
  refine⟨?_,by omega,(List.take_of_length_le (by omega)).symm,rT _⟩
  rintro q (rfl | h)
  ·exact Nat.one_ne_zero
  ·exact h.elim
 simp only [simprocAttr,-ZA,↓zU,↓zD,zV,zT,zW,xE]
 refine xW (fun k:Nat=>[(50,.int .i64 k),(49,.int .i64 mv.length),(48,.sl 1 (rows .i64 mv)),(9,.int .u64 (ui ((mv.take k).foldl (aOl p s) s))),(7,.ref 1 3 0 0),(0,.ptr [.int .i64 F,.sl 1 (us p.init),.sl 1 (us p.see),.sl 1 (mvR p.xL),.sl 1 (cdR p.code),.sl 1 (rr sts)])])
  (fun _=>⟨2,[(1,⟨3,[[.int .i64 1,.sl 1 (us V),.sl 1 (rr (List.replicate p.see.length [1#64]))]]⟩)]⟩)
  (fun k=>k<=mv.length) (fun k=>mv.length-k) 0 (Nat.zero_le _) ?_ ?_
 ·(refine xI.same ?_; simp only [xR,Fr.get,simprocAttr,-ZA,zS,List.take_zero,List.foldl_nil])
  all_goals rfl
 intro k hk;refine xQ mixed ?_;by_cases hkl:k<mv.length
 case neg=>
  have hd2:¬ ((k:Int)<(mv.length:Int)):=by omega
  rw [List.take_of_length_le (by omega)];simp only [simprocAttr,-ZA,↓zU,↓zD,zV,zT,zW,hd2];exact .drop (by simp) (by simp [vw,bXe])
 have hd2:((k:Int)<(mv.length:Int)):=by omega
 have hg:=yZ .i64 mv hkl;have hlt:=hmv _ (xN (d:=0) hkl)
 have hfo:(mv.take (k+1)).foldl (aOl p s) s=aOl p s ((mv.take k).foldl (aOl p s) s) (mv.getD k 0):=by rw [yB (d:=0) hkl,List.foldl_append]; rfl
 generalize (mv.take k).foldl (aOl p s) s=out0 at hfo ⊢;generalize mv.getD k 0=q at hg hlt hfo
 by_cases hq:q<0
 ·have hm0:aOl p s out0 q=out0:=by unfold aOl; rw [if_pos hq]
  rw [hm0] at hfo;simp only [simprocAttr,-ZA,↓zU,↓zD,zV,zT,zW,hd2,xE,hg,hq]
  (repeat refine sd ?_)
  refine⟨k+1,by omega,?_,by omega⟩
  (refine xI.same ?_; simp only [xR,Fr.get,simprocAttr,-ZA,zS,hfo])
  exact wrap_i64 (by omega)
 have hqn:q.toNat<p.xL.length:=by omega
 have hq0:0<=q:=by omega
 have hgm:=kF p.xL hqn;have hm0:aOl p s out0 q=(p.xL.getD q.toNat []).foldl (aOw p.see.length s) out0:=by unfold aOl; rw [if_neg hq]
 have hmem:=xN (d:=[]) hqn;generalize p.xL.getD q.toNat []=m at hgm hm0 hmem;have hml8:=aFo h hmem;rw [hm0] at hfo;simp only [simprocAttr,-ZA,↓zU,↓zD,zV,zT,zW,hd2,xE,hg,hq,yP,hlt,hgm,wM]
 (repeat refine sd ?_)
 refine xW (fun j:Nat=>[(66,.int .i64 j),(65,.int .i64 m.length),(64,.sl 2 (asR m)),(50,.int .i64 k),(49,.int .i64 mv.length),(48,.sl 1 (rows .i64 mv)),(9,.int .u64 (ui ((m.take j).foldl (aOw p.see.length s) out0))),(7,.ref 1 3 0 0),(0,.ptr [.int .i64 F,.sl 1 (us p.init),.sl 1 (us p.see),.sl 1 (mvR p.xL),.sl 1 (cdR p.code),.sl 1 (rr sts)])])
  (fun _=>⟨2,[(1,⟨3,[[.int .i64 1,.sl 1 (us V),.sl 1 (rr (List.replicate p.see.length [1#64]))]]⟩)]⟩)
  (fun j=>j<=m.length) (fun j=>m.length-j) 0 (Nat.zero_le _) ?_ ?_
 ·(refine xI.same ?_; simp only [xR,Fr.get,simprocAttr,-ZA,zS,List.take_zero,List.foldl_nil])
  all_goals rfl
 intro j hj;refine xQ mixed ?_;by_cases hjl:j<m.length
 case neg=>
  have hd3:¬ ((j:Int)<(m.length:Int)):=by omega
  rw [List.take_of_length_le (by omega)];simp only [simprocAttr,-ZA,↓zU,↓zD,zV,zT,zW,hd3];refine⟨k+1,by omega,?_,by omega⟩
  (refine xI.same ?_; simp only [xR,Fr.get,simprocAttr,-ZA,zS,hfo])
  exact wrap_i64 (by omega)
 have hd3:((j:Int)<(m.length:Int)):=by omega
 have hg2:=nM m hjl
 have hfo2:(m.take (j+1)).foldl (aOw p.see.length s) out0=aOw p.see.length s ((m.take j).foldl (aOw p.see.length s) out0) (m.getD j as0):=by rw [yB (d:=as0) hjl,List.foldl_append]; rfl
 obtain⟨a1,a2,a3⟩:=aRr h.fe (h.mv m hmem _ (xN (d:=as0) hjl));unfold AsA.row at hg2;generalize (m.take j).foldl (aOw p.see.length s) out0=out1 at hfo2 ⊢;generalize m.getD j as0=a at hg2 hfo2 a1 a2 a3;have hh:=hH a.to a3;have hsol:=aI6 p.see.length a.to s a.fact.toNat;simp only [simprocAttr,-ZA,↓zU,↓zD,zV,zT,zW,hd3,wM,hg2]
 (repeat refine sd ?_)
 refine .go (cr hh) ?_;simp only [simprocAttr,-ZA,↓zU,↓zD,zV,zT,zW]
 (repeat refine sd ?_)
 refine⟨j+1,by omega,?_,by omega⟩;rw [hfo2];unfold aOw;rw [<- hsol]
 (refine xI.ren [] [1] (by simp) (by simp) (by decide) ?_; simp only [yQ,vwL,vw,vwF,sw,St.get,St.look,Fr.get,simprocAttr,-ZA,exists_eq_left',ne_eq,zR])
 exact wrap_i64 (by omega)
open Rs Fm Ru Te Kb
section
variable [sL]
theorem xX.deep {P:Program} {g:FuncId} {args:List D} {σ:St} {d1 d:D} {n1:Nat} {objs1 objs':List (Nat × Ob)} (K:Nat->Prop) (hc:xX P g args σ d1 ⟨n1,objs1⟩) (hd:Seen ⟨n1,objs1⟩ K d1 d)
  (hs:∀ k o,St.look objs' k=some o->K k/\St.look objs1 k=some o):xX P g args σ d ⟨n1,objs'⟩:=by
 refine⟨hc.ord,fun M0 w ι vals hS hl hv=>(hc.run M0 w ι vals hS hl hv).mono fun e w' hh=>?_⟩;obtain⟨v,ι1,he,kept,sim,nx,stay,oA,hR⟩:=hh;refine⟨v,ι1,he,kept,sim.sub (objs':=objs') fun k o hk=>(hs k o hk).2,nx,stay,fun k o hk=>oA k o (hs k o hk).2,.pure ((hd M0 w' ι1 v sim hR).wY (fun _ _ _=>rfl) fun b _ hb=>?_)⟩;exact hb.imp id fun⟨k,o,h1,h2⟩=>⟨k,o,(hs k o h1).1,(hs k o h1).2,h2⟩
theorem aXy (c:Nat) {l:List (Nat × Ob)} {k:Nat} (h:k<c):St.look (yM c l) k=none:=by
 cases e:St.look (yM c l) k with
 | none=>rfl
 | some o=> obtain⟨k0,_,h1,_⟩:=oL c l k o e;omega
theorem xX.aSx {P:Program} {g:FuncId} {args args':List D} {d0 d:D} {nx m:Nat} {xS ob:List (Nat × Ob)} (hc:xX P g args' St0 d0 ⟨m,xS⟩) (hl:mU ⟨nx,ob⟩ (fun _=>False) args args') (hf:d0.fl=true) (ho:∀ p ∈ xS,∀ e ∈ p.2.els,D.flL e=true)
  (hd:Seen ⟨nx+m,yM nx xS++ob⟩ (fun k=>k<nx) (d0.shift nx) d):xX P g args ⟨nx,ob⟩ d ⟨nx+m,ob⟩:=
 xX.aO8 hc.ord fun hu=>xX.deep (fun k=>k<nx) (xX.bYv hc hl hf ho) hd fun k o hk=>by have h1:=(hu k o hk).1;exact⟨h1,by rw [uK,aXy nx h1]; exact hk⟩
end
namespace Kb
def rQ (ks:List Nat) (ess:List (List (List D))):List (List D):=List.zipWith (fun k e=>[D.osl k 1 e.length]) ks ess
def nsl (ess:List (List (List D))):List (List D):=ess.map fun e=>[.sl 1 e]
structure Nst (xS : List (Nat × Ob)) (kO : Nat) (ks : List Nat) (ess : List (List (List D))) : Prop where
 out:St.look xS kO=some ⟨1,rQ ks ess⟩
 len:ks.length=ess.length
 each:∀ i,i<ess.length->St.look xS (ks.getD i 0)= some ⟨1,ess.getD i []⟩
theorem uU {ks:List Nat} {ess:List (List (List D))} (h:ks.length=ess.length):(rQ ks ess).length=ess.length:=by simp [rQ]; omega
theorem oU {ks:List Nat} {ess:List (List (List D))} (h:ks.length=ess.length) {i:Nat} (hi:i<ess.length):(rQ ks ess).getD i [] = [.osl (ks.getD i 0) 1 (ess.getD i []).length]:=by
 have h1:i<ks.length:=by omega
 simp [rQ,List.getD,hi,h1,List.getElem?_zipWith]
theorem fS {ks:List Nat} {ess:List (List (List D))} (h:ks.length=ess.length) (k:Nat) (e:List (List D)):rQ ks ess ++ [[.osl k 1 e.length]]=rQ (ks ++ [k]) (ess ++ [e]):=by unfold rQ;rw [List.zipWith_append h]; rfl
theorem aH7 {ks:List Nat} {ess:List (List (List D))} (h:ks.length=ess.length) {i:Nat} (hi:i<ess.length) (k:Nat) (e:List (List D)):(rQ ks ess).set i [.osl k 1 e.length]=rQ (ks.set i k) (ess.set i e):=by refine List.ext_getElem (by simp [rQ]) fun j h1 h2=>?_;simp only [rQ,List.getElem_set,List.getElem_zipWith];split <;> rfl
theorem aCx (ess:List (List (List D))):(nsl ess).length=ess.length:=by simp [nsl]
theorem bYm (sts:List (List (BitVec 64))):nsl (sts.map us)= rr sts:=by simp only [nsl,rr,List.map_map];rfl
theorem aNe (mv:List (List Int)):nsl (mv.map (rows .i64))= rl mv:=by simp only [nsl,rl,List.map_map];rfl
theorem uT {l:List Nat} {i:Nat} (h:i<l.length):l.getD i 0 ∈ l:=by simp [List.getD,h]
end Kb
theorem Nst.seen {nx:Nat} {xS:List (Nat × Ob)} {K:Nat->Prop} {kO n:Nat} {ks:List Nat} {ess:List (List (List D))} (h:Nst xS kO ks ess) (hn:n=ess.length) (hK:¬ K kO) (hKs:∀ k ∈ ks,¬ K k) (hp:∀ e ∈ ess,∀ r ∈ e,r.length=1/\D.xU r=true) :
  Seen ⟨nx,xS⟩ K (.osl kO 1 n) (.sl 1 (nsl ess)):=by
 refine Seen.osl (ob:=⟨1,rQ ks ess⟩) h.out hK (by decide) rfl (by show n<=(rQ ks ess).length; rw [uU h.len]; omega) (by rw [aCx]; omega) (fun e he=>?_) fun i hi j hj=>?_
 ·simp only [nsl,List.mem_map] at he;obtain⟨x,_,rfl⟩:=he;rfl
 ·obtain rfl:j=0:=by omega
  have hi':i<ess.length:=by omega
  show Seen _ _ (((rQ ks ess).getD i []).getD 0 .top) _;rw [oU h.len hi'];have e2:(nsl ess).getD i [] = [.sl 1 (ess.getD i [])]:=by simp [nsl,List.getD,hi']
  rw [e2];have hm:=xN (d:=[]) hi';exact Seen.rows (h.each i hi') (hKs _ (uT (by rw [h.len]; exact hi'))) (by decide) rfl (fun r hr=>(hp _ hm r hr).1) fun r hr=>(hp _ hm r hr).2
theorem Nst.shift {xS r:List (Nat × Ob)} {kO c:Nat} {ks:List Nat} {ess:List (List (List D))} (h:Nst xS kO ks ess) (hp:∀ e ∈ ess,∀ r ∈ e,D.xU r=true):Nst (yM c xS++r) (c+kO) (ks.map (c + ·)) ess where
 out:=by rw [uK,qS c h.out];show some (Ob.shift c _)= _;unfold Ob.shift rQ;simp only;congr 2;refine List.ext_getElem (by simp) fun i h1 h2=>?_;simp [D.wZ,D.shift]
 len:=by rw [List.length_map]; exact h.len
 each:=fun i hi=>by
  have hk:(ks.map (c + ·)).getD i 0=c+ks.getD i 0:=by simp [List.getD,show i<ks.length by rw [h.len]; exact hi]
  rw [hk,uK,qS c (h.each i hi)];show some (Ob.shift c _)= _;unfold Ob.shift;rw [nJ c fun e he=>hp _ (xN hi) e he]
namespace Kb
def aR1 (ess:List (List (List D))):List (Nat × Ob):=(0,⟨1,rQ (List.range' 1 ess.length) ess⟩) :: (List.range ess.length).map fun i=>(1+i,⟨1,ess.getD i []⟩)
theorem aZh {f:Nat->Ob}:∀ {l:List Nat} {i:Nat},i ∈ l->St.look (l.map fun i=>(1+i,f i)) (1+i)= some (f i)
 | [],i,h=>by cases h
 | j :: r,i,h=>by
  show St.look ((1+j,f j) :: _) _=_;rw [xY]
  by_cases e:i=j
  ·subst e; rw [if_pos rfl]
  ·rw [if_neg (by omega)];exact aZh ((List.mem_cons.1 h).resolve_left e)
theorem aXa (ess:List (List (List D))):Nst (aR1 ess) 0 (List.range' 1 ess.length) ess where
 out:=by unfold aR1; rw [xY,if_pos rfl]
 len:=by simp
 each:=fun i hi=>by
  have e:(List.range' 1 ess.length).getD i 0=1+i:=by simp [List.getD,hi]
  unfold aR1;rw [e,xY,if_neg (by omega)];exact aZh (List.mem_range.2 hi)
theorem aN2 {ess:List (List (List D))} (hp:∀ e ∈ ess,∀ r ∈ e,D.flL r=true):∀ p ∈ aR1 ess,∀ e ∈ p.2.els,D.flL e=true:=by
 intro p hm e he;unfold aR1 at hm
 rcases List.mem_cons.1 hm with rfl | hm
 ·simp only [rQ] at he;obtain⟨i,hi,rfl⟩:=List.getElem_of_mem he;simp [D.flL,D.fl]
 ·simp only [List.mem_map,List.mem_range] at hm;obtain⟨i,hi,rfl⟩:=hm;exact hp _ (xN hi) e he
end Kb
theorem aO6 {σ σ':St} {ρ:Nat->Nat}:∀ {xs bs:List (List D)},xs.length=bs.length->(∀ i,i<bs.length->(xs.getD i []).length=(bs.getD i []).length/\vwL σ σ' ρ (xs.getD i []) (bs.getD i []))->vwE σ σ' ρ xs bs
 | [],[],_,_=>.nil
 | [],_ :: _,h,_=>by cases h
 | _ :: _,[],h,_=>by cases h
 | a :: xs,b :: bs,h,hh=>by have h0:=hh 0 (by simp);refine .cons h0.1 h0.2 (aO6 (by simpa using h) fun i hi=>?_);simpa using hh (i+1) (by simp; omega)
theorem aV3 {ks:List Nat} (hd:ks.Nodup) {i j:Nat} (hi:i<ks.length) (hj:j<ks.length) (e:ks.getD i 0=ks.getD j 0):i=j:=by
 simp only [List.getD,hi,hj,List.getElem?_eq_getElem,Option.getD_some] at e;have hp:=List.pairwise_iff_getElem.1 hd
 rcases Nat.lt_trichotomy i j with h | h | h
 ·exact absurd e (hp i j hi hj h)
 ·exact h
 ·exact absurd e.symm (hp j i hj hi h)
theorem nB.nst {nx n:Nat} {xS:List (Nat × Ob)} {kO:Nat} {ks:List Nat} {ess:List (List (List D))} (h:Nst xS kO ks ess) (hn:n=ess.length) (hd:ks.Nodup) (hk:kO ∉ ks) (hp:∀ e ∈ ess,∀ r ∈ e,D.xU r=true) :
  nB 0 ⟨nx,xS⟩ (.osl kO 1 n) ⟨1+ess.length,aR1 ess⟩ (.osl 0 1 n):=by
 subst hn;have hlen:=h.len;have hr:(List.range' 1 ess.length).length=ess.length:=by simp
 have key:∀ q ∈ aR1 ess,q.1=0\/∃ i,i<ess.length/\q.1=1+i:=fun q hq=>by
  unfold aR1 at hq
  rcases List.mem_cons.1 hq with rfl | hq
  ·exact .inl rfl
  ·simp only [List.mem_map,List.mem_range] at hq;obtain⟨i,hi,rfl⟩:=hq;exact .inr ⟨i,hi,rfl⟩
 refine .inr ⟨fun k=>if k=0 then kO else ks.getD (k-1) 0,Nat.zero_le _,fun k hk=>absurd hk (Nat.not_lt_zero _),?_,?_,?_⟩
 ·simp only [vw,↓reduceIte,and_true];omega
 ·intro q hq;unfold aR1 at hq
  rcases List.mem_cons.1 hq with rfl | hq
  ·refine⟨by show 0<1+ess.length; omega,_,h.out,rfl,aO6 (by rw [uU hlen,uU hr]) fun i hi=>?_⟩;rw [uU hr] at hi;rw [oU hlen hi,oU hr hi];refine⟨rfl,?_⟩;have e:(List.range' 1 ess.length).getD i 0=1+i:=by simp [List.getD,hi]
   simp only [vwL,vw,e,and_true];rw [if_neg (by omega),show 1+i-1=i by omega];exact⟨by omega,rfl⟩
  ·simp only [List.mem_map,List.mem_range] at hq;obtain⟨i,hi,rfl⟩:=hq;refine⟨by show 1+i<1+ess.length; omega,⟨1,ess.getD i []⟩,?_,rfl,.same fun r hr=>hp _ (xN hi) r hr⟩;show St.look xS (if 1+i=0 then kO else ks.getD (1+i-1) 0)= _;rw [if_neg (by omega),show 1+i-1=i by omega];exact h.each i hi
 ·intro a ha b hb e;simp only at e
  rcases key a ha with h1 | ⟨i,hi,h1⟩ <;> rcases key b hb with h2 | ⟨j,hj,h2⟩ <;> rw [h1,h2] at e ⊢
  ·rw [if_pos rfl,if_neg (by omega)] at e;exact absurd (e ▸ uT (by omega)) hk
  ·rw [if_pos rfl,if_neg (by omega)] at e;exact absurd (e ▸ uT (by omega)) hk
  ·rw [if_neg (by omega),if_neg (by omega),show 1+i-1=i by omega,show 1+j-1=j by omega] at e;rw [aV3 hd (by omega) (by omega) e]
end Go.Pd
