/- Part KU. -/
import Derived.Test.YtndfaefmmcoapaaGreatUfXA
import Derived.Test.YtndfaefmmcoapaaGreatUfX9
import Derived.RangeFuncIn
import Derived.RangeFuncRecord
import Derived.RangeFuncSeq
import Derived.Test.YtndfaefmmcoapaaGreatUfCode
import Derived.RangeFuncBox
import Derived.RangeFuncLeaves
import Derived.WalkKit
import Derived.OwnWalkIn
import Derived.TacticsInMore
import Derived.LoopNIn
import Derived.LoopIn
set_option linter.unusedSectionVars false
set_option linter.unusedVariables false
set_option linter.unusedSimpArgs false
set_option linter.defProp false
set_option maxRecDepth 20000
set_option maxHeartbeats 1000000
open Go.Proofs.Tryz
open List renaming mem_map->γ,length_map->δ,mem_range->ε,mem_singleton->ζ,take_of_length_le->η,ext_getElem->θ,range'->κ,getElem_set->μ,mem_cons->ν,mem_append->ξ,eq_nil_of_length_eq_zero->ο,map_congr_left->π,getElem?_append_left->τ,any_eq_false->υ,map_append->χ,length_append->ω,getElem_range->Aa,mem_range'_1->Ab,getElem_map->Ac,pairwise_iff_getElem->Ad,map_map->Ae,eq_replicate_iff->Af,getElem_of_mem->Ag,nodup_append->Ah,foldl_append->Ai,getElem_mem->Aj
open Nat renaming le_refl->Ak,zero_le->Al,not_lt_zero->Am,one_ne_zero->An,add_zero->Ao,add_one_ne_zero->Ap
open Bool renaming eq_false_iff->Aq,or_eq_false_iff->Ar,true_and->As,false_or->Au
open Array renaming getElem?_eq_some_iff->Av
open Int renaming toNat_natCast->Aw
open BitVec renaming getLsbD_zero->Ax,getLsbD_ushiftRight->Ay
open And renaming intro->Az
namespace Go.Pd
open Go Go.Proofs
open Rs Fm Ru Te Kb
namespace Kb
structure zd (p : yF) (F : Nat) : Prop where
 fe:p.F=(F:Int)
 hF:F<=8
 hA:1<=p.xN.length/\p.xN.length<=4
 hI:1<=p.init.length/\p.init.length<=16
 hM:p.xM.length<=8
 hC:p.code.length=p.xN.length
 cl:∀ l ∈ p.code,l.length<=6
 init:∀ s ∈ p.init,s >>> F=0#64
 xN:∀ s ∈ p.xN,s >>> F=0#64
 r7:lg p.init=true
 Fb:∀ m ∈ p.xM,dS m=true
 mv:∀ m ∈ p.xM,∀ a ∈ m,nV p a=0
 code:∀ l ∈ p.code,∀ c ∈ l,lE p c=0
theorem pf {p:yF} {F:Nat} (h:p.F=(F:Int)) {s:BitVec 64} (hs:pY p s=false):s >>> F=0#64:=by unfold pY at hs;rw [h] at hs;simpa using hs
theorem fc {p:yF} (h:uD p=0):∃ F,zd p F:=by
 unfold uD at h
 split at h
 ·rename_i h0; exact absurd h h0
 rename_i h0;have h0:zC p=0:=by simpa using h0
 split at h
 ·rename_i h1; exact absurd h h1
 rename_i h1;have h1:wX (wX (nV p)) p.xM=0:=by simpa using h1
 unfold zC at h0
 split at h0
 ·cases h0
 rename_i q1
 split at h0
 ·cases h0
 rename_i q2
 split at h0
 ·cases h0
 rename_i q3
 split at h0
 ·cases h0
 rename_i q4;simp only [not_or] at q1 q2 q3 q4;obtain⟨F,hF⟩:∃ F:Nat,p.F=(F:Int):=⟨p.F.toNat,by omega⟩
 refine⟨F,hF,by omega,by omega,by omega,by omega,by have:=q3.2.2.1; omega,λl hl=>?_,λs hs=>pf hF ?_,λs hs=>pf hF ?_,by simpa using q4.1,λm hm=>?_,λm hm a ha=>?_,λl hl c hc=>?_⟩
 ·have:=υ.1 (Aq.2 q2.2.2.2) l hl;simpa using this
 ·have:=υ.1 (Aq.2 q3.2.2.2.1) s hs;simpa using this
 ·have:=υ.1 (Aq.2 q3.2.2.2.2) s hs;simpa using this
 ·have:=υ.1 (Aq.2 q4.2) m hm;simpa using this
 ·exact jM.1 (jM.1 h1 m hm) a ha
 ·exact jM.1 (jM.1 h l hl) c hc
theorem XD {p:yF} {F:Nat} (h:zd p F) {m:List gQ} (hm:m ∈ p.xM):m.length<=8:=by
 have ha:=Pj.1 (h.Fb m hm)
 have hf:∀ i,i<m.length->0<=(m.getD i bV).fact/\(m.getD i bV).fact<F:=λi hi=>by
  have:=h.mv m hm _ (xK (d:=bV) hi);unfold nV at this
  split at this
  ·cases this
  ·rename_i q; have:=h.fe; omega
 have hg:∀ i,i<m.length->(m.map (·.fact)).getD i 0=(m.getD i bV).fact:=λi hi=>by simp [List.getD,hi]
 have key:∀ i,i<m.length->(i:Int)<=(m.getD i bV).fact:=by
  intro i
  induction i with
  | zero=>intro hi; exact(hf 0 hi).1
  | succ i ih=> intro hi;have h1:=ih (by omega);have h2:=ha i (by simpa using hi);rw [hg i (by omega),hg (i+1) hi] at h2;omega
 by_cases h0:m.length=0
 ·omega
 ·have h1:=key (m.length-1) (by omega);have h2:=hf (m.length-1) (by omega);have:=h.hF;omega
end Kb
theorem Zi (A F:Nat) (s:BitVec 64):VO (vP A s) (uO 1 0) A F = .agg [.int .i64 1,.sl 1 (us ((List.range F).map λi=>s >>> i &&& 1#64)),.sl 1 (rr (List.replicate A [1#64]))]:=by
 unfold VO
 have h1:jI (vP A s) (uO 1 0) F=(List.range F).map λi=>s >>> i &&& 1#64:=by refine π λi _=>?_;rw [qe];show 0#64 ||| (if s.getLsbD i then 1#64 <<< 0 else 0#64)= _;cases s.getLsbD i <;> rfl
 have h2:qC (vP A s) (uO 1 0) A=List.replicate A [1#64]:=by refine Af.2 ⟨by simp [qC],λr hr=>?_⟩;simp only [qC,γ,ε] at hr;obtain⟨a,ha,rfl⟩:=hr;show [0#64 ||| (if yO (vP A s) a (0,0)= yO (vP A s) a (0,0) then 1#64 <<< 0 else 0#64)]=_;rw [if_pos rfl];rfl
 rw [h1,h2];rfl
theorem Rf (A:Nat) (f:List Nd) (s:BitVec 64) (n:Nat):sW 1 1 (eD (vP A s) A 1 (uE f)) <<< n=if uc A f s=true then 1#64 <<< n else 0#64:=by show (0#64 ||| (if uc A f s=true then 1#64 <<< 0 else 0#64)) <<< n=_;split <;> simp
theorem Zd {n:Nat} (hn:1<=n/\n<=64):yW prog 224 [.sl 1 [[.sl 1 (us [1#64])]],.int .i64 (n:Int)] (.sl 1 (rr (List.replicate n [1#64]))):=by have h:=Uj (d:=.sl 1 (us [1#64])) rfl rfl hn;rw [OZ] at h;exact xY.ret h (.drop (Al _) (Xr (by decide) (bj _) (by simp [rr])))
end Go.Pd

/- Part KV. -/
namespace Go.Pd
open Go Go.Proofs
open BitVec renaming isValue -> ZA
open Rs Fm Ru Te Kb
theorem qc {p:yF} {F:Nat} (h:p.F=(F:Int)) {a:gQ} (he:nV p a=0):0<=a.fact/\a.fact<F/\ze p a.to 0=0:=by
 unfold nV at he
 split at he
 ·cases he
 ·rename_i q; exact⟨by omega,by omega,he⟩
theorem Uz {p:yF} {F:Nat} (h:zd p F) {s:BitVec 64} (hs:s >>> F=0#64) {f:List Nd} (hE:ze p f 0=0) :
  yW prog 54 [VO (vP p.xN.length s) (uO 1 0) p.xN.length F,.sl 6 (zG f)] (.wE [.int .u64 (ui (sW 1 1 (eD (vP p.xN.length s) p.xN.length 1 (uE f)))),.int .i64 0]):=by
 obtain⟨h1,h2,h3⟩:=aU hE;rw [h.fe] at h3;have h0:zH f=0:=Jq ⟨zH f,oD f⟩ h2;have h2':(tS .andNot .i64 (zH f:Int) 15 != 0)= false:=by rw [h0]; decide
 have ok:=Ou (s:=s) h.hA.2 h.hF hs;have hh:=XL ok (by show 1*1<=64; omega) h1 h2' h3
 have e1:wQ (vP p.xN.length s) 1=uO 1 0:=by simp [wQ,qF,uO,vP,List.range_succ]
 have e2:(vP p.xN.length s).length*1=1:=rfl;unfold xq at hh;rw [if_pos (yx ok h1 h2' h3),e1,e2] at hh;exact hh
theorem OL {p:yF} {F:Nat} (h:zd p F) (sts:List (List (BitVec 64))) {s:BitVec 64} (hs:s >>> F=0#64) {mv:List Int} (hl:mv.length<=1000) (hmv:∀ k ∈ mv,k<p.xM.length) :
  yW prog 183 [vr p sts,.int .u64 (ui s),.sl 1 (rows .i64 mv)] (.int .u64 (ui (mc p s mv))):=by
 have hF:=h.hF;have hA:=h.hA;have hrep:=Zd (n:=p.xN.length) ⟨by omega,by omega⟩;have hH:=λf hE=>Uz h hs (f:=f) hE;have hmod:=Zi p.xN.length F s;rw [hmod] at hH;unfold vr Pb at *;rw [h.fe];refine xY.xQ mixed func183 Il (by simp) λhf=>?_;simp only [simprocAttr,-ZA,↓zU,↓zD,zV,zT,zW,xH,↓l6]
 (refine jk mixed ?_; unfold o9; simp only [simprocAttr,-ZA,↓zU,↓zD,zV,zT,zW,↓VR,↓VS,↓L0,↓L1,↓L2,↓L3,↓L4,↓L5,↓tz,lG,iI,xH])
 have hpp:D.xP [D.sl 1 [[D.sl 1 (us [1#64])]],D.int .i64 p.xN.length]=true:=by simp [D.xP,D.xD]
 have q1:D.xP [D.int IntKind.u64 (ui 1#64)]=true:=rfl;have q2:D.xP [D.sl 1 [[D.int IntKind.u64 (ui 1#64)]]]=true:=rfl;have q3:(0:Int)<=(F:Int):=by omega
 have q4:8*(F:Int)<=281474976710656:=by omega
 have hrep':∀ σ:St,xY prog 224 [.sl 1 [[.sl 1 [[.int .u64 (ui 1#64)]]]],.int .i64 (p.xN.length:Int)] σ (.sl 1 (rr (List.replicate p.xN.length [1#64]))) σ:=λσ=>xY.zP hrep hpp;repeat (first | (refine Az ⟨q1,q2,wu.go (hrep' _) ?_⟩ ?_; focus ((simp only [simprocAttr,-ZA,↓zU,↓zD,zV,zT,zW,↓VR,↓VS,↓L0,↓L1,↓L2,↓L3,↓L4,↓L5,↓tz,lG,iI,xH]))) | refine Az q1 ?_ | refine Az q2 ?_ | refine Az q3 ?_ | refine Az q4 ?_ | (refine wu.go (hrep' _) ?_; (simp only [simprocAttr,-ZA,↓zU,↓zD,zV,zT,zW,↓VR,↓VS,↓L0,↓L1,↓L2,↓L3,↓L4,↓L5,↓tz,lG,iI,xH])))
 have hz:List.replicate F [D.int .u64 (ui 0#64)]=us (gT F (λi=>s >>> i &&& 1#64) (λ_=>0#64) 0):=by rw [il,xy];congr 1;refine θ (by simp) λi h1 h2=>by simp
 refine Az ?_ ?_
 ·rw [hz]
  (refine xT.sZ [(0,1),(1,0)] [1,0] (by simp) (by simp) (by decide) ?_; simp only [yT,zQ,simprocAttr,-ZA,exists_eq_left',ne_eq,zR,wU,oH])
 refine wH (λi:Nat=>[(35,.int .i64 i),(34,.int .i64 F),(7,.ref 1 3 0 0),(2,.sl 1 (rows .i64 mv)),(1,.int .u64 (ui s)),(0,.ptr [.int .i64 F,.sl 1 (us p.init),.sl 1 (us p.xN),.sl 1 (qY p.xM),.sl 1 (qZ p.code),.sl 1 (rr sts)])])
  (λi=>⟨2,[(1,⟨3,[[.int .i64 1,.yD 0 1 F,.sl 1 (rr (List.replicate p.xN.length [1#64]))]]⟩),(0,⟨1,us (gT F (λi=>s >>> i &&& 1#64) (λ_=>0#64) i)⟩)]⟩)
  (λi=>i<=F) (λi=>F-i) 0 (Al _) ?_ ?_
 ·rw [hz]
  (refine xT.same ?_; simp [xR,Fr.get])
 intro i hi;refine xL mixed ?_;have hml:=qv F (λi=>s >>> i &&& 1#64) (λ_=>0#64) i
 by_cases hil:i<F
 ·have hd:((i:Int)<(F:Int)):=by omega
  have hmg:=vL (gT F (λi=>s >>> i &&& 1#64) (λ_=>0#64) i) (show i<_ by rw [hml]; exact hil);rw [Xi _ _ hil] at hmg;have hms:=Xj F (λi=>s >>> i &&& 1#64) (λ_=>0#64) i;generalize gT F (λi=>s >>> i &&& 1#64) (λ_=>0#64) i=M at hmg hms hml;simp only [simprocAttr,-ZA,↓zU,↓zD,zV,zT,zW,hd,xH,hml,hmg,jC,hms]
  (repeat refine sd ?_)
  refine⟨i+1,by omega,?_,by omega⟩
  (refine xT.same ?_; simp only [xR,Fr.get,simprocAttr,-ZA,zS])
  exact wrap_i64 (by omega)
 have hd:¬ ((i:Int)<(F:Int)):=by omega
 have hvl:(us ((List.range F).map λi=>s >>> i &&& 1#64)).length=F:=by simp [us]
 rw [Xh _ _ _ (by omega:F<=i)];generalize hV:((List.range F).map λi=>s >>> i &&& 1#64)= V at *;simp only [simprocAttr,-ZA,↓zU,↓zD,zV,zT,zW,hd]
 refine .go [(7,.ref 1 3 0 0),(2,.sl 1 (rows .i64 mv)),(1,.int .u64 (ui s)),(0,.ptr [.int .i64 F,.sl 1 (us p.init),.sl 1 (us p.xN),.sl 1 (qY p.xM),.sl 1 (qZ p.code),.sl 1 (rr sts)])]
  ⟨2,[(1,⟨3,[[.int .i64 1,.sl 1 (us V),.sl 1 (rr (List.replicate p.xN.length [1#64]))]]⟩)]⟩ ?_ ?_
 ·(refine xT.sZ [] [1] (by simp) (by simp) (by decide) ?_; simp only [yT,zQ,simprocAttr,-ZA,exists_eq_left',ne_eq,zR,wU,oH])
  refine⟨?_,by omega,(η (by omega)).symm,oS _⟩
  rintro q (rfl | h)
  ·exact An
  ·exact h.elim
 simp only [simprocAttr,-ZA,↓zU,↓zD,zV,zT,zW,zK]
 refine xO (λk:Nat=>[(50,.int .i64 k),(49,.int .i64 mv.length),(48,.sl 1 (rows .i64 mv)),(9,.int .u64 (ui ((mv.take k).foldl (kM p s) s))),(7,.ref 1 3 0 0),(0,.ptr [.int .i64 F,.sl 1 (us p.init),.sl 1 (us p.xN),.sl 1 (qY p.xM),.sl 1 (qZ p.code),.sl 1 (rr sts)])])
  (λ_=>⟨2,[(1,⟨3,[[.int .i64 1,.sl 1 (us V),.sl 1 (rr (List.replicate p.xN.length [1#64]))]]⟩)]⟩)
  (λk=>k<=mv.length) (λk=>mv.length-k) 0 (Al _) ?_ ?_
 ·(refine xT.same ?_; simp only [xR,Fr.get,simprocAttr,-ZA,zS,List.take_zero,List.foldl_nil])
  all_goals rfl
 intro k hk;refine xL mixed ?_;by_cases hkl:k<mv.length
 case neg=>
  have hd2:¬ ((k:Int)<(mv.length:Int)):=by omega
  rw [η (by omega)];simp only [simprocAttr,-ZA,↓zU,↓zD,zV,zT,zW,hd2];exact .drop (by simp) (by simp [vw,mc])
 have hd2:((k:Int)<(mv.length:Int)):=by omega
 have hg:=vI .i64 mv hkl;have hlt:=hmv _ (xK (d:=0) hkl)
 have hfo:(mv.take (k+1)).foldl (kM p s) s=kM p s ((mv.take k).foldl (kM p s) s) (mv.getD k 0):=by rw [vW (d:=0) hkl,Ai]; rfl
 generalize (mv.take k).foldl (kM p s) s=out0 at hfo ⊢;generalize mv.getD k 0=q at hg hlt hfo
 by_cases hq:q<0
 ·have hm0:kM p s out0 q=out0:=by unfold kM; rw [if_pos hq]
  rw [hm0] at hfo;simp only [simprocAttr,-ZA,↓zU,↓zD,zV,zT,zW,hd2,zK,hg,hq]
  (repeat refine sd ?_)
  refine⟨k+1,by omega,?_,by omega⟩
  (refine xT.same ?_; simp only [xR,Fr.get,simprocAttr,-ZA,zS,hfo])
  exact wrap_i64 (by omega)
 have hqn:q.toNat<p.xM.length:=by omega
 have hq0:0<=q:=by omega
 have hgm:=iT p.xM hqn;have hm0:kM p s out0 q=(p.xM.getD q.toNat []).foldl (gS p.xN.length s) out0:=by unfold kM; rw [if_neg hq]
 have hmem:=xK (d:=[]) hqn;generalize p.xM.getD q.toNat []=m at hgm hm0 hmem;have hml8:=XD h hmem;rw [hm0] at hfo;simp only [simprocAttr,-ZA,↓zU,↓zD,zV,zT,zW,hd2,zK,hg,hq,yE,hlt,hgm,vS]
 (repeat refine sd ?_)
 refine xO (λj:Nat=>[(66,.int .i64 j),(65,.int .i64 m.length),(64,.sl 2 (p9 m)),(50,.int .i64 k),(49,.int .i64 mv.length),(48,.sl 1 (rows .i64 mv)),(9,.int .u64 (ui ((m.take j).foldl (gS p.xN.length s) out0))),(7,.ref 1 3 0 0),(0,.ptr [.int .i64 F,.sl 1 (us p.init),.sl 1 (us p.xN),.sl 1 (qY p.xM),.sl 1 (qZ p.code),.sl 1 (rr sts)])])
  (λ_=>⟨2,[(1,⟨3,[[.int .i64 1,.sl 1 (us V),.sl 1 (rr (List.replicate p.xN.length [1#64]))]]⟩)]⟩)
  (λj=>j<=m.length) (λj=>m.length-j) 0 (Al _) ?_ ?_
 ·(refine xT.same ?_; simp only [xR,Fr.get,simprocAttr,-ZA,zS,List.take_zero,List.foldl_nil])
  all_goals rfl
 intro j hj;refine xL mixed ?_;by_cases hjl:j<m.length
 case neg=>
  have hd3:¬ ((j:Int)<(m.length:Int)):=by omega
  rw [η (by omega)];simp only [simprocAttr,-ZA,↓zU,↓zD,zV,zT,zW,hd3];refine⟨k+1,by omega,?_,by omega⟩
  (refine xT.same ?_; simp only [xR,Fr.get,simprocAttr,-ZA,zS,hfo])
  exact wrap_i64 (by omega)
 have hd3:((j:Int)<(m.length:Int)):=by omega
 have hg2:=lM m hjl
 have hfo2:(m.take (j+1)).foldl (gS p.xN.length s) out0=gS p.xN.length s ((m.take j).foldl (gS p.xN.length s) out0) (m.getD j bV):=by rw [vW (d:=bV) hjl,Ai]; rfl
 obtain⟨a1,a2,a3⟩:=qc h.fe (h.mv m hmem _ (xK (d:=bV) hjl));unfold gQ.row at hg2;generalize (m.take j).foldl (gS p.xN.length s) out0=out1 at hfo2 ⊢;generalize m.getD j bV=a at hg2 hfo2 a1 a2 a3;have hh:=hH a.to a3;have hsol:=Rf p.xN.length a.to s a.fact.toNat;simp only [simprocAttr,-ZA,↓zU,↓zD,zV,zT,zW,hd3,vS,hg2]
 (repeat refine sd ?_)
 refine .go (cr hh) ?_;simp only [simprocAttr,-ZA,↓zU,↓zD,zV,zT,zW]
 (repeat refine sd ?_)
 refine⟨j+1,by omega,?_,by omega⟩;rw [hfo2];unfold gS;rw [<- hsol]
 (refine xT.sZ [] [1] (by simp) (by simp) (by decide) ?_; simp only [yT,zQ,simprocAttr,-ZA,exists_eq_left',ne_eq,zR])
 exact wrap_i64 (by omega)
open Rs Fm Ru Te Kb
section
variable [uC]
theorem xY.deep {P:Program} {g:FuncId} {args:List D} {σ:St} {d1 d:D} {n1:Nat} {objs1 objs':List (Nat × Ob)} (K:Nat->Prop) (hc:xY P g args σ d1 ⟨n1,objs1⟩) (hd:Seen ⟨n1,objs1⟩ K d1 d)
  (hs:∀ k o,St.look objs' k=some o->K k/\St.look objs1 k=some o):xY P g args σ d ⟨n1,objs'⟩:=by
 refine⟨hc.ord,λM0 w ι vals hS hl hv=>(hc.run M0 w ι vals hS hl hv).mono λe w' hh=>?_⟩;obtain⟨v,ι1,he,kept,nJ,nx,stay,rD,hR⟩:=hh;refine⟨v,ι1,he,kept,nJ.sub (objs':=objs') λk o hk=>(hs k o hk).2,nx,stay,λk o hk=>rD k o (hs k o hk).2,.pure ((hd M0 w' ι1 v nJ hR).yJ (λ_ _ _=>rfl) λb _ hb=>?_)⟩;exact hb.imp id λ⟨k,o,h1,h2⟩=>⟨k,o,(hs k o h1).1,(hs k o h1).2,h2⟩
theorem kn (c:Nat) {l:List (Nat × Ob)} {k:Nat} (h:k<c):St.look (zM c l) k=none:=by
 cases e:St.look (zM c l) k with
 | none=>rfl
 | some o=> obtain⟨k0,_,h1,_⟩:=iK c l k o e;omega
theorem xY.QO {P:Program} {g:FuncId} {args args':List D} {d0 d:D} {nx m:Nat} {xZ ob:List (Nat × Ob)} (hc:xY P g args' gR d0 ⟨m,xZ⟩) (hl:kF ⟨nx,ob⟩ (λ_=>False) args args') (hf:d0.fl=true) (ho:∀ p ∈ xZ,∀ e ∈ p.2.xV,D.Wi e=true)
  (hd:Seen ⟨nx+m,zM nx xZ++ob⟩ (λk=>k<nx) (d0.shift nx) d):xY P g args ⟨nx,ob⟩ d ⟨nx+m,ob⟩:=
 xY.wC hc.ord λhu=>xY.deep (λk=>k<nx) (xY.Le hc hl hf ho) hd λk o hk=>by have h1:=(hu k o hk).1;exact⟨h1,by rw [qI,kn nx h1]; exact hk⟩
end
namespace Kb
def sP (ks:List Nat) (ess:List (List (List D))):List (List D):=List.zipWith (λk e=>[D.yD k 1 e.length]) ks ess
def Pa (ess:List (List (List D))):List (List D):=ess.map λe=>[.sl 1 e]
structure kd (xZ : List (Nat × Ob)) (kO : Nat) (ks : List Nat) (ess : List (List (List D))) : Prop where
 out:St.look xZ kO=some ⟨1,sP ks ess⟩
 len:ks.length=ess.length
 each:∀ i,i<ess.length->St.look xZ (ks.getD i 0)= some ⟨1,ess.getD i []⟩
theorem rB {ks:List Nat} {ess:List (List (List D))} (h:ks.length=ess.length):(sP ks ess).length=ess.length:=by simp [sP]; omega
theorem jV {ks:List Nat} {ess:List (List (List D))} (h:ks.length=ess.length) {i:Nat} (hi:i<ess.length):(sP ks ess).getD i [] = [.yD (ks.getD i 0) 1 (ess.getD i []).length]:=by
 have h1:i<ks.length:=by omega
 simp [sP,List.getD,hi,h1,List.getElem?_zipWith]
theorem ir {ks:List Nat} {ess:List (List (List D))} (h:ks.length=ess.length) (k:Nat) (e:List (List D)):sP ks ess ++ [[.yD k 1 e.length]]=sP (ks ++ [k]) (ess ++ [e]):=by unfold sP;rw [List.zipWith_append h]; rfl
theorem Qs {ks:List Nat} {ess:List (List (List D))} (h:ks.length=ess.length) {i:Nat} (hi:i<ess.length) (k:Nat) (e:List (List D)):(sP ks ess).set i [.yD k 1 e.length]=sP (ks.set i k) (ess.set i e):=by refine θ (by simp [sP]) λj h1 h2=>?_;simp only [sP,μ,List.getElem_zipWith];split <;> rfl
theorem OO (ess:List (List (List D))):(Pa ess).length=ess.length:=by simp [Pa]
theorem Lp (sts:List (List (BitVec 64))):Pa (sts.map us)= rr sts:=by simp only [Pa,rr,Ae];rfl
theorem Lo (mv:List (List Int)):Pa (mv.map (rows .i64))= rl mv:=by simp only [Pa,rl,Ae];rfl
theorem rV {l:List Nat} {i:Nat} (h:i<l.length):l.getD i 0 ∈ l:=by simp [List.getD,h]
end Kb
theorem kd.seen {nx:Nat} {xZ:List (Nat × Ob)} {K:Nat->Prop} {kO n:Nat} {ks:List Nat} {ess:List (List (List D))} (h:kd xZ kO ks ess) (hn:n=ess.length) (hK:¬ K kO) (hKs:∀ k ∈ ks,¬ K k) (hp:∀ e ∈ ess,∀ r ∈ e,r.length=1/\D.xP r=true) :
  Seen ⟨nx,xZ⟩ K (.yD kO 1 n) (.sl 1 (Pa ess)):=by
 refine Seen.yD (ob:=⟨1,sP ks ess⟩) h.out hK (by decide) rfl (by show n<=(sP ks ess).length; rw [rB h.len]; omega) (by rw [OO]; omega) (λe he=>?_) λi hi j hj=>?_
 ·simp only [Pa,γ] at he;obtain⟨x,_,rfl⟩:=he;rfl
 ·obtain rfl:j=0:=by omega
  have hi':i<ess.length:=by omega
  show Seen _ _ (((sP ks ess).getD i []).getD 0 .top) _;rw [jV h.len hi'];have e2:(Pa ess).getD i [] = [.sl 1 (ess.getD i [])]:=by simp [Pa,List.getD,hi']
  rw [e2];have hm:=xK (d:=[]) hi';exact Seen.rows (h.each i hi') (hKs _ (rV (by rw [h.len]; exact hi'))) (by decide) rfl (λr hr=>(hp _ hm r hr).1) λr hr=>(hp _ hm r hr).2
theorem kd.shift {xZ r:List (Nat × Ob)} {kO c:Nat} {ks:List Nat} {ess:List (List (List D))} (h:kd xZ kO ks ess) (hp:∀ e ∈ ess,∀ r ∈ e,D.xP r=true):kd (zM c xZ++r) (c+kO) (ks.map (c + ·)) ess where
 out:=by rw [qI,oA c h.out];show some (Ob.shift c _)= _;unfold Ob.shift sP;simp only;congr 2;refine θ (by simp) λi h1 h2=>?_;simp [D.wB,D.shift]
 len:=by rw [δ]; exact h.len
 each:=λi hi=>by
  have hk:(ks.map (c + ·)).getD i 0=c+ks.getD i 0:=by simp [List.getD,show i<ks.length by rw [h.len]; exact hi]
  rw [hk,qI,oA c (h.each i hi)];show some (Ob.shift c _)= _;unfold Ob.shift;rw [fS c λe he=>hp _ (xK hi) e he]
namespace Kb
def tt (ess:List (List (List D))):List (Nat × Ob):=(0,⟨1,sP (κ 1 ess.length) ess⟩) :: (List.range ess.length).map λi=>(1+i,⟨1,ess.getD i []⟩)
theorem ib {f:Nat->Ob}:∀ {l:List Nat} {i:Nat},i ∈ l->St.look (l.map λi=>(1+i,f i)) (1+i)= some (f i)
 | [],i,h=>by cases h
 | j :: r,i,h=>by
  show St.look ((1+j,f j) :: _) _=_;rw [xX]
  by_cases e:i=j
  ·subst e; rw [if_pos rfl]
  ·rw [if_neg (by omega)];exact ib ((ν.1 h).resolve_left e)
theorem Qt (ess:List (List (List D))):kd (tt ess) 0 (κ 1 ess.length) ess where
 out:=by unfold tt; rw [xX,if_pos rfl]
 len:=by simp
 each:=λi hi=>by
  have e:(κ 1 ess.length).getD i 0=1+i:=by simp [List.getD,hi]
  unfold tt;rw [e,xX,if_neg (by omega)];exact ib (ε.2 hi)
theorem OQ {ess:List (List (List D))} (hp:∀ e ∈ ess,∀ r ∈ e,D.Wi r=true):∀ p ∈ tt ess,∀ e ∈ p.2.xV,D.Wi e=true:=by
 intro p hm e he;unfold tt at hm
 rcases ν.1 hm with rfl | hm
 ·simp only [sP] at he;obtain⟨i,hi,rfl⟩:=Ag he;simp [D.Wi,D.fl]
 ·simp only [γ,ε] at hm;obtain⟨i,hi,rfl⟩:=hm;exact hp _ (xK hi) e he
end Kb
theorem YB {σ σ':St} {ρ:Nat->Nat}:∀ {xs bs:List (List D)},xs.length=bs.length->(∀ i,i<bs.length->(xs.getD i []).length=(bs.getD i []).length/\uR σ σ' ρ (xs.getD i []) (bs.getD i []))->s9 σ σ' ρ xs bs
 | [],[],_,_=>.nil
 | [],_ :: _,h,_=>by cases h
 | _ :: _,[],h,_=>by cases h
 | a :: xs,b :: bs,h,hh=>by have h0:=hh 0 (by simp);refine .cons h0.1 h0.2 (YB (by simpa using h) λi hi=>?_);simpa using hh (i+1) (by simp; omega)
theorem ao {ks:List Nat} (hd:ks.Nodup) {i j:Nat} (hi:i<ks.length) (hj:j<ks.length) (e:ks.getD i 0=ks.getD j 0):i=j:=by
 simp only [List.getD,hi,hj,List.getElem?_eq_getElem,Option.getD_some] at e;have hp:=Ad.1 hd
 rcases Nat.lt_trichotomy i j with h | h | h
 ·exact absurd e (hp i j hi hj h)
 ·exact h
 ·exact absurd e.symm (hp j i hj hi h)
theorem oK.zf {nx n:Nat} {xZ:List (Nat × Ob)} {kO:Nat} {ks:List Nat} {ess:List (List (List D))} (h:kd xZ kO ks ess) (hn:n=ess.length) (hd:ks.Nodup) (hk:kO ∉ ks) (hp:∀ e ∈ ess,∀ r ∈ e,D.xP r=true) :
  oK 0 ⟨nx,xZ⟩ (.yD kO 1 n) ⟨1+ess.length,tt ess⟩ (.yD 0 1 n):=by
 subst hn;have hlen:=h.len;have hr:(κ 1 ess.length).length=ess.length:=by simp
 have key:∀ q ∈ tt ess,q.1=0\/∃ i,i<ess.length/\q.1=1+i:=λq hq=>by
  unfold tt at hq
  rcases ν.1 hq with rfl | hq
  ·exact .inl rfl
  ·simp only [γ,ε] at hq;obtain⟨i,hi,rfl⟩:=hq;exact .inr ⟨i,hi,rfl⟩
 refine .inr ⟨λk=>if k=0 then kO else ks.getD (k-1) 0,Al _,λk hk=>absurd hk (Am _),?_,?_,?_⟩
 ·simp only [vw,↓reduceIte,and_true];omega
 ·intro q hq;unfold tt at hq
  rcases ν.1 hq with rfl | hq
  ·refine⟨by show 0<1+ess.length; omega,_,h.out,rfl,YB (by rw [rB hlen,rB hr]) λi hi=>?_⟩;rw [rB hr] at hi;rw [jV hlen hi,jV hr hi];refine⟨rfl,?_⟩;have e:(κ 1 ess.length).getD i 0=1+i:=by simp [List.getD,hi]
   simp only [uR,vw,e,and_true];rw [if_neg (by omega),show 1+i-1=i by omega];exact⟨by omega,rfl⟩
  ·simp only [γ,ε] at hq;obtain⟨i,hi,rfl⟩:=hq;refine⟨by show 1+i<1+ess.length; omega,⟨1,ess.getD i []⟩,?_,rfl,.same λr hr=>hp _ (xK hi) r hr⟩;show St.look xZ (if 1+i=0 then kO else ks.getD (1+i-1) 0)= _;rw [if_neg (by omega),show 1+i-1=i by omega];exact h.each i hi
 ·intro a ha b hb e;simp only at e
  rcases key a ha with h1 | ⟨i,hi,h1⟩ <;> rcases key b hb with h2 | ⟨j,hj,h2⟩ <;> rw [h1,h2] at e ⊢
  ·rw [if_pos rfl,if_neg (by omega)] at e;exact absurd (e ▸ rV (by omega)) hk
  ·rw [if_pos rfl,if_neg (by omega)] at e;exact absurd (e ▸ rV (by omega)) hk
  ·rw [if_neg (by omega),if_neg (by omega),show 1+i-1=i by omega,show 1+j-1=j by omega] at e;rw [ao hd (by omega) (by omega) e]
end Go.Pd

/- Part XR. -/
namespace Go.Pd
open Go
section
variable [uC]
def Mu (P:Program) (gi:FuncId):Prop:=qX P gi/\∀ (l Bs o b off n cap:Nat) (sa:Option Addr) (va vb:Nat->Value) (J:Nat->World->Prop),n<=maxLen->(0<n->sa=some ⟨b,off,none⟩) ->
 (∀ k W,J k W->W.cell? ⟨Bs,o,none⟩= some (.slice sa n cap)/\ ∀ i,i<n->W.cell? ⟨b,off+i*2,none⟩= some (va i)/\ W.cell? ⟨b,off+i*2+1,none⟩= some (vb i))->(∀ k W,J k W->J k W.drew) ->
 (∀ k W,k<n->J k W->YieldAt Fence.wide 0 P l #[.int .i64 ((n-1-k:Nat):Int),.agg #[va (n-1-k),vb (n-1-k)]] W λe W'=>e = .returned (.bool true)/\ J (k+1) W') ->
 ∀ W,J 0 W->CallsIn Fence.wide 0 P gi #[.func (.yield l) #[] #[],.pointer (some ⟨Bs,o,none⟩)] W λe W'=>(∃ v,e = .returned v)/\ J n W'
variable {C : Cx} {E : Env} {a : Act} {w : World} {f : Fr} {σ : St} {ι : Nat -> Nat}
theorem yN.lay (G:yN C E a w f σ ι) (o:Obj):yN C E a (w.alloc o) f σ ι:=by have hk:=Kept.alloc w o λ_=>False;exact⟨G.size,G.defers.yJ rfl hk.size (λD hD=>hk.mark id hD),G.nx,G.kept.trans hk (λ_ _ h=>h) (λ_ _ h=>h.elim),G.nJ.ext hk,G.tV,G.rD,G.stay,λt=>(G.fr t).yJ (λb hb _=>hk.block b hb id) (λ_ _ h=>h) hk.shape (λ_ _=>rfl) (Ak _)⟩
abbrev p4 (E:Env) (w:World) (σ:St) (ι:Nat->Nat) (o:Obj):Env:=⟨w.alloc o,λb=>E.M0 b\/b=w.heap.size,λb=>Own ι σ b\/b=w.heap.size,ι,E.B⟩
theorem yN.SY (G:yN C E a w f σ ι) (o:Obj):yN { C with n0:=σ.nx } (p4 E w σ ι o) a (w.alloc o) f σ ι:=by
 have hk:=Kept.alloc w o λ_=>False;have hS:=G.nJ.KX o;refine⟨G.size,G.defers.yJ rfl hk.size (λD hD=>hk.mark id hD),Ak _,Kept.refl _ _,hS,hS.tV,λk o hk=>.inr (.inl ⟨k,o,hk,rfl⟩),λ_ _=>rfl,λt=>(G.fr t).yJ (λb hb _=>hk.block b hb id) (λb hb hx=>?_) hk.shape (λ_ _=>rfl) (Ak _)⟩
 rcases hx with (hx | hx) | hx
 ·exact .inl hx
 ·omega
 ·exact .inr hx
theorem yN.end_ {a0:Act} {w0:World} {f0:Fr} {σ0:St} {ι0:Nat->Nat} {q0:Obj} (G0:yN C E a0 w0 f0 σ0 ι0) (G:yN { C with n0:=σ0.nx } (p4 E w0 σ0 ι0 q0) a w f σ ι):yN C E a w f σ ι:=by
 have hsz:E.w0.heap.size<=w0.heap.size:=G0.kept.size
 have hown:∀ b,Own ι0 σ0 b->E.w0.heap.size<=b\/E.K0 b:=by rintro b ⟨k,o,hk,rfl⟩;exact G0.rD k o hk
 have h1:Kept w0 (w0.alloc q0) λ_=>False:=Kept.alloc w0 q0 _;have hs1:(w0.alloc q0).heap.size=w0.heap.size+1:=by show (w0.heap.push q0).size=_; simp
 have hnx:σ0.nx<=σ.nx:=G.nx;have hnx0:=G0.nx
 refine⟨G.size,G.defers,by omega,?_,G.nJ.less λb hb=>.inl hb,G0.tV,λk o hk=>?_,λk hk=>?_,λt=>(G.fr t).yJ (λ_ _ _=>rfl) (λb _ hb=>hb.imp .inl id) (λb cur e h=>⟨cur,h,rfl⟩) (λ_ _=>rfl) (Ak _)⟩
 ·refine G0.kept.trans (h1.trans G.kept (K'':=λb=>Own ι0 σ0 b\/b=w0.heap.size) (λ_ _ h=>h.elim) λ_ _ h=>h) (λ_ _ h=>h) λb hb hx=>?_
  rcases hx with hx | hx
  ·rcases hown b hx with h | h
   ·omega
   ·exact h
  ·omega
 ·rcases G.rD k o hk with h | h | h
  ·have h':(w0.alloc q0).heap.size<=ι k:=h;left; omega
  ·exact hown _ h
  ·left; rw [h]; exact hsz
 ·have:=G.stay k (show k<σ0.nx by omega);exact this.trans (G0.stay k hk)
theorem yN.back {a2:Act} {w2:World} {f2:Fr} {σ2:St} {ι2:Nat->Nat} {q:Obj} {rd:Option Nat} (hq:∀ x,q≠Obj.deferred x) (G1:yN C E a w f σ ι) (G2:yN { C with n0:=σ.nx,rd:=rd } (p4 E w σ ι q) a2 w2 f2 σ2 ι2):yN { C with n0:=σ.nx } (p4 E w σ ι q) a w2 f σ2 ι2:=by
 have G:=G1.SY q;have hl:(w.alloc q).heap[w.heap.size]?=some q:=World.alloc_heap_new w q
 refine⟨G.size,G.defers.yJ rfl G2.kept.size (λD hD=>G2.kept.mark (λh=>?_) hD),G2.nx,G2.kept,G2.nJ,G2.tV,G2.rD,G2.stay,λt=>?_⟩
 ·rcases h with h | h
  ·exact G.nJ.aZ hD h
  ·rw [h,hl] at hD;exact hq _ (Option.some.inj hD)
 ·refine(G.fr t).yJ (λb hb hM=>G2.kept.block b hb λh=>hM (h.elim (λh=>.inr h) λh=>.inl (.inr h))) (λb hb hM=>?_) G2.kept.shape (λk hk=>G2.stay k hk) G2.nx
  rcases hM with hM | ⟨k,o,hk,rfl⟩
  ·exact .inl hM
  ·rcases G2.rD k o hk with h | h | h
   ·have:(w.alloc q).heap.size<=ι2 k:=h;omega
   ·exact .inr h
   ·exact .inl (.inr h)
theorem yN.Ki {rd:Option Nat} (G:yN C E a w f σ ι):yN { C with rd:=rd } E a w f σ ι:=⟨G.size,G.defers,G.nx,G.kept,G.nJ,G.tV,G.rD,G.stay,G.fr⟩
theorem yN.Jn (G:yN C E a w f σ ι):yN C E a w.drew f σ ι:=by have hk:Kept w w.drew λ_=>False:=(Kept.refl _ _).drew;exact⟨G.size,G.defers.yJ rfl (Ak _) λD hD=>hD,G.nx,G.kept.drew,G.nJ.ext hk,G.tV,G.rD,G.stay,G.fr.yJ (λb hb _=>rfl) (λ_ _ h=>h) hk.shape (λ_ _=>rfl) (Ak _)⟩
theorem yN.bare (G:yN C E a w f σ ι):yN C E { tmps:=a.tmps,defers:=[] } w f σ ι:=⟨G.size,.none rfl G.defers.1,G.nx,G.kept,G.nJ,G.tV,G.rD,G.stay,G.fr⟩
theorem yN.TF {b0:Nat} {w':World} (G:yN C E a w f σ ι) (hk:Kept w w' λb=>b=b0) (hM:E.M0 b0) (hK:E.K0 b0) (hd:∀ x,w.heap[b0]?≠some (Obj.deferred x)):yN C E a w' f σ ι:=G.tick hk hM hK hd
theorem wY.W6 {M0:Nat->Prop} (hS:wY M0 w σ ι) {D:Nat} {x:Loop} (h:w.heap[D]?=some (Obj.loop x)):¬ Own ι σ D:=by
 rintro ⟨k,o,hk,rfl⟩
 rcases(hS.holds k o hk).2 with ⟨_,cur,e,h1,_⟩ | ⟨_,es,h1,_⟩
 ·rw [h] at h1; cases h1
 ·rw [h] at h1; cases h1
theorem Qb {P:Program} {N:Nat} {own:List Nat} {code:Code} {g:uF} {ps:List Nat} {x y:DC} (h:tE P N own code=some (.vo g ps x y)):∃ g0 ps0 a c,code = .rangeFunc g0 ps0 a c/\yY N g0=some g/\ps0.toList=ps/\tE P N own a=some x/\tE P N own c=some y:=by
 cases code with
 | region id ops draw=>rcases uH h with ⟨_,_,e⟩ | ⟨_,⟨_,_,_,_,e⟩ | ⟨_,_,_,_,e⟩ | ⟨_,_,_,_,e⟩⟩ | ⟨_,_,⟨_,_,_,e⟩,_⟩ <;> cases e
 | rangeFunc g0 ps0 a c=> simp only [tE,zO,DC.vo.injEq] at h;obtain⟨g',hg,dx,hx,dy,hy,rfl,rfl,rfl,rfl⟩:=h;exact⟨g0,ps0,a,c,rfl,hg,rfl,hx,hy⟩
 | seq a b=> simp only [tE,zO] at h;obtain⟨dx,hx,dy,hy,h⟩:=h;rcases vQ dx dy with e | ⟨_,_,_,_,_,_,_,_,_,_,_,_,e,_⟩ <;> rw [e] at h <;> cases h
 | _=>simp [tE,Option.bind_eq_some_iff] at h
theorem SB (hrd:C.rd=none) {g:uF} {p0 p1:Nat} {dx dy:DC} {Q:Exit->Fr->St->Prop} {gi:FuncId} {xV:List (List D)} {els0:D} (hB:Mu C.P gi) (hg:qE f g = .fn gi [.ptr [els0]]) (he:els0 = .sl 2 xV\/(els0 = .xJ/\xV = [])) (hp:p0<C.N/\p1<C.N)
  (J:Nat->St->Prop) (h0:J 0 σ)
  (round:∀ l k σk,k<xV.length->J k σk->wpS { C with n0:=σ.nx,rd:=some l } dx ((f.put (some p0) (.int .i64 ((xV.length-1-k:Nat):Int))).put (some p1) (.agg (xV.getD (xV.length-1-k) []))) σk
   (oJ (λf1 σ1=>wpS { C with n0:=σ.nx,rd:=some l } dy f1 σ1 λe f2 σ2=>e = .normal/\∃ f3 σ3,xT { C with n0:=σ.nx,rd:=some l } f2 σ2 f3 σ3/\J (k+1) σ3) λ_ _ _=>False))
  (done:∀ σ',J xV.length σ'->Q .normal f σ'):wpS C (.vo g [p0,p1] dx dy) f σ Q:=by
 intro code hc E a w ⟨ι,G⟩;obtain⟨g0,ps0,x,y,rfl,hg0,hps,hx,hy⟩:=Qb hc;obtain rfl:ps0 = #[p0,p1]:=by rw [<- hps]
 obtain⟨vs,hv,hv1,hv2⟩:=(hg ▸ nE G.fr hg0).cJ;have hv1':vs.size=1:=hv1;have hvp:=hv2 0 (by show 0<1; omega);obtain⟨Bs,o,vs0,hvB,_,hMB,hcB,hrB⟩:=R.pN (cs:=[els0]) hvp
 have hlb:vs = #[.pointer (some ⟨Bs,o,none⟩)]:=by
  refine Array.ext (by rw [hv1']; rfl) λi h1 h2=>?_;have hi0:i=0:=by rw [hv1'] at h1; omega
  subst hi0;have:vs.getD 0 undef=vs[0]:=by simp [Array.getD,h1]
  rw [this] at hvB;rw [hvB]; rfl
 have hcB0:=hcB 0 (by show 0<1; omega);have hrB0:=hrB 0 (by show 0<1; omega);generalize vs0 0=sv at hcB0 hrB0
 obtain⟨sa,b,off,cap,va,vb,hsv,hnm,hsa,hcel⟩:∃ (sa:Option Addr) (b off cap:Nat) (va vb:Nat->Value),sv = .slice sa xV.length cap/\xV.length<=maxLen/\(0<xV.length->sa=some ⟨b,off,none⟩/\ ¬ yH E.M0 ι σ b)/\
   ∀ i,i<xV.length->w.cell? ⟨b,off+i*2,none⟩= some (va i)/\ w.cell? ⟨b,off+i*2+1,none⟩= some (vb i)/\ (xV.getD i []).length=2/\RP (yH E.M0 ι σ) w (va i) ((xV.getD i []).getD 0 .top)/\ RP (yH E.M0 ι σ) w (vb i) ((xV.getD i []).getD 1 .top):=by
  rcases he with rfl | ⟨rfl,rfl⟩
  ·rcases(R.pure (ι:=ι) (n:=σ.nx) hrB0).cM with ⟨ad,cap,e1,rfl,hcap⟩ | ⟨b,off,cap,vs,e1,g1,g2,g3,g4,g5,g6,g7⟩
   ·exact⟨ad,0,0,cap,λ_=>undef,λ_=>undef,e1,by simp,λh=>absurd h (by simp),λi hi=>absurd hi (by simp)⟩
   ·refine⟨_,b,off,cap,λi=>vs i 0,λi=>vs i 1,e1,by omega,λ_=>⟨rfl,g2⟩,λi hi=>?_⟩;have hm:xV.getD i [] ∈ xV:=by simp [List.getD,hi]
    have q0:=g6 i hi 0 (by omega);rw [Ao] at q0;exact⟨q0,g6 i hi 1 (by omega),g5 _ hm,g7 i hi 0 (by omega),g7 i hi 1 (by omega)⟩
  ·have:=(R.pure (ι:=ι) (n:=σ.nx) hrB0).tX;exact⟨none,0,0,0,λ_=>undef,λ_=>undef,this,by simp,λh=>absurd h (by simp),λi hi=>absurd hi (by simp)⟩
 subst hsv;have hF:C.F=Fence.wide:=by unfold Cx.F; rw [hrd]; rfl
 rw [hF];obtain⟨w',hw'⟩:∃ w',w'=w.alloc (.deferred (some [])):=⟨_,rfl⟩;have G':yN C E a w' f σ ι:=by rw [hw']; exact G.lay _
 have hws:w'.heap.size=w.heap.size+1:=by rw [hw']; show (w.heap.push _).size=_; simp
 have hkw:Kept w w' λ_=>False:=by rw [hw']; exact Kept.alloc w _ _
 have hD':w'.heap[w.heap.size]?=some (Obj.deferred (some [])):=by rw [hw']; exact World.alloc_heap_new w _
 refine wpIn_rangeFunc λfn _=>?_;obtain⟨rec,hrec⟩:∃ rec:LoopState->Option Code->Loop,rec=λst pe=>{ state:=st,pending:=pe,fn,tmps:=a.tmps,params:=#[p0,p1],assign:=x,body:=y,defers:=w.heap.size }:=⟨_,rfl⟩;obtain⟨W1,hW1⟩:∃ W1,W1=w'.alloc (.loop (rec .ready none)):=⟨_,rfl⟩;have hk1:Kept w' W1 λ_=>False:=by rw [hW1]; exact Kept.alloc w' _ _
 have hl1:W1.heap[w.heap.size+1]?=some (Obj.loop (rec .ready none)):=by rw [hW1,<- hws]; exact World.alloc_heap_new w' _
 have hD1:W1.heap[w.heap.size]?=some (Obj.deferred (some [])):=hk1.mark id hD';have hs1:W1.heap.size=w.heap.size+2:=by rw [hW1]; show (w'.heap.push _).size=_; simp; omega
 refine⟨w.heap.size+1,[{ target:=.collected w.heap.size,args:=#[] }],W1,{ target:=.fn (.func gi) vs,args:=#[.func (.yield (w.heap.size+1)) #[] #[]] },W1,gi,#[.func (.yield (w.heap.size+1)) #[] #[]]++vs,W1,?_,?_,λ_ _=>trivial,?_,λh=>absurd (show false=true from h) (by decide),?_⟩
 ·have:=run_enterLoop_outer (P:=C.P) (w:=w) fn a.tmps #[p0,p1] x y;rw [hW1,hw',hrec];exact this
 ·simp only [resolve,hv];simp [go_sem]
 ·have:=nM hB.1 (#[.func (.yield (w.heap.size+1)) #[] #[]]++vs) W1;simpa [invoke,go_sem] using this
 rw [hlb]
 have hblk:∀ {W:World} {σk:St} {ιk:Nat->Nat},yN { C with n0:=σ.nx } (p4 E w' σ ι (.loop (rec .ready none))) a W f σk ιk->∀ b',b'<w.heap.size->¬ yH E.M0 ι σ b'->W.heap[b']?=w.heap[b']?:=λ{W σk ιk} Gk b' hb hM=>by
  have e1:=Gk.kept.block b' (by show b'<(w'.alloc _).heap.size; rw [<- hW1]; omega) λh=>h.elim (λh=>hM (.inr h)) λh=>by omega
  have e2:(w'.alloc (.loop (rec .ready none))).heap[b']?=w'.heap[b']?:=by rw [<- hW1]; exact hk1.block b' (by omega) id
  exact e1.trans (e2.trans (hkw.block b' hb id))
 refine(hB.2 (w.heap.size+1) Bs o b off xV.length cap sa va vb (λk W=>∃ σk ιk,J k σk/\yN { C with n0:=σ.nx } (p4 E w' σ ι (.loop (rec .ready none))) a W f σk ιk/\W.heap[w.heap.size+1]?=some (Obj.loop (rec .ready none))/\ W.heap[w.heap.size]?=some (Obj.deferred (some []))) hnm (λh=>(hsa h).1) ?_ ?_ ?_ W1 ⟨σ,ι,h0,by rw [hW1]; exact G'.SY _,hl1,hD1⟩).mono ?_
 ·rintro k W ⟨σk,ιk,_,Gk,_,_⟩;have hB1:=hblk Gk Bs (uk hcB0) hMB;refine⟨by rw [World.cell?_of_block (w:=w) hB1]; rw [Ao] at hcB0; exact hcB0,λi hi=>?_⟩;obtain⟨q1,q2,_⟩:=hcel i hi;have hb1:=hblk Gk b (uk q1) (hsa (by omega)).2;exact⟨by rw [World.cell?_of_block (w:=w) hb1]; exact q1,by rw [World.cell?_of_block (w:=w) hb1]; exact q2⟩
 ·rintro k W ⟨σk,ιk,hJ,Gk,hl,hD⟩;exact⟨σk,ιk,hJ,Gk.Jn,hl,hD⟩
 ·rintro k W hk ⟨σk,ιk,hJ,Gk,hl,hD⟩;obtain⟨_,_,q3,q4,q5⟩:=hcel (xV.length-1-k) (by omega);have hy0:=run_yield (P:=C.P) (args:=#[.int .i64 ((xV.length-1-k:Nat):Int),.agg #[va (xV.length-1-k),vb (xV.length-1-k)]]) hl (by rw [hrec]; rfl);rw [hrec] at hy0;refine⟨fn,_,x,y,hy0,roundIn_of_wpIn trivial ?_⟩
  have hMk:∀ b',b'<w.heap.size->yH (p4 E w' σ ι (.loop (rec .ready none))).M0 ιk σk b'->yH E.M0 ι σ b':=λb' hb' hM=>by
   rcases hM with (hM | hM) | ⟨k',o',hk',rfl⟩
   ·exact .inl hM
   ·have:b'=w'.heap.size:=hM;omega
   ·rcases Gk.rD k' o' hk' with h | h | h
    ·have:W1.heap.size<=ιk k':=by rw [hW1]; exact h
     omega
    ·exact .inr h
    ·have:ιk k'=w'.heap.size:=h;omega
  have hRk:∀ {v:Value} {d:D},RP (yH E.M0 ι σ) w v d->RP (yH (p4 E w' σ ι (.loop (rec .ready none))).M0 ιk σk) W v d:=λh=>h.yJ (hblk Gk) hMk;have hmin:IntKind.i64.min = -9223372036854775808:=rfl;have hmax:IntKind.i64.max=9223372036854775807:=rfl;have hml:xV.length<=9223372036854775807:=by simp only [maxLen] at hnm; omega
  have G1:=((Gk.open_.Ki (rd:=some (w.heap.size+1))).bare.set (dst:=some p0) (v:=.int .i64 ((xV.length-1-k:Nat):Int)) (d:=.int .i64 ((xV.length-1-k:Nat):Int)) (.pure (.int (by omega))) (λt ht=>by cases ht; exact hp.1)).set (dst:=some p1)
   (v:=.agg #[va (xV.length-1-k),vb (xV.length-1-k)]) (d:=.agg (xV.getD (xV.length-1-k) [])) (.pure (.agg (by rw [q3]; rfl) λj hj=>by
    rw [q3] at hj;have:j=0\/j=1:=by omega
    rcases this with rfl | rfl
    ·exact hRk q4
    ·exact hRk q5)) (λt ht=>by cases ht; exact hp.2)
  have hr:=round (w.heap.size+1) k σk hk hJ x hx _ _ _ ⟨ιk,G1⟩
  have hact:({ tmps:=(#[p0,p1].zip #[Value.int .i64 ((xV.length-1-k:Nat):Int),Value.agg #[va (xV.length-1-k),vb (xV.length-1-k)]]).foldl (λtmps (t,a)=>tmps.setIfInBounds t a) a.tmps,defers:=[] }:Act)=
    (({ tmps:=a.tmps,defers:=[] }:Act).put (some p0) (.int .i64 ((xV.length-1-k:Nat):Int))).put (some p1) (.agg #[va (xV.length-1-k),vb (xV.length-1-k)]):=by simp [Act.put]
  rw [<- hact] at hr;refine wpIn_mono hr λe a1 w1 hq=>?_;obtain⟨f1,σ1,⟨ι1,G1'⟩,hq⟩:=hq
  cases e with
  | normal=>
   have hl1':=G1'.kept.mark (Gk.nJ.W6 hl) hl;have hD1':=G1'.kept.mark (Gk.nJ.aZ hD) hD;have Gc:=(Gk.Ki (rd:=some (w.heap.size+1))).close_ G1';have hlt1:=(Av.1 hl1').1;obtain⟨r6,hr6⟩:∃ r6,r6 = { rec .ready none with state:=.busy }:=⟨_,rfl⟩;have hbr:=run_beginRound (P:=C.P) hl1' (by rw [hrec]);rw [<- hr6] at hbr;have G2:=Gc.TF (w':=w1.putObj (w.heap.size+1) (.loop r6)) (lH hl1' λ_ _ e=>by cases e) (.inr hws.symm) (.inr hws.symm) λx e=>by rw [hl1'] at e; cases e
   have hl2:(w1.putObj (w.heap.size+1) (.loop r6)).heap[w.heap.size+1]?=some (Obj.loop r6):=World.putObj_heap_same hlt1;have hD2:(w1.putObj (w.heap.size+1) (.loop r6)).heap[w.heap.size]?=some (Obj.deferred (some [])):=(World.putObj_heap_other (by omega)).trans hD1';refine⟨_,hbr,?_⟩;have hr2:=hq y hy _ _ _ ⟨ι1,G2.open_⟩;refine wpIn_mono hr2 λe a2 w2 hq2=>?_;obtain⟨f2,σ2,⟨ι2,G3⟩,rfl,f3,σ3,hwk,hJ3⟩:=hq2;have hl3:=G3.kept.mark (G2.nJ.W6 hl2) hl2;have hD3:=G3.kept.mark (G2.nJ.aZ hD2) hD2;obtain⟨ι3,G5⟩:=hwk _ a2 w2 ⟨ι2,G2.close_ G3⟩;have hend:=run_endRound (P:=C.P) none hl3;have hr7:({ r6 with state:=if (none:Option Code).isNone then .ready else .done,pending:=none }:Loop)= rec .ready none:=by rw [hr6,hrec]; rfl
   rw [hr7] at hend;have hlt2:=(Av.1 hl3).1;have G6:=G5.TF (w':=w2.putObj (w.heap.size+1) (.loop (rec .ready none))) (lH hl3 λ_ _ e=>by cases e) (.inr hws.symm) (.inr hws.symm) λx e=>by rw [hl3] at e; cases e
   exact⟨_,_,hend,rfl,σ3,ι3,hJ3,G'.back (rd:=some (w.heap.size+1)) (λ_ e=>by cases e) G6,World.putObj_heap_same hlt2,(World.putObj_heap_other (by omega)).trans hD3⟩
  | exit id=>exact hq.elim
  | goto t=>exact hq.elim
  | ret=>exact hq.elim
  | panic ch=>exact hq.elim
  | outgrown=>exact hq.elim
 ·rintro e W' ⟨⟨v,rfl⟩,σ',ι',hJ',Ge,hl,hD⟩
  obtain⟨r5,hend⟩:∃ r5,(Instr.endLoop (w.heap.size+1)).run C.P W' = .ok none (W'.putObj (w.heap.size+1) (.loop r5)):=by
   have hend:=run_endLoop (P:=C.P) hl (by rw [hrec]; simp);have hpe:(rec .ready none).pending=none:=by rw [hrec]
   rw [hpe] at hend;exact⟨_,hend⟩
  refine⟨none,_,hend,f,σ',⟨ι',?_⟩,done σ' hJ'⟩;have hlt:w.heap.size+1<W'.heap.size:=(Av.1 hl).1;have G3:=Ge.TF (w':=W'.putObj (w.heap.size+1) (.loop r5)) (lH hl λ_ _ e=>by cases e) (.inr hws.symm) (.inr hws.symm) λx e=>by rw [hl] at e; cases e
  have G4:=G'.end_ G3;have hD4:(W'.putObj (w.heap.size+1) (.loop r5)).heap[w.heap.size]?=some (Obj.deferred (some [])):=(World.putObj_heap_other (by omega)).trans hD;obtain⟨hB0,l0,hd1,hd2,hd3⟩:=G4.defers;obtain⟨_,l1,he1,_,he3⟩:=G.defers
  refine⟨G4.size,⟨hB0,w.heap.size :: l0,?_,?_,?_⟩,G4.nx,G4.kept,G4.nJ,G4.tV,G4.rD,G4.stay,G4.fr⟩
  ·show [_]++a.defers=_;rw [hd1]; rfl
  ·refine List.nodup_cons.2 ⟨λhm=>?_,hd2⟩;have hmem:({ target:=.collected w.heap.size,args:=#[] }:Deferred)∈ a.defers:=by rw [hd1]; exact γ.2 ⟨_,hm,rfl⟩
   rw [he1] at hmem;obtain⟨D,hDl,hDe⟩:=γ.1 hmem
   have hDw:D=w.heap.size:=by have:=congrArg Deferred.target hDe;simpa using this
   have:=(Av.1 (he3 D hDl).1).1;omega
  ·intro D hD2
   rcases ν.1 hD2 with rfl | hD2
   ·exact⟨hD4,G.defers.1⟩
   ·exact hd3 D hD2
end
end Go.Pd

/- Part B1. -/
set_option maxRecDepth 100000
namespace Go.Pd
open Go Go.Proofs Go.RowKit
theorem NQ (l Bs o b off n cap:Nat) (sa:Option Addr) (va vb:Nat->Value) (J:Nat->World->Prop) (hn:n<=maxLen) (hsa:0<n->sa=some ⟨b,off,none⟩)
  (hRd:∀ k W,J k W->W.cell? ⟨Bs,o,none⟩= some (.slice sa n cap)/\ ∀ i,i<n->W.cell? ⟨b,off+i*2,none⟩= some (va i)/\ W.cell? ⟨b,off+i*2+1,none⟩= some (vb i)) (hdr:∀ k W,J k W->J k W.drew)
  (hY:∀ k W,k<n->J k W->YieldAt Fence.wide 0 prog l #[.int .i64 ((n-1-k:Nat):Int),.agg #[va (n-1-k),vb (n-1-k)]] W λe W'=>e = .returned (.bool true)/\ J (k+1) W') (W:World) (h0:J 0 W) :
  CallsIn Fence.wide 0 prog 191 #[.func (.yield l) #[] #[],.pointer (some ⟨Bs,o,none⟩)] W λe W'=>(∃ v,e = .returned v)/\ J n W':=by
 have hro:Fence.wide.round=none:=rfl;have hc0:=(hRd 0 W h0).1;refine callsIn_of_wp func191 rfl trivial ?_ hro;simp only [Tryz.ntmps191,List.size_toArray,List.length_cons,List.length_nil,Nat.reduceAdd,Nat.reduceSub,Array.replicate_succ,Array.replicate_zero,List.push_toArray,List.append_toArray,List.nil_append,List.cons_append]
 gi_wp2
 have hw1:wrap64 ((n:Int)-1)= (n:Int)-1:=by simp only [maxLen] at hn;unfold wrap64;omega
 rw [hw1]
 gi_loopw [3] (λi wr=>∃ k:Nat,k<=n/\i = .int .i64 ((n:Int)-1-k)/\ J k wr) (λi _=>(RowKit.intOf i+1).toNat)
 case atStart=>exact⟨0,Al _,by simp,h0⟩
 case round=>
  obtain⟨k,hk,rfl,hJ⟩:=hrel;have hcb:=(hRd k wr hJ).1
  by_cases hlt:k<n
  ·obtain rfl:=hsa (by omega);obtain⟨q1,q2⟩:=(hRd k wr hJ).2 (n-1-k) (by omega);obtain⟨fn,tmps,assign,body,hy,hR⟩:=hY k wr hlt hJ;have hi:(n:Int)-1-k=((n-1-k:Nat):Int):=by omega
   have hi2:((n-1-k:Nat):Int)<(n:Int):=by omega
   rw [hi];generalize hm:n-1-k=m at *
   have hwm:wrap64 ((m:Int)-1)= (m:Int)-1:=by simp only [maxLen] at hn;unfold wrap64;omega
   gi_wp2
   refine⟨rfl,hR.mono ?_⟩;rintro e W3 ⟨rfl,hJ3⟩
   gi_wp2
   go_roundw
   case rel=>exact⟨k+1,by omega,by rw [hwm]; congr 1; omega,hJ3⟩
   case measure=>simp [RowKit.intOf,hwm]
  ·obtain rfl:k=n:=by omega
   have hi:(k:Int)-1-k = -1:=by omega
   rw [hi]
   gi_wp2
   go_end0
   exact⟨⟨_,rfl⟩,hJ⟩
theorem Ji : Mu prog 191:=⟨⟨f191,func191,by decide,rfl⟩,λl Bs o b off n cap sa va vb J hn hsa hRd hdr hY W h0=>NQ l Bs o b off n cap sa va vb J hn hsa hRd hdr hY W h0⟩
end Go.Pd

/- Part KW. -/
namespace Go.Pd
open Go Go.Proofs
open BitVec renaming isValue -> ZA
open Rs Fm Ru Te Kb
theorem YX (l:List eC):yW prog 132 [.sl 2 (r8 l)] (.fn 191 [.ptr [.sl 2 (r8 l)]]):=by
 refine xY.xQ mixed func132 I5 (by simp) λhf=>?_;simp only [simprocAttr,-ZA,↓zU,↓zD,zV,zT,zW]
 (repeat refine sd ?_)
 exact .drop (by simp) (by simp [vw,uR,D.xP,D.xD]; exact⟨_,rfl,rfl,rfl⟩)
namespace Kb
def cQ (R:Nat) (g h:Nat->Int) (i:Nat):List Int:=(List.range R).map λw=>if w<i then g w else h w
theorem QW (R:Nat) (g h:Nat->Int) (i:Nat):(cQ R g h i).length=R:=by simp [cQ]
theorem UP (R:Nat) (g h:Nat->Int):cQ R g h 0=(List.range R).map h:=by simp [cQ]
theorem QV (R:Nat) (g h:Nat->Int) {i:Nat} (hi:R<=i):cQ R g h i=(List.range R).map g:=by refine π λf hf=>?_;rw [if_pos (by have:=ε.1 hf; omega)]
theorem QZ (R:Nat) (g h:Nat->Int) (i:Nat):(cQ R g h i).set i (g i)= cQ R g h (i+1):=by
 refine θ (by simp [cQ]) λk h1 h2=>?_;rw [μ];simp only [cQ,Ac,Aa]
 by_cases e:i=k
 ·subst e; rw [if_pos rfl,if_pos (by omega)]
 ·rw [if_neg e]
  by_cases hk:k<i
  ·rw [if_pos hk,if_pos (by omega)]
  ·rw [if_neg hk,if_neg (by omega)]
theorem UO (R:Nat) {g h:Nat->Int} {i:Nat} (e:g i=h i):cQ R g h (i+1)= cQ R g h i:=by
 refine π λw _=>?_
 by_cases hw:w=i
 ·subst hw; rw [if_pos (by omega),if_neg (by omega)]; exact e
 ·by_cases h1:w<i
  ·rw [if_pos (by omega),if_pos h1]
  ·rw [if_neg (by omega),if_neg h1]
def Mg (R:Nat) (V:List (BitVec 64)) (RR:List (List (BitVec 64))):Ob:=⟨3,[[.int .i64 (R:Int),.sl 1 (us V),.sl 1 (rr RR)]]⟩
def VZ (p:yF) (sts:List (List (BitVec 64))) (t a j:Nat):List Int:=(List.range sts.length).map λw=>uN p.xN sts t a w ((p.code.getD a []).drop j)
def ml (p:yF) (sts:List (List (BitVec 64))) (t a:Nat):List (List (List D)):=(List.range a).map λb=>rows .i64 (VZ p sts t b 0)
theorem aW (p:yF) (sts:List (List (BitVec 64))) (t a:Nat):(ml p sts t a).length=a:=by simp [ml]
theorem Xo (p:yF) (sts:List (List (BitVec 64))) (t a:Nat):ml p sts t (a+1)= ml p sts t a ++ [rows .i64 (VZ p sts t a 0)]:=by unfold ml; rw [List.range_succ,χ]; rfl
theorem OG (p:yF) (sts:List (List (BitVec 64))) (t:Nat):ml p sts t p.xN.length=(rC p sts t).map (rows .i64):=by simp only [ml,rC,Ae];rfl
structure QP where
 a:Nat
 nx:Nat
 kO:Nat
 ks:List Nat
 xZ:List (Nat × Ob)
structure IP (p : yF) (sts : List (List (BitVec 64))) (t : Nat) (mO : Ob) (x : QP) : Prop where
 ha:x.a<=p.xN.length
 n0:1<=x.nx
 h0:St.look x.xZ 0=some mO
 kO:0<x.kO/\x.kO<x.nx\/x.a=0
 kl:x.ks.length=x.a
 ks:∀ k ∈ x.ks,0<k/\k<x.nx
 nd:x.ks.Nodup
 no:x.a≠0->x.kO ∉ x.ks
 zf:x.a≠0->kd x.xZ x.kO x.ks (ml p sts t x.a)
def cR (kO a:Nat):D:=if a=0 then .xJ else .yD kO 1 a
theorem IP.step {p:yF} {sts:List (List (BitVec 64))} {t:Nat} {mO:Ob} {x:QP} (h:IP p sts t mO x) (hal:x.a<p.xN.length) {m:Nat} {ob:List (Nat × Ob)} (hm:x.nx+3<=m) (hout:St.look ob (m+1)= some ⟨1,sP (x.ks ++ [x.nx+1]) (ml p sts t (x.a+1))⟩)
  (hnew:St.look ob (x.nx+1)= some ⟨1,rows .i64 (VZ p sts t x.a 0)⟩) (hold:∀ k,k<x.nx->(x.a=0\/k≠x.kO)->St.look ob k=St.look x.xZ k):IP p sts t mO ⟨x.a+1,m+1+1,m+1,x.ks ++ [x.nx+1],ob⟩ where
 ha:=by show x.a+1<=_; omega
 n0:=by show 1<=m+1+1; omega
 h0:=by have:=h.n0;show St.look ob 0=_;rw [hold 0 (by omega) (by have:=h.kO; omega)];exact h.h0
 kO:=.inl ⟨by show 0<m+1; omega,by show m+1<m+1+1; omega⟩
 kl:=by simp [h.kl]
 ks:=λk hk=>by
  rcases ξ.1 hk with hk | hk
  ·have:=h.ks k hk;exact⟨this.1,by show k<m+1+1; omega⟩
  ·rw [ζ.1 hk]; exact⟨by omega,by show x.nx+1<m+1+1; omega⟩
 nd:=by refine Ah.2 ⟨h.nd,by simp,λk hk j hj e=>?_⟩;have:=h.ks k hk;rw [ζ.1 hj] at e;omega
 no:=λ_ hk=>by
  have hk:m+1 ∈ x.ks ++ [x.nx+1]:=hk
  rcases ξ.1 hk with hk | hk
  ·have:=h.ks _ hk; omega
  ·have:=ζ.1 hk; omega
 zf :=λ_=>{
  out:=hout
  len:=by rw [aW]; simp [h.kl]
  each:=λi hi=>by
   rw [aW] at hi;have hi:i<x.a+1:=hi;show St.look ob ((x.ks ++ [x.nx+1]).getD i 0)= some ⟨1,(ml p sts t (x.a+1)).getD i []⟩;rw [Xo]
   by_cases e:i=x.a
   ·subst e;have e1:(x.ks ++ [x.nx+1]).getD x.a 0=x.nx+1:=by simp [List.getD,<- h.kl]
    have e2:(ml p sts t x.a ++ [rows .i64 (VZ p sts t x.a 0)]).getD x.a []=rows .i64 (VZ p sts t x.a 0):=by have:=aW p sts t x.a;simp [List.getD,List.getElem?_append,this]
    rw [e1,e2]; exact hnew
   ·have hia:i<x.ks.length:=by rw [h.kl]; omega
    have hia2:i<(ml p sts t x.a).length:=by rw [aW]; omega
    have e1:(x.ks ++ [x.nx+1]).getD i 0=x.ks.getD i 0:=by simp [List.getD,τ hia]
    have e2:(ml p sts t x.a ++ [rows .i64 (VZ p sts t x.a 0)]).getD i []=(ml p sts t x.a).getD i []:=by simp [List.getD,τ hia2]
    rw [e1,e2];have hmem:=rV hia;have hlt:=h.ks _ hmem;have ha0:x.a≠0:=by omega
    rw [hold _ hlt.2 (.inr λe=>h.no ha0 (e ▸ hmem))];exact(h.zf ha0).each i hia2 }
end Kb
theorem Zc {n:Nat} (hn:1<=n/\n<=64) (σ:St):xY prog 131 [.sl 1 [[.int .i64 (-1)]],.int .i64 (n:Int)] σ (.yD σ.nx 1 n) ⟨σ.nx+1,(σ.nx,⟨1,rows .i64 (List.replicate n (-1))⟩) :: σ.xZ⟩:=by have h:=Ui (d:=.int .i64 (-1)) rfl rfl hn;rw [OK] at h;exact xY.Jx h rfl (qL _ _)
theorem v7 {p:yF} {F:Nat} (hv:zd p F) {sts:List (List (BitVec 64))} {t:Nat} (ok:N8 p F sts t) :
  xY prog 76 [vr p sts,.int .i64 t] gR (.yD 0 1 p.xN.length) ⟨1+p.xN.length,tt ((rC p sts t).map (rows .i64))⟩:=by
 have hm:=Qd ok.ok;have hH:=λf hE=>Nv ok (f:=f) hE;have hK:=λa w (ha:a<p.xN.length) (hw:w<sts.length) f=>Ra ok ha hw f;have hR:=ok.hR;have hA:=ok.hA;have hll:(uO sts.length 0).length=sts.length:=ji _ _;have hRl:(qC (wD p.xN sts t) (uO sts.length 0) p.xN.length).length=p.xN.length:=by simp [qC]
 have hRg:∀ a,a<p.xN.length->(qC (wD p.xN sts t) (uO sts.length 0) p.xN.length).getD a []=pH (wD p.xN sts t) (uO sts.length 0) a:=λa ha=>by simp [qC,List.getD,ha]
 have hrl:∀ a,(pH (wD p.xN sts t) (uO sts.length 0) a).length=sts.length:=λa=>by simp [pH,hll]
 have hrg:∀ a w,w<sts.length->(pH (wD p.xN sts t) (uO sts.length 0) a).getD w 0=Ru.jF (wD p.xN sts t) (uO sts.length 0) a (yO (wD p.xN sts t) a (w,0)) sts.length:=λa w hw=>by simp [pH,uO,List.getD,hw]
 unfold Wg VO at hm hH;rw [hll] at hm hH;generalize jI (wD p.xN sts t) (uO sts.length 0) F=V at *;generalize qC (wD p.xN sts t) (uO sts.length 0) p.xN.length=RR at *;unfold vr Pb at *;refine xY.xQ mixed func76 FH (by simp) λhf=>?_;simp only [simprocAttr,-ZA,↓zU,↓zD,zV,zT,zW];refine .go (cr hm) ?_;simp only [simprocAttr,-ZA,↓zU,↓zD,zV,zT,zW,zN,hv.hC]
 (repeat refine sd ?_)
 refine xO (λx:QP=>[(24,.int .i64 x.a),(23,.int .i64 p.xN.length),(22,.sl 1 (qZ p.code)),(6,cR x.kO x.a),(5,.ref 0 3 0 0)]) (λx=>⟨x.nx,x.xZ⟩)
  (IP p sts t (Mg sts.length V RR)) (λx=>p.xN.length-x.a) ⟨0,1,0,[],[(0,Mg sts.length V RR)]⟩ ⟨Al _,Ak _,rfl,.inr rfl,rfl,by simp,.nil,λh=>absurd rfl h,λh=>absurd rfl h⟩ ?_ ?_
 ·unfold Mg cR
  (refine xT.same ?_; simp [xR,Fr.get])
 rintro ⟨a,nx,kO,ks,xZ⟩ hI;obtain⟨ha,n0,h0,hkO,hkl,hks,hnd,hno,hnst⟩:=hI;simp only at ha n0 h0 hkO hkl hks hnd hno hnst;refine xL mixed ?_;by_cases hal:a<p.xN.length
 case neg=>
  have hd:¬ ((a:Int)<(p.xN.length:Int)):=by omega
  obtain rfl:a=p.xN.length:=by omega
  have ha0:p.xN.length≠0:=by omega
  unfold cR;rw [if_neg ha0];simp only [simprocAttr,-ZA,↓zU,↓zD,zV,zT,zW,hd];have hn:=hnst ha0;rw [OG] at hn;have hl2:((rC p sts t).map (rows .i64)).length=p.xN.length:=by simp [rC]
  have hr:=oK.zf (nx:=nx) hn hl2.symm hnd (hno ha0) λe he r hr=>by simp only [γ] at he;obtain⟨m,_,rfl⟩:=he;exact qL _ _ r hr
  rw [hl2] at hr;exact hr
 have hd:((a:Int)<(p.xN.length:Int)):=by omega
 have hac:a<p.code.length:=by rw [hv.hC]; exact hal
 have hdc:((a:Int)<(p.code.length:Int)):=by omega
 have hg:=lN p.code hac;have hmem:=xK (d:=[]) hac;have hbw:=YX (p.code.getD a [])
 have hF0:VZ p sts t a (p.code.getD a []).length=List.replicate sts.length (-1):=by unfold VZ;rw [List.drop_length];refine Af.2 ⟨by simp,λx hx=>?_⟩;simp only [γ] at hx;obtain⟨w,_,rfl⟩:=hx;rfl
 have hF1:∀ j w,j<(p.code.getD a []).length->uN p.xN sts t a w ((p.code.getD a []).drop j)= if uf p.xN sts t a ((p.code.getD a []).getD j vf).test w=true then((p.code.getD a []).getD j vf).mv else uN p.xN sts t a w ((p.code.getD a []).drop (j+1)):=λj w hj=>by rw [drop_cons (d:=vf) hj]; rfl
 have hFm:∀ j,VZ p sts t a j=(List.range sts.length).map λw=>uN p.xN sts t a w ((p.code.getD a []).drop j):=λj=>rfl;have hsu:=Xo p sts t a
 have hE:∀ j,j<(p.code.getD a []).length->ze p ((p.code.getD a []).getD j vf).test 15=0:=λj hj=>by
  have:=hv.code _ hmem _ (xK (d:=vf) hj);unfold lE at this
  split at this
  ·rename_i h1; exact absurd this h1
  ·rename_i h1; simpa using h1
 have hl6:=hv.cl _ hmem;generalize p.code.getD a []=cl at *;have c0:¬ (nx=0):=by omega
 simp only [simprocAttr,-ZA,↓zU,↓zD,zV,zT,zW,hd,hdc,zN,hg,h0,Mg,c0]
 (repeat refine sd ?_)
 refine .go (Zc ⟨hR.1,by omega⟩ _) ?_;simp only [simprocAttr,-ZA,↓zU,↓zD,zV,zT,zW]
 (repeat refine sd ?_)
 refine .go (cr hbw) ?_;simp only [simprocAttr,-ZA,↓zU,↓zD,zV,zT,zW]
 refine SB rfl Ji rfl (.inl rfl) ⟨by decide,by decide⟩ (λk σk=>∃ m ob,σk=⟨m,ob⟩/\ nx+3<=m/\St.look ob (nx+1+1)= some ⟨1,[[.yD (nx+1) 1 sts.length]]⟩/\ St.look ob (nx+1)= some ⟨1,rows .i64 (VZ p sts t a (cl.length-k))⟩/\ St.look ob nx=some ⟨1,[[.int .i64 a]]⟩/\ ∀ k,k<nx->St.look ob k=St.look xZ k) ?_ ?_ ?_
 ·refine⟨_,_,rfl,Ak _,?_,?_,?_,λk hk=>?_⟩
  ·rw [xX,if_pos rfl]
  ·rw [xX,if_neg (by omega),xX,if_pos rfl,Nat.sub_zero,hF0]
  ·rw [xX,if_neg (by omega),xX,if_neg (by omega),xX,if_pos rfl]
  ·rw [xX,if_neg (by omega),xX,if_neg (by omega),xX,if_neg (by omega)]
 ·intro l k σk hk ⟨m,ob,e0,hm3,h2,h1,hx,hold⟩;subst e0;rw [wG] at hk ⊢;have hj:cl.length-1-k<cl.length:=by omega
  have hg1:=eV cl hj;have hE1:=hE _ hj;have hF2:=λw=>hF1 (cl.length-1-k) w hj;rw [show cl.length-1-k+1=cl.length-k by omega] at hF2;have e1:cl.length-(k+1)= cl.length-1-k:=by omega
  rw [e1];have hm1:=hFm (cl.length-k);have hm2:=hFm (cl.length-1-k);generalize cl.length-1-k=j at *;generalize cl.length-k=j1 at *;have hH1:=hH _ hE1;generalize cl.getD j vf=c at *;unfold eC.row at hg1;have h0':St.look ob 0=some (Mg sts.length V RR):=by rw [hold 0 (by omega)]; exact h0
  unfold Mg at h0';have q1:¬ (m=nx+1+1):=by omega
  have q2:¬ (m=nx+1):=by omega
  have q3:¬ (m=nx):=by omega
  have q4:¬ (m=0):=by omega
  refine xL mixed ?_;simp only [simprocAttr,-ZA,↓zU,↓zD,zV,zT,zW,hg1]
  (repeat refine sd ?_)
  refine xL mixed ?_;simp only [simprocAttr,-ZA,↓zU,↓zD,zV,zT,zW,q1,q2,q3,q4,h0',h1,h2,hx]
  (repeat refine sd ?_)
  refine .go (cr hH1) ?_;simp only [simprocAttr,-ZA,↓zU,↓zD,zV,zT,zW,q1,q2,q3,q4,h0',h1,h2,hx]
  (repeat refine sd ?_)
  have hga:=kY RR (show a<RR.length by omega);rw [hRg a hal] at hga;have hla:=hrl a;have hda:((a:Int)<(RR.length:Int)):=by omega
  refine xO (λx:Nat × List (Nat × Ob)=>[(46,.int .i64 x.1),(45,.int .i64 sts.length),(12,.int .u64 (ui (PT p.xN sts t c.test))),(11,.ref m 2 0 0),(9,.ref (nx+1+1) 1 0 0),(7,.ref nx 1 0 0),(5,.ref 0 3 0 0)]) (λx=>⟨m+1,x.2⟩)
   (λx=>x.1<=sts.length/\St.look x.2 m=some ⟨2,[[.sl 6 (zG c.test),.int .i64 c.mv]]⟩/\ St.look x.2 (nx+1)= some ⟨1,rows .i64 (cQ sts.length (λw=>uN p.xN sts t a w (cl.drop j)) (λw=>uN p.xN sts t a w (cl.drop j1)) x.1)⟩/\ ∀ k,k<m->k≠nx+1->St.look x.2 k=St.look ob k)
   (λx=>sts.length-x.1) (0,(m,⟨2,[[.sl 6 (zG c.test),.int .i64 c.mv]]⟩) :: ob) ⟨Al _,by rw [xX,if_pos rfl],by rw [xX,if_neg (by omega),h1,hm1,UP],λk hk _=>by rw [xX,if_neg (by omega)]⟩ ?_ ?_
  ·(refine xT.same ?_; simp [xR,Fr.get])
  rintro ⟨w,ob'⟩ ⟨hw,g1,g2,g3⟩;simp only at hw g1 g2 g3;have g4:St.look ob' (nx+1+1)= some ⟨1,[[.yD (nx+1) 1 sts.length]]⟩:=by rw [g3 _ (by omega) (by omega)]; exact h2
  have g5:St.look ob' nx=some ⟨1,[[.int .i64 a]]⟩:=by rw [g3 _ (by omega) (by omega)]; exact hx
  have g6:St.look ob' 0=some ⟨3,[[.int .i64 (sts.length:Int),.sl 1 (us V),.sl 1 (rr RR)]]⟩:=by rw [g3 _ (by omega) (by omega)]; exact h0'
  refine xL mixed ?_;by_cases hwl:w<sts.length
  case neg=>
   have hd3:¬ ((w:Int)<(sts.length:Int)):=by omega
   rw [QV _ _ _ (by omega),<- hm2] at g2;simp only [simprocAttr,-ZA,↓zU,↓zD,zV,zT,zW,hd3];exact⟨[],⟨m+1,ob'⟩,xT.same trivial,m+1,ob',rfl,by omega,g4,g2,g5,λk hk=>by rw [g3 k (by omega) (by omega)]; exact hold k hk⟩
  have hd3:((w:Int)<(sts.length:Int)):=by omega
  have hgw:=vL (pH (wD p.xN sts t) (uO sts.length 0) a) (show w<_ by rw [hla]; exact hwl);rw [hrg a w hwl] at hgw;have hkn:=hK a w hal hwl c.test;generalize Ru.jF (wD p.xN sts t) (uO sts.length 0) a (yO (wD p.xN sts t) a (w,0)) sts.length=xr at hgw hkn;have hF3:=hF2 w;have hms:=QZ sts.length (λw=>uN p.xN sts t a w (cl.drop j)) (λw=>uN p.xN sts t a w (cl.drop j1)) w;have hml:=QW sts.length (λw=>uN p.xN sts t a w (cl.drop j)) (λw=>uN p.xN sts t a w (cl.drop j1)) w;have hme:=@UO sts.length (λw=>uN p.xN sts t a w (cl.drop j)) (λw=>uN p.xN sts t a w (cl.drop j1)) w
  cases hc:uf p.xN sts t a c.test w with
  | false=>
   rw [hc] at hkn hF3;rw [if_neg (by simp)] at hF3;simp only [simprocAttr,-ZA,↓zU,↓zD,zV,zT,zW,hd3,g1,g2,g4,g5,g6,hda,hga,hla,hgw,hkn,wO,xH]
   (repeat refine sd ?_)
   refine⟨(w+1,ob'),⟨by show w+1<=_; omega,g1,by show St.look ob' _=some ⟨1,rows .i64 (cQ _ _ _ (w+1))⟩; rw [hme hF3]; exact g2,g3⟩,?_,by show sts.length-(w+1)<sts.length-w; omega⟩
   (refine xT.same ?_; simp only [xR,Fr.get,simprocAttr,-ZA,zS])
   exact wrap_i64 (by omega)
  | true=>
   rw [hc] at hkn hF3;rw [if_pos rfl] at hF3;rw [hF3] at hms;generalize cQ sts.length (λw=>uN p.xN sts t a w (cl.drop j)) (λw=>uN p.xN sts t a w (cl.drop j1)) w=M at *;have hgM:=vI .i64 M (show w<M.length by omega);simp only [simprocAttr,-ZA,↓zU,↓zD,zV,zT,zW,hd3,g1,g2,g4,g5,g6,hda,hga,hla,hgw,hkn,wO,xH,zK,hml,hgM,RQ,hms]
   (repeat refine sd ?_)
   refine⟨(w+1,zA ob' (nx+1) ⟨1,rows .i64 (cQ sts.length (λw=>uN p.xN sts t a w (cl.drop j)) (λw=>uN p.xN sts t a w (cl.drop j1)) (w+1))⟩),⟨by show w+1<=_; omega,?_,?_,λk hk hk2=>?_⟩,?_,by show sts.length-(w+1)<sts.length-w; omega⟩
   ·show St.look (zA _ _ _) _=_;rw [xU,if_neg (by omega)]; exact g1
   ·show St.look (zA _ _ _) _=_;rw [xU,if_pos rfl,g2]; rfl
   ·show St.look (zA _ _ _) _=_;rw [xU,if_neg (λe=>hk2 e.symm)]; exact g3 k hk hk2
   ·(refine xT.same ?_; simp only [xR,Fr.get,simprocAttr,-ZA,zS])
    exact wrap_i64 (by omega)
 ·intro σ' ⟨m,ob,e0,hm3,h2,h1,hx,hold⟩;subst e0;rw [wG,Nat.sub_self] at h1;have hI:IP p sts t (Mg sts.length V RR) ⟨a,nx,kO,ks,xZ⟩:=⟨ha,n0,h0,hkO,hkl,hks,hnd,hno,hnst⟩;have hRl2:(VZ p sts t a 0).length=sts.length:=by simp [VZ]
  have q1:¬ (m=nx+1+1):=by omega
  by_cases ha0:a=0
  ·subst ha0;unfold cR;simp only [simprocAttr,-ZA,↓zU,↓zD,zV,zT,zW,h2,q1]
   (repeat refine sd ?_)
   refine⟨⟨0+1,m+1+1,m+1,ks ++ [nx+1],(m+1,⟨1,[[.yD (nx+1) 1 sts.length]]⟩) :: (m,⟨1,[[.yD (nx+1) 1 sts.length]]⟩) :: ob⟩,IP.step hI hal hm3 ?_ ?_ ?_,?_,by show p.xN.length-(0+1)<_; omega⟩
   ·rw [xX,if_pos rfl];show _=some (Ob.mk 1 (sP (ks ++ [nx+1]) (ml p sts t (0+1))));obtain rfl:ks = []:=ο hkl;rw [hsu];simp [sP,ml,zK,hRl2]
   ·rw [xX,if_neg (by show ¬ m+1=nx+1; omega),xX,if_neg (by show ¬ m=nx+1; omega)];exact h1
   ·intro k hk _;have hk:k<nx:=hk;rw [xX,if_neg (by omega),xX,if_neg (by omega)];exact hold k hk
   ·simp only [Nat.zero_add,An,↓reduceIte]
    (refine xT.same ?_; simp only [xR,Fr.get,simprocAttr,-ZA,zS])
    all_goals rfl
  ·have hkO2:0<kO/\kO<nx:=by rcases hkO with h | h <;> omega
   have hn:=hnst ha0;have ho:=hn.out;unfold cR;rw [if_neg ha0];have ho2:St.look ob kO=some ⟨1,sP ks (ml p sts t a)⟩:=by rw [hold kO hkO2.2]; exact ho
   have q2:¬ (m=kO):=by omega
   have hnl:=rB hn.len;rw [aW] at hnl;have htk:(sP ks (ml p sts t a)).take a=sP ks (ml p sts t a):=η (by omega);simp only [simprocAttr,-ZA,↓zU,↓zD,zV,zT,zW,h2,q1,q2,ho2,hnl,htk]
   (repeat refine sd ?_)
   refine⟨⟨a+1,m+1+1,m+1,ks ++ [nx+1],(m+1,⟨1,sP ks (ml p sts t a)++ [[.yD (nx+1) 1 sts.length]]⟩) :: (m,⟨1,[[.yD (nx+1) 1 sts.length]]⟩) :: zX ob kO⟩,IP.step hI hal hm3 ?_ ?_ ?_,?_,by show p.xN.length-(a+1)<_; omega⟩
   ·rw [xX,if_pos rfl];show _=some (Ob.mk 1 (sP (ks ++ [nx+1]) (ml p sts t (a+1))));have:=ir hn.len (nx+1) (rows .i64 (VZ p sts t a 0));rw [zK,hRl2] at this;rw [this,hsu]
   ·rw [xX,if_neg (by show ¬ m+1=nx+1; omega),xX,if_neg (by show ¬ m=nx+1; omega),yX,if_neg (by show ¬ kO=nx+1; omega)];exact h1
   ·intro k hk hk2;have hk:k<nx:=hk;have hk2:k≠kO:=hk2.resolve_left ha0;rw [xX,if_neg (by omega),xX,if_neg (by omega),yX,if_neg (λe=>hk2 e.symm)];exact hold k hk
   ·simp only [Ap,↓reduceIte]
    (refine xT.same ?_; simp only [xR,Fr.get,simprocAttr,-ZA,zS])
    exact wrap_i64 (by omega)
open Rs Fm Ru Te Kb
namespace Kb
def Mf (p:yF) (kS n:Nat):Ob:=⟨6,[[.int .i64 p.F,.sl 1 (us p.init),.sl 1 (us p.xN),.sl 1 (qY p.xM),.sl 1 (qZ p.code),.yD kS 1 n]]⟩
structure YR (p : yF) (sts : List (List (BitVec 64))) (kx kS : Nat) (ks : List Nat) (xZ : List (Nat × Ob)) : Prop where
 hx:St.look xZ kx=some (Mf p kS sts.length)
 zf:kd xZ kS ks (sts.map us)
 nd:ks.Nodup
 ne:kx≠kS
 xs:kx ∉ ks
 ss:kS ∉ ks
def dm (p:yF) (b:Nat) (sts:List (List (BitVec 64))):List (Nat × Ob):=(0,Mf p 1 sts.length) :: (1,⟨1,sP (κ b sts.length) (sts.map us)⟩) :: (List.range sts.length).map λi=>(b+i,⟨1,us (vN sts i)⟩)
theorem qQ {sts:List (List (BitVec 64))} {i:Nat} (hi:i<sts.length):(sts.map us).getD i []=us (vN sts i):=by simp [vN,List.getD,hi]
theorem oo {f:Nat->Ob} (b:Nat):∀ {l:List Nat} {i:Nat},i ∈ l->St.look (l.map λi=>(b+i,f i)) (b+i)= some (f i)
 | [],i,h=>by cases h
 | j :: r,i,h=>by
  show St.look ((b+j,f j) :: _) _=_;rw [xX]
  by_cases e:i=j
  ·subst e; rw [if_pos rfl]
  ·rw [if_neg (by omega)];exact oo b ((ν.1 h).resolve_left e)
theorem ix {b n i:Nat} (hi:i<n):(κ b n).getD i 0=b+i:=by simp [List.getD,hi]
theorem uu (p:yF) {b:Nat} (hb:2<=b) (sts:List (List (BitVec 64))):YR p sts 0 1 (κ b sts.length) (dm p b sts) where
 hx:=by unfold dm; rw [xX,if_pos rfl]
 zf:={
  out:=by unfold dm; rw [xX,if_neg (by omega),xX,if_pos rfl]
  len:=by simp
  each:=λi hi=>by
   have hi':i<sts.length:=by simpa using hi
   rw [ix hi',qQ hi'];unfold dm;rw [xX,if_neg (by omega),xX,if_neg (by omega)];exact oo b (ε.2 hi') }
 nd:=List.nodup_range'
 ne:=by decide
 xs:=λh=>by have:=Ab.1 h; omega
 ss:=λh=>by have:=Ab.1 h; omega
theorem qy {p:yF} {b:Nat} {sts:List (List (BitVec 64))} {q:Nat × Ob} (h:q ∈ dm p b sts):q=(0,Mf p 1 sts.length)\/q=(1,⟨1,sP (κ b sts.length) (sts.map us)⟩)\/∃ i,i<sts.length/\q=(b+i,⟨1,us (vN sts i)⟩):=by
 unfold dm at h
 rcases ν.1 h with h | h
 ·exact .inl h
 ·rcases ν.1 h with h | h
  ·exact .inr (.inl h)
  ·simp only [γ,ε] at h;obtain⟨i,hi,rfl⟩:=h;exact .inr (.inr ⟨i,hi,rfl⟩)
theorem WU {sts:List (List (BitVec 64))}:∀ e ∈ sts.map us,∀ r ∈ e,r.length=1/\D.xP r=true:=λe he r hr=>by simp only [γ] at he;obtain⟨s,_,rfl⟩:=he;refine⟨?_,oS s r hr⟩;simp only [us,γ] at hr;obtain⟨x,_,rfl⟩:=hr;rfl
def s7 (b kx kS:Nat) (ks:List Nat) (k:Nat):Nat:=if k=0 then kx else if k=1 then kS else if b<=k then ks.getD (k-b) 0 else k
section
variable {p : yF} {sts : List (List (BitVec 64))} {kx kS b nx : Nat} {ks : List Nat} {xZ : List (Nat × Ob)}
theorem YR.stays (h:YR p sts kx kS ks xZ) (hb:2<=b):stays ⟨nx,xZ⟩ ⟨b+sts.length,dm p b sts⟩ (s7 b kx kS ks):=by
 have hlen:=h.zf.len;have hsl:(sts.map us).length=sts.length:=δ _;have hr:(κ b sts.length).length=(sts.map us).length:=by simp
 intro q hq
 rcases qy hq with rfl | rfl | ⟨i,hi,rfl⟩
 ·refine⟨by show 0<b+sts.length; omega,_,h.hx,rfl,?_⟩;refine .cons rfl ?_ .nil;simp only [uR,vw,and_true,true_and,s7];exact⟨by omega,rfl⟩
 ·refine⟨by show 1<b+sts.length; omega,_,h.zf.out,rfl,YB (by rw [rB hlen,rB hr]) λi hi=>?_⟩;rw [rB hr] at hi;rw [jV hlen hi,jV hr hi];refine⟨rfl,?_⟩;rw [hsl] at hi;simp only [uR,vw,ix hi,and_true,s7];rw [if_neg (by omega),if_neg (by omega),if_pos (by omega),show b+i-b=i by omega];exact⟨by omega,rfl⟩
 ·refine⟨by show b+i<b+sts.length; omega,⟨1,us (vN sts i)⟩,?_,rfl,.same λr hr=>oS _ r hr⟩;show St.look xZ (s7 b kx kS ks (b+i))= _;unfold s7;rw [if_neg (by omega),if_neg (by omega),if_pos (by omega),show b+i-b=i by omega];have:=h.zf.each i (by rw [hsl]; exact hi);rw [qQ hi] at this;exact this
theorem YR.apart (h:YR p sts kx kS ks xZ) (hb:2<=b) (m:Nat):rS ⟨m,dm p b sts⟩ (s7 b kx kS ks):=by
 have hlen:=h.zf.len;rw [δ] at hlen
 have hk:∀ i,i<sts.length->s7 b kx kS ks (b+i)= ks.getD i 0:=λi hi=>by unfold s7;rw [if_neg (by omega),if_neg (by omega),if_pos (by omega),show b+i-b=i by omega]
 have hm:∀ i,i<sts.length->ks.getD i 0 ∈ ks:=λi hi=>rV (by omega);have e0:s7 b kx kS ks 0=kx:=rfl;have e1:s7 b kx kS ks 1=kS:=rfl;intro q hq r hr' e
 rcases qy hq with rfl | rfl | ⟨i,hi,rfl⟩ <;> rcases qy hr' with rfl | rfl | ⟨j,hj,rfl⟩ <;> simp only at e ⊢
 ·rw [e0,e1] at e; exact absurd e h.ne
 ·rw [e0,hk j hj] at e; exact absurd (e ▸ hm j hj) h.xs
 ·rw [e0,e1] at e; exact absurd e.symm h.ne
 ·rw [e1,hk j hj] at e; exact absurd (e ▸ hm j hj) h.ss
 ·rw [e0,hk i hi] at e; exact absurd (e ▸ hm i hi) h.xs
 ·rw [e1,hk i hi] at e; exact absurd (e ▸ hm i hi) h.ss
 ·rw [hk i hi,hk j hj] at e;rw [ao h.nd (by omega) (by omega) e]
theorem YR.seen {K:Nat->Prop} (h:YR p sts kx kS ks xZ) (h1:¬ K kx) (h2:¬ K kS) (h3:∀ k ∈ ks,¬ K k):Seen ⟨nx,xZ⟩ K (.ref kx 6 0 0) (vr p sts):=by
 have hs:=Go.Pd.kd.seen h.zf (nx:=nx) (n:=sts.length) (δ _).symm h2 h3 WU;rw [Lp] at hs;refine Seen.ref h.hx h1 rfl (Nat.lt_add_one 0) (Nat.zero_lt_succ 5) (Ak 6) λj hj=>?_;have hj:j<6:=hj;have:j=0\/j=1\/j=2\/j=3\/j=4\/j=5:=by omega
 rcases this with rfl | rfl | rfl | rfl | rfl | rfl
 ·exact .pure rfl
 ·exact .pure rfl
 ·exact .pure rfl
 ·exact .pure rfl
 ·exact .pure rfl
 ·exact hs
end
end Kb
theorem oK.TN {p:yF} {sts:List (List (BitVec 64))} {kx kS b nx n0:Nat} {ks:List Nat} {xZ:List (Nat × Ob)} {d1 d:D} (h:YR p sts kx kS ks xZ) (hb:2<=b) (hn:n0<=b+sts.length) (hid:∀ k,k<n0->s7 b kx kS ks k=k)
  (hd:vw ⟨nx,xZ⟩ ⟨b+sts.length,dm p b sts⟩ (s7 b kx kS ks) d1 d):oK n0 ⟨nx,xZ⟩ d1 ⟨b+sts.length,dm p b sts⟩ d:=
 .inr ⟨s7 b kx kS ks,hn,hid,hd,h.stays hb,h.apart hb _⟩
theorem xT.TN {C:Cx} {f f':Fr} {p:yF} {sts:List (List (BitVec 64))} {kx kS b nx:Nat} {ks:List Nat} {xZ:List (Nat × Ob)} (h:YR p sts kx kS ks xZ) (hb:2<=b) (hn:C.n0<=b+sts.length) (hid:∀ k,k<C.n0->s7 b kx kS ks k=k)
  (hf:YO ⟨nx,xZ⟩ ⟨b+sts.length,dm p b sts⟩ (s7 b kx kS ks) f f'):xT C f ⟨nx,xZ⟩ f' ⟨b+sts.length,dm p b sts⟩:=
 xT.view (s7 b kx kS ks) hn hid hf (h.stays hb) (h.apart hb _)
open Rs Fm Ru Te Kb
namespace Kb
def bK (p:yF):List (List (BitVec 64)):=p.init.map λs=>[s]
structure BP where
 k:Nat
 nx:Nat
 kS:Nat
 ks:List Nat
 xZ:List (Nat × Ob)
def bL (p:yF) (k:Nat):List (List (BitVec 64)):=(p.init.take k).map λs=>[s]
structure IB (p : yF) (kx : Nat) (x : BP) : Prop where
 hk:x.k<=p.init.length
 hx:St.look x.xZ kx=some ⟨6,[[.int .i64 p.F,.sl 1 (us p.init),.sl 1 (us p.xN),.sl 1 (qY p.xM),.sl 1 (qZ p.code),cR x.kS x.k]]⟩
 lt:kx<x.nx
 kS:x.kS<x.nx\/x.k=0
 kl:x.ks.length=x.k
 ks:∀ k ∈ x.ks,k<x.nx
 nd:x.ks.Nodup
 ne:x.k≠0->kx≠x.kS
 xs:kx ∉ x.ks
 ss:x.k≠0->x.kS ∉ x.ks
 zf:x.k≠0->kd x.xZ x.kS x.ks ((bL p x.k).map us)
theorem zp {α:Type} {l r:List α} {d:α} {i:Nat} (h:i<l.length):(l++r).getD i d=l.getD i d:=by simp [List.getD,τ h]
theorem gl {α:Type} {l:List α} {x d:α} {i:Nat} (h:i=l.length):(l ++ [x]).getD i d=x:=by subst h; simp [List.getD]
theorem kd.grow {xZ ob:List (Nat × Ob)} {kO kN kI:Nat} {ks:List Nat} {ess:List (List (List D))} {e:List (List D)} (h:ess ≠ []->kd xZ kO ks ess) (kl:ks.length=ess.length) (hout:St.look ob kN=some ⟨1,sP (ks ++ [kI]) (ess ++ [e])⟩)
  (hnew:St.look ob kI=some ⟨1,e⟩) (hold:∀ k ∈ ks,St.look ob k=St.look xZ k):kd ob kN (ks ++ [kI]) (ess ++ [e]) where
 out:=hout
 len:=by simp [kl]
 each:=λi hi=>by
  by_cases c:i=ess.length
  ·rw [gl (l:=ks) (by omega),gl (l:=ess) c]; exact hnew
  ·have hi':i<ess.length:=by simp at hi; omega
   have hn:ess ≠ []:=λc=>by rw [c] at hi'; cases hi'
   rw [zp (l:=ks) (by omega),zp (l:=ess) hi',hold _ (rV (by omega))];exact(h hn).each i hi'
theorem Tj (p:yF) {k:Nat} (hk:k<p.init.length):bL p (k+1)= bL p k ++ [[p.init.getD k 0]]:=by unfold bL;rw [vW (d:=0) hk,χ]; rfl
theorem XH (p:yF) {k:Nat} (hk:k<=p.init.length):(bL p k).length=k:=by simp [bL]; omega
theorem IB.step {p:yF} {kx:Nat} {x:BP} (h:IB p kx x) (hlt:x.k<p.init.length) {ob:List (Nat × Ob)} (hout:St.look ob (x.nx+1+1)= some ⟨1,sP (x.ks ++ [x.nx]) ((bL p x.k).map us ++ [us [p.init.getD x.k 0]])⟩)
  (hnew:St.look ob x.nx=some ⟨1,us [p.init.getD x.k 0]⟩) (hx:St.look ob kx=some ⟨6,[[.int .i64 p.F,.sl 1 (us p.init),.sl 1 (us p.xN),.sl 1 (qY p.xM),.sl 1 (qZ p.code),.yD (x.nx+1+1) 1 (x.k+1)]]⟩)
  (hold:∀ k,k<x.nx->k≠kx->(x.k=0\/k≠x.kS)->St.look ob k=St.look x.xZ k):IB p kx ⟨x.k+1,x.nx+1+1+1,x.nx+1+1,x.ks ++ [x.nx],ob⟩:=by
 have hl:=XH p h.hk;have hlt2:=h.lt
 refine⟨by show x.k+1<=_; omega,?_,by show kx<x.nx+1+1+1; omega,.inl (by show x.nx+1+1<x.nx+1+1+1; omega),by simp [h.kl],λk hk=>?_,?_,λ_=>by show kx≠x.nx+1+1; omega,λhk=>?_,λ_ hk=>?_,λ_=>?_⟩
 ·show St.look ob kx=_;rw [hx];unfold cR;simp
 ·show k<x.nx+1+1+1
  rcases ξ.1 hk with hk | hk
  ·have:=h.ks k hk; omega
  ·rw [ζ.1 hk]; omega
 ·refine Ah.2 ⟨h.nd,by simp,λk hk j hj e=>?_⟩;have:=h.ks k hk;rw [ζ.1 hj] at e;omega
 ·rcases ξ.1 hk with hk | hk
  ·exact h.xs hk
  ·have:=ζ.1 hk; omega
 ·have hk:x.nx+1+1 ∈ x.ks ++ [x.nx]:=hk
  rcases ξ.1 hk with hk | hk
  ·have:=h.ks _ hk; omega
  ·have:=ζ.1 hk; omega
 ·show kd ob (x.nx+1+1) (x.ks ++ [x.nx]) ((bL p (x.k+1)).map us);rw [Tj p hlt,χ];have h0:(bL p x.k).map us ≠ []->x.k≠0:=λc e=>c (by rw [List.map_eq_nil_iff]; exact ο (by omega));refine kd.grow (λc=>h.zf (h0 c)) (by rw [h.kl,δ,hl]) hout hnew λk hk=>?_;have hk1:=h.ks k hk;refine hold k hk1 (λe=>h.xs (e ▸ hk)) ?_
  by_cases c:x.k=0
  ·exact .inl c
  ·exact .inr λe=>h.ss c (e ▸ hk)
end Kb
theorem Pn {p:yF} {F:Nat} (hv:zd p F):xY prog 120 [p.d] gR (.ref 0 6 0 0) ⟨2+p.init.length,dm p 2 (bK p)⟩:=by
 have hI:=hv.hI;have hbl:(bK p).length=p.init.length:=by simp [bK]
 have hD:p.d = .agg [.int .i64 p.F,.sl 1 (us p.init),.sl 1 (us p.xN),.sl 1 (qY p.xM),.sl 1 (qZ p.code)]:=rfl;rw [hD];refine xY.xQ mixed func120 Hv (by simp) λhf=>?_;simp only [simprocAttr,-ZA,↓zU,↓zD,zV,zT,zW,xH]
 (repeat refine sd ?_)
 refine xO (λx:BP=>[(12,.int .i64 x.k),(11,.int .i64 p.init.length),(10,.sl 1 (us p.init)),(3,.ref 1 6 0 0)]) (λx=>⟨x.nx,x.xZ⟩) (IB p 1) (λx=>p.init.length-x.k)
  ⟨0,2,0,[],[(1,⟨6,[[.int .i64 p.F,.sl 1 (us p.init),.sl 1 (us p.xN),.sl 1 (qY p.xM),.sl 1 (qZ p.code),.xJ]]⟩),(0,⟨5,[[.int .i64 p.F,.sl 1 (us p.init),.sl 1 (us p.xN),.sl 1 (qY p.xM),.sl 1 (qZ p.code)]]⟩)]⟩
  ⟨Al _,rfl,Nat.lt_add_one 1,.inr rfl,rfl,by simp,.nil,λh=>absurd rfl h,by simp,λh=>absurd rfl h,λh=>absurd rfl h⟩ ?_ ?_
 ·(refine xT.same ?_; simp [xR,Fr.get])
 rintro ⟨k,nx,kS,ks,xZ⟩ hB;obtain⟨hk,hx,hlt,hkS,hkl,hks,hnd,hne,hxs,hss,hnst⟩:=id hB;simp only at hk hx hlt hkS hkl hks hnd hne hxs hss hnst;refine xL mixed ?_;by_cases hkl2:k<p.init.length
 case neg=>
  have hd:¬ ((k:Int)<(p.init.length:Int)):=by omega
  obtain rfl:k=p.init.length:=by omega
  have hk0:p.init.length≠0:=by omega
  have he:bL p p.init.length=bK p:=by unfold bL bK; rw [List.take_length]
  have hPI:YR p (bK p) 1 kS ks xZ:=⟨by rw [hx]; unfold Mf cR; rw [if_neg hk0,hbl],he ▸ hnst hk0,hnd,hne hk0,hxs,hss hk0⟩;simp only [simprocAttr,-ZA,↓zU,↓zD,zV,zT,zW,hd];have hr:=oK.TN (b:=2) (n0:=0) (nx:=nx) (d1:=.ref 1 6 0 0) (d:=.ref 0 6 0 0) hPI (Ak _) (Al _) (λk hk=>absurd hk (Am _)) (by simp only [vw,and_true]; exact⟨by omega,rfl⟩);rw [hbl] at hr;exact hr
 have hd:((k:Int)<(p.init.length:Int)):=by omega
 have hg:=vL p.init hkl2;have hst:=λob=>@IB.step p 1 ⟨k,nx,kS,ks,xZ⟩ hB hkl2 ob;simp only at hst;generalize p.init.getD k 0=s at hg hst;have q1:¬ (nx=1):=by omega
 have q5:¬ (nx+1+1=1):=by omega
 have q6:¬ (nx+1=1):=by omega
 have q7:¬ (nx=0):=by omega
 by_cases hk0:k=0
 ·subst hk0;have hd0:(0:Int)<(p.init.length:Int):=by omega
  unfold cR at hx;rw [if_pos rfl] at hx;obtain rfl:ks = []:=ο hkl
  have hst1:=hst ((nx+1+1,⟨1,[[.yD nx 1 1]]⟩) :: (nx+1,⟨1,[[.yD nx 1 1]]⟩) :: (nx,⟨1,[[.int .u64 (ui s)]]⟩) :: zA xZ 1 ⟨6,[[.int .i64 p.F,.sl 1 (us p.init),.sl 1 (us p.xN),.sl 1 (qY p.xM),.sl 1 (qZ p.code),.yD (nx+1+1) 1 1]]⟩)
   (by rw [xX,if_pos rfl]; rfl) (by rw [xX,if_neg (by omega),xX,if_neg (by omega),xX,if_pos rfl]; rfl)
   (by rw [xX,if_neg q5,xX,if_neg q6,xX,if_neg q1,xU,if_pos rfl,hx]; rfl)
   (λj hj h1 _=>by rw [xX,if_neg (by omega),xX,if_neg (by omega),xX,if_neg (by omega),xU,if_neg (λe=>h1 e.symm)])
  simp only [simprocAttr,-ZA,↓zU,↓zD,zV,zT,zW,hd0,xH,hg,hx,q1,q5,q6,q7]
  (repeat refine sd ?_)
  refine⟨_,hst1,?_,by show p.init.length-(0+1)<_; omega⟩
  (refine xT.same ?_; simp only [xR,Fr.get,simprocAttr,-ZA,zS])
  all_goals rfl
 ·have hkS2:kS<nx:=hkS.resolve_right hk0;have ho:=(hnst hk0).out;unfold cR at hx;rw [if_neg hk0] at hx;have hnl:=rB (hnst hk0).len;rw [δ,XH p hk] at hnl;have htk:(sP ks ((bL p k).map us)).take k=sP ks ((bL p k).map us):=η (by omega);have q2:¬ (nx=kS):=by omega
  have q3:¬ (nx+1=kS):=by omega
  have q4:¬ (kS=1):=λe=>hne hk0 e.symm;have hxe:St.look (zX xZ kS) 1=some ⟨6,[[.int .i64 p.F,.sl 1 (us p.init),.sl 1 (us p.xN),.sl 1 (qY p.xM),.sl 1 (qZ p.code),.yD kS 1 k]]⟩:=by rw [yX,if_neg q4]; exact hx
  have hsn:=ir (hnst hk0).len nx (us [s])
  have hst1:=hst ((nx+1+1,⟨1,sP ks ((bL p k).map us)++ [[.yD nx 1 1]]⟩) :: (nx+1,⟨1,[[.yD nx 1 1]]⟩) :: (nx,⟨1,[[.int .u64 (ui s)]]⟩) :: zA (zX xZ kS) 1 ⟨6,[[.int .i64 p.F,.sl 1 (us p.init),.sl 1 (us p.xN),.sl 1 (qY p.xM),.sl 1 (qZ p.code),.yD (nx+1+1) 1 (k+1)]]⟩)
   (by rw [xX,if_pos rfl,<- hsn]; rfl) (by rw [xX,if_neg (by omega),xX,if_neg (by omega),xX,if_pos rfl]; rfl)
   (by rw [xX,if_neg q5,xX,if_neg q6,xX,if_neg q1,xU,if_pos rfl,hxe]; rfl)
   (λj hj h1 h2=>by rw [xX,if_neg (by omega),xX,if_neg (by omega),xX,if_neg (by omega),xU,if_neg (λe=>h1 e.symm),yX,if_neg (λe=>(h2.resolve_left hk0) e.symm)])
  simp only [simprocAttr,-ZA,↓zU,↓zD,zV,zT,zW,hd,xH,hg,hx,hxe,q1,q2,q3,q4,q5,q6,q7,ho,hnl,htk]
  (repeat refine sd ?_)
  refine⟨_,hst1,?_,by show p.init.length-(k+1)<_; omega⟩
  (refine xT.same ?_; simp only [xR,Fr.get,simprocAttr,-ZA,zS])
  exact wrap_i64 (by omega)
open Rs Fm Ru Te Kb
namespace Kb
def jo (st:List (BitVec 64)):BitVec 64:=st.getD (st.length-1) 0
def vl (p:yF) (sts:List (List (BitVec 64))) (mv:List (List Int)) (i:Nat):BitVec 64:=mc p (jo (vN sts i)) (mv.map λm=>m.getD i 0)
def gW (p:yF) (sts:List (List (BitVec 64))) (mv:List (List Int)) (r:Nat):List (List (BitVec 64)):=(List.range sts.length).map λi=>if i<r then vN sts i ++ [vl p sts mv i] else vN sts i
def jH (p:yF) (sts:List (List (BitVec 64))) (mv:List (List Int)):List (List (BitVec 64)):=(List.range sts.length).map λi=>vN sts i ++ [vl p sts mv i]
section
variable {p : yF} {sts : List (List (BitVec 64))} {mv : List (List Int)} {r : Nat}
theorem vZ : (gW p sts mv r).length=sts.length:=by simp [gW]
theorem aL {i:Nat} (hi:i<sts.length):vN (gW p sts mv r) i=if i<r then vN sts i ++ [vl p sts mv i] else vN sts i:=by simp [vN,gW,List.getD,hi]
theorem V3 : gW p sts mv 0=sts:=by refine θ (by simp [gW]) λi h1 h2=>?_;simp [gW,vN,List.getD,h2]
theorem Rj (h:sts.length<=r):gW p sts mv r=jH p sts mv:=by refine π λi hi=>?_;rw [if_pos (by have:=ε.1 hi; omega)]
theorem Rk (hr:r<sts.length):((gW p sts mv r).map us).set r (us (vN sts r ++ [vl p sts mv r]))= (gW p sts mv (r+1)).map us:=by
 refine θ (by simp [gW]) λk h1 h2=>?_;rw [μ];simp only [gW,Ac,Aa]
 by_cases e:r=k
 ·subst e; rw [if_pos rfl,if_pos (by omega)]
 ·rw [if_neg e]
  by_cases hk:k<r
  ·rw [if_pos hk,if_pos (by omega)]
  ·rw [if_neg hk,if_neg (by omega)]
end
structure AP where
 r:Nat
 nx:Nat
 ks:List Nat
 xZ:List (Nat × Ob)
structure IA (p : yF) (sts : List (List (BitVec 64))) (mv : List (List Int)) (n0 : Nat) (x : AP) : Prop where
 hr:x.r<=sts.length
 hn:n0<=x.nx
 pl:YR p (gW p sts mv x.r) 0 1 x.ks x.xZ
 lt:∀ k ∈ x.ks,k<x.nx
theorem RX {l:List Nat} {i j x:Nat} (hj:j<l.length):(l.set i x).getD j 0=if i=j then x else l.getD j 0:=by
 simp only [List.getD,List.getElem?_set]
 split
 ·rename_i h; subst h; simp [hj]
 ·rfl
theorem cD {l:List Nat} {i x k:Nat} (h:k ∈ l.set i x):k=x\/k ∈ l:=(List.mem_or_eq_of_mem_set h).symm
theorem UW {l:List Nat} (hd:l.Nodup) {i x:Nat} (hx:x ∉ l):(l.set i x).Nodup:=by
 unfold List.Nodup at hd ⊢;rw [Ad] at hd ⊢;intro a b ha hb hab;rw [List.length_set] at ha hb;rw [μ,μ]
 split
 ·rw [if_neg (by omega)];exact λe=>hx (e ▸ Aj _)
 ·split
  ·exact λe=>hx (e ▸ Aj _)
  ·exact hd a b ha hb hab
theorem IA.step {p:yF} {sts:List (List (BitVec 64))} {mv:List (List Int)} {n0:Nat} {x:AP} (h:IA p sts mv n0 x) (hr:x.r<sts.length) {m:Nat} (hm:x.nx<=m) (h2:2<=x.nx) {ob:List (Nat × Ob)}
  (hout:St.look ob 1=some ⟨1,(sP x.ks ((gW p sts mv x.r).map us)).set x.r [.yD m 1 ((vN sts x.r).length+1)]⟩) (hnew:St.look ob m=some ⟨1,us (vN sts x.r ++ [vl p sts mv x.r])⟩)
  (hold:∀ k,k<x.nx->k≠1->k≠x.ks.getD x.r 0->St.look ob k=St.look x.xZ k):IA p sts mv n0 ⟨x.r+1,m+1,x.ks.set x.r m,ob⟩:=by
 have hl:=h.pl.zf.len;rw [δ,vZ] at hl;have hnx:=h.hn;have hmk:m ∉ x.ks:=λhk=>by have:=h.lt m hk; omega
 have hmr:=rV (l:=x.ks) (i:=x.r) (by omega)
 refine⟨by show x.r+1<=_; omega,by show n0<=m+1; omega,⟨?_,?_,UW h.pl.nd hmk,by decide,λhk=>?_,λhk=>?_⟩,λk hk=>?_⟩
 ·show St.look ob 0=_;rw [hold 0 (by omega) (by decide) λe=>h.pl.xs (e ▸ hmr),h.pl.hx,vZ,vZ]
 ·show kd ob 1 (x.ks.set x.r m) ((gW p sts mv (x.r+1)).map us);have hsl:(gW p sts mv x.r).length=sts.length:=vZ
  refine⟨?_,by rw [List.length_set,δ,vZ]; exact hl,λi hi=>?_⟩
  ·have:=Qs h.pl.zf.len (i:=x.r) (by rw [δ,vZ]; exact hr) m (us (vN sts x.r ++ [vl p sts mv x.r]));rw [xH,ω,List.length_singleton,Rk hr] at this;rw [hout,this]
  ·rw [δ,vZ] at hi;rw [RX (by omega)]
   by_cases e:x.r=i
   ·subst e;rw [if_pos rfl,hnew,qQ (by rw [vZ]; exact hi),aL hi,if_pos (by omega)]
   ·rw [if_neg e,hold _ (h.lt _ (rV (by omega))) (λc=>h.pl.ss (c ▸ rV (by omega))) λc=>e (ao h.pl.nd (by omega) (by omega) c.symm)];have:=h.pl.zf.each i (by rw [δ,vZ]; exact hi);rw [this,qQ (by rw [vZ]; exact hi),qQ (by rw [vZ]; exact hi),aL hi,aL hi]
    by_cases c:i<x.r
    ·rw [if_pos c,if_pos (by omega)]
    ·rw [if_neg c,if_neg (by omega)]
 ·rcases cD hk with e | e
  ·omega
  ·exact h.pl.xs e
 ·rcases cD hk with e | e
  ·omega
  ·exact h.pl.ss e
 ·show k<m+1
  rcases cD hk with e | e
  ·omega
  ·have:=h.lt k e; omega
end Kb
theorem Ls {b:Nat} {ks:List Nat} {k:Nat} (h:k<b):s7 b 0 1 ks k=k:=by
 unfold s7
 by_cases h0:k=0
 ·rw [if_pos h0,h0]
 ·rw [if_neg h0]
  by_cases h1:k=1
  ·rw [if_pos h1,h1]
  ·rw [if_neg h1,if_neg (by omega)]
structure OP where
 j:Nat
 m:Nat
 kW:Nat
 ob:List (Nat × Ob)
structure IO (xZ : List (Nat × Ob)) (n1 : Nat) (own : List Int) (x : OP) : Prop where
 hj:x.j<=own.length
 hm:n1<=x.m
 kW:x.j≠0->n1<=x.kW/\x.kW<x.m/\St.look x.ob x.kW=some ⟨1,rows .i64 (own.take x.j)⟩
 tV:∀ k,k<n1->St.look x.ob k=St.look xZ k
theorem Wn {p:yF} {F:Nat} (hv:zd p F) {sts:List (List (BitVec 64))} (hR:1<=sts.length/\sts.length<=16) (hL:∀ st ∈ sts,1<=st.length/\st.length<=100) (hval:∀ st ∈ sts,∀ s ∈ st,s >>> F=0#64)
  {mv:List (List Int)} (hmA:1<=mv.length/\mv.length<=100) (hmR:∀ m ∈ mv,m.length=sts.length) (hmv:∀ m ∈ mv,∀ k ∈ m,k<p.xM.length) {nx:Nat} (hnx:2+sts.length<=nx) :
  xY prog 121 [.ref 0 6 0 0,.sl 1 (rl mv)] ⟨nx,dm p 2 sts⟩ (.wE []) ⟨nx+sts.length,dm p nx (jH p sts mv)⟩:=by
 have hsl:(jH p sts mv).length=sts.length:=by simp [jH]
 have hP0:=uu p (Ak 2) sts;refine xY.xQ mixed func121 Hw (by simp) λhf=>?_;have h00:=hP0.hx;unfold Mf at h00;simp only [simprocAttr,-ZA,↓zU,↓zD,zV,zT,zW,h00]
 (repeat refine sd ?_)
 refine xO (λx:AP=>[(13,.int .i64 x.r),(12,.int .i64 sts.length),(11,.yD 1 1 sts.length),(1,.sl 1 (rl mv)),(0,.ref 0 6 0 0)]) (λx=>⟨x.nx,x.xZ⟩) (IA p sts mv nx) (λx=>sts.length-x.r)
  ⟨0,nx,κ 2 sts.length,dm p 2 sts⟩ ⟨Al _,Ak _,by show YR p (gW p sts mv 0) _ _ _ _; rw [V3]; exact hP0,λk hk=>by have:=Ab.1 hk; show k<nx; omega⟩ ?_ ?_
 ·(refine xT.same ?_; simp [xR,Fr.get])
 rintro ⟨r,n1,ks,xZ⟩ hI;obtain⟨hr,hn,hpl,hlt⟩:=id hI;simp only at hr hn hpl hlt;refine xL mixed ?_;by_cases hrl:r<sts.length
 case neg=>
  have hd:¬ ((r:Int)<(sts.length:Int)):=by omega
  rw [Rj (by omega)] at hpl;simp only [simprocAttr,-ZA,↓zU,↓zD,zV,zT,zW,hd];have hr:=oK.TN (b:=nx) (n0:=nx) (nx:=n1) (d1:=.wE []) (d:=.wE []) hpl (by omega) (by omega) (λk hk=>Ls hk) (by simp only [vw,uR]; exact⟨trivial,trivial⟩);rw [hsl] at hr;exact hr
 have hd:((r:Int)<(sts.length:Int)):=by omega
 have hnl:=hpl.zf.len;rw [δ,vZ] at hnl;have hnr:=rB hpl.zf.len;rw [δ,vZ] at hnr;have hgr:=jV hpl.zf.len (i:=r) (by rw [δ,vZ]; exact hrl);have hst:=aL (p:=p) (mv:=mv) (r:=r) hrl;rw [if_neg (Nat.lt_irrefl r)] at hst;rw [qQ (by rw [vZ]; exact hrl),hst,xH] at hgr;have hkr:=hpl.zf.each r (by rw [δ,vZ]; exact hrl);rw [qQ (by rw [vZ]; exact hrl),hst] at hkr;have hmem:=rV (l:=ks) (i:=r) (by omega);have hkr0:ks.getD r 0≠0:=λe=>hpl.xs (e ▸ hmem);have hkr1:ks.getD r 0≠1:=λe=>hpl.ss (e ▸ hmem);have hkrn:=hlt _ hmem;have hout:=hpl.zf.out;have h0:=hpl.hx;unfold Mf at h0;rw [vZ] at h0;have hstep:=λm hm ob=>@IA.step p sts mv nx ⟨r,n1,ks,xZ⟩ hI hrl m hm (by show 2<=n1; omega) ob;simp only at hstep;have hnw:vl p sts mv r=mc p (jo (vN sts r)) (mv.map λm=>m.getD r 0):=rfl;have hLr:1<=(vN sts r).length/\(vN sts r).length<=100:=hL _ (xK (d:=[]) hrl);have hvr:∀ s ∈ vN sts r,s >>> F=0#64:=hval _ (xK (d:=[]) hrl);have hls:=hvr (jo (vN sts r)) (xK (by omega));have hgl:=vL (vN sts r) (show (vN sts r).length-1<_ by omega);have hwl:IntKind.i64.wrap ((vN sts r).length-1:Int)= (((vN sts r).length-1:Nat):Int):=by rw [wrap_i64 (by omega)]; omega
 have hSk:=vZ (p:=p) (sts:=sts) (mv:=mv) (r:=r);change (us (vN sts r)).getD _ [] = [.int .u64 (ui (jo (vN sts r)))] at hgl;generalize gW p sts mv r=sk at *;generalize ks.getD r 0=kr at *;generalize vN sts r=st at *;generalize jo st=s at *;have hmd:∀ m ∈ mv,m.getD r 0<p.xM.length:=λm hm=>hmv m hm _ (xK (by rw [hmR m hm]; exact hrl))
 have hnext:=OL hv sk hls (mv:=mv.map λm=>m.getD r 0) (by rw [δ]; omega) λk hk=>by simp only [γ] at hk;obtain⟨m,hm,rfl⟩:=hk;exact hmd m hm
 rw [<- hnw] at hnext;generalize vl p sts mv r=y at *;have hown:(mv.map λm=>m.getD r 0).length=mv.length:=δ _;have howg:∀ j,j<mv.length->(mv.map λm=>m.getD r 0).getD j 0=(mv.getD j []).getD r 0:=λj hj=>by simp [List.getD,hj]
 generalize (mv.map λm=>m.getD r 0)= own at *;simp only [simprocAttr,-ZA,↓zU,↓zD,zV,zT,zW,hd,hout,hnr,hgr,pQ]
 (repeat refine sd ?_)
 refine xO (λx:OP=>[(20,.int .i64 x.j),(19,.int .i64 mv.length),(13,.int .i64 r),(12,.int .i64 sts.length),(11,.yD 1 1 sts.length),(6,cR x.kW x.j),(5,.yD kr 1 st.length),(4,.int .i64 r),(1,.sl 1 (rl mv)),(0,.ref 0 6 0 0)]) (λx=>⟨x.m,x.ob⟩)
  (IO xZ n1 own) (λx=>mv.length-x.j) ⟨0,n1,0,xZ⟩ ⟨Al _,Ak _,λh=>absurd rfl h,λ_ _=>rfl⟩ ?_ ?_
 ·(refine xT.same ?_; simp [xR,Fr.get,cR])
 rintro ⟨j,m,kW,ob⟩ ⟨hj,hm,hkW,hold⟩;simp only at hj hm hkW hold;have g0:St.look ob 0=some ⟨6,[[.int .i64 p.F,.sl 1 (us p.init),.sl 1 (us p.xN),.sl 1 (qY p.xM),.sl 1 (qZ p.code),.yD 1 1 sts.length]]⟩:=by rw [hold 0 (by omega)]; exact h0
 have g1:St.look ob 1=some ⟨1,sP ks (sk.map us)⟩:=by rw [hold 1 (by omega)]; exact hout
 have g2:St.look ob kr=some ⟨1,us st⟩:=by rw [hold kr hkrn]; exact hkr
 refine xL mixed ?_;by_cases hjl:j<mv.length
 case pos=>
  have hd2:((j:Int)<(mv.length:Int)):=by omega
  have hgm:=su mv hjl;have hml:=hmR _ (xK (d:=[]) hjl);have hrm:((r:Int)<((mv.getD j []).length:Int)):=by omega
  have hge:=vI .i64 (mv.getD j []) (show r<_ by omega);rw [<- howg j hjl] at hge;have htk:=vW (d:=0) (show j<own.length by omega);generalize mv.getD j []=e at *;generalize own.getD j 0=z at *
  by_cases hj0:j=0
  ·subst hj0;have hd20:(0:Int)<(mv.length:Int):=by omega
   unfold cR;simp only [simprocAttr,-ZA,↓zU,↓zD,zV,zT,zW,hd20,pQ,hgm,hrm,zK,hge]
   (repeat refine sd ?_)
   refine⟨⟨0+1,m+1,m,(m,⟨1,[[.int .i64 z]]⟩) :: ob⟩,⟨by show 0+1<=_; omega,by show n1<=m+1; omega,λ_=>⟨hm,by show m<m+1; omega,?_⟩,λk hk=>by show St.look ((m,_) :: ob) k=_; rw [xX,if_neg (by omega)]; exact hold k hk⟩,?_,by show mv.length-(0+1)<_; omega⟩
   ·show St.look ((m,_) :: ob) m=_;rw [xX,if_pos rfl];show _=some (Ob.mk 1 (rows .i64 (own.take (0+1))));rw [htk]; rfl
   ·(refine xT.same ?_; simp only [xR,Fr.get,simprocAttr,-ZA,zS,Nat.zero_add,An])
    all_goals rfl
  ·obtain⟨w1,w2,w3⟩:=hkW hj0;have hol:(own.take j).length=j:=by rw [List.length_take]; omega
   unfold cR;rw [if_neg hj0];have q1:¬ (m=kW):=by omega
   have htt:(own.take j).take j=own.take j:=by rw [List.take_take,Nat.min_self]
   simp only [simprocAttr,-ZA,↓zU,↓zD,zV,zT,zW,hd2,pQ,hgm,hrm,zK,hge,w3,hol,htt]
   (repeat refine sd ?_)
   refine⟨⟨j+1,m+1,m,(m,⟨1,rows .i64 (own.take j ++ [z])⟩) :: zX ob kW⟩,⟨by show j+1<=_; omega,by show n1<=m+1; omega,λ_=>⟨hm,by show m<m+1; omega,?_⟩,λk hk=>by show St.look ((m,_) :: zX ob kW) k=_; rw [xX,if_neg (by omega),yX,if_neg (by omega)]; exact hold k hk⟩,?_,by show mv.length-(j+1)<_; omega⟩
   ·show St.look ((m,_) :: _) m=_;rw [xX,if_pos rfl];show _=some (Ob.mk 1 (rows .i64 (own.take (j+1))));rw [htk]
   ·simp only [Ap,↓reduceIte]
    (refine xT.same ?_; simp only [xR,Fr.get,simprocAttr,-ZA,zS])
    exact wrap_i64 (by omega)
 have hd2:¬ ((j:Int)<(mv.length:Int)):=by omega
 obtain rfl:j=mv.length:=by omega
 have hj0:mv.length≠0:=by omega
 obtain⟨w1,w2,w3⟩:=hkW hj0;unfold cR;rw [if_neg hj0];have how:own.take mv.length=own:=η (by omega);rw [how] at w3
 have hKP:YR p sk 0 1 ks ob:=⟨by show _=some (Mf p 1 sk.length); rw [g0,hSk]; rfl,⟨g1,hpl.zf.len,λi hi=>by
  have hik:i<ks.length:=by have:=hpl.zf.len; omega
  rw [hold _ (hlt _ (rV hik))]; exact hpl.zf.each i hi⟩,hpl.nd,hpl.ne,hpl.xs,hpl.ss⟩
 have hcall:xY prog 183 [.ref 0 6 0 0,.int .u64 (ui s),.yD kW 1 mv.length] ⟨m,ob⟩ (.int .u64 (ui y)) ⟨m,ob⟩:=
  xY.Js hnext ⟨hKP.seen (λh=>h) (λh=>h) λ_ _ h=>h,.pure rfl,Seen.rows w3 (λh=>h) (by decide) (by rw [zK]; omega) (λe he=>by simp only [rows,γ] at he;obtain⟨x,_,rfl⟩:=he;rfl) (qL _ _),trivial⟩ rfl
 have hlt2:(((st.length-1:Nat):Int)<(st.length:Int)):=by omega
 have hlt3:st.length-1<st.length:=by omega
 simp only [simprocAttr,-ZA,↓zU,↓zD,zV,zT,zW,hd2,↓SM]
 (refine VA mixed ?_; simp only [simprocAttr,-ZA,↓zU,↓zD,zV,zT,zW,↓Kp,↓Xu,↓iw,↓pg,g0,g1,g2,hwl,hgl,hlt2,hlt3,xH])
 (repeat refine sd ?_)
 refine wu.go hcall ?_;have e0:St.look (zX ob kr) 0=some ⟨6,[[.int .i64 p.F,.sl 1 (us p.init),.sl 1 (us p.xN),.sl 1 (qY p.xM),.sl 1 (qZ p.code),.yD 1 1 sts.length]]⟩:=by rw [yX,if_neg hkr0]; exact g0
 have e1:St.look (zX ob kr) 1=some ⟨1,sP ks (sk.map us)⟩:=by rw [yX,if_neg hkr1]; exact g1
 have q0:¬ (m=0):=by omega
 have q1:¬ (m=1):=by omega
 have q2:¬ (m=kr):=by omega
 have htk:(us st).take st.length=us st:=η (by rw [xH]; exact Ak _)
 (simp only [simprocAttr,-ZA,↓zU,↓zD,zV,zT,zW,↓Kp,↓Xu,↓iw,↓pg,g0,g1,g2,e0,e1,q0,q1,q2,xH,htk,hnr,hgr,hd,bt])
 (repeat refine sd ?_)
 refine⟨⟨r+1,m+1,ks.set r m,(m,⟨1,us (st ++ [y])⟩) :: zA (zX ob kr) 1 ⟨1,(sP ks (sk.map us)).set r [.yD m 1 (st.length+1)]⟩⟩,hstep m hm _ ?_ ?_ λk hk h1 h2=>?_,?_,by show sts.length-(r+1)<_; omega⟩
 ·rw [xX,if_neg q1,xU,if_pos rfl,e1]; rfl
 ·rw [xX,if_pos rfl]
 ·rw [xX,if_neg (by omega),xU,if_neg (λe=>h1 e.symm),yX,if_neg (λe=>h2 e.symm)];exact hold k hk
 ·(refine xT.same ?_; simp only [xR,Fr.get,simprocAttr,-ZA,zS])
  exact wrap_i64 (by omega)
open Rs Fm Ru Te Kb
namespace Kb
def yS (p:yF):Nat->List (List (BitVec 64))
 | 0=>bK p
 | n+1=>jH p (yS p n) (rC p (yS p n) n)
theorem NS {x:BitVec 64} {F:Nat}:x >>> F=0#64 ↔ ∀ i,F<=i->x.getLsbD i=false:=by
 constructor
 ·intro h i hi;have:=congrArg (λy:BitVec 64=>y.getLsbD (i-F)) h;simp only [Ay,Ax] at this
  rwa [show F+(i-F)= i by omega] at this
 ·intro h;refine BitVec.eq_of_getLsbD_eq λi _=>?_;rw [Ay,Ax];exact h _ (by omega)
theorem Pm {A F:Nat} {s0 out:BitVec 64} {a:gQ} (ho:out >>> F=0#64) (hf:a.fact.toNat<F):gS A s0 out a >>> F=0#64:=by
 rw [NS] at ho ⊢;intro i hi;unfold gS;rw [BitVec.getLsbD_or,BitVec.getLsbD_and,ho i hi,Bool.false_and,Au]
 split
 ·rw [BitVec.getLsbD_shiftLeft]
  by_cases h:i<64
  ·rw [show (1#64).getLsbD (i-a.fact.toNat)= false by
    have:i-a.fact.toNat≠0:=by omega
    simp [this]]
   simp
  ·simp [h]
 ·exact Ax
theorem Qu {p:yF} {F:Nat} (hv:zd p F) {s:BitVec 64} (hs:s >>> F=0#64) {mv:List Int} (hmv:∀ k ∈ mv,k<p.xM.length):mc p s mv >>> F=0#64:=by
 have key:∀ (l:List Int) (out:BitVec 64),(∀ k ∈ l,k<p.xM.length)->out >>> F=0#64->l.foldl (kM p s) out >>> F=0#64:=by
  intro l
  induction l with
  | nil=>intro out _ h; exact h
  | cons k r ih=>
   intro out hk h;refine ih _ (λk hk2=>hk k (by simp [hk2])) ?_;unfold kM
   split
   ·exact h
   ·have hkm:=hk k (by simp);have hm:=xK (l:=p.xM) (d:=[]) (k:=k.toNat) (by omega);generalize p.xM.getD k.toNat []=m at hm
    have:∀ (l:List gQ) (out:BitVec 64),(∀ a ∈ l,nV p a=0)->out >>> F=0#64->l.foldl (gS p.xN.length s) out >>> F=0#64:=by
     intro l
     induction l with
     | nil=>intro out _ h; exact h
     | cons a r ih2=> intro out ha h;have h1:=qc hv.fe (ha a (by simp));exact ih2 _ (λb hb=>ha b (by simp [hb])) (Pm h (by omega))
    exact this m out (hv.mv m hm) h
 exact key mv s hmv hs
theorem Xw {p:yF} {sts:List (List (BitVec 64))} {t a w:Nat}:∀ {l:List eC},(∀ c ∈ l,lE p c=0)->uN p.xN sts t a w l<p.xM.length /\ -1<=uN p.xN sts t a w l
 | [],_=>⟨by unfold uN; omega,by unfold uN; omega⟩
 | c :: r,h=>by
  unfold uN
  split
  ·have:=h c (by simp);unfold lE at this
   split at this
   ·rename_i h1; exact absurd this h1
   ·split at this
    ·cases this
    ·rename_i h2; omega
  ·exact Xw λd hd=>h d (by simp [hd])
theorem Ud (p:yF) (sts:List (List (BitVec 64))) (t:Nat):(rC p sts t).length=p.xN.length:=by simp [rC]
theorem iz {p:yF} {sts:List (List (BitVec 64))} {t:Nat}:∀ m ∈ rC p sts t,m.length=sts.length:=λm hm=>by simp only [rC,γ] at hm;obtain⟨a,_,rfl⟩:=hm;simp
theorem Xz {p:yF} {F:Nat} (hv:zd p F) {sts:List (List (BitVec 64))} {t:Nat}:∀ m ∈ rC p sts t,∀ k ∈ m,k<p.xM.length:=λm hm k hk=>by simp only [rC,γ,ε] at hm;obtain⟨a,ha,rfl⟩:=hm;simp only [γ] at hk;obtain⟨w,_,rfl⟩:=hk;exact(Xw λc hc=>hv.code _ (xK (d:=[]) (by rw [hv.hC]; exact ha)) c hc).1
structure YS (p : yF) (F : Nat) (sts : List (List (BitVec 64))) (n : Nat) : Prop where
 len:sts.length=p.init.length
 run:∀ st ∈ sts,st.length=n+1
 val:∀ st ∈ sts,∀ s ∈ st,s >>> F=0#64
theorem YS.Du {p:yF} {F:Nat} (hv:zd p F):YS p F (bK p) 0 where
 len:=by simp [bK]
 run:=λst hs=>by simp only [bK,γ] at hs;obtain⟨s,_,rfl⟩:=hs;rfl
 val:=λst hs s hs2=>by simp only [bK,γ] at hs;obtain⟨x,hx,rfl⟩:=hs;rw [ζ.1 hs2];exact hv.init x hx
theorem pO {sts:List (List (BitVec 64))} {i:Nat} (h:i<sts.length):vN sts i ∈ sts:=xK h
theorem YS.step {p:yF} {F:Nat} (hv:zd p F) {sts:List (List (BitVec 64))} {n:Nat} (h:YS p F sts n) {mv:List (List Int)} (hmR:∀ m ∈ mv,m.length=sts.length) (hmv:∀ m ∈ mv,∀ k ∈ m,k<p.xM.length):YS p F (jH p sts mv) (n+1) where
 len:=by rw [<- h.len]; simp [jH]
 run:=λst hs=>by simp only [jH,γ,ε] at hs;obtain⟨i,hi,rfl⟩:=hs;rw [ω,h.run _ (pO hi)];rfl
 val:=λst hs s hs2=>by
  simp only [jH,γ,ε] at hs;obtain⟨i,hi,rfl⟩:=hs;have hr:=h.run _ (pO hi)
  rcases ξ.1 hs2 with h1 | h1
  ·exact h.val _ (pO hi) s h1
  ·rw [ζ.1 h1];refine Qu hv (h.val _ (pO hi) _ (xK (by omega))) λk hk=>?_;simp only [γ] at hk;obtain⟨m,hm,rfl⟩:=hk;exact hmv m hm _ (xK (by rw [hmR m hm]; exact hi))
theorem YS.VK {p:yF} {F:Nat} (hv:zd p F) {sts:List (List (BitVec 64))} {n t:Nat} (h:YS p F sts n) (ht:t<=n) (hn:n<=1000):N8 p F sts t:=⟨hv.fe,hv.hF,hv.hA,by rw [h.len]; exact hv.hI,λst hs=>by rw [h.run st hs]; omega,by omega,h.val⟩
theorem iV {p:yF} {F:Nat} (hv:zd p F):∀ n,YS p F (yS p n) n
 | 0=>YS.Du hv
 | n+1=>YS.step hv (iV hv n) iz (Xz hv)
theorem oG {p:yF} {F:Nat} (hv:zd p F) (n:Nat):(yS p n).length=p.init.length:=(iV hv n).len
theorem YR.shift {p:yF} {sts:List (List (BitVec 64))} {kx kS c:Nat} {ks:List Nat} {xZ r:List (Nat × Ob)} (h:YR p sts kx kS ks xZ):YR p sts (c+kx) (c+kS) (ks.map (c + ·)) (zM c xZ++r) where
 hx:=by rw [qI,oA c h.hx]; rfl
 zf:=Go.Pd.kd.shift h.zf λe he r hr=>(WU e he r hr).2
 nd:=by have:=h.nd;unfold List.Nodup at this ⊢;rw [List.pairwise_map];exact this.imp λh e=>h (by omega)
 ne:=λe=>h.ne (by omega)
 xs:=λhk=>by simp only [γ] at hk;obtain⟨k,hk,e⟩:=hk;exact h.xs ((show k=kx by omega) ▸ hk)
 ss:=λhk=>by simp only [γ] at hk;obtain⟨k,hk,e⟩:=hk;exact h.ss ((show k=kS by omega) ▸ hk)
end Kb
theorem Xs {p:yF} {b nx:Nat} (hb:2<=b) {sts:List (List (BitVec 64))} {K:Nat->Prop} (hK:∀ k,¬ K k):Seen ⟨nx,dm p b sts⟩ K (.ref 0 6 0 0) (vr p sts):=(uu p hb sts).seen (hK 0) (hK 1) λk _=>hK k
theorem oz {mv:List (List Int)}:∀ e ∈ mv.map (rows .i64),∀ r ∈ e,r.length=1/\D.xP r=true:=λe he r hr=>by simp only [γ] at he;obtain⟨s,_,rfl⟩:=he;refine⟨?_,qL _ s r hr⟩;simp only [rows,γ] at hr;obtain⟨x,_,rfl⟩:=hr;rfl
theorem Qe {mv:List (List Int)}:∀ e ∈ mv.map (rows .i64),∀ r ∈ e,D.Wi r=true:=λe he r hr=>by simp only [γ] at he;obtain⟨s,_,rfl⟩:=he;simp only [rows,γ] at hr;obtain⟨x,_,rfl⟩:=hr;simp [D.Wi,D.fl]
theorem ZN {g:FuncId} {args args':List D} {mv:List (List Int)} {nx n:Nat} {ob:List (Nat × Ob)} (hn:n=mv.length) (hc:xY prog g args' gR (.yD 0 1 n) ⟨1+n,tt (mv.map (rows .i64))⟩) (hl:kF ⟨nx,ob⟩ (λ_=>False) args args') :
  xY prog g args ⟨nx,ob⟩ (.sl 1 (rl mv)) ⟨nx+(1+n),ob⟩:=by
 subst hn;refine xY.QO hc hl (by simp [D.fl]) (OQ Qe) ?_;have hN:=kd.shift (c:=nx) (r:=ob) (Qt (mv.map (rows .i64))) λe he r hr=>(oz e he r hr).2
 have:=kd.seen (nx:=nx+(1+mv.length)) (K:=λk=>k<nx) (n:=mv.length) hN (δ _).symm (by omega) (λk hk=>by simp only [γ] at hk;obtain⟨j,_,rfl⟩:=hk;omega) oz
 rw [Lo] at this;exact this
theorem R9 {p:yF} {F:Nat} (hv:zd p F) {n:Nat} (hn:n<=100):yW prog 69 [p.d,.int .i64 ((n+1:Nat):Int)] (vr p (yS p n)):=by
 have hB:=Pn hv;have hI:=hv.hI;have hA:=hv.hA;have hD:p.d = .agg [.int .i64 p.F,.sl 1 (us p.init),.sl 1 (us p.xN),.sl 1 (qY p.xM),.sl 1 (qZ p.code)]:=rfl;have hw:IntKind.i64.wrap (((n+1:Nat):Int)-1)= (n:Int):=by rw [wrap_i64 (by omega)]; omega
 have hB1:=xY.own (σ:=⟨1,[(0,⟨5,[p.cells]⟩)]⟩) hB (by simp [D.xP,D.xD,yF.d,yF.cells]);have hlen:=λt=>oG hv t;have hPS:=(uu p (Ak 2) (bK p)).shift (c:=1) (r:=[(0,⟨5,[p.cells]⟩)]);have hbl:(bK p).length=p.init.length:=by simp [bK]
 unfold yF.cells at hB1 hPS;rw [hD] at *;refine xY.xQ mixed func69 FC (by simp) λhf=>?_;simp only [simprocAttr,-ZA,↓zU,↓zD,zV,zT,zW]
 (repeat refine sd ?_)
 refine .go hB1 ?_;simp only [simprocAttr,-ZA,↓zU,↓zD,zV,zT,zW,hw]
 refine wH (λt:Nat=>[(11,.int .i64 t),(10,.int .i64 n),(5,.ref 0 6 0 0)]) (λt=>⟨2+(yS p t).length,dm p 2 (yS p t)⟩) (λt=>t<=n) (λt=>n-t) 0 (Al _) ?_ ?_
 ·refine xT.TN hPS (Ak _) (Al _) (λk hk=>absurd hk (Am _)) ?_;simp only [YO,vw,Fr.get,↓reduceIte,reduceIte,Nat.reduceEqDiff,D.shift,and_true,true_and];exact⟨rfl,by omega,rfl⟩
 intro t ht;refine xL mixed ?_;have hS:=iV hv t;have hl:=hlen t;by_cases htn:t<n
 case neg=>
  have hd:¬ ((t:Int)<(n:Int)):=by omega
  obtain rfl:t=n:=by omega
  simp only [simprocAttr,-ZA,↓zU,↓zD,zV,zT,zW,hd]
  refine .go [(5,vr p (yS p t))] ⟨2+(yS p t).length,[]⟩ ?_ ?_
  ·refine xT.deep (λ_=>False) trivial ⟨.inr ?_,trivial⟩;exact Xs (Ak 2) λ_ h=>h
  simp only [simprocAttr,-ZA,↓zU,↓zD,zV,zT,zW];exact .drop (by simp) (by simp [vw,vr])
 have hd:((t:Int)<(n:Int)):=by omega
 have h76:=v7 hv (hS.VK hv (Ak t) (by omega));have hpl:=Ud p (yS p t) t;have h76l:=ZN (nx:=2+(yS p t).length) (ob:=dm p 2 (yS p t)) (args:=[.ref 0 6 0 0,.int .i64 t]) hpl.symm h76 ⟨Xs (Ak 2) λ_ h=>h,.pure rfl,trivial⟩;have h121:=Wn hv (sts:=yS p t) (by rw [hl]; exact hI) (λst hs=>by rw [hS.run st hs]; omega) hS.val (mv:=rC p (yS p t) t) (by rw [hpl]; omega) iz (Xz hv) (nx:=2+(yS p t).length+(1+p.xN.length)) (by omega);have hnext:yS p (t+1)= jH p (yS p t) (rC p (yS p t) t):=rfl;have hsl:(jH p (yS p t) (rC p (yS p t) t)).length=(yS p t).length:=by simp [jH]
 have hPI:=uu p (b:=2+(yS p t).length+(1+p.xN.length)) (by omega) (jH p (yS p t) (rC p (yS p t) t));simp only [simprocAttr,-ZA,↓zU,↓zD,zV,zT,zW,hd];refine .go h76l ?_;simp only [simprocAttr,-ZA,↓zU,↓zD,zV,zT,zW];refine .go h121 ?_;simp only [simprocAttr,-ZA,↓zU,↓zD,zV,zT,zW];refine⟨t+1,by omega,?_,by omega⟩;rw [hnext];refine xT.TN hPI (Ak _) (Al _) (λk hk=>absurd hk (Am _)) ?_;simp only [YO,vw,Fr.get,↓reduceIte,reduceIte,Nat.reduceEqDiff,and_true,true_and];exact⟨by rw [wrap_i64 (by omega)]; rfl,by omega,rfl⟩
open Rs Fm Ru Te Kb
namespace Kb
def lC (xN:List (BitVec 64)) (sts:List (List (BitVec 64))) (a:Nat) (q:Nat × Nat):List Int:=(tN xN (vN sts q.1) a q.2).map ui
def p3 (xN:List (BitVec 64)) (sts:List (List (BitVec 64))) (T a:Nat):List (List Int):=dedup (cO ((qF T (sts.length*T)).map (lC xN sts a)))
theorem WG : pI [] = []:=rfl
end Kb
theorem zI {k:Nat} (h:k<=1000000000):IntKind.i64.wrap ((k:Int)+ 1)= ((k+1:Nat):Int):=by rw [wrap_i64 (by omega)]; rfl
theorem Yg {p:yF} {sts:List (List (BitVec 64))} {a T:Nat} (ha:a<p.xN.length) (hT:1<=T/\T<=16) (hR:1<=sts.length/\sts.length<=16) (hl:∀ st ∈ sts,T<=st.length) :
  yW prog 73 [vr p sts,.int .i64 a,.int .i64 (T-1:Int)] (.sl 1 (pI (p3 p.xN sts T a))):=by
 have hh:∀ r t,r<sts.length->t<T->yW prog 75 [vr p sts,.int .i64 a,.int .i64 r,.int .i64 t] (.sl 1 (rows .u64 (lC p.xN sts a (r,t)))):=λr t hr ht=>by have:=yj (zt p ha hr (show t<(sts.getD r []).length by have:=hl _ (xK (d:=[]) hr); omega) (by omega));rw [vc] at this;exact this
 have hne:1<=sts.length*T:=Nat.mul_le_mul hR.1 hT.1;have hle:sts.length*T<=16*16:=Nat.mul_le_mul hR.2 hT.2;have hw0:IntKind.i64.wrap (((T:Int)-1)+ 1)= (T:Int):=by rw [wrap_i64 (by omega)]; omega
 unfold p3;generalize lC p.xN sts a=kf at *;have hlen:((qF T (sts.length*T)).map kf).length=sts.length*T:=by rw [δ,tA]
 unfold vr Pb at *;refine xY.xQ mixed func73 FE (by simp) λhf=>?_;simp only [simprocAttr,-ZA,↓zU,↓zD,zV,zT,zW,wO]
 refine xO (λr:Nat=>[(15,.int .i64 r),(14,.int .i64 sts.length),(7,xA 0 1 (pI ((qF T (r*T)).map kf))),(2,.int .i64 (T-1:Int)),(1,.int .i64 a),(0,.ptr [.int .i64 p.F,.sl 1 (us p.init),.sl 1 (us p.xN),.sl 1 (qY p.xM),.sl 1 (qZ p.code),.sl 1 (rr sts)])])
  (λr=>⟨1,yV 0 1 (pI ((qF T (r*T)).map kf))⟩) (λr=>r<=sts.length) (λr=>sts.length-r) 0 (Al _) ?_ ?_
 ·(refine xT.sZ [] [] (by simp) (by simp) (by decide) ?_; simp only [yT,zQ,simprocAttr,-ZA,exists_eq_left',ne_eq,zR,qF,Nat.zero_mul,List.range_zero,List.map_nil,WG,vU,vV])
 intro r hr;refine xL mixed ?_;by_cases hrl:r<sts.length
 case neg=>
  have hd:¬ ((r:Int)<(sts.length:Int)):=by omega
  obtain rfl:r=sts.length:=by omega
  generalize (qF T (sts.length*T)).map kf=l at *;have hln:l ≠ []:=λc=>by rw [c] at hlen; simp at hlen; omega
  have hln2:pI l ≠ []:=λc=>hln (by simpa [pI] using c);rw [mN hln2,qm hln2,tB];have hs:=Yr (σ:=⟨1,[(0,⟨1,pI l⟩)]⟩) (key:=0) (l:=l) rfl hln (by omega);have hal:(cO l).length=l.length:=(eF l).length_eq;have hc:=Z1 (σ:=⟨1,[(0,⟨1,pI (cO l)⟩)]⟩) (key:=0) (l:=cO l) rfl (by omega) (λc=>by rw [c] at hal; simp at hal; omega);rw [hal] at hc;simp only [simprocAttr,-ZA,↓zU,↓zD,zV,zT,zW,hd];refine .go hs ?_;simp only [simprocAttr,-ZA,↓zU,↓zD,zV,zT,zW];refine .go hc ?_;simp only [simprocAttr,-ZA,↓zU,↓zD,zV,zT,zW];exact .drop (by simp) (ku (by decide) (rh _) (by unfold YD; rw [ω,tB]; omega) (by unfold YD; rw [List.take_left' (tB _)]))
 have hd:((r:Int)<(sts.length:Int)):=by omega
 simp only [simprocAttr,-ZA,↓zU,↓zD,zV,zT,zW,hd,hw0]
 refine xO (λt:Nat=>[(20,.int .i64 t),(19,.int .i64 T),(15,.int .i64 r),(14,.int .i64 sts.length),(8,.int .i64 r),(7,xA 0 1 (pI ((qF T (r*T+t)).map kf))),(2,.int .i64 (T-1:Int)),(1,.int .i64 a),(0,.ptr [.int .i64 p.F,.sl 1 (us p.init),.sl 1 (us p.xN),.sl 1 (qY p.xM),.sl 1 (qZ p.code),.sl 1 (rr sts)])])
  (λt=>⟨1,yV 0 1 (pI ((qF T (r*T+t)).map kf))⟩) (λt=>t<=T) (λt=>T-t) 0 (Al _) ?_ ?_
 ·(refine xT.same ?_; simp only [xR,Fr.get,simprocAttr,-ZA,zS,Ao])
  all_goals rfl
 intro t ht;refine xL mixed ?_;by_cases htl:t<T
 case neg=>
  have hd2:¬ ((t:Int)<(T:Int)):=by omega
  obtain rfl:t=T:=by omega
  simp only [simprocAttr,-ZA,↓zU,↓zD,zV,zT,zW,hd2];refine⟨r+1,by omega,?_,by omega⟩;rw [show (r+1)* t=r*t+t by rw [Nat.succ_mul]]
  (refine xT.same ?_; simp only [xR,Fr.get,simprocAttr,-ZA,zS])
  exact zI (by omega)
 have hd2:((t:Int)<(T:Int)):=by omega
 have hs:(qF T (r*T+(t+1))).map kf=(qF T (r*T+t)).map kf ++ [kf (r,t)]:=by rw [Xy T r t htl,χ]; rfl
 have hlk:((qF T (r*T+t)).map kf).length=r*T+t:=by rw [δ,tA]
 have hle2:r*T+t<=16*16:=by have:=Nat.mul_le_mul_right T (show r+1<=sts.length from hrl);rw [Nat.succ_mul] at this;omega
 have h75:=hh r t hrl htl;generalize (qF T (r*T+t)).map kf=l at *;generalize kf (r,t)= x at *;simp only [simprocAttr,-ZA,↓zU,↓zD,zV,zT,zW,hd2];refine .go (cr h75) ?_;simp only [simprocAttr,-ZA,↓zU,↓zD,zV,zT,zW,tB,hlk]
 (repeat refine sd ?_)
 refine⟨t+1,by omega,?_,by omega⟩;rw [hs]
 (refine xT.sZ [(0,1)] [0] (by simp) (by simp) (by decide) ?_; simp only [yT,zQ,simprocAttr,-ZA,exists_eq_left',ne_eq,zR,RN,Uf])
 exact zI (by omega)
open Rs Fm Ru Te Kb
namespace Kb
def jE (A:Nat) (s:BitVec 64) (f:List Nd) (i:Nat):Bool:=(yB (vP A s) A 1 f f.length).getD i (λ_=>false) (0,0)
def ue (φ:Nat->Bool) (n k:Nat):List (List D):=(List.range n).map λi=>[.bool (if i<k then φ i else false)]
section
variable {φ : Nat -> Bool} {n k : Nat}
theorem nP : (ue φ n k).length=n:=by simp [ue]
theorem oQ {i:Nat} (hi:i<n) (hk:i<k):(ue φ n k).getD i [] = [.bool (φ i)]:=by simp [ue,List.getD,hi,hk]
theorem Po : ∀ e ∈ ue φ n k,D.xP e=true:=λe he=>by simp only [ue,γ] at he;obtain⟨i,_,rfl⟩:=he;rfl
theorem qK : tK (ue φ n k):=Po
theorem Pp : List.replicate n [D.bool false]=ue φ n 0:=by refine θ (by simp [ue]) λi h1 h2=>?_;simp [ue]
theorem NU {b:Bool} (h:b=φ k):(ue φ n k).set k [.bool b]=ue φ n (k+1):=by
 refine θ (by simp [ue]) λi h1 h2=>?_;simp only [ue,μ,Ac,Aa]
 by_cases e:k=i
 ·subst e;rw [if_pos rfl,if_pos (by omega),h]
 ·rw [if_neg e]
  by_cases e2:i<k
  ·rw [if_pos e2,if_pos (by omega)]
  ·rw [if_neg e2,if_neg (by omega)]
end
theorem Mz {op:Int} (h:(xW op).1.fr.toNat=0) (h2:(xW op).2=true):op=1\/op=2\/op=3\/op=4\/op=5\/op=6\/op=7\/op=8:=by
 rcases sU op with rfl | rfl | rfl | rfl | rfl | rfl | rfl | rfl | rfl | rfl | rfl | rfl | rfl | rfl | rfl | rfl | rfl | rfl | rfl | rfl | rfl | h3 | h3
 rotate_right 2
 ·rw [vY (.inl h3)] at h2; cases h2
 ·rw [vY (.inr h3)] at h2; cases h2
 all_goals first | omega | (exact absurd h (by decide))
theorem OM {A:Nat} {s:BitVec 64} {f:List Nd} (hv:wP f) {k:Nat} (hk:k<f.length) {p:Nd} (hp:f.getD k wK=p) (h8:p.op=1\/p.op=2\/p.op=3\/p.op=4\/p.op=5\/p.op=6\/p.op=7\/p.op=8) :
  jE A s f k=cY (vP A s) p (λ_=>jE A s f p.x.toNat) (λ_=>jE A s f p.y.toNat) (0,0):=by
 obtain⟨ox,oy,_,_⟩:=uQ (hv k hk)
 have hn:jE A s f k=zL (vP A s) A 1 p ((yB (vP A s) A 1 f k).getD p.x.toNat λ_=>false) ((yB (vP A s) A 1 f k).getD p.y.toNat λ_=>false) (0,0):=by show (yB (vP A s) A 1 f f.length).getD k (λ_=>false) (0,0)= _;rw [jh hk,hp]
 rw [hp] at ox oy
 have tV:∀ j,j<k->(yB (vP A s) A 1 f k).getD j (λ_=>false) (0,0)= jE A s f j:=λj hj=>by obtain⟨m,hm⟩:=Nat.exists_eq_add_of_le (show k<=f.length by omega);unfold jE;rw [hm,jQ m hj]
 rw [hn];obtain⟨op,i,e,g,x,y⟩:=p;simp only at ox oy h8 ⊢
 rcases h8 with rfl | rfl | rfl | rfl | rfl | rfl | rfl | rfl
 ·rfl
 ·rfl
 ·rfl
 ·show (!(yB (vP A s) A 1 f k).getD x.toNat (λ_=>false) (0,0))= !jE A s f x.toNat;rw [tV _ (ox rfl).2]
 ·show ((yB (vP A s) A 1 f k).getD x.toNat (λ_=>false) (0,0)&& (yB (vP A s) A 1 f k).getD y.toNat (λ_=>false) (0,0))= (jE A s f x.toNat&&jE A s f y.toNat);rw [tV _ (ox rfl).2,tV _ (oy rfl).2]
 ·show ((yB (vP A s) A 1 f k).getD x.toNat (λ_=>false) (0,0) || (yB (vP A s) A 1 f k).getD y.toNat (λ_=>false) (0,0))= (jE A s f x.toNat || jE A s f y.toNat);rw [tV _ (ox rfl).2,tV _ (oy rfl).2]
 ·show (!(yB (vP A s) A 1 f k).getD x.toNat (λ_=>false) (0,0) || (yB (vP A s) A 1 f k).getD y.toNat (λ_=>false) (0,0))= (!jE A s f x.toNat || jE A s f y.toNat);rw [tV _ (ox rfl).2,tV _ (oy rfl).2]
 ·show ((yB (vP A s) A 1 f k).getD x.toNat (λ_=>false) (0,0)== (yB (vP A s) A 1 f k).getD y.toNat (λ_=>false) (0,0))= (jE A s f x.toNat==jE A s f y.toNat);rw [tV _ (ox rfl).2,tV _ (oy rfl).2]
theorem P8 : ∀ v:Fin 16,∀ i:Fin 8,(tS .and .i64 (mg .i64 (v.val:Int) (i.val:Int)) 1==1)= (BitVec.ofNat 64 v.val).getLsbD i.val:=by decide +kernel
end Kb
theorem QD {f:List Nd} (hv:wP f) (hne:0<f.length) (hl:f.length<=200) (hfr:∀ p ∈ f,sN p=0) {v:Nat} (hv16:v<16) (A:Nat) :
  yW prog 170 [.sl 6 (zG f),.int .i64 v] (.bool (jE A (BitVec.ofNat 64 v) f (f.length-1))):=by
 have hop:=λk (hk:k<f.length) (p:Nd) hp=>OM (A:=A) (s:=BitVec.ofNat 64 v) hv hk (p:=p) hp;have h0:(List.replicate f.length [D.bool false])= ue (jE A (BitVec.ofNat 64 v) f) f.length 0:=Pp;refine xY.xQ mixed func170 If (by simp) λhf=>?_;generalize hφ:jE A (BitVec.ofNat 64 v) f=φ at *;simp only [simprocAttr,-ZA,↓zU,↓zD,zV,zT,zW,xI,h0]
 (repeat refine sd ?_)
 refine xO (λk:Nat=>[(13,.int .i64 k),(12,.int .i64 f.length),(11,.sl 6 (zG f)),(5,.yD 0 1 f.length),(1,.int .i64 v)]) (λk=>⟨1,[(0,⟨1,ue φ f.length k⟩)]⟩)
  (λk=>k<=f.length) (λk=>f.length-k) 0 (Al _) ?_ ?_
 ·(refine xT.same ?_; simp [xR,Fr.get])
 intro k hk;refine xL mixed ?_;by_cases hkl:k<f.length
 case neg=>
  have hd:¬ ((k:Int)<(f.length:Int)):=by omega
  have hw:IntKind.i64.wrap ((f.length:Int)-1)= ((f.length-1:Nat):Int):=by rw [wrap_i64 (by omega)]; omega
  have hg:(ue φ f.length k).getD (f.length-1) [] = [.bool (φ (f.length-1))]:=oQ (by omega) (by omega);simp only [simprocAttr,-ZA,↓zU,↓zD,zV,zT,zW,hd,hw,nP,hg]
  (repeat refine sd ?_)
  exact .dv
 have hd:((k:Int)<(f.length:Int)):=by omega
 have hg:(zG f).getD k []=(f.getD k wK).row:=sX f hkl;have hpv:=hv k hkl;have hmem:f.getD k wK ∈ f:=xK hkl;have hfr:=hfr _ hmem;have hop:=hop k hkl;obtain⟨ox,oy,_,_⟩:=uQ hpv
 have hu2:(xW (f.getD k wK).op).2=true:=by rw [wN] at hpv;exact hpv.1
 have h8:=Mz hfr hu2;have hop:=hop _ rfl h8
 have hi7:(f.getD k wK).op=3->0<=(f.getD k wK).i/\(f.getD k wK).i<=7:=λe=>by rw [wN] at hpv;have h5:=hpv.2.2.2.2;rw [e] at h5;simp only [Ar] at h5;have h6:(true&&(decide ((f.getD k wK).i<0) || decide (7<(f.getD k wK).i)))= false:=h5.1.1.1.1;simp only [As,Ar,decide_eq_false_iff_not] at h6;omega
 have hself:(ue φ f.length k).getD k [] = [.bool false]:=by simp [ue,List.getD,hkl]
 have hset:∀ b,b=φ k->(ue φ f.length k).set k [.bool b]=ue φ f.length (k+1):=λb h=>NU h;generalize f.getD k wK=p at *;obtain⟨op,i,e,g,x,y⟩:=p;unfold Nd.row at hg;simp only at hg ox oy h8 hop hi7
 rcases h8 with rfl | rfl | rfl | rfl | rfl | rfl | rfl | rfl
 ·have hs:=hset true (by rw [hop]; rfl);simp only [simprocAttr,-ZA,↓zU,↓zD,zV,zT,zW,hd,xI,hg,nP,hself,hs]
  (repeat refine sd ?_)
  refine⟨k+1,by omega,?_,by omega⟩
  (refine xT.sZ [] [0] (by simp) (by simp) (by decide) ?_; simp only [yT,zQ,simprocAttr,-ZA,exists_eq_left',ne_eq,zR,qK,zI (show k<=1000000000 by omega)])
 ·have hs:=hset false (by rw [hop]; rfl)
  have hs2:ue φ f.length k=ue φ f.length (k+1):=by
   rw [<- hs];refine θ (by simp) λj h1 h2=>?_;rw [μ]
   split
   ·rename_i e;subst e;simpa [List.getD,h1] using hself
   ·rfl
  simp only [simprocAttr,-ZA,↓zU,↓zD,zV,zT,zW,hd,xI,hg,nP]
  (repeat refine sd ?_)
  refine⟨k+1,by omega,?_,by omega⟩;rw [hs2]
  (refine xT.sZ [] [0] (by simp) (by simp) (by decide) ?_; simp only [yT,zQ,simprocAttr,-ZA,exists_eq_left',ne_eq,zR,qK,zI (show k<=1000000000 by omega)])
 ·obtain⟨i0,i1⟩:=hi7 rfl;obtain⟨j,rfl⟩:∃ j:Nat,i=(j:Int):=⟨i.toNat,by omega⟩;have hb:=P8 ⟨v,hv16⟩ ⟨j,by omega⟩;have hs:=hset ((BitVec.ofNat 64 v).getLsbD j) (by rw [hop]; rfl);simp only at hb;simp only [simprocAttr,-ZA,↓zU,↓zD,zV,zT,zW,hd,xI,hg,nP,hb,hself,hs]
  (repeat refine sd ?_)
  refine⟨k+1,by omega,?_,by omega⟩
  (refine xT.sZ [] [0] (by simp) (by simp) (by decide) ?_; simp only [yT,zQ,simprocAttr,-ZA,exists_eq_left',ne_eq,zR,qK,zI (show k<=1000000000 by omega)])
 ·obtain⟨x0,x1⟩:=ox rfl;obtain⟨a,rfl⟩:∃ a:Nat,x=(a:Int):=⟨x.toNat,by omega⟩;rw [Aw] at x1;have hga:=oQ (φ:=φ) (n:=f.length) (k:=k) (show a<f.length by omega) x1;have hs:=hset (!φ a) (by rw [hop]; rfl);simp only [simprocAttr,-ZA,↓zU,↓zD,zV,zT,zW,hd,xI,hg,nP,hga,hself,hs]
  (repeat refine sd ?_)
  refine⟨k+1,by omega,?_,by omega⟩
  (refine xT.sZ [] [0] (by simp) (by simp) (by decide) ?_; simp only [yT,zQ,simprocAttr,-ZA,exists_eq_left',ne_eq,zR,qK,zI (show k<=1000000000 by omega)])
 ·obtain⟨x0,x1⟩:=ox rfl;obtain⟨a,rfl⟩:∃ a:Nat,x=(a:Int):=⟨x.toNat,by omega⟩;obtain⟨y0,y1⟩:=oy rfl;obtain⟨b,rfl⟩:∃ a:Nat,y=(a:Int):=⟨y.toNat,by omega⟩;rw [Aw] at x1 y1;have hga:=oQ (φ:=φ) (n:=f.length) (k:=k) (show a<f.length by omega) x1;have hgb:=oQ (φ:=φ) (n:=f.length) (k:=k) (show b<f.length by omega) y1;have hs:=hset (φ a&&φ b) (by rw [hop]; rfl);generalize φ b=vb at *;generalize φ a=va at *;cases va <;> simp only [As,Bool.false_and] at hs
  all_goals
   simp only [simprocAttr,-ZA,↓zU,↓zD,zV,zT,zW,hd,xI,hg,nP,hga,hgb,hself,hs]
   (repeat refine sd ?_)
   refine⟨k+1,by omega,?_,by omega⟩
   (refine xT.sZ [] [0] (by simp) (by simp) (by decide) ?_; simp only [yT,zQ,simprocAttr,-ZA,exists_eq_left',ne_eq,zR,qK,zI (show k<=1000000000 by omega)])
 ·obtain⟨x0,x1⟩:=ox rfl;obtain⟨a,rfl⟩:∃ a:Nat,x=(a:Int):=⟨x.toNat,by omega⟩;obtain⟨y0,y1⟩:=oy rfl;obtain⟨b,rfl⟩:∃ a:Nat,y=(a:Int):=⟨y.toNat,by omega⟩;rw [Aw] at x1 y1;have hga:=oQ (φ:=φ) (n:=f.length) (k:=k) (show a<f.length by omega) x1;have hgb:=oQ (φ:=φ) (n:=f.length) (k:=k) (show b<f.length by omega) y1;have hs:=hset (φ a || φ b) (by rw [hop]; rfl);generalize φ b=vb at *;generalize φ a=va at *;cases va <;> simp only [Bool.true_or,Au] at hs
  all_goals
   simp only [simprocAttr,-ZA,↓zU,↓zD,zV,zT,zW,hd,xI,hg,nP,hga,hgb,hself,hs]
   (repeat refine sd ?_)
   refine⟨k+1,by omega,?_,by omega⟩
   (refine xT.sZ [] [0] (by simp) (by simp) (by decide) ?_; simp only [yT,zQ,simprocAttr,-ZA,exists_eq_left',ne_eq,zR,qK,zI (show k<=1000000000 by omega)])
 ·obtain⟨x0,x1⟩:=ox rfl;obtain⟨a,rfl⟩:∃ a:Nat,x=(a:Int):=⟨x.toNat,by omega⟩;obtain⟨y0,y1⟩:=oy rfl;obtain⟨b,rfl⟩:∃ a:Nat,y=(a:Int):=⟨y.toNat,by omega⟩;rw [Aw] at x1 y1;have hga:=oQ (φ:=φ) (n:=f.length) (k:=k) (show a<f.length by omega) x1;have hgb:=oQ (φ:=φ) (n:=f.length) (k:=k) (show b<f.length by omega) y1;have hs:=hset (!φ a || φ b) (by rw [hop]; rfl);generalize φ b=vb at *;generalize φ a=va at *;cases va <;> simp only [Bool.not_true,Bool.not_false,Bool.true_or,Au] at hs
  all_goals
   simp only [simprocAttr,-ZA,↓zU,↓zD,zV,zT,zW,hd,xI,hg,nP,hga,hgb,hself,hs]
   (repeat refine sd ?_)
   refine⟨k+1,by omega,?_,by omega⟩
   (refine xT.sZ [] [0] (by simp) (by simp) (by decide) ?_; simp only [yT,zQ,simprocAttr,-ZA,exists_eq_left',ne_eq,zR,qK,zI (show k<=1000000000 by omega)])
 ·obtain⟨x0,x1⟩:=ox rfl;obtain⟨a,rfl⟩:∃ a:Nat,x=(a:Int):=⟨x.toNat,by omega⟩;obtain⟨y0,y1⟩:=oy rfl;obtain⟨b,rfl⟩:∃ a:Nat,y=(a:Int):=⟨y.toNat,by omega⟩;rw [Aw] at x1 y1;have hga:=oQ (φ:=φ) (n:=f.length) (k:=k) (show a<f.length by omega) x1;have hgb:=oQ (φ:=φ) (n:=f.length) (k:=k) (show b<f.length by omega) y1;have hs:=hset (φ a==φ b) (by rw [hop]; rfl);simp only [simprocAttr,-ZA,↓zU,↓zD,zV,zT,zW,hd,xI,hg,nP,hga,hgb,hself,hs]
  (repeat refine sd ?_)
  refine⟨k+1,by omega,?_,by omega⟩
  (refine xT.sZ [] [0] (by simp) (by simp) (by decide) ?_; simp only [yT,zQ,simprocAttr,-ZA,exists_eq_left',ne_eq,zR,qK,zI (show k<=1000000000 by omega)])
open Rs Fm Ru Te Kb
theorem S3 {F:Nat} (hF:F<=4):yW prog 169 [.int .i64 F] (.bool true):=by
 have h1:((0:Int)<=(F:Int)):=by omega
 have h2:((F:Int)<=4):=by omega
 refine xY.xQ mixed func169 Ie (by simp) λhf=>?_;simp only [simprocAttr,-ZA,↓zU,↓zD,zV,zT,zW,h1,h2];exact .dv
theorem UQ {p:yF} {f:List Nd} {F:Nat} (fe:p.F=(F:Int)) (hF:F<=4) (hE:ze p f 0=0):∃ M:BitVec 64,yW prog 106 [.sl 6 (zG f),.int .i64 F] (.wE [.int .u64 (ui M),.int .i64 0])/\
  ∀ v,v<2 ^ F->M.getLsbD v=uc p.xN.length f (BitVec.ofNat 64 v):=by
 obtain⟨h1,h2,h3⟩:=aU hE
 have hfr:zH f=0:=by
  have:∀ n:Fin 4096,(tS .andNot .i64 (n.val:Int) 0 != 0)= false->n.val=0:=by decide +kernel
  exact this ⟨zH f,oD f⟩ h2
 have hz:∀ q ∈ xE f,sN q=0:=rR.1 hfr;have hcl:(xE f).length<=200:=nS f _;have hcn:=oU h1
 have hfit:tU f 0 F=true:=by
  have ha:rO f=0:=rR.2 λq hq=>by
   obtain⟨i,hi,rfl⟩:=Ag hq;have hv:=mY f i hi;have hg:(xE f).getD i wK=(xE f)[i]:=by simp [List.getD,hi]
   have h0:=hz _ hq;rw [hg,wN] at hv;generalize (xE f)[i]=q at *;obtain⟨u2,_,_,h4,_⟩:=hv;have h8:=Mz h0 u2;obtain⟨op,i,e,g,x,y⟩:=q;simp only at h8 h4
   rcases h8 with rfl | rfl | rfl | rfl | rfl | rfl | rfl | rfl <;>
    (simp only [Ar] at h4
     have h5:(true&&decide (g≠0))= false:=h4.2;have:g=0:=by simpa using h5
     subst this;rfl)
  rw [fe] at h3;unfold tU at h3 ⊢;simp only [Bool.and_eq_true] at h3 ⊢;refine⟨⟨h3.1.1,?_⟩,h3.2⟩;rw [ha];rfl
 have h16:2 ^ F<=16:=by
  have:F=0\/F=1\/F=2\/F=3\/F=4:=by omega
  rcases this with rfl | rfl | rfl | rfl | rfl <;> decide
 have hsh:ua .i64 1 (F:Int)= ((2 ^ F:Nat):Int):=by
  have:F=0\/F=1\/F=2\/F=3\/F=4:=by omega
  rcases this with rfl | rfl | rfl | rfl | rfl <;> rfl
 have hH:=λv (hv:v<2 ^ F)=>QD (mY f) (by omega) hcl hz (v:=v) (by omega) p.xN.length
 have hT:∀ v,jE p.xN.length (BitVec.ofNat 64 v) (xE f) ((xE f).length-1)= uc p.xN.length f (BitVec.ofNat 64 v):=λv=>by unfold uc;rw [<- od h1];rfl
 have hC:=mM f;have hG:=ug f;have hI:=cd f 0 F;have hP:=eE f;have hV:=S3 hF;simp only [hT] at hH;rw [h1] at hC;rw [hfr] at hG;rw [hfit] at hI
 refine⟨sW 1 (2 ^ F) (λq=>uc p.xN.length f (BitVec.ofNat 64 q.1)),?_,λv hv=>?_⟩
 ·generalize xE f=c at *;generalize hφ:(λq:Nat × Nat=>uc p.xN.length f (BitVec.ofNat 64 q.1))= φ
  have hφv:∀ v,uc p.xN.length f (BitVec.ofNat 64 v)= φ (pt 1 v):=λv=>by rw [<- hφ];show _=uc p.xN.length f (BitVec.ofNat 64 (v / 1));rw [Nat.div_one]
  simp only [hφv] at hH;generalize 2 ^ F=W at *;refine xY.xQ mixed func106 Hl (by simp) λhf=>?_;simp only [simprocAttr,-ZA,↓zU,↓zD,zV,zT,zW];refine .go (cq hV) ?_;simp only [simprocAttr,-ZA,↓zU,↓zD,zV,zT,zW];refine .go (cq hC) ?_;simp only [simprocAttr,-ZA,↓zU,↓zD,zV,zT,zW];refine .go (cq hG) ?_;simp only [simprocAttr,-ZA,↓zU,↓zD,zV,zT,zW];refine .go (cq hI) ?_;simp only [simprocAttr,-ZA,↓zU,↓zD,zV,zT,zW];refine .go (cq hP) ?_;simp only [simprocAttr,-ZA,↓zU,↓zD,zV,zT,zW,hsh]
  (repeat refine sd ?_)
  refine xO (λv:Nat=>[(28,.int .i64 v),(27,.int .i64 W),(7,.int .u64 (ui (sW 1 v φ))),(0,.sl 6 (zG c))]) (λ_=>⟨0,[]⟩)
   (λv=>v<=W) (λv=>W-v) 0 (Al _) ?_ ?_
  ·(refine xT.same ?_; simp [xR,Fr.get])
   rfl
  intro v hv;refine xL mixed ?_;by_cases hvl:v<W
  case neg=>
   have hd:¬ ((v:Int)<(W:Int)):=by omega
   obtain rfl:v=W:=by omega
   simp only [simprocAttr,-ZA,↓zU,↓zD,zV,zT,zW,hd];exact .drop (by simp) (by simp [vw,uR])
  have hd:((v:Int)<(W:Int)):=by omega
  have hH:=hH v hvl;have hm:sW 1 (v+1) φ=sW 1 v φ ||| (if φ (pt 1 v)= true then 1#64 <<< v else 0#64):=rfl;simp only [simprocAttr,-ZA,↓zU,↓zD,zV,zT,zW,hd];refine .go (cq hH) ?_
  cases hb:φ (pt 1 v) with
  | true=>
   rw [hb,if_pos rfl] at hm;simp only [simprocAttr,-ZA,↓zU,↓zD,zV,zT,zW]
   (repeat refine sd ?_)
   refine⟨v+1,hvl,?_,by omega⟩;rw [hm]
   (refine xT.same ?_; simp only [xR,Fr.get,simprocAttr,-ZA,zS])
   exact zI (by omega)
  | false=>
   rw [hb,if_neg (by decide),BitVec.or_zero] at hm;simp only [simprocAttr,-ZA,↓zU,↓zD,zV,zT,zW];refine⟨v+1,hvl,?_,by omega⟩;rw [hm]
   (refine xT.same ?_; simp only [xR,Fr.get,simprocAttr,-ZA,zS])
   exact zI (by omega)
 ·rw [yI (by omega),decide_eq_true hv,As];show uc p.xN.length f (BitVec.ofNat 64 (v / 1))= _;rw [Nat.div_one]
end Go.Pd
