/- Part LA. -/
import Derived.Test.YtndfaefmmcoapaaGreatKaKZ
import Derived.Test.YtndfaefmmcoapaaGreatKaKR
set_option linter.unusedSectionVars false
set_option linter.unusedVariables false
set_option linter.unusedSimpArgs false
set_option linter.defProp false
set_option maxRecDepth 20000
set_option maxHeartbeats 1000000
namespace Go.Pd
open Go Go.Proofs
open Int renaming reduceToNat -> ZA, reduceLT -> ZB, reduceLE -> ZC, reduceBEq -> ZD, reduceBNe -> ZE
open Nat renaming reduceEqDiff -> ZF, reduceAdd -> ZG, reduceBEq -> ZH, reduceLT -> ZI, reduceLeDiff -> ZJ, reduceMul -> ZK
open Rs Fm Ru Te Kb
namespace Kb
def wB (p:PrA):Nat->List (List (BitVec 64))
 | 0=>cH p
 | n+1=>lJ p (wB p n) (wC p (wB p n) n)
theorem aFm {x:BitVec 64} {F:Nat}:x >>> F=0#64 ↔ ∀ i,F<=i->x.getLsbD i=false:=by
 constructor
 ·intro h i hi;have:=congrArg (fun y:BitVec 64=>y.getLsbD (i-F)) h;simp only [BitVec.getLsbD_ushiftRight,BitVec.getLsbD_zero] at this
  rwa [show F+(i-F)= i by omega] at this
 ·intro h;refine BitVec.eq_of_getLsbD_eq fun i _=>?_;rw [BitVec.getLsbD_ushiftRight,BitVec.getLsbD_zero];exact h _ (by omega)
theorem aJh {A F:Nat} {s0 out:BitVec 64} {a:AsA} (ho:out >>> F=0#64) (hf:a.fact.toNat<F):aRg A s0 out a >>> F=0#64:=by
 rw [aFm] at ho ⊢;intro i hi;unfold aRg;rw [BitVec.getLsbD_or,BitVec.getLsbD_and,ho i hi,Bool.false_and,Bool.false_or]
 split
 ·rw [BitVec.getLsbD_shiftLeft]
  by_cases h:i<64
  ·rw [show (1#64).getLsbD (i-a.fact.toNat)= false by
    have:i-a.fact.toNat≠0:=by omega
    simp [this]]
   simp
  ·simp [h]
 ·exact BitVec.getLsbD_zero
theorem aL1 {p:PrA} {F:Nat} (hv:PrV p F) {s:BitVec 64} (hs:s >>> F=0#64) {mv:List Int} (hmv:∀ k ∈ mv,k<p.moves.length):aEu p s mv >>> F=0#64:=by
 have key:∀ (l:List Int) (out:BitVec 64),(∀ k ∈ l,k<p.moves.length)->out >>> F=0#64->l.foldl (aS8 p s) out >>> F=0#64:=by
  intro l
  induction l with
  | nil=>intro out _ h; exact h
  | cons k r ih=>
   intro out hk h;refine ih _ (fun k hk2=>hk k (by simp [hk2])) ?_;unfold aS8
   split
   ·exact h
   ·have hkm:=hk k (by simp);have hm:=xN (l:=p.moves) (d:=[]) (k:=k.toNat) (by omega);generalize p.moves.getD k.toNat []=m at hm
    have:∀ (l:List AsA) (out:BitVec 64),(∀ a ∈ l,asE p a=0)->out >>> F=0#64->l.foldl (aRg p.see.length s) out >>> F=0#64:=by
     intro l
     induction l with
     | nil=>intro out _ h; exact h
     | cons a r ih2=>
      intro out ha h;have h1:=aUn hv.fe (ha a (by simp));exact ih2 _ (fun b hb=>ha b (by simp [hb])) (aJh h (by omega))
    exact this m out (hv.mv m hm) h
 exact key mv s hmv hs
theorem aVc {p:PrA} {sts:List (List (BitVec 64))} {t a w:Nat}:∀ {l:List ClA},(∀ c ∈ l,clE p c=0)->uG p.see sts t a w l<p.moves.length /\ -1<=uG p.see sts t a w l
 | [],_=>⟨by unfold uG; omega,by unfold uG; omega⟩
 | c :: r,h=>by
  unfold uG
  split
  ·have:=h c (by simp);unfold clE at this
   split at this
   ·rename_i h1; exact absurd this h1
   ·split at this
    ·cases this
    ·rename_i h2; omega
  ·exact aVc fun d hd=>h d (by simp [hd])
theorem nT (p:PrA) (sts:List (List (BitVec 64))) (t:Nat):(wC p sts t).length=p.see.length:=by simp [wC]
theorem aW {p:PrA} {sts:List (List (BitVec 64))} {t:Nat}:∀ m ∈ wC p sts t,m.length=sts.length:=fun m hm=>by
 simp only [wC,List.mem_map] at hm;obtain⟨a,_,rfl⟩:=hm;simp
theorem aVb {p:PrA} {F:Nat} (hv:PrV p F) {sts:List (List (BitVec 64))} {t:Nat}:∀ m ∈ wC p sts t,∀ k ∈ m,k<p.moves.length:=fun m hm k hk=>by
 simp only [wC,List.mem_map,List.mem_range] at hm;obtain⟨a,ha,rfl⟩:=hm;simp only [List.mem_map] at hk;obtain⟨w,_,rfl⟩:=hk;exact(aVc fun c hc=>hv.code _ (xN (d:=[]) (by rw [hv.hC]; exact ha)) c hc).1
structure PlS (p : PrA) (F : Nat) (sts : List (List (BitVec 64))) (n : Nat) : Prop where
 len:sts.length=p.init.length
 run:∀ st ∈ sts,st.length=n+1
 val:∀ st ∈ sts,∀ s ∈ st,s >>> F=0#64
theorem PlS.beg {p:PrA} {F:Nat} (hv:PrV p F):PlS p F (cH p) 0 where
 len:=by simp [cH]
 run:=fun st hs=>by
  simp only [cH,List.mem_map] at hs;obtain⟨s,_,rfl⟩:=hs;rfl
 val:=fun st hs s hs2=>by
  simp only [cH,List.mem_map] at hs;obtain⟨x,hx,rfl⟩:=hs;rw [List.mem_singleton.1 hs2];exact hv.init x hx
theorem mR {sts:List (List (BitVec 64))} {i:Nat} (h:i<sts.length):stR sts i ∈ sts:=xN h
theorem PlS.step {p:PrA} {F:Nat} (hv:PrV p F) {sts:List (List (BitVec 64))} {n:Nat} (h:PlS p F sts n) {mv:List (List Int)} (hmR:∀ m ∈ mv,m.length=sts.length) (hmv:∀ m ∈ mv,∀ k ∈ m,k<p.moves.length):PlS p F (lJ p sts mv) (n+1) where
 len:=by rw [<- h.len]; simp [lJ]
 run:=fun st hs=>by
  simp only [lJ,List.mem_map,List.mem_range] at hs;obtain⟨i,hi,rfl⟩:=hs;rw [List.length_append,h.run _ (mR hi)];rfl
 val:=fun st hs s hs2=>by
  simp only [lJ,List.mem_map,List.mem_range] at hs;obtain⟨i,hi,rfl⟩:=hs;have hr:=h.run _ (mR hi)
  rcases List.mem_append.1 hs2 with h1 | h1
  ·exact h.val _ (mR hi) s h1
  ·rw [List.mem_singleton.1 h1];refine aL1 hv (h.val _ (mR hi) _ (xN (by omega))) fun k hk=>?_;simp only [List.mem_map] at hk;obtain⟨m,hm,rfl⟩:=hk;exact hmv m hm _ (xN (by rw [hmR m hm]; exact hi))
theorem PlS.good {p:PrA} {F:Nat} (hv:PrV p F) {sts:List (List (BitVec 64))} {n t:Nat} (h:PlS p F sts n) (ht:t<=n) (hn:n<=1000):PlG p F sts t:=
 ⟨hv.fe,hv.hF,hv.hA,by rw [h.len]; exact hv.hI,fun st hs=>by rw [h.run st hs]; omega,by omega,h.val⟩
theorem jW {p:PrA} {F:Nat} (hv:PrV p F):∀ n,PlS p F (wB p n) n
 | 0=>PlS.beg hv
 | n+1=>PlS.step hv (jW hv n) aW (aVb hv)
theorem aLr {p:PrA} {F:Nat} (hv:PrV p F) (n:Nat):(wB p n).length=p.init.length:=(jW hv n).len
theorem PlI.shift {p:PrA} {sts:List (List (BitVec 64))} {kx kS c:Nat} {ks:List Nat} {objs r:List (Nat × Ob)} (h:PlI p sts kx kS ks objs):PlI p sts (c+kx) (c+kS) (ks.map (c + ·)) (yZ c objs++r) where
 hx:=by rw [vH,rX c h.hx]; rfl
 nst:=Go.Pd.Nst.shift h.nst fun e he r hr=>(aR6 e he r hr).2
 nd:=by
  have:=h.nd;unfold List.Nodup at this ⊢;rw [List.pairwise_map];exact this.imp fun h e=>h (by omega)
 ne:=fun e=>h.ne (by omega)
 xs:=fun hk=>by
  simp only [List.mem_map] at hk;obtain⟨k,hk,e⟩:=hk;exact h.xs ((show k=kx by omega) ▸ hk)
 ss:=fun hk=>by
  simp only [List.mem_map] at hk;obtain⟨k,hk,e⟩:=hk;exact h.ss ((show k=kS by omega) ▸ hk)
end Kb
theorem kV {p:PrA} {b nx:Nat} (hb:2<=b) {sts:List (List (BitVec 64))} {K:Nat->Prop} (hK:∀ k,¬ K k):Seen ⟨nx,plL p b sts⟩ K (.ref 0 6 0 0) (plD p sts):=(mP p hb sts).seen (hK 0) (hK 1) fun k _=>hK k
theorem uI {mv:List (List Int)}:∀ e ∈ mv.map (rows .i64),∀ r ∈ e,r.length=1/\D.isPureL r=true:=fun e he r hr=>by
 simp only [List.mem_map] at he;obtain⟨s,_,rfl⟩:=he;refine⟨?_,uY _ s r hr⟩;simp only [rows,List.mem_map] at hr;obtain⟨x,_,rfl⟩:=hr;rfl
theorem aVl {mv:List (List Int)}:∀ e ∈ mv.map (rows .i64),∀ r ∈ e,D.flL r=true:=fun e he r hr=>by
 simp only [List.mem_map] at he;obtain⟨s,_,rfl⟩:=he;simp only [rows,List.mem_map] at hr;obtain⟨x,_,rfl⟩:=hr;simp [D.flL,D.fl]
theorem aT1 {g:FuncId} {args args':List D} {mv:List (List Int)} {nx n:Nat} {ob:List (Nat × Ob)} (hn:n=mv.length) (hc:xX Tryz.prog g args' St0 (.osl 0 1 n) ⟨1+n,aUv (mv.map (rows .i64))⟩) (hl:oO ⟨nx,ob⟩ (fun _=>False) args args') :
  xX Tryz.prog g args ⟨nx,ob⟩ (.sl 1 (rl mv)) ⟨nx+(1+n),ob⟩:=by
 subst hn;refine xX.lentDeep hc hl (by simp [D.fl]) (aQf aVl) ?_;have hN:=Nst.shift (c:=nx) (r:=ob) (dN (mv.map (rows .i64))) fun e he r hr=>(uI e he r hr).2
 have:=Nst.seen (nx:=nx+(1+mv.length)) (K:=fun k=>k<nx) (n:=mv.length) hN (List.length_map _).symm (by omega) (fun k hk=>by
  simp only [List.mem_map] at hk;obtain⟨j,_,rfl⟩:=hk;omega) uI
 rw [aRv] at this;exact this
theorem aVf {p:PrA} {F:Nat} (hv:PrV p F) {n:Nat} (hn:n<=100):yX Tryz.prog 69 [p.d,.int .i64 ((n+1:Nat):Int)] (plD p (wB p n)):=by
 have hB:=aUj hv;have hI:=hv.hI;have hA:=hv.hA;have hD:p.d = .agg [.int .i64 p.F,.sl 1 (us p.init),.sl 1 (us p.see),.sl 1 (mvR p.moves),.sl 1 (cdR p.code)]:=rfl;have hw:IntKind.i64.wrap (((n+1:Nat):Int)-1)= (n:Int):=by rw [wrap_i64 (by omega)]; omega
 have hB1:=xX.own (σ:=⟨1,[(0,⟨5,[p.cells]⟩)]⟩) hB (by simp [D.isPureL,D.isPure,PrA.d,PrA.cells]);have hlen:=fun t=>aLr hv t;have hPS:=(mP p (Nat.le_refl 2) (cH p)).shift (c:=1) (r:=[(0,⟨5,[p.cells]⟩)]);have hbl:(cH p).length=p.init.length:=by simp [cH]
 unfold PrA.cells at hB1 hPS;rw [hD] at *;refine xX.go_fn mixed Tryz.func69 k69 (by simp) fun hf=>?_;simp only [ZA,ZB,ZC,ZD,ZE,↓reduceIte,ZF,ZG,ZH,ZI,ZJ,reduceCtorEq,ZK,↓zU,↓zD,zV,zT,zW]
 (repeat refine sd ?_)
 refine .go hB1 ?_;simp only [ZA,ZB,ZC,ZD,ZE,↓reduceIte,ZF,ZG,ZH,ZI,ZJ,reduceCtorEq,ZK,↓zU,↓zD,zV,zT,zW,hw]
 refine tX (fun t:Nat=>[(11,.int .i64 t),(10,.int .i64 n),(5,.ref 0 6 0 0)]) (fun t=>⟨2+(wB p t).length,plL p 2 (wB p t)⟩) (fun t=>t<=n) (fun t=>n-t) 0 (Nat.zero_le _) ?_ ?_
 ·refine xM.play hPS (Nat.le_refl _) (Nat.zero_le _) (fun k hk=>absurd hk (Nat.not_lt_zero _)) ?_;simp only [vwF,vw,Fr.get,↓reduceIte,reduceIte,Nat.reduceEqDiff,D.shift,and_true,true_and];exact⟨rfl,by omega,rfl⟩
 intro t ht;refine xQ mixed ?_;have hS:=jW hv t;have hl:=hlen t;by_cases htn:t<n
 case neg=>
  have hd:¬ ((t:Int)<(n:Int)):=by omega
  obtain rfl:t=n:=by omega
  simp only [ZA,ZB,ZC,ZD,ZE,↓reduceIte,ZF,ZG,ZH,ZI,ZJ,reduceCtorEq,ZK,↓zU,↓zD,zV,zT,zW,hd]
  refine .go [(5,plD p (wB p t))] ⟨2+(wB p t).length,[]⟩ ?_ ?_
  ·refine xM.deep (fun _=>False) trivial ⟨.inr ?_,trivial⟩;exact kV (Nat.le_refl 2) fun _ h=>h
  simp only [ZA,ZB,ZC,ZD,ZE,↓reduceIte,ZF,ZG,ZH,ZI,ZJ,reduceCtorEq,ZK,↓zU,↓zD,zV,zT,zW];exact .drop (by simp) (by simp [vw,plD])
 have hd:((t:Int)<(n:Int)):=by omega
 have h76:=lN hv (hS.good hv (Nat.le_refl t) (by omega));have hpl:=nT p (wB p t) t;have h76l:=aT1 (nx:=2+(wB p t).length) (ob:=plL p 2 (wB p t)) (args:=[.ref 0 6 0 0,.int .i64 t]) hpl.symm h76 ⟨kV (Nat.le_refl 2) fun _ h=>h,.pure rfl,trivial⟩;have h121:=eT hv (sts:=wB p t) (by rw [hl]; exact hI) (fun st hs=>by rw [hS.run st hs]; omega) hS.val (mv:=wC p (wB p t) t) (by rw [hpl]; omega) aW (aVb hv) (nx:=2+(wB p t).length+(1+p.see.length)) (by omega);have hnext:wB p (t+1)= lJ p (wB p t) (wC p (wB p t) t):=rfl;have hsl:(lJ p (wB p t) (wC p (wB p t) t)).length=(wB p t).length:=by simp [lJ]
 have hPI:=mP p (b:=2+(wB p t).length+(1+p.see.length)) (by omega) (lJ p (wB p t) (wC p (wB p t) t));simp only [ZA,ZB,ZC,ZD,ZE,↓reduceIte,ZF,ZG,ZH,ZI,ZJ,reduceCtorEq,ZK,↓zU,↓zD,zV,zT,zW,hd];refine .go h76l ?_;simp only [ZA,ZB,ZC,ZD,ZE,↓reduceIte,ZF,ZG,ZH,ZI,ZJ,reduceCtorEq,ZK,↓zU,↓zD,zV,zT,zW];refine .go h121 ?_;simp only [ZA,ZB,ZC,ZD,ZE,↓reduceIte,ZF,ZG,ZH,ZI,ZJ,reduceCtorEq,ZK,↓zU,↓zD,zV,zT,zW];refine⟨t+1,by omega,?_,by omega⟩;rw [hnext];refine xM.play hPI (Nat.le_refl _) (Nat.zero_le _) (fun k hk=>absurd hk (Nat.not_lt_zero _)) ?_;simp only [vwF,vw,Fr.get,↓reduceIte,reduceIte,Nat.reduceEqDiff,and_true,true_and];exact⟨by rw [wrap_i64 (by omega)]; rfl,by omega,rfl⟩
open Rs Fm Ru Te Kb
namespace Kb
def pQ (see:List (BitVec 64)) (sts:List (List (BitVec 64))) (a:Nat) (q:Nat × Nat):List Int:=(rV see (stR sts q.1) a q.2).map ui
def kG (see:List (BitVec 64)) (sts:List (List (BitVec 64))) (T a:Nat):List (List Int):=dedup (aYi ((ptN T (sts.length*T)).map (pQ see sts a)))
theorem aQa : rlu [] = []:=rfl
end Kb
theorem wQ {k:Nat} (h:k<=1000000000):IntKind.i64.wrap ((k:Int)+ 1)= ((k+1:Nat):Int):=by rw [wrap_i64 (by omega)]; rfl
theorem iF {p:PrA} {sts:List (List (BitVec 64))} {a T:Nat} (ha:a<p.see.length) (hT:1<=T/\T<=16) (hR:1<=sts.length/\sts.length<=16) (hl:∀ st ∈ sts,T<=st.length) :
  yX Tryz.prog 73 [plD p sts,.int .i64 a,.int .i64 (T-1:Int)] (.sl 1 (rlu (kG p.see sts T a))):=by
 have hh:∀ r t,r<sts.length->t<T->yX Tryz.prog 75 [plD p sts,.int .i64 a,.int .i64 r,.int .i64 t] (.sl 1 (rows .u64 (pQ p.see sts a (r,t)))):=fun r t hr ht=>by
  have:=rB (qZ p ha hr (show t<(sts.getD r []).length by have:=hl _ (xN (d:=[]) hr); omega) (by omega));rw [mS] at this;exact this
 have hne:1<=sts.length*T:=Nat.mul_le_mul hR.1 hT.1;have hle:sts.length*T<=16*16:=Nat.mul_le_mul hR.2 hT.2;have hw0:IntKind.i64.wrap (((T:Int)-1)+ 1)= (T:Int):=by rw [wrap_i64 (by omega)]; omega
 unfold kG;generalize pQ p.see sts a=kf at *;have hlen:((ptN T (sts.length*T)).map kf).length=sts.length*T:=by rw [List.length_map,sJ]
 unfold plD plC at *;refine xX.go_fn mixed Tryz.func73 k73 (by simp) fun hf=>?_;simp only [ZA,ZB,ZC,ZD,ZE,↓reduceIte,ZF,ZG,ZH,ZI,ZJ,reduceCtorEq,ZK,↓zU,↓zD,zV,zT,zW,yF]
 refine xV (fun r:Nat=>[(15,.int .i64 r),(14,.int .i64 sts.length),(7,xG 0 1 (rlu ((ptN T (r*T)).map kf))),(2,.int .i64 (T-1:Int)),(1,.int .i64 a),(0,.ptr [.int .i64 p.F,.sl 1 (us p.init),.sl 1 (us p.see),.sl 1 (mvR p.moves),.sl 1 (cdR p.code),.sl 1 (rr sts)])])
  (fun r=>⟨1,xE 0 1 (rlu ((ptN T (r*T)).map kf))⟩) (fun r=>r<=sts.length) (fun r=>sts.length-r) 0 (Nat.zero_le _) ?_ ?_
 ·(refine xM.ren [] [] (by simp) (by simp) (by decide) ?_; simp only [yP,vwL,vw,vwF,sw,St.get,St.look,Fr.get,↓reduceIte,reduceIte,Nat.reduceEqDiff,Nat.reduceAdd,Nat.reduceBEq,Nat.reduceLT,Nat.reduceLeDiff,exists_eq_left',ne_eq,reduceCtorEq,zR,ptN,Nat.zero_mul,List.range_zero,List.map_nil,aQa,zM,zN])
 intro r hr;refine xQ mixed ?_;by_cases hrl:r<sts.length
 case neg=>
  have hd:¬ ((r:Int)<(sts.length:Int)):=by omega
  obtain rfl:r=sts.length:=by omega
  generalize (ptN T (sts.length*T)).map kf=l at *;have hln:l ≠ []:=fun c=>by rw [c] at hlen; simp at hlen; omega
  have hln2:rlu l ≠ []:=fun c=>hln (by simpa [rlu] using c);rw [aV4 hln2,aV3 hln2,wI];have hs:=aZs (σ:=⟨1,[(0,⟨1,rlu l⟩)]⟩) (key:=0) (l:=l) rfl hln (by omega);have hal:(aYi l).length=l.length:=(qW l).length_eq;have hc:=aSp (σ:=⟨1,[(0,⟨1,rlu (aYi l)⟩)]⟩) (key:=0) (l:=aYi l) rfl (by omega) (fun c=>by rw [c] at hal; simp at hal; omega);rw [hal] at hc;simp only [ZA,ZB,ZC,ZD,ZE,↓reduceIte,ZF,ZG,ZH,ZI,ZJ,reduceCtorEq,ZK,↓zU,↓zD,zV,zT,zW,hd];refine .go hs ?_;simp only [ZA,ZB,ZC,ZD,ZE,↓reduceIte,ZF,ZG,ZH,ZI,ZJ,reduceCtorEq,ZK,↓zU,↓zD,zV,zT,zW];refine .go hc ?_;simp only [ZA,ZB,ZC,ZD,ZE,↓reduceIte,ZF,ZG,ZH,ZI,ZJ,reduceCtorEq,ZK,↓zU,↓zD,zV,zT,zW];exact .drop (by simp) (cQ (by decide) (dV _) (by unfold aIr; rw [List.length_append,wI]; omega) (by unfold aIr; rw [List.take_left' (wI _)]))
 have hd:((r:Int)<(sts.length:Int)):=by omega
 simp only [ZA,ZB,ZC,ZD,ZE,↓reduceIte,ZF,ZG,ZH,ZI,ZJ,reduceCtorEq,ZK,↓zU,↓zD,zV,zT,zW,hd,hw0]
 refine xV (fun t:Nat=>[(20,.int .i64 t),(19,.int .i64 T),(15,.int .i64 r),(14,.int .i64 sts.length),(8,.int .i64 r),(7,xG 0 1 (rlu ((ptN T (r*T+t)).map kf))),(2,.int .i64 (T-1:Int)),(1,.int .i64 a),(0,.ptr [.int .i64 p.F,.sl 1 (us p.init),.sl 1 (us p.see),.sl 1 (mvR p.moves),.sl 1 (cdR p.code),.sl 1 (rr sts)])])
  (fun t=>⟨1,xE 0 1 (rlu ((ptN T (r*T+t)).map kf))⟩) (fun t=>t<=T) (fun t=>T-t) 0 (Nat.zero_le _) ?_ ?_
 ·(refine xM.same ?_; simp only [xS,Fr.get,↓reduceIte,reduceIte,Nat.reduceEqDiff,reduceCtorEq,D.int.injEq,D.bool.injEq,D.sl.injEq,and_true,true_and,and_self,Nat.add_zero])
  rfl
 intro t ht;refine xQ mixed ?_;by_cases htl:t<T
 case neg=>
  have hd2:¬ ((t:Int)<(T:Int)):=by omega
  obtain rfl:t=T:=by omega
  simp only [ZA,ZB,ZC,ZD,ZE,↓reduceIte,ZF,ZG,ZH,ZI,ZJ,reduceCtorEq,ZK,↓zU,↓zD,zV,zT,zW,hd2];refine⟨r+1,by omega,?_,by omega⟩;rw [show (r+1)* t=r*t+t by rw [Nat.succ_mul]]
  (refine xM.same ?_; simp only [xS,Fr.get,↓reduceIte,reduceIte,Nat.reduceEqDiff,reduceCtorEq,D.int.injEq,D.bool.injEq,D.sl.injEq,and_true,true_and,and_self])
  exact wQ (by omega)
 have hd2:((t:Int)<(T:Int)):=by omega
 have hs:(ptN T (r*T+(t+1))).map kf=(ptN T (r*T+t)).map kf ++ [kf (r,t)]:=by rw [aLq T r t htl,List.map_append]; rfl
 have hlk:((ptN T (r*T+t)).map kf).length=r*T+t:=by rw [List.length_map,sJ]
 have hle2:r*T+t<=16*16:=by
  have:=Nat.mul_le_mul_right T (show r+1<=sts.length from hrl);rw [Nat.succ_mul] at this;omega
 have h75:=hh r t hrl htl;generalize (ptN T (r*T+t)).map kf=l at *;generalize kf (r,t)= x at *;simp only [ZA,ZB,ZC,ZD,ZE,↓reduceIte,ZF,ZG,ZH,ZI,ZJ,reduceCtorEq,ZK,↓zU,↓zD,zV,zT,zW,hd2];refine .go (cr h75) ?_;simp only [ZA,ZB,ZC,ZD,ZE,↓reduceIte,ZF,ZG,ZH,ZI,ZJ,reduceCtorEq,ZK,↓zU,↓zD,zV,zT,zW,wI,hlk]
 (repeat refine sd ?_)
 refine⟨t+1,by omega,?_,by omega⟩;rw [hs]
 (refine xM.ren [(0,1)] [0] (by simp) (by simp) (by decide) ?_; simp only [yP,vwL,vw,vwF,sw,St.get,St.look,Fr.get,↓reduceIte,reduceIte,Nat.reduceEqDiff,Nat.reduceAdd,Nat.reduceBEq,Nat.reduceLT,Nat.reduceLeDiff,exists_eq_left',ne_eq,reduceCtorEq,zR,aLf,aP1])
 exact wQ (by omega)
end Go.Pd
