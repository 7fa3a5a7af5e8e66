/- Part LA. -/
import Derived.Test.YtndfaefmmcoapaaGreatUoKX
import Derived.Test.YtndfaefmmcoapaaGreatUoKI
set_option linter.unusedSectionVars false
set_option linter.unusedVariables false
set_option linter.unusedSimpArgs false
set_option linter.defProp false
set_option maxRecDepth 20000
set_option maxHeartbeats 1000000
namespace Go.Pd
open Go Go.Proofs
open BitVec renaming isValue -> ZA
open Rs Fm Ru Te Kb
namespace Kb
def yN (p:PrA):Nat->List (List (BitVec 64))
 | 0=>aXj p
 | n+1=>jE p (yN p n) (wV p (yN p n) n)
theorem aCf {x:BitVec 64} {F:Nat}:x >>> F=0#64 ↔ ∀ i,F<=i->x.getLsbD i=false:=by
 constructor
 ·intro h i hi;have:=congrArg (fun y:BitVec 64=>y.getLsbD (i-F)) h;simp only [BitVec.getLsbD_ushiftRight,BitVec.getLsbD_zero] at this
  rwa [show F+(i-F)= i by omega] at this
 ·intro h;refine BitVec.eq_of_getLsbD_eq fun i _=>?_;rw [BitVec.getLsbD_ushiftRight,BitVec.getLsbD_zero];exact h _ (by omega)
theorem aH3 {A F:Nat} {s0 out:BitVec 64} {a:AsA} (ho:out >>> F=0#64) (hf:a.fact.toNat<F):aP0 A s0 out a >>> F=0#64:=by
 rw [aCf] at ho ⊢;intro i hi;unfold aP0;rw [BitVec.getLsbD_or,BitVec.getLsbD_and,ho i hi,Bool.false_and,Bool.false_or]
 split
 ·rw [BitVec.getLsbD_shiftLeft]
  by_cases h:i<64
  ·rw [show (1#64).getLsbD (i-a.fact.toNat)= false by
    have:i-a.fact.toNat≠0:=by omega
    simp [this]]
   simp
  ·simp [h]
 ·exact BitVec.getLsbD_zero
theorem aIp {p:PrA} {F:Nat} (hv:PrV p F) {s:BitVec 64} (hs:s >>> F=0#64) {mv:List Int} (hmv:∀ k ∈ mv,k<p.xM.length):aBo p s mv >>> F=0#64:=by
 have key:∀ (l:List Int) (out:BitVec 64),(∀ k ∈ l,k<p.xM.length)->out >>> F=0#64->l.foldl (aPo p s) out >>> F=0#64:=by
  intro l
  induction l with
  | nil=>intro out _ h; exact h
  | cons k r ih=>
   intro out hk h;refine ih _ (fun k hk2=>hk k (by simp [hk2])) ?_;unfold aPo
   split
   ·exact h
   ·have hkm:=hk k (by simp);have hm:=xK (l:=p.xM) (d:=[]) (k:=k.toNat) (by omega);generalize p.xM.getD k.toNat []=m at hm
    have:∀ (l:List AsA) (out:BitVec 64),(∀ a ∈ l,asE p a=0)->out >>> F=0#64->l.foldl (aP0 p.see.length s) out >>> F=0#64:=by
     intro l
     induction l with
     | nil=>intro out _ h; exact h
     | cons a r ih2=> intro out ha h;have h1:=aS0 hv.fe (ha a (by simp));exact ih2 _ (fun b hb=>ha b (by simp [hb])) (aH3 h (by omega))
    exact this m out (hv.mv m hm) h
 exact key mv s hmv hs
theorem aZ {p:PrA} {sts:List (List (BitVec 64))} {t a w:Nat}:∀ {l:List ClA},(∀ c ∈ l,clE p c=0)->vM p.see sts t a w l<p.xM.length /\ -1<=vM p.see sts t a w l
 | [],_=>⟨by unfold vM; omega,by unfold vM; omega⟩
 | c :: r,h=>by
  unfold vM
  split
  ·have:=h c (by simp);unfold clE at this
   split at this
   ·rename_i h1; exact absurd this h1
   ·split at this
    ·cases this
    ·rename_i h2; omega
  ·exact aZ fun d hd=>h d (by simp [hd])
theorem lZ (p:PrA) (sts:List (List (BitVec 64))) (t:Nat):(wV p sts t).length=p.see.length:=by simp [wV]
theorem aYo {p:PrA} {sts:List (List (BitVec 64))} {t:Nat}:∀ m ∈ wV p sts t,m.length=sts.length:=fun m hm=>by simp only [wV,List.mem_map] at hm;obtain⟨a,_,rfl⟩:=hm;simp
theorem aTk {p:PrA} {F:Nat} (hv:PrV p F) {sts:List (List (BitVec 64))} {t:Nat}:∀ m ∈ wV p sts t,∀ k ∈ m,k<p.xM.length:=fun m hm k hk=>by simp only [wV,List.mem_map,List.mem_range] at hm;obtain⟨a,ha,rfl⟩:=hm;simp only [List.mem_map] at hk;obtain⟨w,_,rfl⟩:=hk;exact(aZ fun c hc=>hv.code _ (xK (d:=[]) (by rw [hv.hC]; exact ha)) c hc).1
structure PlS (p : PrA) (F : Nat) (sts : List (List (BitVec 64))) (n : Nat) : Prop where
 len:sts.length=p.init.length
 run:∀ st ∈ sts,st.length=n+1
 val:∀ st ∈ sts,∀ s ∈ st,s >>> F=0#64
theorem PlS.beg {p:PrA} {F:Nat} (hv:PrV p F):PlS p F (aXj p) 0 where
 len:=by simp [aXj]
 run:=fun st hs=>by simp only [aXj,List.mem_map] at hs;obtain⟨s,_,rfl⟩:=hs;rfl
 val:=fun st hs s hs2=>by simp only [aXj,List.mem_map] at hs;obtain⟨x,hx,rfl⟩:=hs;rw [List.mem_singleton.1 hs2];exact hv.init x hx
theorem uP {sts:List (List (BitVec 64))} {i:Nat} (h:i<sts.length):stR sts i ∈ sts:=xK h
theorem PlS.step {p:PrA} {F:Nat} (hv:PrV p F) {sts:List (List (BitVec 64))} {n:Nat} (h:PlS p F sts n) {mv:List (List Int)} (hmR:∀ m ∈ mv,m.length=sts.length) (hmv:∀ m ∈ mv,∀ k ∈ m,k<p.xM.length):PlS p F (jE p sts mv) (n+1) where
 len:=by rw [<- h.len]; simp [jE]
 run:=fun st hs=>by simp only [jE,List.mem_map,List.mem_range] at hs;obtain⟨i,hi,rfl⟩:=hs;rw [List.length_append,h.run _ (uP hi)];rfl
 val:=fun st hs s hs2=>by
  simp only [jE,List.mem_map,List.mem_range] at hs;obtain⟨i,hi,rfl⟩:=hs;have hr:=h.run _ (uP hi)
  rcases List.mem_append.1 hs2 with h1 | h1
  ·exact h.val _ (uP hi) s h1
  ·rw [List.mem_singleton.1 h1];refine aIp hv (h.val _ (uP hi) _ (xK (by omega))) fun k hk=>?_;simp only [List.mem_map] at hk;obtain⟨m,hm,rfl⟩:=hk;exact hmv m hm _ (xK (by rw [hmR m hm]; exact hi))
theorem PlS.aFj {p:PrA} {F:Nat} (hv:PrV p F) {sts:List (List (BitVec 64))} {n t:Nat} (h:PlS p F sts n) (ht:t<=n) (hn:n<=1000):PlG p F sts t:=⟨hv.fe,hv.hF,hv.hA,by rw [h.len]; exact hv.hI,fun st hs=>by rw [h.run st hs]; omega,by omega,h.val⟩
theorem tV {p:PrA} {F:Nat} (hv:PrV p F):∀ n,PlS p F (yN p n) n
 | 0=>PlS.beg hv
 | n+1=>PlS.step hv (tV hv n) aYo (aTk hv)
theorem aTo {p:PrA} {F:Nat} (hv:PrV p F) (n:Nat):(yN p n).length=p.init.length:=(tV hv n).len
theorem PlI.shift {p:PrA} {sts:List (List (BitVec 64))} {kx kS c:Nat} {ks:List Nat} {xS r:List (Nat × Ob)} (h:PlI p sts kx kS ks xS):PlI p sts (c+kx) (c+kS) (ks.map (c + ·)) (yQ c xS++r) where
 hx:=by rw [uL,qU c h.hx]; rfl
 nst:=Go.Pd.Nst.shift h.nst fun e he r hr=>(aOr e he r hr).2
 nd:=by have:=h.nd;unfold List.Nodup at this ⊢;rw [List.pairwise_map];exact this.imp fun h e=>h (by omega)
 ne:=fun e=>h.ne (by omega)
 xs:=fun hk=>by simp only [List.mem_map] at hk;obtain⟨k,hk,e⟩:=hk;exact h.xs ((show k=kx by omega) ▸ hk)
 ss:=fun hk=>by simp only [List.mem_map] at hk;obtain⟨k,hk,e⟩:=hk;exact h.ss ((show k=kS by omega) ▸ hk)
end Kb
theorem iR {p:PrA} {b nx:Nat} (hb:2<=b) {sts:List (List (BitVec 64))} {K:Nat->Prop} (hK:∀ k,¬ K k):Seen ⟨nx,plL p b sts⟩ K (.ref 0 6 0 0) (plD p sts):=(kQ p hb sts).seen (hK 0) (hK 1) fun k _=>hK k
theorem tL {mv:List (List Int)}:∀ e ∈ mv.map (rows .i64),∀ r ∈ e,r.length=1/\D.xU r=true:=fun e he r hr=>by simp only [List.mem_map] at he;obtain⟨s,_,rfl⟩:=he;refine⟨?_,uC _ s r hr⟩;simp only [rows,List.mem_map] at hr;obtain⟨x,_,rfl⟩:=hr;rfl
theorem aTu {mv:List (List Int)}:∀ e ∈ mv.map (rows .i64),∀ r ∈ e,D.flL r=true:=fun e he r hr=>by simp only [List.mem_map] at he;obtain⟨s,_,rfl⟩:=he;simp only [rows,List.mem_map] at hr;obtain⟨x,_,rfl⟩:=hr;simp [D.flL,D.fl]
theorem aQg {g:FuncId} {args args':List D} {mv:List (List Int)} {nx n:Nat} {ob:List (Nat × Ob)} (hn:n=mv.length) (hc:xX Tryz.prog g args' St0 (.osl 0 1 n) ⟨1+n,aS7 (mv.map (rows .i64))⟩) (hl:mV ⟨nx,ob⟩ (fun _=>False) args args') :
  xX Tryz.prog g args ⟨nx,ob⟩ (.sl 1 (rl mv)) ⟨nx+(1+n),ob⟩:=by
 subst hn;refine xX.aT5 hc hl (by simp [D.fl]) (aO1 aTu) ?_;have hN:=Nst.shift (c:=nx) (r:=ob) (aU (mv.map (rows .i64))) fun e he r hr=>(tL e he r hr).2
 have:=Nst.seen (nx:=nx+(1+mv.length)) (K:=fun k=>k<nx) (n:=mv.length) hN (List.length_map _).symm (by omega) (fun k hk=>by simp only [List.mem_map] at hk;obtain⟨j,_,rfl⟩:=hk;omega) tL
 rw [aOf] at this;exact this
theorem aTn {p:PrA} {F:Nat} (hv:PrV p F) {n:Nat} (hn:n<=100):yT Tryz.prog 69 [p.d,.int .i64 ((n+1:Nat):Int)] (plD p (yN p n)):=by
 have hB:=aSx hv;have hI:=hv.hI;have hA:=hv.hA;have hD:p.d = .agg [.int .i64 p.F,.sl 1 (us p.init),.sl 1 (us p.see),.sl 1 (mvR p.xM),.sl 1 (cdR p.code)]:=rfl;have hw:IntKind.i64.wrap (((n+1:Nat):Int)-1)= (n:Int):=by rw [wrap_i64 (by omega)]; omega
 have hB1:=xX.own (σ:=⟨1,[(0,⟨5,[p.cells]⟩)]⟩) hB (by simp [D.xU,D.xG,PrA.d,PrA.cells]);have hlen:=fun t=>aTo hv t;have hPS:=(kQ p (Nat.le_refl 2) (aXj p)).shift (c:=1) (r:=[(0,⟨5,[p.cells]⟩)]);have hbl:(aXj p).length=p.init.length:=by simp [aXj]
 unfold PrA.cells at hB1 hPS;rw [hD] at *;refine xX.xR mixed Tryz.func69 k69 (by simp) fun hf=>?_;simp only [simprocAttr,-ZA,↓zU,↓zD,zV,zT,zW]
 (repeat refine sd ?_)
 refine .go hB1 ?_;simp only [simprocAttr,-ZA,↓zU,↓zD,zV,zT,zW,hw]
 refine sX (fun t:Nat=>[(11,.int .i64 t),(10,.int .i64 n),(5,.ref 0 6 0 0)]) (fun t=>⟨2+(yN p t).length,plL p 2 (yN p t)⟩) (fun t=>t<=n) (fun t=>n-t) 0 (Nat.zero_le _) ?_ ?_
 ·refine xI.aFg hPS (Nat.le_refl _) (Nat.zero_le _) (fun k hk=>absurd hk (Nat.not_lt_zero _)) ?_;simp only [vwF,vw,Fr.get,↓reduceIte,reduceIte,Nat.reduceEqDiff,D.shift,and_true,true_and];exact⟨rfl,by omega,rfl⟩
 intro t ht;refine xN mixed ?_;have hS:=tV hv t;have hl:=hlen t;by_cases htn:t<n
 case neg=>
  have hd:¬ ((t:Int)<(n:Int)):=by omega
  obtain rfl:t=n:=by omega
  simp only [simprocAttr,-ZA,↓zU,↓zD,zV,zT,zW,hd]
  refine .go [(5,plD p (yN p t))] ⟨2+(yN p t).length,[]⟩ ?_ ?_
  ·refine xI.deep (fun _=>False) trivial ⟨.inr ?_,trivial⟩;exact iR (Nat.le_refl 2) fun _ h=>h
  simp only [simprocAttr,-ZA,↓zU,↓zD,zV,zT,zW];exact .drop (by simp) (by simp [vw,plD])
 have hd:((t:Int)<(n:Int)):=by omega
 have h76:=jJ hv (hS.aFj hv (Nat.le_refl t) (by omega));have hpl:=lZ p (yN p t) t;have h76l:=aQg (nx:=2+(yN p t).length) (ob:=plL p 2 (yN p t)) (args:=[.ref 0 6 0 0,.int .i64 t]) hpl.symm h76 ⟨iR (Nat.le_refl 2) fun _ h=>h,.pure rfl,trivial⟩;have h121:=cF hv (sts:=yN p t) (by rw [hl]; exact hI) (fun st hs=>by rw [hS.run st hs]; omega) hS.val (mv:=wV p (yN p t) t) (by rw [hpl]; omega) aYo (aTk hv) (nx:=2+(yN p t).length+(1+p.see.length)) (by omega);have hnext:yN p (t+1)= jE p (yN p t) (wV p (yN p t) t):=rfl;have hsl:(jE p (yN p t) (wV p (yN p t) t)).length=(yN p t).length:=by simp [jE]
 have hPI:=kQ p (b:=2+(yN p t).length+(1+p.see.length)) (by omega) (jE p (yN p t) (wV p (yN p t) t));simp only [simprocAttr,-ZA,↓zU,↓zD,zV,zT,zW,hd];refine .go h76l ?_;simp only [simprocAttr,-ZA,↓zU,↓zD,zV,zT,zW];refine .go h121 ?_;simp only [simprocAttr,-ZA,↓zU,↓zD,zV,zT,zW];refine⟨t+1,by omega,?_,by omega⟩;rw [hnext];refine xI.aFg hPI (Nat.le_refl _) (Nat.zero_le _) (fun k hk=>absurd hk (Nat.not_lt_zero _)) ?_;simp only [vwF,vw,Fr.get,↓reduceIte,reduceIte,Nat.reduceEqDiff,and_true,true_and];exact⟨by rw [wrap_i64 (by omega)]; rfl,by omega,rfl⟩
open Rs Fm Ru Te Kb
namespace Kb
def qJ (see:List (BitVec 64)) (sts:List (List (BitVec 64))) (a:Nat) (q:Nat × Nat):List Int:=(uQ see (stR sts q.1) a q.2).map ui
def lB (see:List (BitVec 64)) (sts:List (List (BitVec 64))) (T a:Nat):List (List Int):=dedup (aWi ((ptN T (sts.length*T)).map (qJ see sts a)))
theorem aOv : rlu [] = []:=rfl
end Kb
theorem zI {k:Nat} (h:k<=1000000000):IntKind.i64.wrap ((k:Int)+ 1)= ((k+1:Nat):Int):=by rw [wrap_i64 (by omega)]; rfl
theorem fA {p:PrA} {sts:List (List (BitVec 64))} {a T:Nat} (ha:a<p.see.length) (hT:1<=T/\T<=16) (hR:1<=sts.length/\sts.length<=16) (hl:∀ st ∈ sts,T<=st.length) :
  yT Tryz.prog 73 [plD p sts,.int .i64 a,.int .i64 (T-1:Int)] (.sl 1 (rlu (lB p.see sts T a))):=by
 have hh:∀ r t,r<sts.length->t<T->yT Tryz.prog 75 [plD p sts,.int .i64 a,.int .i64 r,.int .i64 t] (.sl 1 (rows .u64 (qJ p.see sts a (r,t)))):=fun r t hr ht=>by have:=pM (pI p ha hr (show t<(sts.getD r []).length by have:=hl _ (xK (d:=[]) hr); omega) (by omega));rw [pR] at this;exact this
 have hne:1<=sts.length*T:=Nat.mul_le_mul hR.1 hT.1;have hle:sts.length*T<=16*16:=Nat.mul_le_mul hR.2 hT.2;have hw0:IntKind.i64.wrap (((T:Int)-1)+ 1)= (T:Int):=by rw [wrap_i64 (by omega)]; omega
 unfold lB;generalize qJ p.see sts a=kf at *;have hlen:((ptN T (sts.length*T)).map kf).length=sts.length*T:=by rw [List.length_map,rD]
 unfold plD plC at *;refine xX.xR mixed Tryz.func73 k73 (by simp) fun hf=>?_;simp only [simprocAttr,-ZA,↓zU,↓zD,zV,zT,zW,zQ]
 refine xW (fun r:Nat=>[(15,.int .i64 r),(14,.int .i64 sts.length),(7,yX 0 1 (rlu ((ptN T (r*T)).map kf))),(2,.int .i64 (T-1:Int)),(1,.int .i64 a),(0,.ptr [.int .i64 p.F,.sl 1 (us p.init),.sl 1 (us p.see),.sl 1 (mvR p.xM),.sl 1 (cdR p.code),.sl 1 (rr sts)])])
  (fun r=>⟨1,yY 0 1 (rlu ((ptN T (r*T)).map kf))⟩) (fun r=>r<=sts.length) (fun r=>sts.length-r) 0 (Nat.zero_le _) ?_ ?_
 ·(refine xI.ren [] [] (by simp) (by simp) (by decide) ?_; simp only [yJ,vwL,vw,vwF,sw,St.get,St.look,Fr.get,↓reduceIte,reduceIte,Nat.reduceEqDiff,Nat.reduceAdd,Nat.reduceBEq,Nat.reduceLT,Nat.reduceLeDiff,exists_eq_left',ne_eq,reduceCtorEq,zR,ptN,Nat.zero_mul,List.range_zero,List.map_nil,aOv,wZ,wY])
 intro r hr;refine xN mixed ?_;by_cases hrl:r<sts.length
 case neg=>
  have hd:¬ ((r:Int)<(sts.length:Int)):=by omega
  obtain rfl:r=sts.length:=by omega
  generalize (ptN T (sts.length*T)).map kf=l at *;have hln:l ≠ []:=fun c=>by rw [c] at hlen; simp at hlen; omega
  have hln2:rlu l ≠ []:=fun c=>hln (by simpa [rlu] using c);rw [aSf hln2,aSe hln2,vU];have hs:=aVs (σ:=⟨1,[(0,⟨1,rlu l⟩)]⟩) (key:=0) (l:=l) rfl hln (by omega);have hal:(aWi l).length=l.length:=(pH l).length_eq;have hc:=aQ6 (σ:=⟨1,[(0,⟨1,rlu (aWi l)⟩)]⟩) (key:=0) (l:=aWi l) rfl (by omega) (fun c=>by rw [c] at hal; simp at hal; omega);rw [hal] at hc;simp only [simprocAttr,-ZA,↓zU,↓zD,zV,zT,zW,hd];refine .go hs ?_;simp only [simprocAttr,-ZA,↓zU,↓zD,zV,zT,zW];refine .go hc ?_;simp only [simprocAttr,-ZA,↓zU,↓zD,zV,zT,zW];exact .drop (by simp) (aB (by decide) (bB _) (by unfold aFk; rw [List.length_append,vU]; omega) (by unfold aFk; rw [List.take_left' (vU _)]))
 have hd:((r:Int)<(sts.length:Int)):=by omega
 simp only [simprocAttr,-ZA,↓zU,↓zD,zV,zT,zW,hd,hw0]
 refine xW (fun t:Nat=>[(20,.int .i64 t),(19,.int .i64 T),(15,.int .i64 r),(14,.int .i64 sts.length),(8,.int .i64 r),(7,yX 0 1 (rlu ((ptN T (r*T+t)).map kf))),(2,.int .i64 (T-1:Int)),(1,.int .i64 a),(0,.ptr [.int .i64 p.F,.sl 1 (us p.init),.sl 1 (us p.see),.sl 1 (mvR p.xM),.sl 1 (cdR p.code),.sl 1 (rr sts)])])
  (fun t=>⟨1,yY 0 1 (rlu ((ptN T (r*T+t)).map kf))⟩) (fun t=>t<=T) (fun t=>T-t) 0 (Nat.zero_le _) ?_ ?_
 ·(refine xI.same ?_; simp only [xP,Fr.get,↓reduceIte,reduceIte,Nat.reduceEqDiff,reduceCtorEq,D.int.injEq,D.bool.injEq,D.sl.injEq,and_true,true_and,and_self,Nat.add_zero])
  rfl
 intro t ht;refine xN mixed ?_;by_cases htl:t<T
 case neg=>
  have hd2:¬ ((t:Int)<(T:Int)):=by omega
  obtain rfl:t=T:=by omega
  simp only [simprocAttr,-ZA,↓zU,↓zD,zV,zT,zW,hd2];refine⟨r+1,by omega,?_,by omega⟩;rw [show (r+1)* t=r*t+t by rw [Nat.succ_mul]]
  (refine xI.same ?_; simp only [xP,Fr.get,↓reduceIte,reduceIte,Nat.reduceEqDiff,reduceCtorEq,D.int.injEq,D.bool.injEq,D.sl.injEq,and_true,true_and,and_self])
  exact zI (by omega)
 have hd2:((t:Int)<(T:Int)):=by omega
 have hs:(ptN T (r*T+(t+1))).map kf=(ptN T (r*T+t)).map kf ++ [kf (r,t)]:=by rw [aId T r t htl,List.map_append]; rfl
 have hlk:((ptN T (r*T+t)).map kf).length=r*T+t:=by rw [List.length_map,rD]
 have hle2:r*T+t<=16*16:=by have:=Nat.mul_le_mul_right T (show r+1<=sts.length from hrl);rw [Nat.succ_mul] at this;omega
 have h75:=hh r t hrl htl;generalize (ptN T (r*T+t)).map kf=l at *;generalize kf (r,t)= x at *;simp only [simprocAttr,-ZA,↓zU,↓zD,zV,zT,zW,hd2];refine .go (cr h75) ?_;simp only [simprocAttr,-ZA,↓zU,↓zD,zV,zT,zW,vU,hlk]
 (repeat refine sd ?_)
 refine⟨t+1,by omega,?_,by omega⟩;rw [hs]
 (refine xI.ren [(0,1)] [0] (by simp) (by simp) (by decide) ?_; simp only [yJ,vwL,vw,vwF,sw,St.get,St.look,Fr.get,↓reduceIte,reduceIte,Nat.reduceEqDiff,Nat.reduceAdd,Nat.reduceBEq,Nat.reduceLT,Nat.reduceLeDiff,exists_eq_left',ne_eq,reduceCtorEq,zR,aJ2,aMp])
 exact zI (by omega)
open Rs Fm Ru Te Kb
namespace Kb
def aWu (sts:List (List (BitVec 64))):List wC:=sts.map fun st=>⟨[],st⟩
def eC (see:List (BitVec 64)) (sts:List (List (BitVec 64))) (T:Nat):List wC:=bX3 (aWu sts) see.length T (qJ see sts)
def rll (l:List (List (List Int))):List (List D):=l.map fun m=>[.sl 1 (rlu m)]
theorem aOw (l:List (List (List Int))):(rll l).length=l.length:=by simp [rll]
theorem aEn {l:List (List (List Int))} {i:Nat} (h:i<l.length):(rll l).getD i [] = [.sl 1 (rlu (l.getD i []))]:=by simp [rll,List.getD,h]
theorem aJ4 (l:List (List (List Int))) (m:List (List Int)):rll l ++ [[.sl 1 (rlu m)]]=rll (l ++ [m]):=by simp [rll]
theorem aJ5 (l:List (List (List Int))):∀ e ∈ rll l,D.xU e=true:=by intro e he;simp only [rll,List.mem_map] at he;obtain⟨m,_,rfl⟩:=he;rfl
theorem aYj (l:List (List (List Int))):tQ (rll l):=aJ5 l
theorem aEm : rll [] = []:=rfl
theorem aMe (l:List wC) (r:wC):nE l ++ [[.sl 1 (rl r.loc),.sl 1 (us r.fac)]]=nE (l ++ [r]):=by simp [nE,wC.row]
theorem vG (l:List wC):tQ (nE l):=aMf l
theorem aJz : nE [] = []:=rfl
theorem aG (sts:List (List (BitVec 64))):(aWu sts).length=sts.length:=by simp [aWu]
theorem aU7 (see:List (BitVec 64)) (sts:List (List (BitVec 64))) (T:Nat):(eC see sts T).length=sts.length:=by unfold eC; rw [aJ8,aG]
theorem aU9 {see:List (BitVec 64)} {sts:List (List (BitVec 64))} {T i:Nat} (hi:i<sts.length) :
  (eC see sts T).getD i lJ=⟨(List.range T).map fun t=>(List.range see.length).map fun a=>((below (lB see sts T a) (qJ see sts a (i,t)):Nat):Int),stR sts i⟩:=by
 unfold eC bX3;rw [aJ7 (by rw [aG]; exact hi),aG];have:((aWu sts).getD i lJ).fac=stR sts i:=by simp [aWu,stR,List.getD,hi]
 rw [this];rfl
end Kb
theorem aRu {α:Type} {l:List α} {k:Nat} {d:α} (h:k<l.length):l.take (k+1)= l.take k ++ [l.getD k d]:=zP h
theorem aJi {p:PrA} {F:Nat} (hv:PrV p F) {sts:List (List (BitVec 64))} {T:Nat} (hT:1<=T/\T<=16) (hR:1<=sts.length/\sts.length<=16) (hl:∀ st ∈ sts,st.length=T) :
  yT Tryz.prog 70 [plD p sts] (sD p.see.length F T (eC p.see sts T)):=by
 have hA:=hv.hA
 have hh:∀ a r t,a<p.see.length->r<sts.length->t<T->yT Tryz.prog 75 [plD p sts,.int .i64 a,.int .i64 r,.int .i64 t] (.sl 1 (rows .u64 (qJ p.see sts a (r,t)))):=fun a r t ha hr ht=>by have:=pM (pI p ha hr (show t<(sts.getD r []).length by have:=hl _ (xK (d:=[]) hr); omega) (by omega));rw [pR] at this;exact this
 have hw1:IntKind.i64.wrap ((T:Int)-1)= ((T:Int)-1):=wrap_i64 (by omega);have h73:=fun a ha=>fA (p:=p) (sts:=sts) (a:=a) (T:=T) ha hT hR fun st hs=>by rw [hl st hs]; exact Nat.le_refl _
 have hasc:∀ a,asc (lB p.see sts T a):=fun a=>aLt (aF _)
 have hak:∀ a,(lB p.see sts T a).length<=1000:=fun a=>by have h1:(lB p.see sts T a).length<=(aWi ((ptN T (sts.length*T)).map (qJ p.see sts a))).length:=aVh _ _;have h2:=(pH ((ptN T (sts.length*T)).map (qJ p.see sts a))).length_eq;rw [List.length_map,rD] at h2;have hle:sts.length*T<=16*16:=Nat.mul_le_mul hR.2 hT.2;omega
 have hS:=fun i (hi:i<sts.length)=>aU9 (see:=p.see) (T:=T) hi;have hSl:=aU7 p.see sts T;have hst:∀ r,r<sts.length->(stR sts r).length=T:=fun r hr=>hl _ (xK (d:=[]) hr);generalize qJ p.see sts=kf at *;generalize lB p.see sts T=al at *;generalize eC p.see sts T=S at *;have hg0:=nX sts (show 0<sts.length by omega);have hd0:(0:Int)<(sts.length:Int):=by omega
 have hl0:=hst 0 (by omega);unfold stR at hl0;unfold plD plC sD at *;rw [hv.fe] at *;refine xX.xR mixed Tryz.func70 k70 (by simp) fun hf=>?_;simp only [simprocAttr,-ZA,↓zU,↓zD,zV,zT,zW,zQ,hd0,hg0,xQ,hl0]
 (repeat refine sd ?_)
 refine sX (fun a:Nat=>[(41,.int .i64 a),(40,.int .i64 p.see.length),(5,yX 2 1 (rll ((List.range a).map al))),(4,.ref 1 4 0 0),(3,.int .i64 T),(2,.ref 0 4 0 0),(0,.ptr [.int .i64 F,.sl 1 (us p.init),.sl 1 (us p.see),.sl 1 (mvR p.xM),.sl 1 (cdR p.code),.sl 1 (rr sts)])])
  (fun a=>⟨3,yY 2 1 (rll ((List.range a).map al))++ [(1,⟨4,[[.int .i64 p.see.length,.int .i64 F,.int .i64 T,.xH]]⟩),(0,⟨4,[[.int .i64 0,.int .i64 0,.int .i64 0,.xH]]⟩)]⟩) (fun a=>a<=p.see.length) (fun a=>p.see.length-a) 0 (Nat.zero_le _) ?_ ?_
 ·(refine xI.ren [] [1,0] (by simp) (by simp) (by decide) ?_; simp only [yJ,vwL,vw,vwF,sw,St.get,St.look,Fr.get,↓reduceIte,reduceIte,Nat.reduceEqDiff,Nat.reduceAdd,Nat.reduceBEq,Nat.reduceLT,Nat.reduceLeDiff,exists_eq_left',ne_eq,reduceCtorEq,zR,List.range_zero,List.map_nil,aEm,wZ,wY,List.nil_append])
 intro a ha;refine xN mixed ?_;by_cases hal:a<p.see.length
 case pos=>
  have hd:((a:Int)<(p.see.length:Int)):=by omega
  have h1:=h73 a hal;have hsu:(List.range (a+1)).map al=(List.range a).map al ++ [al a]:=by rw [List.range_succ,List.map_append]; rfl
  have hla:((List.range a).map al).length=a:=by simp
  generalize (List.range a).map al=L at *;simp only [simprocAttr,-ZA,↓zU,↓zD,zV,zT,zW,hd,hw1];refine .go (cr h1) ?_;simp only [simprocAttr,-ZA,↓zU,↓zD,zV,zT,zW,aOw,hla]
  (repeat refine sd ?_)
  refine⟨a+1,by omega,?_,by omega⟩;rw [hsu]
  (refine xI.ren [(2,3)] [2,1,0] (by simp) (by simp) (by decide) ?_; simp only [yJ,vwL,vw,vwF,sw,St.get,St.look,Fr.get,↓reduceIte,reduceIte,Nat.reduceEqDiff,Nat.reduceAdd,Nat.reduceBEq,Nat.reduceLT,Nat.reduceLeDiff,exists_eq_left',ne_eq,reduceCtorEq,zR,aJ4,aYj])
  exact zI (by omega)
 have hd:¬ ((a:Int)<(p.see.length:Int)):=by omega
 obtain rfl:a=p.see.length:=by omega
 have hlal:((List.range p.see.length).map al).length=p.see.length:=by simp
 have hgal:∀ a,a<p.see.length->(rll ((List.range p.see.length).map al)).getD a [] = [.sl 1 (rlu (al a))]:=fun a ha=>by rw [aEn (by rw [hlal]; exact ha)]; simp [List.getD,ha]
 generalize (List.range p.see.length).map al=L at *;simp only [simprocAttr,-ZA,↓zU,↓zD,zV,zT,zW,hd]
 refine .go [(5,.sl 1 (rll L)),(4,.ref 1 4 0 0),(3,.int .i64 T),(2,.ref 0 4 0 0),(0,.ptr [.int .i64 F,.sl 1 (us p.init),.sl 1 (us p.see),.sl 1 (mvR p.xM),.sl 1 (cdR p.code),.sl 1 (rr sts)])] ⟨2,[(1,⟨4,[[.int .i64 p.see.length,.int .i64 F,.int .i64 T,.xH]]⟩),(0,⟨4,[[.int .i64 0,.int .i64 0,.int .i64 0,.xH]]⟩)]⟩ ?_ ?_
 ·(refine xI.ren [] [1,0] (by simp) (by simp) (by decide) ?_; simp only [yJ,vwL,vw,vwF,sw,St.get,St.look,Fr.get,↓reduceIte,reduceIte,Nat.reduceEqDiff,Nat.reduceAdd,Nat.reduceBEq,Nat.reduceLT,Nat.reduceLeDiff,exists_eq_left',ne_eq,reduceCtorEq,zR,aYj])
 simp only [simprocAttr,-ZA,↓zU,↓zD,zV,zT,zW,zQ]
 refine xW (fun r:Nat=>[(58,.int .i64 r),(57,.int .i64 sts.length),(56,.sl 1 (rr sts)),(5,.sl 1 (rll L)),(4,.ref 1 4 0 0),(3,.int .i64 T),(2,.ref 0 4 0 0),(0,.ptr [.int .i64 F,.sl 1 (us p.init),.sl 1 (us p.see),.sl 1 (mvR p.xM),.sl 1 (cdR p.code),.sl 1 (rr sts)])])
  (fun r=>⟨3,yY 2 2 (nE (S.take r))++ [(1,⟨4,[[.int .i64 p.see.length,.int .i64 F,.int .i64 T,yX 2 2 (nE (S.take r))]]⟩),(0,⟨4,[[.int .i64 0,.int .i64 0,.int .i64 0,.xH]]⟩)]⟩) (fun r=>r<=sts.length) (fun r=>sts.length-r) 0 (Nat.zero_le _) ?_ ?_
 ·(refine xI.ren [] [1,0] (by simp) (by simp) (by decide) ?_; simp only [yJ,vwL,vw,vwF,sw,St.get,St.look,Fr.get,↓reduceIte,reduceIte,Nat.reduceEqDiff,Nat.reduceAdd,Nat.reduceBEq,Nat.reduceLT,Nat.reduceLeDiff,exists_eq_left',ne_eq,reduceCtorEq,zR,List.take_zero,aJz,wZ,wY,List.nil_append])
 intro r hr;refine xN mixed ?_;by_cases hrl:r<sts.length
 case neg=>
  have hd2:¬ ((r:Int)<(sts.length:Int)):=by omega
  rw [List.take_of_length_le (show S.length<=r by omega)];simp only [simprocAttr,-ZA,↓zU,↓zD,zV,zT,zW,hd2]
  (refine lF.ren [] [] (by simp) (by simp) (by decide) ?_; simp only [yJ,vwL,vw,vwF,sw,St.get,St.look,Fr.get,↓reduceIte,reduceIte,Nat.reduceEqDiff,Nat.reduceAdd,Nat.reduceBEq,Nat.reduceLT,Nat.reduceLeDiff,exists_eq_left',ne_eq,reduceCtorEq,zR,vG])
 have hd2:((r:Int)<(sts.length:Int)):=by omega
 have hgr:=nX sts hrl;have hlr:=hst r hrl;have hSr:=hS r hrl;have hSs:=aRu (l:=S) (d:=lJ) (show r<S.length by omega);rw [hSr] at hSs;have hSl2:(S.take r).length=r:=by rw [List.length_take]; omega
 unfold stR at hlr hSs;have hcl:=aD8 (c:=sts.getD r []) (by omega) (by omega);generalize sts.getD r []=st at *;generalize S.take r=S0 at *;simp only [simprocAttr,-ZA,↓zU,↓zD,zV,zT,zW,hd2,zQ,hgr]
 (repeat refine sd ?_)
 refine .go (cr hcl) ?_;simp only [simprocAttr,-ZA,↓zU,↓zD,zV,zT,zW]
 (repeat refine sd ?_)
 let lrow:Nat->List Int:=(fun t=>(List.range p.see.length).map fun a=>((below (al a) (kf a (r,t)):Nat):Int))
 have hlw:((List.range T).map fun t=>(List.range p.see.length).map fun a=>((below (al a) (kf a (r,t)):Nat):Int))= (List.range T).map lrow:=rfl;rw [hlw] at hSs
 refine sX (fun t:Nat=>[(67,.int .i64 t),(66,.int .i64 T),(58,.int .i64 r),(57,.int .i64 sts.length),(56,.sl 1 (rr sts)),(9,.ref 3 2 0 0),(7,.int .i64 r),(5,.sl 1 (rll L)),(4,.ref 1 4 0 0),(3,.int .i64 T),(2,.ref 0 4 0 0),(0,.ptr [.int .i64 F,.sl 1 (us p.init),.sl 1 (us p.see),.sl 1 (mvR p.xM),.sl 1 (cdR p.code),.sl 1 (rr sts)])])
  (fun t=>⟨5,yY 4 1 (rl ((List.range t).map lrow))++ ((3,⟨2,[[yX 4 1 (rl ((List.range t).map lrow)),.sl 1 (us st)]]⟩) :: (yY 2 2 (nE S0)++ [(1,⟨4,[[.int .i64 p.see.length,.int .i64 F,.int .i64 T,yX 2 2 (nE S0)]]⟩),(0,⟨4,[[.int .i64 0,.int .i64 0,.int .i64 0,.xH]]⟩)]))⟩) (fun t=>t<=T) (fun t=>T-t) 0 (Nat.zero_le _) ?_ ?_
 ·(refine xI.ren [] [3,2,1,0] (by simp) (by simp) (by decide) ?_; simp only [yJ,vwL,vw,vwF,sw,St.get,St.look,Fr.get,↓reduceIte,reduceIte,Nat.reduceEqDiff,Nat.reduceAdd,Nat.reduceBEq,Nat.reduceLT,Nat.reduceLeDiff,exists_eq_left',ne_eq,reduceCtorEq,zR,List.range_zero,List.map_nil,aAs,wZ,wY,List.nil_append,vG])
 intro t ht;refine xN mixed ?_;by_cases htl:t<T
 case neg=>
  have hd3:¬ ((t:Int)<(T:Int)):=by omega
  obtain rfl:t=T:=by omega
  generalize (List.range t).map lrow=LL at *;simp only [simprocAttr,-ZA,↓zU,↓zD,zV,zT,zW,hd3]
  refine .go [(58,.int .i64 r),(57,.int .i64 sts.length),(56,.sl 1 (rr sts)),(9,.ref 3 2 0 0),(5,.sl 1 (rll L)),(4,.ref 1 4 0 0),(3,.int .i64 t),(2,.ref 0 4 0 0),(0,.ptr [.int .i64 F,.sl 1 (us p.init),.sl 1 (us p.see),.sl 1 (mvR p.xM),.sl 1 (cdR p.code),.sl 1 (rr sts)])]
   ⟨4,(3,⟨2,[[.sl 1 (rl LL),.sl 1 (us st)]]⟩) :: (yY 2 2 (nE S0)++ [(1,⟨4,[[.int .i64 p.see.length,.int .i64 F,.int .i64 t,yX 2 2 (nE S0)]]⟩),(0,⟨4,[[.int .i64 0,.int .i64 0,.int .i64 0,.xH]]⟩)])⟩ ?_ ?_
  ·(refine xI.ren [] [3,2,1,0] (by simp) (by simp) (by decide) ?_; simp only [yJ,vwL,vw,vwF,sw,St.get,St.look,Fr.get,↓reduceIte,reduceIte,Nat.reduceEqDiff,Nat.reduceAdd,Nat.reduceBEq,Nat.reduceLT,Nat.reduceLeDiff,exists_eq_left',ne_eq,reduceCtorEq,zR,vG,mL])
  simp only [simprocAttr,-ZA,↓zU,↓zD,zV,zT,zW,sK,hSl2]
  (repeat refine sd ?_)
  refine⟨r+1,by omega,?_,by omega⟩;rw [hSs];have hsn:=aMe S0 ⟨LL,st⟩;simp only at hsn
  (refine xI.ren [(2,4)] [2,1,0] (by simp) (by simp) (by decide) ?_; simp only [yJ,vwL,vw,vwF,sw,St.get,St.look,Fr.get,↓reduceIte,reduceIte,Nat.reduceEqDiff,Nat.reduceAdd,Nat.reduceBEq,Nat.reduceLT,Nat.reduceLeDiff,exists_eq_left',ne_eq,reduceCtorEq,zR,hsn,vG])
  exact zI (by omega)
 have hd3:((t:Int)<(T:Int)):=by omega
 have hsu:(List.range (t+1)).map lrow=(List.range t).map lrow ++ [lrow t]:=by rw [List.range_succ,List.map_append]; rfl
 have hll:((List.range t).map lrow).length=t:=by simp
 generalize (List.range t).map lrow=LL at *;simp only [simprocAttr,-ZA,↓zU,↓zD,zV,zT,zW,hd3,xQ]
 refine sX (fun a:Nat=>[(76,.int .i64 a),(75,.int .i64 p.see.length),(67,.int .i64 t),(66,.int .i64 T),(58,.int .i64 r),(57,.int .i64 sts.length),(56,.sl 1 (rr sts)),(11,yX 5 1 (rows .i64 ((List.range a).map fun a=>((below (al a) (kf a (r,t)):Nat):Int)))),(10,.int .i64 t),(9,.ref 3 2 0 0),(7,.int .i64 r),(5,.sl 1 (rll L)),(4,.ref 1 4 0 0),(3,.int .i64 T),(2,.ref 0 4 0 0),(0,.ptr [.int .i64 F,.sl 1 (us p.init),.sl 1 (us p.see),.sl 1 (mvR p.xM),.sl 1 (cdR p.code),.sl 1 (rr sts)])])
  (fun a=>⟨6,yY 5 1 (rows .i64 ((List.range a).map fun a=>((below (al a) (kf a (r,t)):Nat):Int)))++ (yY 4 1 (rl LL)++ ((3,⟨2,[[yX 4 1 (rl LL),.sl 1 (us st)]]⟩) :: (yY 2 2 (nE S0)++ [(1,⟨4,[[.int .i64 p.see.length,.int .i64 F,.int .i64 T,yX 2 2 (nE S0)]]⟩),(0,⟨4,[[.int .i64 0,.int .i64 0,.int .i64 0,.xH]]⟩)])))⟩) (fun a=>a<=p.see.length) (fun a=>p.see.length-a) 0 (Nat.zero_le _) ?_ ?_
 ·(refine xI.ren [] [4,3,2,1,0] (by simp) (by simp) (by decide) ?_; simp only [yJ,vwL,vw,vwF,sw,St.get,St.look,Fr.get,↓reduceIte,reduceIte,Nat.reduceEqDiff,Nat.reduceAdd,Nat.reduceBEq,Nat.reduceLT,Nat.reduceLeDiff,exists_eq_left',ne_eq,reduceCtorEq,zR,List.range_zero,List.map_nil,oZ,wZ,wY,List.nil_append,vG,mL])
 intro a ha;refine xN mixed ?_;by_cases hal:a<p.see.length
 case neg=>
  have hd4:¬ ((a:Int)<(p.see.length:Int)):=by omega
  obtain rfl:a=p.see.length:=by omega
  have hlr2:((List.range p.see.length).map fun a=>((below (al a) (kf a (r,t)):Nat):Int))= lrow t:=rfl;rw [hlr2];generalize lrow t=x at *;simp only [simprocAttr,-ZA,↓zU,↓zD,zV,zT,zW,hd4]
  refine .go [(67,.int .i64 t),(66,.int .i64 T),(58,.int .i64 r),(57,.int .i64 sts.length),(56,.sl 1 (rr sts)),(11,.sl 1 (rows .i64 x)),(9,.ref 3 2 0 0),(7,.int .i64 r),(5,.sl 1 (rll L)),(4,.ref 1 4 0 0),(3,.int .i64 T),(2,.ref 0 4 0 0),(0,.ptr [.int .i64 F,.sl 1 (us p.init),.sl 1 (us p.see),.sl 1 (mvR p.xM),.sl 1 (cdR p.code),.sl 1 (rr sts)])]
   ⟨5,yY 4 1 (rl LL)++ ((3,⟨2,[[yX 4 1 (rl LL),.sl 1 (us st)]]⟩) :: (yY 2 2 (nE S0)++ [(1,⟨4,[[.int .i64 p.see.length,.int .i64 F,.int .i64 T,yX 2 2 (nE S0)]]⟩),(0,⟨4,[[.int .i64 0,.int .i64 0,.int .i64 0,.xH]]⟩)]))⟩ ?_ ?_
  ·(refine xI.ren [] [4,3,2,1,0] (by simp) (by simp) (by decide) ?_; simp only [yJ,vwL,vw,vwF,sw,St.get,St.look,Fr.get,↓reduceIte,reduceIte,Nat.reduceEqDiff,Nat.reduceAdd,Nat.reduceBEq,Nat.reduceLT,Nat.reduceLeDiff,exists_eq_left',ne_eq,reduceCtorEq,zR,vG,mL])
  simp only [simprocAttr,-ZA,↓zU,↓zD,zV,zT,zW,uR,hll]
  (repeat refine sd ?_)
  refine⟨t+1,by omega,?_,by omega⟩;rw [hsu]
  (refine xI.ren [(4,5)] [4,3,2,1,0] (by simp) (by simp) (by decide) ?_; simp only [yJ,vwL,vw,vwF,sw,St.get,St.look,Fr.get,↓reduceIte,reduceIte,Nat.reduceEqDiff,Nat.reduceAdd,Nat.reduceBEq,Nat.reduceLT,Nat.reduceLeDiff,exists_eq_left',ne_eq,reduceCtorEq,zR,aEo,vG,mL])
  exact zI (by omega)
 have hd4:((a:Int)<(p.see.length:Int)):=by omega
 have hga:=hgal a hal;obtain⟨bb,hse⟩:=aMc (kf a (r,t)) (hasc a) (hak a);have h75:=hh a r t hal hrl htl;have hsu2:(List.range (a+1)).map (fun a=>((below (al a) (kf a (r,t)):Nat):Int))= (List.range a).map (fun a=>((below (al a) (kf a (r,t)):Nat):Int))++ [((below (al a) (kf a (r,t)):Nat):Int)]:=by rw [List.range_succ,List.map_append]; rfl
 have hla2:((List.range a).map fun a=>((below (al a) (kf a (r,t)):Nat):Int)).length=a:=by simp
 have hdL:((a:Int)<(L.length:Int)):=by omega
 generalize (List.range a).map (fun a=>((below (al a) (kf a (r,t)):Nat):Int))= W at *;simp only [simprocAttr,-ZA,↓zU,↓zD,zV,zT,zW,hd4,aOw,hdL,hga]
 (repeat refine sd ?_)
 refine .go (cr h75) ?_;simp only [simprocAttr,-ZA,↓zU,↓zD,zV,zT,zW];refine .go (cr hse) ?_;simp only [simprocAttr,-ZA,↓zU,↓zD,zV,zT,zW,xE,hla2]
 (repeat refine sd ?_)
 refine⟨a+1,by omega,?_,by omega⟩;rw [hsu2]
 (refine xI.ren [(5,6)] [5,4,3,2,1,0] (by simp) (by simp) (by decide) ?_; simp only [yJ,vwL,vw,vwF,sw,St.get,St.look,Fr.get,↓reduceIte,reduceIte,Nat.reduceEqDiff,Nat.reduceAdd,Nat.reduceBEq,Nat.reduceLT,Nat.reduceLeDiff,exists_eq_left',ne_eq,reduceCtorEq,zR,vG,mL])
 exact zI (by omega)
namespace Kb
def lD (p:PrA) (n:Int):Int:=if tJ p≠0 then tJ p else if n<1\/6<n then 2 else 0
theorem oW {p:PrA} {n:Int} (h:lD p n=0):∃ F k:Nat,PrV p F/\n=((k+1:Nat):Int)/\ k<=5:=by
 unfold lD at h
 split at h
 ·rename_i h1; exact absurd h h1
 ·rename_i h1
  split at h
  ·cases h
  ·obtain⟨F,hv⟩:=aZm (by simpa using h1);exact⟨F,(n-1).toNat,hv,by omega,by omega⟩
def oC (p:PrA) (n:Int):aXk:=if lD p n≠0 then⟨0,0,0,[]⟩ else⟨p.see.length,p.F,n,eC p.see (yN p (n.toNat-1)) n.toNat⟩
end Kb
theorem gK (p:PrA) (sm:qO p) (n:Int):yT Tryz.prog 68 [p.d,.int .i64 n] (.int .i64 (lD p n)):=by
 have hC:=aNt p sm;unfold PrA.d PrA.cells lD at *;refine xX.xR mixed Tryz.func68 k68 (by simp) fun hf=>?_;simp only [simprocAttr,-ZA,↓zU,↓zD,zV,zT,zW]
 (repeat refine sd ?_)
 refine .go (cr hC) ?_;by_cases c:tJ p=0
 case neg=>
  have c':(tJ p != 0)= true:=by simpa using c
  rw [if_pos c];simp only [simprocAttr,-ZA,↓zU,↓zD,zV,zT,zW,c'];exact .drop (by simp) (by simp [vw])
 have c':(tJ p != 0)= false:=by simpa using c
 rw [if_neg (by simpa using c)]
 by_cases h1:n<1
 ·rw [if_pos (.inl h1)];simp only [simprocAttr,-ZA,↓zU,↓zD,zV,zT,zW,c',h1];exact .drop (by simp) (by simp [vw])
 by_cases h2:6<n
 ·rw [if_pos (.inr h2)];simp only [simprocAttr,-ZA,↓zU,↓zD,zV,zT,zW,c',h1,h2];exact .drop (by simp) (by simp [vw])
 rw [if_neg (by omega)];simp only [simprocAttr,-ZA,↓zU,↓zD,zV,zT,zW,c',h1,h2];exact .drop (by simp) (by simp [vw])
theorem fI {p:PrA} {F k:Nat} (hv:PrV p F) (hk:k<=5) {sts:List (List (BitVec 64))} (hS:PlS p F sts k):yT Tryz.prog 70 [plD p sts] (sD p.see.length F (k+1) (eC p.see sts (k+1))):= aJi hv ⟨by omega,by omega⟩ (by rw [hS.len]; exact hv.hI) hS.run
theorem aG8 (p:PrA) (sm:qO p) (n:Int):yT Tryz.prog 19 [p.d,.int .i64 n] (.tup [(oC p n).d,.int .i64 (lD p n)]):=by
 have hR:=gK p sm n;by_cases c:lD p n=0
 case neg=>
  have c':(lD p n != 0)= true:=by simpa using c
  have hD:(oC p n).d = .agg [.int .i64 0,.int .i64 0,.int .i64 0,.sl 2 []]:=by unfold oC; rw [if_pos c]; rfl
  rw [hD];unfold PrA.d PrA.cells at *;refine xX.xR mixed Tryz.func19 k19 (by simp) fun hf=>?_;simp only [simprocAttr,-ZA,↓zU,↓zD,zV,zT,zW]
  (repeat refine sd ?_)
  refine .go (cr hR) ?_;simp only [simprocAttr,-ZA,↓zU,↓zD,zV,zT,zW,c']
  (repeat refine sd ?_)
  exact .drop (by simp) (by simp [vw,vwL])
 have c':(lD p n != 0)= false:=by simpa using c
 obtain⟨F,k,hv,rfl,hk⟩:=oW c;have hP:=aTn hv (n:=k) (by omega);have hS:=fI hv hk (tV hv k)
 have hD:(oC p ((k+1:Nat):Int)).d=sD p.see.length F (k+1) (eC p.see (yN p k) (k+1)):=by unfold oC;rw [if_neg (by simpa using c),Int.toNat_natCast,show k+1-1=k by omega];show D.agg [_,_,_,_]=D.agg [_,_,_,_];rw [hv.fe]
 rw [hD];generalize eC p.see (yN p k) (k+1)= S at *;generalize yN p k=sts at *;unfold PrA.d PrA.cells plD plC sD at *;refine xX.xR mixed Tryz.func19 k19 (by simp) fun hf=>?_;simp only [simprocAttr,-ZA,↓zU,↓zD,zV,zT,zW]
 (repeat refine sd ?_)
 refine .go (cr hR) ?_;simp only [simprocAttr,-ZA,↓zU,↓zD,zV,zT,zW,c'];refine .go (cr hP) ?_;simp only [simprocAttr,-ZA,↓zU,↓zD,zV,zT,zW];refine .go (cr hS) ?_;simp only [simprocAttr,-ZA,↓zU,↓zD,zV,zT,zW]
 (repeat refine sd ?_)
 exact .drop (by simp) (by simp [vw,vwL]; simpa using c.symm)
end Go.Pd
