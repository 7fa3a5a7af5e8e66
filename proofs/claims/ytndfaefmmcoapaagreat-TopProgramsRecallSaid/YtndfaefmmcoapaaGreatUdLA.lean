/- Part LA. -/
import Derived.Test.YtndfaefmmcoapaaGreatUdKX
import Derived.Test.YtndfaefmmcoapaaGreatUdSF
set_option linter.unusedSectionVars false
set_option linter.unusedVariables false
set_option linter.unusedSimpArgs false
set_option linter.defProp false
set_option maxRecDepth 20000
set_option maxHeartbeats 1000000
namespace Go.Pd
open Go Go.Proofs
open BitVec renaming isValue -> ZA
open Rs Fm Ru Te Kb
namespace Kb
def vL (p:PrA):Nat->List (List (BitVec 64))
 | 0=>aSj p
 | n+1=>aQu p (vL p n) (nH p (vL p n) n)
theorem bXu {x:BitVec 64} {F:Nat}:x >>> F=0#64 ↔ ∀ i,F<=i->x.getLsbD i=false:=by
 constructor
 ·intro h i hi;have:=congrArg (fun y:BitVec 64=>y.getLsbD (i-F)) h;simp only [BitVec.getLsbD_ushiftRight,BitVec.getLsbD_zero] at this
  rwa [show F+(i-F)= i by omega] at this
 ·intro h;refine BitVec.eq_of_getLsbD_eq fun i _=>?_;rw [BitVec.getLsbD_ushiftRight,BitVec.getLsbD_zero];exact h _ (by omega)
theorem aE7 {A F:Nat} {s0 out:BitVec 64} {a:AsA} (ho:out >>> F=0#64) (hf:a.fact.toNat<F):aNn A s0 out a >>> F=0#64:=by
 rw [bXu] at ho ⊢;intro i hi;unfold aNn;rw [BitVec.getLsbD_or,BitVec.getLsbD_and,ho i hi,Bool.false_and,Bool.false_or]
 split
 ·rw [BitVec.getLsbD_shiftLeft]
  by_cases h:i<64
  ·rw [show (1#64).getLsbD (i-a.fact.toNat)= false by
    have:i-a.fact.toNat≠0:=by omega
    simp [this]]
   simp
  ·simp [h]
 ·exact BitVec.getLsbD_zero
theorem aFh {p:PrA} {F:Nat} (hv:PrV p F) {s:BitVec 64} (hs:s >>> F=0#64) {mv:List Int} (hmv:∀ k ∈ mv,k<p.xF.length):bY4 p s mv >>> F=0#64:=by
 have key:∀ (l:List Int) (out:BitVec 64),(∀ k ∈ l,k<p.xF.length)->out >>> F=0#64->l.foldl (aO7 p s) out >>> F=0#64:=by
  intro l
  induction l with
  | nil=>intro out _ h; exact h
  | cons k r ih=>
   intro out hk h;refine ih _ (fun k hk2=>hk k (by simp [hk2])) ?_;unfold aO7
   split
   ·exact h
   ·have hkm:=hk k (by simp);have hm:=xS (l:=p.xF) (d:=[]) (k:=k.toNat) (by omega);generalize p.xF.getD k.toNat []=m at hm
    have:∀ (l:List AsA) (out:BitVec 64),(∀ a ∈ l,asE p a=0)->out >>> F=0#64->l.foldl (aNn p.see.length s) out >>> F=0#64:=by
     intro l
     induction l with
     | nil=>intro out _ h; exact h
     | cons a r ih2=> intro out ha h;have h1:=aQo hv.fe (ha a (by simp));exact ih2 _ (fun b hb=>ha b (by simp [hb])) (aE7 h (by omega))
    exact this m out (hv.mv m hm) h
 exact key mv s hmv hs
theorem aRi {p:PrA} {sts:List (List (BitVec 64))} {t a w:Nat}:∀ {l:List ClA},(∀ c ∈ l,clE p c=0)->sU p.see sts t a w l<p.xF.length /\ -1<=sU p.see sts t a w l
 | [],_=>⟨by unfold sU; omega,by unfold sU; omega⟩
 | c :: r,h=>by
  unfold sU
  split
  ·have:=h c (by simp);unfold clE at this
   split at this
   ·rename_i h1; exact absurd this h1
   ·split at this
    ·cases this
    ·rename_i h2; omega
  ·exact aRi fun d hd=>h d (by simp [hd])
theorem aK1 (p:PrA) (sts:List (List (BitVec 64))) (t:Nat):(nH p sts t).length=p.see.length:=by simp [nH]
theorem aZ7 {p:PrA} {sts:List (List (BitVec 64))} {t:Nat}:∀ m ∈ nH p sts t,m.length=sts.length:=fun m hm=>by simp only [nH,List.mem_map] at hm;obtain⟨a,_,rfl⟩:=hm;simp
theorem aRh {p:PrA} {F:Nat} (hv:PrV p F) {sts:List (List (BitVec 64))} {t:Nat}:∀ m ∈ nH p sts t,∀ k ∈ m,k<p.xF.length:=fun m hm k hk=>by simp only [nH,List.mem_map,List.mem_range] at hm;obtain⟨a,ha,rfl⟩:=hm;simp only [List.mem_map] at hk;obtain⟨w,_,rfl⟩:=hk;exact(aRi fun c hc=>hv.code _ (xS (d:=[]) (by rw [hv.hC]; exact ha)) c hc).1
structure PlS (p : PrA) (F : Nat) (sts : List (List (BitVec 64))) (n : Nat) : Prop where
 len:sts.length=p.init.length
 run:∀ st ∈ sts,st.length=n+1
 val:∀ st ∈ sts,∀ s ∈ st,s >>> F=0#64
theorem PlS.beg {p:PrA} {F:Nat} (hv:PrV p F):PlS p F (aSj p) 0 where
 len:=by simp [aSj]
 run:=fun st hs=>by simp only [aSj,List.mem_map] at hs;obtain⟨s,_,rfl⟩:=hs;rfl
 val:=fun st hs s hs2=>by simp only [aSj,List.mem_map] at hs;obtain⟨x,hx,rfl⟩:=hs;rw [List.mem_singleton.1 hs2];exact hv.init x hx
theorem pE {sts:List (List (BitVec 64))} {i:Nat} (h:i<sts.length):stR sts i ∈ sts:=xS h
theorem PlS.step {p:PrA} {F:Nat} (hv:PrV p F) {sts:List (List (BitVec 64))} {n:Nat} (h:PlS p F sts n) {mv:List (List Int)} (hmR:∀ m ∈ mv,m.length=sts.length) (hmv:∀ m ∈ mv,∀ k ∈ m,k<p.xF.length):PlS p F (aQu p sts mv) (n+1) where
 len:=by rw [<- h.len]; simp [aQu]
 run:=fun st hs=>by simp only [aQu,List.mem_map,List.mem_range] at hs;obtain⟨i,hi,rfl⟩:=hs;rw [List.length_append,h.run _ (pE hi)];rfl
 val:=fun st hs s hs2=>by
  simp only [aQu,List.mem_map,List.mem_range] at hs;obtain⟨i,hi,rfl⟩:=hs;have hr:=h.run _ (pE hi)
  rcases List.mem_append.1 hs2 with h1 | h1
  ·exact h.val _ (pE hi) s h1
  ·rw [List.mem_singleton.1 h1];refine aFh hv (h.val _ (pE hi) _ (xS (by omega))) fun k hk=>?_;simp only [List.mem_map] at hk;obtain⟨m,hm,rfl⟩:=hk;exact hmv m hm _ (xS (by rw [hmR m hm]; exact hi))
theorem PlS.bY9 {p:PrA} {F:Nat} (hv:PrV p F) {sts:List (List (BitVec 64))} {n t:Nat} (h:PlS p F sts n) (ht:t<=n) (hn:n<=1000):PlG p F sts t:=⟨hv.fe,hv.hF,hv.hA,by rw [h.len]; exact hv.hI,fun st hs=>by rw [h.run st hs]; omega,by omega,h.val⟩
theorem fV {p:PrA} {F:Nat} (hv:PrV p F):∀ n,PlS p F (vL p n) n
 | 0=>PlS.beg hv
 | n+1=>PlS.step hv (fV hv n) aZ7 (aRh hv)
theorem aG4 {p:PrA} {F:Nat} (hv:PrV p F) (n:Nat):(vL p n).length=p.init.length:=(fV hv n).len
theorem PlI.shift {p:PrA} {sts:List (List (BitVec 64))} {kx kS c:Nat} {ks:List Nat} {xZ r:List (Nat × Ob)} (h:PlI p sts kx kS ks xZ):PlI p sts (c+kx) (c+kS) (ks.map (c + ·)) (yS c xZ++r) where
 hx:=by rw [uA,sG c h.hx]; rfl
 nst:=Go.Pd.Nst.shift h.nst fun e he r hr=>(aMi e he r hr).2
 nd:=by have:=h.nd;unfold List.Nodup at this ⊢;rw [List.pairwise_map];exact this.imp fun h e=>h (by omega)
 ne:=fun e=>h.ne (by omega)
 xs:=fun hk=>by simp only [List.mem_map] at hk;obtain⟨k,hk,e⟩:=hk;exact h.xs ((show k=kx by omega) ▸ hk)
 ss:=fun hk=>by simp only [List.mem_map] at hk;obtain⟨k,hk,e⟩:=hk;exact h.ss ((show k=kS by omega) ▸ hk)
end Kb
theorem aRl {p:PrA} {b nx:Nat} (hb:2<=b) {sts:List (List (BitVec 64))} {K:Nat->Prop} (hK:∀ k,¬ K k):Seen ⟨nx,plL p b sts⟩ K (.ref 0 6 0 0) (plD p sts):=(aXh p hb sts).seen (hK 0) (hK 1) fun k _=>hK k
theorem bD {mv:List (List Int)}:∀ e ∈ mv.map (rows .i64),∀ r ∈ e,r.length=1/\D.xU r=true:=fun e he r hr=>by simp only [List.mem_map] at he;obtain⟨s,_,rfl⟩:=he;refine⟨?_,uG _ s r hr⟩;simp only [rows,List.mem_map] at hr;obtain⟨x,_,rfl⟩:=hr;rfl
theorem aFv {mv:List (List Int)}:∀ e ∈ mv.map (rows .i64),∀ r ∈ e,D.flL r=true:=fun e he r hr=>by simp only [List.mem_map] at he;obtain⟨s,_,rfl⟩:=he;simp only [rows,List.mem_map] at hr;obtain⟨x,_,rfl⟩:=hr;simp [D.flL,D.fl]
theorem aP2 {g:FuncId} {args args':List D} {mv:List (List Int)} {nx n:Nat} {ob:List (Nat × Ob)} (hn:n=mv.length) (hc:xY Tryz.prog g args' St0 (.osl 0 1 n) ⟨1+n,aNi (mv.map (rows .i64))⟩) (hl:jV ⟨nx,ob⟩ (fun _=>False) args args') :
  xY Tryz.prog g args ⟨nx,ob⟩ (.sl 1 (rl mv)) ⟨nx+(1+n),ob⟩:=by
 subst hn;refine xY.aF9 hc hl (by simp [D.fl]) (aAe aFv) ?_;have hN:=Nst.shift (c:=nx) (r:=ob) (aFi (mv.map (rows .i64))) fun e he r hr=>(bD e he r hr).2
 have:=Nst.seen (nx:=nx+(1+mv.length)) (K:=fun k=>k<nx) (n:=mv.length) hN (List.length_map _).symm (by omega) (fun k hk=>by simp only [List.mem_map] at hk;obtain⟨j,_,rfl⟩:=hk;omega) bD
 rw [bWk] at this;exact this
theorem aG3 {p:PrA} {F:Nat} (hv:PrV p F) {n:Nat} (hn:n<=100):yB Tryz.prog 69 [p.d,.int .i64 ((n+1:Nat):Int)] (plD p (vL p n)):=by
 have hB:=aE5 hv;have hI:=hv.hI;have hA:=hv.hA;have hD:p.d = .agg [.int .i64 p.F,.sl 1 (us p.init),.sl 1 (us p.see),.sl 1 (mvR p.xF),.sl 1 (cdR p.code)]:=rfl;have hw:IntKind.i64.wrap (((n+1:Nat):Int)-1)= (n:Int):=by rw [wrap_i64 (by omega)]; omega
 have hB1:=xY.own (σ:=⟨1,[(0,⟨5,[p.cells]⟩)]⟩) hB (by simp [D.xU,D.xL,PrA.d,PrA.cells]);have hlen:=fun t=>aG4 hv t;have hPS:=(aXh p (Nat.le_refl 2) (aSj p)).shift (c:=1) (r:=[(0,⟨5,[p.cells]⟩)]);have hbl:(aSj p).length=p.init.length:=by simp [aSj]
 unfold PrA.cells at hB1 hPS;rw [hD] at *;refine xY.xR mixed Tryz.func69 k69 (by simp) fun hf=>?_;simp only [simprocAttr,-ZA,↓zU,↓zD,zV,zT,zW]
 (repeat refine sd ?_)
 refine .go hB1 ?_;simp only [simprocAttr,-ZA,↓zU,↓zD,zV,zT,zW,hw]
 refine zN (fun t:Nat=>[(11,.int .i64 t),(10,.int .i64 n),(5,.ref 0 6 0 0)]) (fun t=>⟨2+(vL p t).length,plL p 2 (vL p t)⟩) (fun t=>t<=n) (fun t=>n-t) 0 (Nat.zero_le _) ?_ ?_
 ·refine xM.bY3 hPS (Nat.le_refl _) (Nat.zero_le _) (fun k hk=>absurd hk (Nat.not_lt_zero _)) ?_;simp only [vwF,vw,Fr.get,↓reduceIte,reduceIte,Nat.reduceEqDiff,D.shift,and_true,true_and];exact⟨rfl,by omega,rfl⟩
 intro t ht;refine xN mixed ?_;have hS:=fV hv t;have hl:=hlen t;by_cases htn:t<n
 case neg=>
  have hd:¬ ((t:Int)<(n:Int)):=by omega
  obtain rfl:t=n:=by omega
  simp only [simprocAttr,-ZA,↓zU,↓zD,zV,zT,zW,hd]
  refine .go [(5,plD p (vL p t))] ⟨2+(vL p t).length,[]⟩ ?_ ?_
  ·refine xM.deep (fun _=>False) trivial ⟨.inr ?_,trivial⟩;exact aRl (Nat.le_refl 2) fun _ h=>h
  simp only [simprocAttr,-ZA,↓zU,↓zD,zV,zT,zW];exact .drop (by simp) (by simp [vw,plD])
 have hd:((t:Int)<(n:Int)):=by omega
 have h76:=aVn hv (hS.bY9 hv (Nat.le_refl t) (by omega));have hpl:=aK1 p (vL p t) t;have h76l:=aP2 (nx:=2+(vL p t).length) (ob:=plL p 2 (vL p t)) (args:=[.ref 0 6 0 0,.int .i64 t]) hpl.symm h76 ⟨aRl (Nat.le_refl 2) fun _ h=>h,.pure rfl,trivial⟩;have h121:=aO1 hv (sts:=vL p t) (by rw [hl]; exact hI) (fun st hs=>by rw [hS.run st hs]; omega) hS.val (mv:=nH p (vL p t) t) (by rw [hpl]; omega) aZ7 (aRh hv) (nx:=2+(vL p t).length+(1+p.see.length)) (by omega);have hnext:vL p (t+1)= aQu p (vL p t) (nH p (vL p t) t):=rfl;have hsl:(aQu p (vL p t) (nH p (vL p t) t)).length=(vL p t).length:=by simp [aQu]
 have hPI:=aXh p (b:=2+(vL p t).length+(1+p.see.length)) (by omega) (aQu p (vL p t) (nH p (vL p t) t));simp only [simprocAttr,-ZA,↓zU,↓zD,zV,zT,zW,hd];refine .go h76l ?_;simp only [simprocAttr,-ZA,↓zU,↓zD,zV,zT,zW];refine .go h121 ?_;simp only [simprocAttr,-ZA,↓zU,↓zD,zV,zT,zW];refine⟨t+1,by omega,?_,by omega⟩;rw [hnext];refine xM.bY3 hPI (Nat.le_refl _) (Nat.zero_le _) (fun k hk=>absurd hk (Nat.not_lt_zero _)) ?_;simp only [vwF,vw,Fr.get,↓reduceIte,reduceIte,Nat.reduceEqDiff,and_true,true_and];exact⟨by rw [wrap_i64 (by omega)]; rfl,by omega,rfl⟩
open Rs Fm Ru Te Kb
namespace Kb
def iI (see:List (BitVec 64)) (sts:List (List (BitVec 64))) (a:Nat) (q:Nat × Nat):List Int:=(nJ see (stR sts q.1) a q.2).map ui
def aDp (see:List (BitVec 64)) (sts:List (List (BitVec 64))) (T a:Nat):List (List Int):=dedup (aV4 ((ptN T (sts.length*T)).map (iI see sts a)))
theorem aMu : rlu [] = []:=rfl
end Kb
theorem qJ {k:Nat} (h:k<=1000000000):IntKind.i64.wrap ((k:Int)+ 1)= ((k+1:Nat):Int):=by rw [wrap_i64 (by omega)]; rfl
theorem aTz {p:PrA} {sts:List (List (BitVec 64))} {a T:Nat} (ha:a<p.see.length) (hT:1<=T/\T<=16) (hR:1<=sts.length/\sts.length<=16) (hl:∀ st ∈ sts,T<=st.length) :
  yB Tryz.prog 73 [plD p sts,.int .i64 a,.int .i64 (T-1:Int)] (.sl 1 (rlu (aDp p.see sts T a))):=by
 have hh:∀ r t,r<sts.length->t<T->yB Tryz.prog 75 [plD p sts,.int .i64 a,.int .i64 r,.int .i64 t] (.sl 1 (rows .u64 (iI p.see sts a (r,t)))):=fun r t hr ht=>by have:=eU (eJ p ha hr (show t<(sts.getD r []).length by have:=hl _ (xS (d:=[]) hr); omega) (by omega));rw [aXf] at this;exact this
 have hne:1<=sts.length*T:=Nat.mul_le_mul hR.1 hT.1;have hle:sts.length*T<=16*16:=Nat.mul_le_mul hR.2 hT.2;have hw0:IntKind.i64.wrap (((T:Int)-1)+ 1)= (T:Int):=by rw [wrap_i64 (by omega)]; omega
 unfold aDp;generalize iI p.see sts a=kf at *;have hlen:((ptN T (sts.length*T)).map kf).length=sts.length*T:=by rw [List.length_map,vN]
 unfold plD plC at *;refine xY.xR mixed Tryz.func73 k73 (by simp) fun hf=>?_;simp only [simprocAttr,-ZA,↓zU,↓zD,zV,zT,zW,zP]
 refine xQ (fun r:Nat=>[(15,.int .i64 r),(14,.int .i64 sts.length),(7,xA 0 1 (rlu ((ptN T (r*T)).map kf))),(2,.int .i64 (T-1:Int)),(1,.int .i64 a),(0,.ptr [.int .i64 p.F,.sl 1 (us p.init),.sl 1 (us p.see),.sl 1 (mvR p.xF),.sl 1 (cdR p.code),.sl 1 (rr sts)])])
  (fun r=>⟨1,yY 0 1 (rlu ((ptN T (r*T)).map kf))⟩) (fun r=>r<=sts.length) (fun r=>sts.length-r) 0 (Nat.zero_le _) ?_ ?_
 ·(refine xM.ren [] [] (by simp) (by simp) (by decide) ?_; simp only [yK,vwL,vw,vwF,sw,St.get,St.look,Fr.get,simprocAttr,-ZA,exists_eq_left',ne_eq,zR,ptN,Nat.zero_mul,List.range_zero,List.map_nil,aMu,zA,zB])
 intro r hr;refine xN mixed ?_;by_cases hrl:r<sts.length
 case neg=>
  have hd:¬ ((r:Int)<(sts.length:Int)):=by omega
  obtain rfl:r=sts.length:=by omega
  generalize (ptN T (sts.length*T)).map kf=l at *;have hln:l ≠ []:=fun c=>by rw [c] at hlen; simp at hlen; omega
  have hln2:rlu l ≠ []:=fun c=>hln (by simpa [rlu] using c);rw [qG hln2,aYc hln2,uX];have hs:=aTn (σ:=⟨1,[(0,⟨1,rlu l⟩)]⟩) (key:=0) (l:=l) rfl hln (by omega);have hal:(aV4 l).length=l.length:=(kK l).length_eq;have hc:=aOo (σ:=⟨1,[(0,⟨1,rlu (aV4 l)⟩)]⟩) (key:=0) (l:=aV4 l) rfl (by omega) (fun c=>by rw [c] at hal; simp at hal; omega);rw [hal] at hc;simp only [simprocAttr,-ZA,↓zU,↓zD,zV,zT,zW,hd];refine .go hs ?_;simp only [simprocAttr,-ZA,↓zU,↓zD,zV,zT,zW];refine .go hc ?_;simp only [simprocAttr,-ZA,↓zU,↓zD,zV,zT,zW];exact .drop (by simp) (aYr (by decide) (aXx _) (by unfold aCv; rw [List.length_append,uX]; omega) (by unfold aCv; rw [List.take_left' (uX _)]))
 have hd:((r:Int)<(sts.length:Int)):=by omega
 simp only [simprocAttr,-ZA,↓zU,↓zD,zV,zT,zW,hd,hw0]
 refine xQ (fun t:Nat=>[(20,.int .i64 t),(19,.int .i64 T),(15,.int .i64 r),(14,.int .i64 sts.length),(8,.int .i64 r),(7,xA 0 1 (rlu ((ptN T (r*T+t)).map kf))),(2,.int .i64 (T-1:Int)),(1,.int .i64 a),(0,.ptr [.int .i64 p.F,.sl 1 (us p.init),.sl 1 (us p.see),.sl 1 (mvR p.xF),.sl 1 (cdR p.code),.sl 1 (rr sts)])])
  (fun t=>⟨1,yY 0 1 (rlu ((ptN T (r*T+t)).map kf))⟩) (fun t=>t<=T) (fun t=>T-t) 0 (Nat.zero_le _) ?_ ?_
 ·(refine xM.same ?_; simp only [xP,Fr.get,simprocAttr,-ZA,zS,Nat.add_zero])
  all_goals rfl
 intro t ht;refine xN mixed ?_;by_cases htl:t<T
 case neg=>
  have hd2:¬ ((t:Int)<(T:Int)):=by omega
  obtain rfl:t=T:=by omega
  simp only [simprocAttr,-ZA,↓zU,↓zD,zV,zT,zW,hd2];refine⟨r+1,by omega,?_,by omega⟩;rw [show (r+1)* t=r*t+t by rw [Nat.succ_mul]]
  (refine xM.same ?_; simp only [xP,Fr.get,simprocAttr,-ZA,zS])
  exact qJ (by omega)
 have hd2:((t:Int)<(T:Int)):=by omega
 have hs:(ptN T (r*T+(t+1))).map kf=(ptN T (r*T+t)).map kf ++ [kf (r,t)]:=by rw [aRg T r t htl,List.map_append]; rfl
 have hlk:((ptN T (r*T+t)).map kf).length=r*T+t:=by rw [List.length_map,vN]
 have hle2:r*T+t<=16*16:=by have:=Nat.mul_le_mul_right T (show r+1<=sts.length from hrl);rw [Nat.succ_mul] at this;omega
 have h75:=hh r t hrl htl;generalize (ptN T (r*T+t)).map kf=l at *;generalize kf (r,t)= x at *;simp only [simprocAttr,-ZA,↓zU,↓zD,zV,zT,zW,hd2];refine .go (cr h75) ?_;simp only [simprocAttr,-ZA,↓zU,↓zD,zV,zT,zW,uX,hlk]
 (repeat refine sd ?_)
 refine⟨t+1,by omega,?_,by omega⟩;rw [hs]
 (refine xM.ren [(0,1)] [0] (by simp) (by simp) (by decide) ?_; simp only [yK,vwL,vw,vwF,sw,St.get,St.look,Fr.get,simprocAttr,-ZA,exists_eq_left',ne_eq,zR,aGp,aKz])
 exact qJ (by omega)
open Rs Fm Ru Te Kb
namespace Kb
def aUc (sts:List (List (BitVec 64))):List xD:=sts.map fun st=>⟨[],st⟩
def iC (see:List (BitVec 64)) (sts:List (List (BitVec 64))) (T:Nat):List xD:=aCr (aUc sts) see.length T (iI see sts)
def rll (l:List (List (List Int))):List (List D):=l.map fun m=>[.sl 1 (rlu m)]
theorem aMv (l:List (List (List Int))):(rll l).length=l.length:=by simp [rll]
theorem aBu {l:List (List (List Int))} {i:Nat} (h:i<l.length):(rll l).getD i [] = [.sl 1 (rlu (l.getD i []))]:=by simp [rll,List.getD,h]
theorem aGr (l:List (List (List Int))) (m:List (List Int)):rll l ++ [[.sl 1 (rlu m)]]=rll (l ++ [m]):=by simp [rll]
theorem aGs (l:List (List (List Int))):∀ e ∈ rll l,D.xU e=true:=by intro e he;simp only [rll,List.mem_map] at he;obtain⟨m,_,rfl⟩:=he;rfl
theorem aZ6 (l:List (List (List Int))):tR (rll l):=aGs l
theorem aBt : rll [] = []:=rfl
theorem aKk (l:List xD) (r:xD):vF l ++ [[.sl 1 (rl r.loc),.sl 1 (us r.fac)]]=vF (l ++ [r]):=by simp [vF,xD.row]
theorem uV (l:List xD):tR (vF l):=aKl l
theorem aGm : vF [] = []:=rfl
theorem lG (sts:List (List (BitVec 64))):(aUc sts).length=sts.length:=by simp [aUc]
theorem gY (see:List (BitVec 64)) (sts:List (List (BitVec 64))) (T:Nat):(iC see sts T).length=sts.length:=by unfold iC; rw [aGv,lG]
theorem aS2 {see:List (BitVec 64)} {sts:List (List (BitVec 64))} {T i:Nat} (hi:i<sts.length) :
  (iC see sts T).getD i qT=⟨(List.range T).map fun t=>(List.range see.length).map fun a=>((below (aDp see sts T a) (iI see sts a (i,t)):Nat):Int),stR sts i⟩:=by
 unfold iC aCr;rw [aRb (by rw [lG]; exact hi),lG];have:((aUc sts).getD i qT).fac=stR sts i:=by simp [aUc,stR,List.getD,hi]
 rw [this];rfl
end Kb
theorem aPi {α:Type} {l:List α} {k:Nat} {d:α} (h:k<l.length):l.take (k+1)= l.take k ++ [l.getD k d]:=wT h
theorem aH3 {p:PrA} {F:Nat} (hv:PrV p F) {sts:List (List (BitVec 64))} {T:Nat} (hT:1<=T/\T<=16) (hR:1<=sts.length/\sts.length<=16) (hl:∀ st ∈ sts,st.length=T) :
  yB Tryz.prog 70 [plD p sts] (sD p.see.length F T (iC p.see sts T)):=by
 have hA:=hv.hA
 have hh:∀ a r t,a<p.see.length->r<sts.length->t<T->yB Tryz.prog 75 [plD p sts,.int .i64 a,.int .i64 r,.int .i64 t] (.sl 1 (rows .u64 (iI p.see sts a (r,t)))):=fun a r t ha hr ht=>by have:=eU (eJ p ha hr (show t<(sts.getD r []).length by have:=hl _ (xS (d:=[]) hr); omega) (by omega));rw [aXf] at this;exact this
 have hw1:IntKind.i64.wrap ((T:Int)-1)= ((T:Int)-1):=wrap_i64 (by omega);have h73:=fun a ha=>aTz (p:=p) (sts:=sts) (a:=a) (T:=T) ha hT hR fun st hs=>by rw [hl st hs]; exact Nat.le_refl _
 have hasc:∀ a,asc (aDp p.see sts T a):=fun a=>aJ3 (aQm _)
 have hak:∀ a,(aDp p.see sts T a).length<=1000:=fun a=>by have h1:(aDp p.see sts T a).length<=(aV4 ((ptN T (sts.length*T)).map (iI p.see sts a))).length:=aLk _ _;have h2:=(kK ((ptN T (sts.length*T)).map (iI p.see sts a))).length_eq;rw [List.length_map,vN] at h2;have hle:sts.length*T<=16*16:=Nat.mul_le_mul hR.2 hT.2;omega
 have hS:=fun i (hi:i<sts.length)=>aS2 (see:=p.see) (T:=T) hi;have hSl:=gY p.see sts T;have hst:∀ r,r<sts.length->(stR sts r).length=T:=fun r hr=>hl _ (xS (d:=[]) hr);generalize iI p.see sts=kf at *;generalize aDp p.see sts T=al at *;generalize iC p.see sts T=S at *;have hg0:=nD sts (show 0<sts.length by omega);have hd0:(0:Int)<(sts.length:Int):=by omega
 have hl0:=hst 0 (by omega);unfold stR at hl0;unfold plD plC sD at *;rw [hv.fe] at *;refine xY.xR mixed Tryz.func70 k70 (by simp) fun hf=>?_;simp only [simprocAttr,-ZA,↓zU,↓zD,zV,zT,zW,zP,hd0,hg0,xK,hl0]
 (repeat refine sd ?_)
 refine zN (fun a:Nat=>[(41,.int .i64 a),(40,.int .i64 p.see.length),(5,xA 2 1 (rll ((List.range a).map al))),(4,.ref 1 4 0 0),(3,.int .i64 T),(2,.ref 0 4 0 0),(0,.ptr [.int .i64 F,.sl 1 (us p.init),.sl 1 (us p.see),.sl 1 (mvR p.xF),.sl 1 (cdR p.code),.sl 1 (rr sts)])])
  (fun a=>⟨3,yY 2 1 (rll ((List.range a).map al))++ [(1,⟨4,[[.int .i64 p.see.length,.int .i64 F,.int .i64 T,.xO]]⟩),(0,⟨4,[[.int .i64 0,.int .i64 0,.int .i64 0,.xO]]⟩)]⟩) (fun a=>a<=p.see.length) (fun a=>p.see.length-a) 0 (Nat.zero_le _) ?_ ?_
 ·(refine xM.ren [] [1,0] (by simp) (by simp) (by decide) ?_; simp only [yK,vwL,vw,vwF,sw,St.get,St.look,Fr.get,simprocAttr,-ZA,exists_eq_left',ne_eq,zR,List.range_zero,List.map_nil,aBt,zA,zB,List.nil_append])
 intro a ha;refine xN mixed ?_;by_cases hal:a<p.see.length
 case pos=>
  have hd:((a:Int)<(p.see.length:Int)):=by omega
  have h1:=h73 a hal;have hsu:(List.range (a+1)).map al=(List.range a).map al ++ [al a]:=by rw [List.range_succ,List.map_append]; rfl
  have hla:((List.range a).map al).length=a:=by simp
  generalize (List.range a).map al=L at *;simp only [simprocAttr,-ZA,↓zU,↓zD,zV,zT,zW,hd,hw1];refine .go (cr h1) ?_;simp only [simprocAttr,-ZA,↓zU,↓zD,zV,zT,zW,aMv,hla]
  (repeat refine sd ?_)
  refine⟨a+1,by omega,?_,by omega⟩;rw [hsu]
  (refine xM.ren [(2,3)] [2,1,0] (by simp) (by simp) (by decide) ?_; simp only [yK,vwL,vw,vwF,sw,St.get,St.look,Fr.get,simprocAttr,-ZA,exists_eq_left',ne_eq,zR,aGr,aZ6])
  exact qJ (by omega)
 have hd:¬ ((a:Int)<(p.see.length:Int)):=by omega
 obtain rfl:a=p.see.length:=by omega
 have hlal:((List.range p.see.length).map al).length=p.see.length:=by simp
 have hgal:∀ a,a<p.see.length->(rll ((List.range p.see.length).map al)).getD a [] = [.sl 1 (rlu (al a))]:=fun a ha=>by rw [aBu (by rw [hlal]; exact ha)]; simp [List.getD,ha]
 generalize (List.range p.see.length).map al=L at *;simp only [simprocAttr,-ZA,↓zU,↓zD,zV,zT,zW,hd]
 refine .go [(5,.sl 1 (rll L)),(4,.ref 1 4 0 0),(3,.int .i64 T),(2,.ref 0 4 0 0),(0,.ptr [.int .i64 F,.sl 1 (us p.init),.sl 1 (us p.see),.sl 1 (mvR p.xF),.sl 1 (cdR p.code),.sl 1 (rr sts)])] ⟨2,[(1,⟨4,[[.int .i64 p.see.length,.int .i64 F,.int .i64 T,.xO]]⟩),(0,⟨4,[[.int .i64 0,.int .i64 0,.int .i64 0,.xO]]⟩)]⟩ ?_ ?_
 ·(refine xM.ren [] [1,0] (by simp) (by simp) (by decide) ?_; simp only [yK,vwL,vw,vwF,sw,St.get,St.look,Fr.get,simprocAttr,-ZA,exists_eq_left',ne_eq,zR,aZ6])
 simp only [simprocAttr,-ZA,↓zU,↓zD,zV,zT,zW,zP]
 refine xQ (fun r:Nat=>[(58,.int .i64 r),(57,.int .i64 sts.length),(56,.sl 1 (rr sts)),(5,.sl 1 (rll L)),(4,.ref 1 4 0 0),(3,.int .i64 T),(2,.ref 0 4 0 0),(0,.ptr [.int .i64 F,.sl 1 (us p.init),.sl 1 (us p.see),.sl 1 (mvR p.xF),.sl 1 (cdR p.code),.sl 1 (rr sts)])])
  (fun r=>⟨3,yY 2 2 (vF (S.take r))++ [(1,⟨4,[[.int .i64 p.see.length,.int .i64 F,.int .i64 T,xA 2 2 (vF (S.take r))]]⟩),(0,⟨4,[[.int .i64 0,.int .i64 0,.int .i64 0,.xO]]⟩)]⟩) (fun r=>r<=sts.length) (fun r=>sts.length-r) 0 (Nat.zero_le _) ?_ ?_
 ·(refine xM.ren [] [1,0] (by simp) (by simp) (by decide) ?_; simp only [yK,vwL,vw,vwF,sw,St.get,St.look,Fr.get,simprocAttr,-ZA,exists_eq_left',ne_eq,zR,List.take_zero,aGm,zA,zB,List.nil_append])
 intro r hr;refine xN mixed ?_;by_cases hrl:r<sts.length
 case neg=>
  have hd2:¬ ((r:Int)<(sts.length:Int)):=by omega
  rw [List.take_of_length_le (show S.length<=r by omega)];simp only [simprocAttr,-ZA,↓zU,↓zD,zV,zT,zW,hd2]
  (refine iT.ren [] [] (by simp) (by simp) (by decide) ?_; simp only [yK,vwL,vw,vwF,sw,St.get,St.look,Fr.get,simprocAttr,-ZA,exists_eq_left',ne_eq,zR,uV])
 have hd2:((r:Int)<(sts.length:Int)):=by omega
 have hgr:=nD sts hrl;have hlr:=hst r hrl;have hSr:=hS r hrl;have hSs:=aPi (l:=S) (d:=qT) (show r<S.length by omega);rw [hSr] at hSs;have hSl2:(S.take r).length=r:=by rw [List.length_take]; omega
 unfold stR at hlr hSs;have hcl:=bXn (c:=sts.getD r []) (by omega) (by omega);generalize sts.getD r []=st at *;generalize S.take r=S0 at *;simp only [simprocAttr,-ZA,↓zU,↓zD,zV,zT,zW,hd2,zP,hgr]
 (repeat refine sd ?_)
 refine .go (cr hcl) ?_;simp only [simprocAttr,-ZA,↓zU,↓zD,zV,zT,zW]
 (repeat refine sd ?_)
 let lrow:Nat->List Int:=(fun t=>(List.range p.see.length).map fun a=>((below (al a) (kf a (r,t)):Nat):Int))
 have hlw:((List.range T).map fun t=>(List.range p.see.length).map fun a=>((below (al a) (kf a (r,t)):Nat):Int))= (List.range T).map lrow:=rfl;rw [hlw] at hSs
 refine zN (fun t:Nat=>[(67,.int .i64 t),(66,.int .i64 T),(58,.int .i64 r),(57,.int .i64 sts.length),(56,.sl 1 (rr sts)),(9,.ref 3 2 0 0),(7,.int .i64 r),(5,.sl 1 (rll L)),(4,.ref 1 4 0 0),(3,.int .i64 T),(2,.ref 0 4 0 0),(0,.ptr [.int .i64 F,.sl 1 (us p.init),.sl 1 (us p.see),.sl 1 (mvR p.xF),.sl 1 (cdR p.code),.sl 1 (rr sts)])])
  (fun t=>⟨5,yY 4 1 (rl ((List.range t).map lrow))++ ((3,⟨2,[[xA 4 1 (rl ((List.range t).map lrow)),.sl 1 (us st)]]⟩) :: (yY 2 2 (vF S0)++ [(1,⟨4,[[.int .i64 p.see.length,.int .i64 F,.int .i64 T,xA 2 2 (vF S0)]]⟩),(0,⟨4,[[.int .i64 0,.int .i64 0,.int .i64 0,.xO]]⟩)]))⟩) (fun t=>t<=T) (fun t=>T-t) 0 (Nat.zero_le _) ?_ ?_
 ·(refine xM.ren [] [3,2,1,0] (by simp) (by simp) (by decide) ?_; simp only [yK,vwL,vw,vwF,sw,St.get,St.look,Fr.get,simprocAttr,-ZA,exists_eq_left',ne_eq,zR,List.range_zero,List.map_nil,bWf,zA,zB,List.nil_append,uV])
 intro t ht;refine xN mixed ?_;by_cases htl:t<T
 case neg=>
  have hd3:¬ ((t:Int)<(T:Int)):=by omega
  obtain rfl:t=T:=by omega
  generalize (List.range t).map lrow=LL at *;simp only [simprocAttr,-ZA,↓zU,↓zD,zV,zT,zW,hd3]
  refine .go [(58,.int .i64 r),(57,.int .i64 sts.length),(56,.sl 1 (rr sts)),(9,.ref 3 2 0 0),(5,.sl 1 (rll L)),(4,.ref 1 4 0 0),(3,.int .i64 t),(2,.ref 0 4 0 0),(0,.ptr [.int .i64 F,.sl 1 (us p.init),.sl 1 (us p.see),.sl 1 (mvR p.xF),.sl 1 (cdR p.code),.sl 1 (rr sts)])]
   ⟨4,(3,⟨2,[[.sl 1 (rl LL),.sl 1 (us st)]]⟩) :: (yY 2 2 (vF S0)++ [(1,⟨4,[[.int .i64 p.see.length,.int .i64 F,.int .i64 t,xA 2 2 (vF S0)]]⟩),(0,⟨4,[[.int .i64 0,.int .i64 0,.int .i64 0,.xO]]⟩)])⟩ ?_ ?_
  ·(refine xM.ren [] [3,2,1,0] (by simp) (by simp) (by decide) ?_; simp only [yK,vwL,vw,vwF,sw,St.get,St.look,Fr.get,simprocAttr,-ZA,exists_eq_left',ne_eq,zR,uV,lM])
  simp only [simprocAttr,-ZA,↓zU,↓zD,zV,zT,zW,zQ,hSl2]
  (repeat refine sd ?_)
  refine⟨r+1,by omega,?_,by omega⟩;rw [hSs];have hsn:=aKk S0 ⟨LL,st⟩;simp only at hsn
  (refine xM.ren [(2,4)] [2,1,0] (by simp) (by simp) (by decide) ?_; simp only [yK,vwL,vw,vwF,sw,St.get,St.look,Fr.get,simprocAttr,-ZA,exists_eq_left',ne_eq,zR,hsn,uV])
  exact qJ (by omega)
 have hd3:((t:Int)<(T:Int)):=by omega
 have hsu:(List.range (t+1)).map lrow=(List.range t).map lrow ++ [lrow t]:=by rw [List.range_succ,List.map_append]; rfl
 have hll:((List.range t).map lrow).length=t:=by simp
 generalize (List.range t).map lrow=LL at *;simp only [simprocAttr,-ZA,↓zU,↓zD,zV,zT,zW,hd3,xK]
 refine zN (fun a:Nat=>[(76,.int .i64 a),(75,.int .i64 p.see.length),(67,.int .i64 t),(66,.int .i64 T),(58,.int .i64 r),(57,.int .i64 sts.length),(56,.sl 1 (rr sts)),(11,xA 5 1 (rows .i64 ((List.range a).map fun a=>((below (al a) (kf a (r,t)):Nat):Int)))),(10,.int .i64 t),(9,.ref 3 2 0 0),(7,.int .i64 r),(5,.sl 1 (rll L)),(4,.ref 1 4 0 0),(3,.int .i64 T),(2,.ref 0 4 0 0),(0,.ptr [.int .i64 F,.sl 1 (us p.init),.sl 1 (us p.see),.sl 1 (mvR p.xF),.sl 1 (cdR p.code),.sl 1 (rr sts)])])
  (fun a=>⟨6,yY 5 1 (rows .i64 ((List.range a).map fun a=>((below (al a) (kf a (r,t)):Nat):Int)))++ (yY 4 1 (rl LL)++ ((3,⟨2,[[xA 4 1 (rl LL),.sl 1 (us st)]]⟩) :: (yY 2 2 (vF S0)++ [(1,⟨4,[[.int .i64 p.see.length,.int .i64 F,.int .i64 T,xA 2 2 (vF S0)]]⟩),(0,⟨4,[[.int .i64 0,.int .i64 0,.int .i64 0,.xO]]⟩)])))⟩) (fun a=>a<=p.see.length) (fun a=>p.see.length-a) 0 (Nat.zero_le _) ?_ ?_
 ·(refine xM.ren [] [4,3,2,1,0] (by simp) (by simp) (by decide) ?_; simp only [yK,vwL,vw,vwF,sw,St.get,St.look,Fr.get,simprocAttr,-ZA,exists_eq_left',ne_eq,zR,List.range_zero,List.map_nil,lO,zA,zB,List.nil_append,uV,lM])
 intro a ha;refine xN mixed ?_;by_cases hal:a<p.see.length
 case neg=>
  have hd4:¬ ((a:Int)<(p.see.length:Int)):=by omega
  obtain rfl:a=p.see.length:=by omega
  have hlr2:((List.range p.see.length).map fun a=>((below (al a) (kf a (r,t)):Nat):Int))= lrow t:=rfl;rw [hlr2];generalize lrow t=x at *;simp only [simprocAttr,-ZA,↓zU,↓zD,zV,zT,zW,hd4]
  refine .go [(67,.int .i64 t),(66,.int .i64 T),(58,.int .i64 r),(57,.int .i64 sts.length),(56,.sl 1 (rr sts)),(11,.sl 1 (rows .i64 x)),(9,.ref 3 2 0 0),(7,.int .i64 r),(5,.sl 1 (rll L)),(4,.ref 1 4 0 0),(3,.int .i64 T),(2,.ref 0 4 0 0),(0,.ptr [.int .i64 F,.sl 1 (us p.init),.sl 1 (us p.see),.sl 1 (mvR p.xF),.sl 1 (cdR p.code),.sl 1 (rr sts)])]
   ⟨5,yY 4 1 (rl LL)++ ((3,⟨2,[[xA 4 1 (rl LL),.sl 1 (us st)]]⟩) :: (yY 2 2 (vF S0)++ [(1,⟨4,[[.int .i64 p.see.length,.int .i64 F,.int .i64 T,xA 2 2 (vF S0)]]⟩),(0,⟨4,[[.int .i64 0,.int .i64 0,.int .i64 0,.xO]]⟩)]))⟩ ?_ ?_
  ·(refine xM.ren [] [4,3,2,1,0] (by simp) (by simp) (by decide) ?_; simp only [yK,vwL,vw,vwF,sw,St.get,St.look,Fr.get,simprocAttr,-ZA,exists_eq_left',ne_eq,zR,uV,lM])
  simp only [simprocAttr,-ZA,↓zU,↓zD,zV,zT,zW,tH,hll]
  (repeat refine sd ?_)
  refine⟨t+1,by omega,?_,by omega⟩;rw [hsu]
  (refine xM.ren [(4,5)] [4,3,2,1,0] (by simp) (by simp) (by decide) ?_; simp only [yK,vwL,vw,vwF,sw,St.get,St.look,Fr.get,simprocAttr,-ZA,exists_eq_left',ne_eq,zR,aBv,uV,lM])
  exact qJ (by omega)
 have hd4:((a:Int)<(p.see.length:Int)):=by omega
 have hga:=hgal a hal;obtain⟨bb,hse⟩:=aKj (kf a (r,t)) (hasc a) (hak a);have h75:=hh a r t hal hrl htl;have hsu2:(List.range (a+1)).map (fun a=>((below (al a) (kf a (r,t)):Nat):Int))= (List.range a).map (fun a=>((below (al a) (kf a (r,t)):Nat):Int))++ [((below (al a) (kf a (r,t)):Nat):Int)]:=by rw [List.range_succ,List.map_append]; rfl
 have hla2:((List.range a).map fun a=>((below (al a) (kf a (r,t)):Nat):Int)).length=a:=by simp
 have hdL:((a:Int)<(L.length:Int)):=by omega
 generalize (List.range a).map (fun a=>((below (al a) (kf a (r,t)):Nat):Int))= W at *;simp only [simprocAttr,-ZA,↓zU,↓zD,zV,zT,zW,hd4,aMv,hdL,hga]
 (repeat refine sd ?_)
 refine .go (cr h75) ?_;simp only [simprocAttr,-ZA,↓zU,↓zD,zV,zT,zW];refine .go (cr hse) ?_;simp only [simprocAttr,-ZA,↓zU,↓zD,zV,zT,zW,yW,hla2]
 (repeat refine sd ?_)
 refine⟨a+1,by omega,?_,by omega⟩;rw [hsu2]
 (refine xM.ren [(5,6)] [5,4,3,2,1,0] (by simp) (by simp) (by decide) ?_; simp only [yK,vwL,vw,vwF,sw,St.get,St.look,Fr.get,simprocAttr,-ZA,exists_eq_left',ne_eq,zR,uV,lM])
 exact qJ (by omega)
namespace Kb
def aVz (p:PrA) (n:Int):Int:=if qU p≠0 then qU p else if n<1\/6<n then 2 else 0
theorem oG {p:PrA} {n:Int} (h:aVz p n=0):∃ F k:Nat,PrV p F/\n=((k+1:Nat):Int)/\ k<=5:=by
 unfold aVz at h
 split at h
 ·rename_i h1; exact absurd h h1
 ·rename_i h1
  split at h
  ·cases h
  ·obtain⟨F,hv⟩:=aW6 (by simpa using h1);exact⟨F,(n-1).toNat,hv,by omega,by omega⟩
def gI (p:PrA) (n:Int):tZ:=if aVz p n≠0 then⟨0,0,0,[]⟩ else⟨p.see.length,p.F,n,iC p.see (vL p (n.toNat-1)) n.toNat⟩
end Kb
theorem aKt (p:PrA) (sm:aZl p) (n:Int):yB Tryz.prog 68 [p.d,.int .i64 n] (.int .i64 (aVz p n)):=by
 have hC:=bX3 p sm;unfold PrA.d PrA.cells aVz at *;refine xY.xR mixed Tryz.func68 k68 (by simp) fun hf=>?_;simp only [simprocAttr,-ZA,↓zU,↓zD,zV,zT,zW]
 (repeat refine sd ?_)
 refine .go (cr hC) ?_;by_cases c:qU p=0
 case neg=>
  have c':(qU p != 0)= true:=by simpa using c
  rw [if_pos c];simp only [simprocAttr,-ZA,↓zU,↓zD,zV,zT,zW,c'];exact .dv
 have c':(qU p != 0)= false:=by simpa using c
 rw [if_neg (by simpa using c)]
 by_cases h1:n<1
 ·rw [if_pos (.inl h1)];simp only [simprocAttr,-ZA,↓zU,↓zD,zV,zT,zW,c',h1];exact .dv
 by_cases h2:6<n
 ·rw [if_pos (.inr h2)];simp only [simprocAttr,-ZA,↓zU,↓zD,zV,zT,zW,c',h1,h2];exact .dv
 rw [if_neg (by omega)];simp only [simprocAttr,-ZA,↓zU,↓zD,zV,zT,zW,c',h1,h2];exact .dv
theorem aTj {p:PrA} {F k:Nat} (hv:PrV p F) (hk:k<=5) {sts:List (List (BitVec 64))} (hS:PlS p F sts k):yB Tryz.prog 70 [plD p sts] (sD p.see.length F (k+1) (iC p.see sts (k+1))):= aH3 hv ⟨by omega,by omega⟩ (by rw [hS.len]; exact hv.hI) hS.run
theorem aCi (p:PrA) (sm:aZl p) (n:Int):yB Tryz.prog 19 [p.d,.int .i64 n] (.tup [(gI p n).d,.int .i64 (aVz p n)]):=by
 have hR:=aKt p sm n;by_cases c:aVz p n=0
 case neg=>
  have c':(aVz p n != 0)= true:=by simpa using c
  have hD:(gI p n).d = .agg [.int .i64 0,.int .i64 0,.int .i64 0,.sl 2 []]:=by unfold gI; rw [if_pos c]; rfl
  rw [hD];unfold PrA.d PrA.cells at *;refine xY.xR mixed Tryz.func19 k19 (by simp) fun hf=>?_;simp only [simprocAttr,-ZA,↓zU,↓zD,zV,zT,zW]
  (repeat refine sd ?_)
  refine .go (cr hR) ?_;simp only [simprocAttr,-ZA,↓zU,↓zD,zV,zT,zW,c']
  (repeat refine sd ?_)
  exact .drop (by simp) (by simp [vw,vwL])
 have c':(aVz p n != 0)= false:=by simpa using c
 obtain⟨F,k,hv,rfl,hk⟩:=oG c;have hP:=aG3 hv (n:=k) (by omega);have hS:=aTj hv hk (fV hv k)
 have hD:(gI p ((k+1:Nat):Int)).d=sD p.see.length F (k+1) (iC p.see (vL p k) (k+1)):=by unfold gI;rw [if_neg (by simpa using c),Int.toNat_natCast,show k+1-1=k by omega];show D.agg [_,_,_,_]=D.agg [_,_,_,_];rw [hv.fe]
 rw [hD];generalize iC p.see (vL p k) (k+1)= S at *;generalize vL p k=sts at *;unfold PrA.d PrA.cells plD plC sD at *;refine xY.xR mixed Tryz.func19 k19 (by simp) fun hf=>?_;simp only [simprocAttr,-ZA,↓zU,↓zD,zV,zT,zW]
 (repeat refine sd ?_)
 refine .go (cr hR) ?_;simp only [simprocAttr,-ZA,↓zU,↓zD,zV,zT,zW,c'];refine .go (cr hP) ?_;simp only [simprocAttr,-ZA,↓zU,↓zD,zV,zT,zW];refine .go (cr hS) ?_;simp only [simprocAttr,-ZA,↓zU,↓zD,zV,zT,zW]
 (repeat refine sd ?_)
 exact .drop (by simp) (by simp [vw,vwL]; simpa using c.symm)
end Go.Pd
