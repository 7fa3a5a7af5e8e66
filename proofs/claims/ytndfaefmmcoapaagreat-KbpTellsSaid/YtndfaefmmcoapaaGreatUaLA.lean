/- Part LA. -/
import Derived.Test.YtndfaefmmcoapaaGreatUaKX
import Derived.Test.YtndfaefmmcoapaaGreatUaC9
set_option linter.unusedSectionVars false
set_option linter.unusedVariables false
set_option linter.unusedSimpArgs false
set_option linter.defProp false
set_option maxRecDepth 20000
set_option maxHeartbeats 1000000
namespace Go.Pd
open Go Go.Proofs
open BitVec renaming isValue -> ZA
open Rs Fm Ru Te Kb
namespace Kb
def zL (p:PrA):Nat->List (List (BitVec 64))
 | 0=>cC p
 | n+1=>mE p (zL p n) (vW p (zL p n) n)
theorem aAu {x:BitVec 64} {F:Nat}:x >>> F=0#64 ↔ ∀ i,F<=i->x.getLsbD i=false:=by
 constructor
 ·intro h i hi;have:=congrArg (fun y:BitVec 64=>y.getLsbD (i-F)) h;simp only [BitVec.getLsbD_ushiftRight,BitVec.getLsbD_zero] at this
  rwa [show F+(i-F)= i by omega] at this
 ·intro h;refine BitVec.eq_of_getLsbD_eq fun i _=>?_;rw [BitVec.getLsbD_ushiftRight,BitVec.getLsbD_zero];exact h _ (by omega)
theorem aEe {A F:Nat} {s0 out:BitVec 64} {a:AsA} (ho:out >>> F=0#64) (hf:a.fact.toNat<F):aO4 A s0 out a >>> F=0#64:=by
 rw [aAu] at ho ⊢;intro i hi;unfold aO4;rw [BitVec.getLsbD_or,BitVec.getLsbD_and,ho i hi,Bool.false_and,Bool.false_or]
 split
 ·rw [BitVec.getLsbD_shiftLeft]
  by_cases h:i<64
  ·rw [show (1#64).getLsbD (i-a.fact.toNat)= false by
    have:i-a.fact.toNat≠0:=by omega
    simp [this]]
   simp
  ·simp [h]
 ·exact BitVec.getLsbD_zero
theorem aGt {p:PrA} {F:Nat} (hv:PrV p F) {s:BitVec 64} (hs:s >>> F=0#64) {mv:List Int} (hmv:∀ k ∈ mv,k<p.xN.length):bXh p s mv >>> F=0#64:=by
 have key:∀ (l:List Int) (out:BitVec 64),(∀ k ∈ l,k<p.xN.length)->out >>> F=0#64->l.foldl (aTz p s) out >>> F=0#64:=by
  intro l
  induction l with
  | nil=>intro out _ h; exact h
  | cons k r ih=>
   intro out hk h;refine ih _ (fun k hk2=>hk k (by simp [hk2])) ?_;unfold aTz
   split
   ·exact h
   ·have hkm:=hk k (by simp);have hm:=xK (l:=p.xN) (d:=[]) (k:=k.toNat) (by omega);generalize p.xN.getD k.toNat []=m at hm
    have:∀ (l:List AsA) (out:BitVec 64),(∀ a ∈ l,asE p a=0)->out >>> F=0#64->l.foldl (aO4 p.see.length s) out >>> F=0#64:=by
     intro l
     induction l with
     | nil=>intro out _ h; exact h
     | cons a r ih2=> intro out ha h;have h1:=aR4 hv.fe (ha a (by simp));exact ih2 _ (fun b hb=>ha b (by simp [hb])) (aEe h (by omega))
    exact this m out (hv.mv m hm) h
 exact key mv s hmv hs
theorem aSu {p:PrA} {sts:List (List (BitVec 64))} {t a w:Nat}:∀ {l:List ClA},(∀ c ∈ l,clE p c=0)->sQ p.see sts t a w l<p.xN.length /\ -1<=sQ p.see sts t a w l
 | [],_=>⟨by unfold sQ; omega,by unfold sQ; omega⟩
 | c :: r,h=>by
  unfold sQ
  split
  ·have:=h c (by simp);unfold clE at this
   split at this
   ·rename_i h1; exact absurd this h1
   ·split at this
    ·cases this
    ·rename_i h2; omega
  ·exact aSu fun d hd=>h d (by simp [hd])
theorem kX (p:PrA) (sts:List (List (BitVec 64))) (t:Nat):(vW p sts t).length=p.see.length:=by simp [vW]
theorem aZq {p:PrA} {sts:List (List (BitVec 64))} {t:Nat}:∀ m ∈ vW p sts t,m.length=sts.length:=fun m hm=>by simp only [vW,List.mem_map] at hm;obtain⟨a,_,rfl⟩:=hm;simp
theorem aSt {p:PrA} {F:Nat} (hv:PrV p F) {sts:List (List (BitVec 64))} {t:Nat}:∀ m ∈ vW p sts t,∀ k ∈ m,k<p.xN.length:=fun m hm k hk=>by simp only [vW,List.mem_map,List.mem_range] at hm;obtain⟨a,ha,rfl⟩:=hm;simp only [List.mem_map] at hk;obtain⟨w,_,rfl⟩:=hk;exact(aSu fun c hc=>hv.code _ (xK (d:=[]) (by rw [hv.hC]; exact ha)) c hc).1
structure PlS (p : PrA) (F : Nat) (sts : List (List (BitVec 64))) (n : Nat) : Prop where
 len:sts.length=p.init.length
 run:∀ st ∈ sts,st.length=n+1
 val:∀ st ∈ sts,∀ s ∈ st,s >>> F=0#64
theorem PlS.beg {p:PrA} {F:Nat} (hv:PrV p F):PlS p F (cC p) 0 where
 len:=by simp [cC]
 run:=fun st hs=>by simp only [cC,List.mem_map] at hs;obtain⟨s,_,rfl⟩:=hs;rfl
 val:=fun st hs s hs2=>by simp only [cC,List.mem_map] at hs;obtain⟨x,hx,rfl⟩:=hs;rw [List.mem_singleton.1 hs2];exact hv.init x hx
theorem sK {sts:List (List (BitVec 64))} {i:Nat} (h:i<sts.length):stR sts i ∈ sts:=xK h
theorem PlS.step {p:PrA} {F:Nat} (hv:PrV p F) {sts:List (List (BitVec 64))} {n:Nat} (h:PlS p F sts n) {mv:List (List Int)} (hmR:∀ m ∈ mv,m.length=sts.length) (hmv:∀ m ∈ mv,∀ k ∈ m,k<p.xN.length):PlS p F (mE p sts mv) (n+1) where
 len:=by rw [<- h.len]; simp [mE]
 run:=fun st hs=>by simp only [mE,List.mem_map,List.mem_range] at hs;obtain⟨i,hi,rfl⟩:=hs;rw [List.length_append,h.run _ (sK hi)];rfl
 val:=fun st hs s hs2=>by
  simp only [mE,List.mem_map,List.mem_range] at hs;obtain⟨i,hi,rfl⟩:=hs;have hr:=h.run _ (sK hi)
  rcases List.mem_append.1 hs2 with h1 | h1
  ·exact h.val _ (sK hi) s h1
  ·rw [List.mem_singleton.1 h1];refine aGt hv (h.val _ (sK hi) _ (xK (by omega))) fun k hk=>?_;simp only [List.mem_map] at hk;obtain⟨m,hm,rfl⟩:=hk;exact hmv m hm _ (xK (by rw [hmR m hm]; exact hi))
theorem PlS.aDw {p:PrA} {F:Nat} (hv:PrV p F) {sts:List (List (BitVec 64))} {n t:Nat} (h:PlS p F sts n) (ht:t<=n) (hn:n<=1000):PlG p F sts t:=⟨hv.fe,hv.hF,hv.hA,by rw [h.len]; exact hv.hI,fun st hs=>by rw [h.run st hs]; omega,by omega,h.val⟩
theorem mW {p:PrA} {F:Nat} (hv:PrV p F):∀ n,PlS p F (zL p n) n
 | 0=>PlS.beg hv
 | n+1=>PlS.step hv (mW hv n) aZq (aSt hv)
theorem gR {p:PrA} {F:Nat} (hv:PrV p F) (n:Nat):(zL p n).length=p.init.length:=(mW hv n).len
theorem PlI.shift {p:PrA} {sts:List (List (BitVec 64))} {kx kS c:Nat} {ks:List Nat} {xS r:List (Nat × Ob)} (h:PlI p sts kx kS ks xS):PlI p sts (c+kx) (c+kS) (ks.map (c + ·)) (yN c xS++r) where
 hx:=by rw [tZ,pQ c h.hx]; rfl
 nst:=Go.Pd.Nst.shift h.nst fun e he r hr=>(aN0 e he r hr).2
 nd:=by have:=h.nd;unfold List.Nodup at this ⊢;rw [List.pairwise_map];exact this.imp fun h e=>h (by omega)
 ne:=fun e=>h.ne (by omega)
 xs:=fun hk=>by simp only [List.mem_map] at hk;obtain⟨k,hk,e⟩:=hk;exact h.xs ((show k=kx by omega) ▸ hk)
 ss:=fun hk=>by simp only [List.mem_map] at hk;obtain⟨k,hk,e⟩:=hk;exact h.ss ((show k=kS by omega) ▸ hk)
end Kb
theorem gQ {p:PrA} {b nx:Nat} (hb:2<=b) {sts:List (List (BitVec 64))} {K:Nat->Prop} (hK:∀ k,¬ K k):Seen ⟨nx,plL p b sts⟩ K (.ref 0 6 0 0) (plD p sts):=(jR p hb sts).seen (hK 0) (hK 1) fun k _=>hK k
theorem sU {mv:List (List Int)}:∀ e ∈ mv.map (rows .i64),∀ r ∈ e,r.length=1/\D.xV r=true:=fun e he r hr=>by simp only [List.mem_map] at he;obtain⟨s,_,rfl⟩:=he;refine⟨?_,tM _ s r hr⟩;simp only [rows,List.mem_map] at hr;obtain⟨x,_,rfl⟩:=hr;rfl
theorem aS3 {mv:List (List Int)}:∀ e ∈ mv.map (rows .i64),∀ r ∈ e,D.flL r=true:=fun e he r hr=>by simp only [List.mem_map] at he;obtain⟨s,_,rfl⟩:=he;simp only [rows,List.mem_map] at hr;obtain⟨x,_,rfl⟩:=hr;simp [D.flL,D.fl]
theorem aPk {g:FuncId} {args args':List D} {mv:List (List Int)} {nx n:Nat} {ob:List (Nat × Ob)} (hn:n=mv.length) (hc:xX Tryz.prog g args' St0 (.osl 0 1 n) ⟨1+n,aQb (mv.map (rows .i64))⟩) (hl:nB ⟨nx,ob⟩ (fun _=>False) args args') :
  xX Tryz.prog g args ⟨nx,ob⟩ (.sl 1 (rl mv)) ⟨nx+(1+n),ob⟩:=by
 subst hn;refine xX.aRb hc hl (by simp [D.fl]) (aMi aS3) ?_;have hN:=Nst.shift (c:=nx) (r:=ob) (aXs (mv.map (rows .i64))) fun e he r hr=>(sU e he r hr).2
 have:=Nst.seen (nx:=nx+(1+mv.length)) (K:=fun k=>k<nx) (n:=mv.length) hN (List.length_map _).symm (by omega) (fun k hk=>by simp only [List.mem_map] at hk;obtain⟨j,_,rfl⟩:=hk;omega) sU
 rw [aNn] at this;exact this
theorem aSx {p:PrA} {F:Nat} (hv:PrV p F) {n:Nat} (hn:n<=100):yU Tryz.prog 69 [p.d,.int .i64 ((n+1:Nat):Int)] (plD p (zL p n)):=by
 have hB:=aR0 hv;have hI:=hv.hI;have hA:=hv.hA;have hD:p.d = .agg [.int .i64 p.F,.sl 1 (us p.init),.sl 1 (us p.see),.sl 1 (mvR p.xN),.sl 1 (cdR p.code)]:=rfl;have hw:IntKind.i64.wrap (((n+1:Nat):Int)-1)= (n:Int):=by rw [wrap_i64 (by omega)]; omega
 have hB1:=xX.own (σ:=⟨1,[(0,⟨5,[p.cells]⟩)]⟩) hB (by simp [D.xV,D.xG,PrA.d,PrA.cells]);have hlen:=fun t=>gR hv t;have hPS:=(jR p (Nat.le_refl 2) (cC p)).shift (c:=1) (r:=[(0,⟨5,[p.cells]⟩)]);have hbl:(cC p).length=p.init.length:=by simp [cC]
 unfold PrA.cells at hB1 hPS;rw [hD] at *;refine xX.xQ mixed Tryz.func69 k69 (by simp) fun hf=>?_;simp only [simprocAttr,-ZA,↓zU,↓zD,zV,zT,zW]
 (repeat refine sd ?_)
 refine .go hB1 ?_;simp only [simprocAttr,-ZA,↓zU,↓zD,zV,zT,zW,hw]
 refine uX (fun t:Nat=>[(11,.int .i64 t),(10,.int .i64 n),(5,.ref 0 6 0 0)]) (fun t=>⟨2+(zL p t).length,plL p 2 (zL p t)⟩) (fun t=>t<=n) (fun t=>n-t) 0 (Nat.zero_le _) ?_ ?_
 ·refine xH.aDt hPS (Nat.le_refl _) (Nat.zero_le _) (fun k hk=>absurd hk (Nat.not_lt_zero _)) ?_;simp only [vwF,vw,Fr.get,↓reduceIte,reduceIte,Nat.reduceEqDiff,D.shift,and_true,true_and];exact⟨rfl,by omega,rfl⟩
 intro t ht;refine xP mixed ?_;have hS:=mW hv t;have hl:=hlen t;by_cases htn:t<n
 case neg=>
  have hd:¬ ((t:Int)<(n:Int)):=by omega
  obtain rfl:t=n:=by omega
  simp only [simprocAttr,-ZA,↓zU,↓zD,zV,zT,zW,hd]
  refine .go [(5,plD p (zL p t))] ⟨2+(zL p t).length,[]⟩ ?_ ?_
  ·refine xH.deep (fun _=>False) trivial ⟨.inr ?_,trivial⟩;exact gQ (Nat.le_refl 2) fun _ h=>h
  simp only [simprocAttr,-ZA,↓zU,↓zD,zV,zT,zW];exact .drop (by simp) (by simp [vw,plD])
 have hd:((t:Int)<(n:Int)):=by omega
 have h76:=iI hv (hS.aDw hv (Nat.le_refl t) (by omega));have hpl:=kX p (zL p t) t;have h76l:=aPk (nx:=2+(zL p t).length) (ob:=plL p 2 (zL p t)) (args:=[.ref 0 6 0 0,.int .i64 t]) hpl.symm h76 ⟨gQ (Nat.le_refl 2) fun _ h=>h,.pure rfl,trivial⟩;have h121:=aO hv (sts:=zL p t) (by rw [hl]; exact hI) (fun st hs=>by rw [hS.run st hs]; omega) hS.val (mv:=vW p (zL p t) t) (by rw [hpl]; omega) aZq (aSt hv) (nx:=2+(zL p t).length+(1+p.see.length)) (by omega);have hnext:zL p (t+1)= mE p (zL p t) (vW p (zL p t) t):=rfl;have hsl:(mE p (zL p t) (vW p (zL p t) t)).length=(zL p t).length:=by simp [mE]
 have hPI:=jR p (b:=2+(zL p t).length+(1+p.see.length)) (by omega) (mE p (zL p t) (vW p (zL p t) t));simp only [simprocAttr,-ZA,↓zU,↓zD,zV,zT,zW,hd];refine .go h76l ?_;simp only [simprocAttr,-ZA,↓zU,↓zD,zV,zT,zW];refine .go h121 ?_;simp only [simprocAttr,-ZA,↓zU,↓zD,zV,zT,zW];refine⟨t+1,by omega,?_,by omega⟩;rw [hnext];refine xH.aDt hPI (Nat.le_refl _) (Nat.zero_le _) (fun k hk=>absurd hk (Nat.not_lt_zero _)) ?_;simp only [vwF,vw,Fr.get,↓reduceIte,reduceIte,Nat.reduceEqDiff,and_true,true_and];exact⟨by rw [wrap_i64 (by omega)]; rfl,by omega,rfl⟩
open Rs Fm Ru Te Kb
namespace Kb
def qI (see:List (BitVec 64)) (sts:List (List (BitVec 64))) (a:Nat) (q:Nat × Nat):List Int:=(sR see (stR sts q.1) a q.2).map ui
def gW (see:List (BitVec 64)) (sts:List (List (BitVec 64))) (T a:Nat):List (List Int):=dedup (aYr ((ptN T (sts.length*T)).map (qI see sts a)))
theorem aN8 : rlu [] = []:=rfl
end Kb
theorem zQ {k:Nat} (h:k<=1000000000):IntKind.i64.wrap ((k:Int)+ 1)= ((k+1:Nat):Int):=by rw [wrap_i64 (by omega)]; rfl
theorem dH {p:PrA} {sts:List (List (BitVec 64))} {a T:Nat} (ha:a<p.see.length) (hT:1<=T/\T<=16) (hR:1<=sts.length/\sts.length<=16) (hl:∀ st ∈ sts,T<=st.length) :
  yU Tryz.prog 73 [plD p sts,.int .i64 a,.int .i64 (T-1:Int)] (.sl 1 (rlu (gW p.see sts T a))):=by
 have hh:∀ r t,r<sts.length->t<T->yU Tryz.prog 75 [plD p sts,.int .i64 a,.int .i64 r,.int .i64 t] (.sl 1 (rows .u64 (qI p.see sts a (r,t)))):=fun r t hr ht=>by have:=oS (oO p ha hr (show t<(sts.getD r []).length by have:=hl _ (xK (d:=[]) hr); omega) (by omega));rw [jT] at this;exact this
 have hne:1<=sts.length*T:=Nat.mul_le_mul hR.1 hT.1;have hle:sts.length*T<=16*16:=Nat.mul_le_mul hR.2 hT.2;have hw0:IntKind.i64.wrap (((T:Int)-1)+ 1)= (T:Int):=by rw [wrap_i64 (by omega)]; omega
 unfold gW;generalize qI p.see sts a=kf at *;have hlen:((ptN T (sts.length*T)).map kf).length=sts.length*T:=by rw [List.length_map,qE]
 unfold plD plC at *;refine xX.xQ mixed Tryz.func73 k73 (by simp) fun hf=>?_;simp only [simprocAttr,-ZA,↓zU,↓zD,zV,zT,zW,zK]
 refine xW (fun r:Nat=>[(15,.int .i64 r),(14,.int .i64 sts.length),(7,xA 0 1 (rlu ((ptN T (r*T)).map kf))),(2,.int .i64 (T-1:Int)),(1,.int .i64 a),(0,.ptr [.int .i64 p.F,.sl 1 (us p.init),.sl 1 (us p.see),.sl 1 (mvR p.xN),.sl 1 (cdR p.code),.sl 1 (rr sts)])])
  (fun r=>⟨1,yY 0 1 (rlu ((ptN T (r*T)).map kf))⟩) (fun r=>r<=sts.length) (fun r=>sts.length-r) 0 (Nat.zero_le _) ?_ ?_
 ·(refine xH.ren [] [] (by simp) (by simp) (by decide) ?_; simp only [yZ,vwL,vw,vwF,sw,St.get,St.look,Fr.get,simprocAttr,-ZA,exists_eq_left',ne_eq,zR,ptN,Nat.zero_mul,List.range_zero,List.map_nil,aN8,zM,zN])
 intro r hr;refine xP mixed ?_;by_cases hrl:r<sts.length
 case neg=>
  have hd:¬ ((r:Int)<(sts.length:Int)):=by omega
  obtain rfl:r=sts.length:=by omega
  generalize (ptN T (sts.length*T)).map kf=l at *;have hln:l ≠ []:=fun c=>by rw [c] at hlen; simp at hlen; omega
  have hln2:rlu l ≠ []:=fun c=>hln (by simpa [rlu] using c);rw [aRm hln2,aRl hln2,vJ];have hs:=aU3 (σ:=⟨1,[(0,⟨1,rlu l⟩)]⟩) (key:=0) (l:=l) rfl hln (by omega);have hal:(aYr l).length=l.length:=(qT l).length_eq;have hc:=aP7 (σ:=⟨1,[(0,⟨1,rlu (aYr l)⟩)]⟩) (key:=0) (l:=aYr l) rfl (by omega) (fun c=>by rw [c] at hal; simp at hal; omega);rw [hal] at hc;simp only [simprocAttr,-ZA,↓zU,↓zD,zV,zT,zW,hd];refine .go hs ?_;simp only [simprocAttr,-ZA,↓zU,↓zD,zV,zT,zW];refine .go hc ?_;simp only [simprocAttr,-ZA,↓zU,↓zD,zV,zT,zW];exact .drop (by simp) (aYg (by decide) (aXl _) (by unfold aDy; rw [List.length_append,vJ]; omega) (by unfold aDy; rw [List.take_left' (vJ _)]))
 have hd:((r:Int)<(sts.length:Int)):=by omega
 simp only [simprocAttr,-ZA,↓zU,↓zD,zV,zT,zW,hd,hw0]
 refine xW (fun t:Nat=>[(20,.int .i64 t),(19,.int .i64 T),(15,.int .i64 r),(14,.int .i64 sts.length),(8,.int .i64 r),(7,xA 0 1 (rlu ((ptN T (r*T+t)).map kf))),(2,.int .i64 (T-1:Int)),(1,.int .i64 a),(0,.ptr [.int .i64 p.F,.sl 1 (us p.init),.sl 1 (us p.see),.sl 1 (mvR p.xN),.sl 1 (cdR p.code),.sl 1 (rr sts)])])
  (fun t=>⟨1,yY 0 1 (rlu ((ptN T (r*T+t)).map kf))⟩) (fun t=>t<=T) (fun t=>T-t) 0 (Nat.zero_le _) ?_ ?_
 ·(refine xH.same ?_; simp only [xO,Fr.get,simprocAttr,-ZA,zS,Nat.add_zero])
  all_goals rfl
 intro t ht;refine xP mixed ?_;by_cases htl:t<T
 case neg=>
  have hd2:¬ ((t:Int)<(T:Int)):=by omega
  obtain rfl:t=T:=by omega
  simp only [simprocAttr,-ZA,↓zU,↓zD,zV,zT,zW,hd2];refine⟨r+1,by omega,?_,by omega⟩;rw [show (r+1)* t=r*t+t by rw [Nat.succ_mul]]
  (refine xH.same ?_; simp only [xO,Fr.get,simprocAttr,-ZA,zS])
  exact zQ (by omega)
 have hd2:((t:Int)<(T:Int)):=by omega
 have hs:(ptN T (r*T+(t+1))).map kf=(ptN T (r*T+t)).map kf ++ [kf (r,t)]:=by rw [aGi T r t htl,List.map_append]; rfl
 have hlk:((ptN T (r*T+t)).map kf).length=r*T+t:=by rw [List.length_map,qE]
 have hle2:r*T+t<=16*16:=by have:=Nat.mul_le_mul_right T (show r+1<=sts.length from hrl);rw [Nat.succ_mul] at this;omega
 have h75:=hh r t hrl htl;generalize (ptN T (r*T+t)).map kf=l at *;generalize kf (r,t)= x at *;simp only [simprocAttr,-ZA,↓zU,↓zD,zV,zT,zW,hd2];refine .go (cr h75) ?_;simp only [simprocAttr,-ZA,↓zU,↓zD,zV,zT,zW,vJ,hlk]
 (repeat refine sd ?_)
 refine⟨t+1,by omega,?_,by omega⟩;rw [hs]
 (refine xH.ren [(0,1)] [0] (by simp) (by simp) (by decide) ?_; simp only [yZ,vwL,vw,vwF,sw,St.get,St.look,Fr.get,simprocAttr,-ZA,exists_eq_left',ne_eq,zR,aH4,aKh])
 exact zQ (by omega)
open Rs Fm Ru Te Kb
namespace Kb
def aV1 (sts:List (List (BitVec 64))):List zG:=sts.map fun st=>⟨[],st⟩
def sS (see:List (BitVec 64)) (sts:List (List (BitVec 64))) (T:Nat):List zG:=aDr (aV1 sts) see.length T (qI see sts)
def rll (l:List (List (List Int))):List (List D):=l.map fun m=>[.sl 1 (rlu m)]
theorem aN9 (l:List (List (List Int))):(rll l).length=l.length:=by simp [rll]
theorem aCz {l:List (List (List Int))} {i:Nat} (h:i<l.length):(rll l).getD i [] = [.sl 1 (rlu (l.getD i []))]:=by simp [rll,List.getD,h]
theorem aH6 (l:List (List (List Int))) (m:List (List Int)):rll l ++ [[.sl 1 (rlu m)]]=rll (l ++ [m]):=by simp [rll]
theorem aH7 (l:List (List (List Int))):∀ e ∈ rll l,D.xV e=true:=by intro e he;simp only [rll,List.mem_map] at he;obtain⟨m,_,rfl⟩:=he;rfl
theorem aZn (l:List (List (List Int))):uD (rll l):=aH7 l
theorem aCy : rll [] = []:=rfl
theorem aL6 (l:List zG) (r:zG):uE l ++ [[.sl 1 (rl r.loc),.sl 1 (us r.fac)]]=uE (l ++ [r]):=by simp [uE,zG.row]
theorem uT (l:List zG):uD (uE l):=aL7 l
theorem aH1 : uE [] = []:=rfl
theorem lG (sts:List (List (BitVec 64))):(aV1 sts).length=sts.length:=by simp [aV1]
theorem pY (see:List (BitVec 64)) (sts:List (List (BitVec 64))) (T:Nat):(sS see sts T).length=sts.length:=by unfold sS; rw [aGa,lG]
theorem lR {see:List (BitVec 64)} {sts:List (List (BitVec 64))} {T i:Nat} (hi:i<sts.length) :
  (sS see sts T).getD i qK=⟨(List.range T).map fun t=>(List.range see.length).map fun a=>((below (gW see sts T a) (qI see sts a (i,t)):Nat):Int),stR sts i⟩:=by
 unfold sS aDr;rw [aSq (by rw [lG]; exact hi),lG];have:((aV1 sts).getD i qK).fac=stR sts i:=by simp [aV1,stR,List.getD,hi]
 rw [this];rfl
end Kb
theorem aQy {α:Type} {l:List α} {k:Nat} {d:α} (h:k<l.length):l.take (k+1)= l.take k ++ [l.getD k d]:=zP h
theorem aHi {p:PrA} {F:Nat} (hv:PrV p F) {sts:List (List (BitVec 64))} {T:Nat} (hT:1<=T/\T<=16) (hR:1<=sts.length/\sts.length<=16) (hl:∀ st ∈ sts,st.length=T) :
  yU Tryz.prog 70 [plD p sts] (sD p.see.length F T (sS p.see sts T)):=by
 have hA:=hv.hA
 have hh:∀ a r t,a<p.see.length->r<sts.length->t<T->yU Tryz.prog 75 [plD p sts,.int .i64 a,.int .i64 r,.int .i64 t] (.sl 1 (rows .u64 (qI p.see sts a (r,t)))):=fun a r t ha hr ht=>by have:=oS (oO p ha hr (show t<(sts.getD r []).length by have:=hl _ (xK (d:=[]) hr); omega) (by omega));rw [jT] at this;exact this
 have hw1:IntKind.i64.wrap ((T:Int)-1)= ((T:Int)-1):=wrap_i64 (by omega);have h73:=fun a ha=>dH (p:=p) (sts:=sts) (a:=a) (T:=T) ha hT hR fun st hs=>by rw [hl st hs]; exact Nat.le_refl _
 have hasc:∀ a,asc (gW p.see sts T a):=fun a=>aJl (aR2 _)
 have hak:∀ a,(gW p.see sts T a).length<=1000:=fun a=>by have h1:(gW p.see sts T a).length<=(aYr ((ptN T (sts.length*T)).map (qI p.see sts a))).length:=aUs _ _;have h2:=(qT ((ptN T (sts.length*T)).map (qI p.see sts a))).length_eq;rw [List.length_map,qE] at h2;have hle:sts.length*T<=16*16:=Nat.mul_le_mul hR.2 hT.2;omega
 have hS:=fun i (hi:i<sts.length)=>lR (see:=p.see) (T:=T) hi;have hSl:=pY p.see sts T;have hst:∀ r,r<sts.length->(stR sts r).length=T:=fun r hr=>hl _ (xK (d:=[]) hr);generalize qI p.see sts=kf at *;generalize gW p.see sts T=al at *;generalize sS p.see sts T=S at *;have hg0:=nG sts (show 0<sts.length by omega);have hd0:(0:Int)<(sts.length:Int):=by omega
 have hl0:=hst 0 (by omega);unfold stR at hl0;unfold plD plC sD at *;rw [hv.fe] at *;refine xX.xQ mixed Tryz.func70 k70 (by simp) fun hf=>?_;simp only [simprocAttr,-ZA,↓zU,↓zD,zV,zT,zW,zK,hd0,hg0,xR,hl0]
 (repeat refine sd ?_)
 refine uX (fun a:Nat=>[(41,.int .i64 a),(40,.int .i64 p.see.length),(5,xA 2 1 (rll ((List.range a).map al))),(4,.ref 1 4 0 0),(3,.int .i64 T),(2,.ref 0 4 0 0),(0,.ptr [.int .i64 F,.sl 1 (us p.init),.sl 1 (us p.see),.sl 1 (mvR p.xN),.sl 1 (cdR p.code),.sl 1 (rr sts)])])
  (fun a=>⟨3,yY 2 1 (rll ((List.range a).map al))++ [(1,⟨4,[[.int .i64 p.see.length,.int .i64 F,.int .i64 T,.xL]]⟩),(0,⟨4,[[.int .i64 0,.int .i64 0,.int .i64 0,.xL]]⟩)]⟩) (fun a=>a<=p.see.length) (fun a=>p.see.length-a) 0 (Nat.zero_le _) ?_ ?_
 ·(refine xH.ren [] [1,0] (by simp) (by simp) (by decide) ?_; simp only [yZ,vwL,vw,vwF,sw,St.get,St.look,Fr.get,simprocAttr,-ZA,exists_eq_left',ne_eq,zR,List.range_zero,List.map_nil,aCy,zM,zN,List.nil_append])
 intro a ha;refine xP mixed ?_;by_cases hal:a<p.see.length
 case pos=>
  have hd:((a:Int)<(p.see.length:Int)):=by omega
  have h1:=h73 a hal;have hsu:(List.range (a+1)).map al=(List.range a).map al ++ [al a]:=by rw [List.range_succ,List.map_append]; rfl
  have hla:((List.range a).map al).length=a:=by simp
  generalize (List.range a).map al=L at *;simp only [simprocAttr,-ZA,↓zU,↓zD,zV,zT,zW,hd,hw1];refine .go (cr h1) ?_;simp only [simprocAttr,-ZA,↓zU,↓zD,zV,zT,zW,aN9,hla]
  (repeat refine sd ?_)
  refine⟨a+1,by omega,?_,by omega⟩;rw [hsu]
  (refine xH.ren [(2,3)] [2,1,0] (by simp) (by simp) (by decide) ?_; simp only [yZ,vwL,vw,vwF,sw,St.get,St.look,Fr.get,simprocAttr,-ZA,exists_eq_left',ne_eq,zR,aH6,aZn])
  exact zQ (by omega)
 have hd:¬ ((a:Int)<(p.see.length:Int)):=by omega
 obtain rfl:a=p.see.length:=by omega
 have hlal:((List.range p.see.length).map al).length=p.see.length:=by simp
 have hgal:∀ a,a<p.see.length->(rll ((List.range p.see.length).map al)).getD a [] = [.sl 1 (rlu (al a))]:=fun a ha=>by rw [aCz (by rw [hlal]; exact ha)]; simp [List.getD,ha]
 generalize (List.range p.see.length).map al=L at *;simp only [simprocAttr,-ZA,↓zU,↓zD,zV,zT,zW,hd]
 refine .go [(5,.sl 1 (rll L)),(4,.ref 1 4 0 0),(3,.int .i64 T),(2,.ref 0 4 0 0),(0,.ptr [.int .i64 F,.sl 1 (us p.init),.sl 1 (us p.see),.sl 1 (mvR p.xN),.sl 1 (cdR p.code),.sl 1 (rr sts)])] ⟨2,[(1,⟨4,[[.int .i64 p.see.length,.int .i64 F,.int .i64 T,.xL]]⟩),(0,⟨4,[[.int .i64 0,.int .i64 0,.int .i64 0,.xL]]⟩)]⟩ ?_ ?_
 ·(refine xH.ren [] [1,0] (by simp) (by simp) (by decide) ?_; simp only [yZ,vwL,vw,vwF,sw,St.get,St.look,Fr.get,simprocAttr,-ZA,exists_eq_left',ne_eq,zR,aZn])
 simp only [simprocAttr,-ZA,↓zU,↓zD,zV,zT,zW,zK]
 refine xW (fun r:Nat=>[(58,.int .i64 r),(57,.int .i64 sts.length),(56,.sl 1 (rr sts)),(5,.sl 1 (rll L)),(4,.ref 1 4 0 0),(3,.int .i64 T),(2,.ref 0 4 0 0),(0,.ptr [.int .i64 F,.sl 1 (us p.init),.sl 1 (us p.see),.sl 1 (mvR p.xN),.sl 1 (cdR p.code),.sl 1 (rr sts)])])
  (fun r=>⟨3,yY 2 2 (uE (S.take r))++ [(1,⟨4,[[.int .i64 p.see.length,.int .i64 F,.int .i64 T,xA 2 2 (uE (S.take r))]]⟩),(0,⟨4,[[.int .i64 0,.int .i64 0,.int .i64 0,.xL]]⟩)]⟩) (fun r=>r<=sts.length) (fun r=>sts.length-r) 0 (Nat.zero_le _) ?_ ?_
 ·(refine xH.ren [] [1,0] (by simp) (by simp) (by decide) ?_; simp only [yZ,vwL,vw,vwF,sw,St.get,St.look,Fr.get,simprocAttr,-ZA,exists_eq_left',ne_eq,zR,List.take_zero,aH1,zM,zN,List.nil_append])
 intro r hr;refine xP mixed ?_;by_cases hrl:r<sts.length
 case neg=>
  have hd2:¬ ((r:Int)<(sts.length:Int)):=by omega
  rw [List.take_of_length_le (show S.length<=r by omega)];simp only [simprocAttr,-ZA,↓zU,↓zD,zV,zT,zW,hd2]
  (refine nC.ren [] [] (by simp) (by simp) (by decide) ?_; simp only [yZ,vwL,vw,vwF,sw,St.get,St.look,Fr.get,simprocAttr,-ZA,exists_eq_left',ne_eq,zR,uT])
 have hd2:((r:Int)<(sts.length:Int)):=by omega
 have hgr:=nG sts hrl;have hlr:=hst r hrl;have hSr:=hS r hrl;have hSs:=aQy (l:=S) (d:=qK) (show r<S.length by omega);rw [hSr] at hSs;have hSl2:(S.take r).length=r:=by rw [List.length_take]; omega
 unfold stR at hlr hSs;have hcl:=aAn (c:=sts.getD r []) (by omega) (by omega);generalize sts.getD r []=st at *;generalize S.take r=S0 at *;simp only [simprocAttr,-ZA,↓zU,↓zD,zV,zT,zW,hd2,zK,hgr]
 (repeat refine sd ?_)
 refine .go (cr hcl) ?_;simp only [simprocAttr,-ZA,↓zU,↓zD,zV,zT,zW]
 (repeat refine sd ?_)
 let lrow:Nat->List Int:=(fun t=>(List.range p.see.length).map fun a=>((below (al a) (kf a (r,t)):Nat):Int))
 have hlw:((List.range T).map fun t=>(List.range p.see.length).map fun a=>((below (al a) (kf a (r,t)):Nat):Int))= (List.range T).map lrow:=rfl;rw [hlw] at hSs
 refine uX (fun t:Nat=>[(67,.int .i64 t),(66,.int .i64 T),(58,.int .i64 r),(57,.int .i64 sts.length),(56,.sl 1 (rr sts)),(9,.ref 3 2 0 0),(7,.int .i64 r),(5,.sl 1 (rll L)),(4,.ref 1 4 0 0),(3,.int .i64 T),(2,.ref 0 4 0 0),(0,.ptr [.int .i64 F,.sl 1 (us p.init),.sl 1 (us p.see),.sl 1 (mvR p.xN),.sl 1 (cdR p.code),.sl 1 (rr sts)])])
  (fun t=>⟨5,yY 4 1 (rl ((List.range t).map lrow))++ ((3,⟨2,[[xA 4 1 (rl ((List.range t).map lrow)),.sl 1 (us st)]]⟩) :: (yY 2 2 (uE S0)++ [(1,⟨4,[[.int .i64 p.see.length,.int .i64 F,.int .i64 T,xA 2 2 (uE S0)]]⟩),(0,⟨4,[[.int .i64 0,.int .i64 0,.int .i64 0,.xL]]⟩)]))⟩) (fun t=>t<=T) (fun t=>T-t) 0 (Nat.zero_le _) ?_ ?_
 ·(refine xH.ren [] [3,2,1,0] (by simp) (by simp) (by decide) ?_; simp only [yZ,vwL,vw,vwF,sw,St.get,St.look,Fr.get,simprocAttr,-ZA,exists_eq_left',ne_eq,zR,List.range_zero,List.map_nil,bZb,zM,zN,List.nil_append,uT])
 intro t ht;refine xP mixed ?_;by_cases htl:t<T
 case neg=>
  have hd3:¬ ((t:Int)<(T:Int)):=by omega
  obtain rfl:t=T:=by omega
  generalize (List.range t).map lrow=LL at *;simp only [simprocAttr,-ZA,↓zU,↓zD,zV,zT,zW,hd3]
  refine .go [(58,.int .i64 r),(57,.int .i64 sts.length),(56,.sl 1 (rr sts)),(9,.ref 3 2 0 0),(5,.sl 1 (rll L)),(4,.ref 1 4 0 0),(3,.int .i64 t),(2,.ref 0 4 0 0),(0,.ptr [.int .i64 F,.sl 1 (us p.init),.sl 1 (us p.see),.sl 1 (mvR p.xN),.sl 1 (cdR p.code),.sl 1 (rr sts)])]
   ⟨4,(3,⟨2,[[.sl 1 (rl LL),.sl 1 (us st)]]⟩) :: (yY 2 2 (uE S0)++ [(1,⟨4,[[.int .i64 p.see.length,.int .i64 F,.int .i64 t,xA 2 2 (uE S0)]]⟩),(0,⟨4,[[.int .i64 0,.int .i64 0,.int .i64 0,.xL]]⟩)])⟩ ?_ ?_
  ·(refine xH.ren [] [3,2,1,0] (by simp) (by simp) (by decide) ?_; simp only [yZ,vwL,vw,vwF,sw,St.get,St.look,Fr.get,simprocAttr,-ZA,exists_eq_left',ne_eq,zR,uT,lP])
  simp only [simprocAttr,-ZA,↓zU,↓zD,zV,zT,zW,yD,hSl2]
  (repeat refine sd ?_)
  refine⟨r+1,by omega,?_,by omega⟩;rw [hSs];have hsn:=aL6 S0 ⟨LL,st⟩;simp only at hsn
  (refine xH.ren [(2,4)] [2,1,0] (by simp) (by simp) (by decide) ?_; simp only [yZ,vwL,vw,vwF,sw,St.get,St.look,Fr.get,simprocAttr,-ZA,exists_eq_left',ne_eq,zR,hsn,uT])
  exact zQ (by omega)
 have hd3:((t:Int)<(T:Int)):=by omega
 have hsu:(List.range (t+1)).map lrow=(List.range t).map lrow ++ [lrow t]:=by rw [List.range_succ,List.map_append]; rfl
 have hll:((List.range t).map lrow).length=t:=by simp
 generalize (List.range t).map lrow=LL at *;simp only [simprocAttr,-ZA,↓zU,↓zD,zV,zT,zW,hd3,xR]
 refine uX (fun a:Nat=>[(76,.int .i64 a),(75,.int .i64 p.see.length),(67,.int .i64 t),(66,.int .i64 T),(58,.int .i64 r),(57,.int .i64 sts.length),(56,.sl 1 (rr sts)),(11,xA 5 1 (rows .i64 ((List.range a).map fun a=>((below (al a) (kf a (r,t)):Nat):Int)))),(10,.int .i64 t),(9,.ref 3 2 0 0),(7,.int .i64 r),(5,.sl 1 (rll L)),(4,.ref 1 4 0 0),(3,.int .i64 T),(2,.ref 0 4 0 0),(0,.ptr [.int .i64 F,.sl 1 (us p.init),.sl 1 (us p.see),.sl 1 (mvR p.xN),.sl 1 (cdR p.code),.sl 1 (rr sts)])])
  (fun a=>⟨6,yY 5 1 (rows .i64 ((List.range a).map fun a=>((below (al a) (kf a (r,t)):Nat):Int)))++ (yY 4 1 (rl LL)++ ((3,⟨2,[[xA 4 1 (rl LL),.sl 1 (us st)]]⟩) :: (yY 2 2 (uE S0)++ [(1,⟨4,[[.int .i64 p.see.length,.int .i64 F,.int .i64 T,xA 2 2 (uE S0)]]⟩),(0,⟨4,[[.int .i64 0,.int .i64 0,.int .i64 0,.xL]]⟩)])))⟩) (fun a=>a<=p.see.length) (fun a=>p.see.length-a) 0 (Nat.zero_le _) ?_ ?_
 ·(refine xH.ren [] [4,3,2,1,0] (by simp) (by simp) (by decide) ?_; simp only [yZ,vwL,vw,vwF,sw,St.get,St.look,Fr.get,simprocAttr,-ZA,exists_eq_left',ne_eq,zR,List.range_zero,List.map_nil,oF,zM,zN,List.nil_append,uT,lP])
 intro a ha;refine xP mixed ?_;by_cases hal:a<p.see.length
 case neg=>
  have hd4:¬ ((a:Int)<(p.see.length:Int)):=by omega
  obtain rfl:a=p.see.length:=by omega
  have hlr2:((List.range p.see.length).map fun a=>((below (al a) (kf a (r,t)):Nat):Int))= lrow t:=rfl;rw [hlr2];generalize lrow t=x at *;simp only [simprocAttr,-ZA,↓zU,↓zD,zV,zT,zW,hd4]
  refine .go [(67,.int .i64 t),(66,.int .i64 T),(58,.int .i64 r),(57,.int .i64 sts.length),(56,.sl 1 (rr sts)),(11,.sl 1 (rows .i64 x)),(9,.ref 3 2 0 0),(7,.int .i64 r),(5,.sl 1 (rll L)),(4,.ref 1 4 0 0),(3,.int .i64 T),(2,.ref 0 4 0 0),(0,.ptr [.int .i64 F,.sl 1 (us p.init),.sl 1 (us p.see),.sl 1 (mvR p.xN),.sl 1 (cdR p.code),.sl 1 (rr sts)])]
   ⟨5,yY 4 1 (rl LL)++ ((3,⟨2,[[xA 4 1 (rl LL),.sl 1 (us st)]]⟩) :: (yY 2 2 (uE S0)++ [(1,⟨4,[[.int .i64 p.see.length,.int .i64 F,.int .i64 T,xA 2 2 (uE S0)]]⟩),(0,⟨4,[[.int .i64 0,.int .i64 0,.int .i64 0,.xL]]⟩)]))⟩ ?_ ?_
  ·(refine xH.ren [] [4,3,2,1,0] (by simp) (by simp) (by decide) ?_; simp only [yZ,vwL,vw,vwF,sw,St.get,St.look,Fr.get,simprocAttr,-ZA,exists_eq_left',ne_eq,zR,uT,lP])
  simp only [simprocAttr,-ZA,↓zU,↓zD,zV,zT,zW,vR,hll]
  (repeat refine sd ?_)
  refine⟨t+1,by omega,?_,by omega⟩;rw [hsu]
  (refine xH.ren [(4,5)] [4,3,2,1,0] (by simp) (by simp) (by decide) ?_; simp only [yZ,vwL,vw,vwF,sw,St.get,St.look,Fr.get,simprocAttr,-ZA,exists_eq_left',ne_eq,zR,aC0,uT,lP])
  exact zQ (by omega)
 have hd4:((a:Int)<(p.see.length:Int)):=by omega
 have hga:=hgal a hal;obtain⟨bb,hse⟩:=aL4 (kf a (r,t)) (hasc a) (hak a);have h75:=hh a r t hal hrl htl;have hsu2:(List.range (a+1)).map (fun a=>((below (al a) (kf a (r,t)):Nat):Int))= (List.range a).map (fun a=>((below (al a) (kf a (r,t)):Nat):Int))++ [((below (al a) (kf a (r,t)):Nat):Int)]:=by rw [List.range_succ,List.map_append]; rfl
 have hla2:((List.range a).map fun a=>((below (al a) (kf a (r,t)):Nat):Int)).length=a:=by simp
 have hdL:((a:Int)<(L.length:Int)):=by omega
 generalize (List.range a).map (fun a=>((below (al a) (kf a (r,t)):Nat):Int))= W at *;simp only [simprocAttr,-ZA,↓zU,↓zD,zV,zT,zW,hd4,aN9,hdL,hga]
 (repeat refine sd ?_)
 refine .go (cr h75) ?_;simp only [simprocAttr,-ZA,↓zU,↓zD,zV,zT,zW];refine .go (cr hse) ?_;simp only [simprocAttr,-ZA,↓zU,↓zD,zV,zT,zW,yX,hla2]
 (repeat refine sd ?_)
 refine⟨a+1,by omega,?_,by omega⟩;rw [hsu2]
 (refine xH.ren [(5,6)] [5,4,3,2,1,0] (by simp) (by simp) (by decide) ?_; simp only [yZ,vwL,vw,vwF,sw,St.get,St.look,Fr.get,simprocAttr,-ZA,exists_eq_left',ne_eq,zR,uT,lP])
 exact zQ (by omega)
namespace Kb
def iS (p:PrA) (n:Int):Int:=if tP p≠0 then tP p else if n<1\/6<n then 2 else 0
theorem oE {p:PrA} {n:Int} (h:iS p n=0):∃ F k:Nat,PrV p F/\n=((k+1:Nat):Int)/\ k<=5:=by
 unfold iS at h
 split at h
 ·rename_i h1; exact absurd h h1
 ·rename_i h1
  split at h
  ·cases h
  ·obtain⟨F,hv⟩:=aWr (by simpa using h1);exact⟨F,(n-1).toNat,hv,by omega,by omega⟩
def cJ (p:PrA) (n:Int):pF:=if iS p n≠0 then⟨0,0,0,[]⟩ else⟨p.see.length,p.F,n,sS p.see (zL p (n.toNat-1)) n.toNat⟩
end Kb
theorem fB (p:PrA) (sm:pM p) (n:Int):yU Tryz.prog 68 [p.d,.int .i64 n] (.int .i64 (iS p n)):=by
 have hC:=aLi p sm;unfold PrA.d PrA.cells iS at *;refine xX.xQ mixed Tryz.func68 k68 (by simp) fun hf=>?_;simp only [simprocAttr,-ZA,↓zU,↓zD,zV,zT,zW]
 (repeat refine sd ?_)
 refine .go (cr hC) ?_;by_cases c:tP p=0
 case neg=>
  have c':(tP p != 0)= true:=by simpa using c
  rw [if_pos c];simp only [simprocAttr,-ZA,↓zU,↓zD,zV,zT,zW,c'];exact .dv
 have c':(tP p != 0)= false:=by simpa using c
 rw [if_neg (by simpa using c)]
 by_cases h1:n<1
 ·rw [if_pos (.inl h1)];simp only [simprocAttr,-ZA,↓zU,↓zD,zV,zT,zW,c',h1];exact .dv
 by_cases h2:6<n
 ·rw [if_pos (.inr h2)];simp only [simprocAttr,-ZA,↓zU,↓zD,zV,zT,zW,c',h1,h2];exact .dv
 rw [if_neg (by omega)];simp only [simprocAttr,-ZA,↓zU,↓zD,zV,zT,zW,c',h1,h2];exact .dv
theorem eA {p:PrA} {F k:Nat} (hv:PrV p F) (hk:k<=5) {sts:List (List (BitVec 64))} (hS:PlS p F sts k):yU Tryz.prog 70 [plD p sts] (sD p.see.length F (k+1) (sS p.see sts (k+1))):= aHi hv ⟨by omega,by omega⟩ (by rw [hS.len]; exact hv.hI) hS.run
theorem aT9 (p:PrA) (sm:pM p) (n:Int):yU Tryz.prog 19 [p.d,.int .i64 n] (.tup [(cJ p n).d,.int .i64 (iS p n)]):=by
 have hR:=fB p sm n;by_cases c:iS p n=0
 case neg=>
  have c':(iS p n != 0)= true:=by simpa using c
  have hD:(cJ p n).d = .agg [.int .i64 0,.int .i64 0,.int .i64 0,.sl 2 []]:=by unfold cJ; rw [if_pos c]; rfl
  rw [hD];unfold PrA.d PrA.cells at *;refine xX.xQ mixed Tryz.func19 k19 (by simp) fun hf=>?_;simp only [simprocAttr,-ZA,↓zU,↓zD,zV,zT,zW]
  (repeat refine sd ?_)
  refine .go (cr hR) ?_;simp only [simprocAttr,-ZA,↓zU,↓zD,zV,zT,zW,c']
  (repeat refine sd ?_)
  exact .drop (by simp) (by simp [vw,vwL])
 have c':(iS p n != 0)= false:=by simpa using c
 obtain⟨F,k,hv,rfl,hk⟩:=oE c;have hP:=aSx hv (n:=k) (by omega);have hS:=eA hv hk (mW hv k)
 have hD:(cJ p ((k+1:Nat):Int)).d=sD p.see.length F (k+1) (sS p.see (zL p k) (k+1)):=by unfold cJ;rw [if_neg (by simpa using c),Int.toNat_natCast,show k+1-1=k by omega];show D.agg [_,_,_,_]=D.agg [_,_,_,_];rw [hv.fe]
 rw [hD];generalize sS p.see (zL p k) (k+1)= S at *;generalize zL p k=sts at *;unfold PrA.d PrA.cells plD plC sD at *;refine xX.xQ mixed Tryz.func19 k19 (by simp) fun hf=>?_;simp only [simprocAttr,-ZA,↓zU,↓zD,zV,zT,zW]
 (repeat refine sd ?_)
 refine .go (cr hR) ?_;simp only [simprocAttr,-ZA,↓zU,↓zD,zV,zT,zW,c'];refine .go (cr hP) ?_;simp only [simprocAttr,-ZA,↓zU,↓zD,zV,zT,zW];refine .go (cr hS) ?_;simp only [simprocAttr,-ZA,↓zU,↓zD,zV,zT,zW]
 (repeat refine sd ?_)
 exact .drop (by simp) (by simp [vw,vwL]; simpa using c.symm)
end Go.Pd
