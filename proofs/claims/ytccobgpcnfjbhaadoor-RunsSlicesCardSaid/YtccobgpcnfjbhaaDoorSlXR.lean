/- Part XR. -/
import Derived.Test.YtccobgpcnfjbhaaDoorSlXG
import Derived.RangeFuncIn
import Derived.RangeFuncRecord
import Derived.RangeFuncSeq
set_option linter.unusedSectionVars false
set_option linter.unusedVariables false
set_option linter.unusedSimpArgs false
set_option linter.defProp false
open Array renaming getElem?_eq_some_iff->γ
open Nat renaming le_refl->δ
namespace Go.Pd
open Go
section
variable [zJ]
def vv (P:Program) (gi:FuncId):Prop:=mK P gi/\∀ (l Bs o b off n cap:Nat) (sa:Option Addr) (va vb:Nat->Value) (J:Nat->World->Prop),n<=maxLen->(0<n->sa=some ⟨b,off,none⟩) ->
 (∀ k W,J k W->W.cell? ⟨Bs,o,none⟩= some (.slice sa n cap)/\ ∀ i,i<n->W.cell? ⟨b,off+i*2,none⟩= some (va i)/\ W.cell? ⟨b,off+i*2+1,none⟩= some (vb i))->(∀ k W,J k W->J k W.drew) ->
 (∀ k W,k<n->J k W->YieldAt Fence.wide 0 P l #[.int .i64 ((n-1-k:Nat):Int),.agg #[va (n-1-k),vb (n-1-k)]] W λe W'=>e = .returned (.bool true)/\ J (k+1) W') ->
 ∀ W,J 0 W->CallsIn Fence.wide 0 P gi #[.func (.yield l) #[] #[],.pointer (some ⟨Bs,o,none⟩)] W λe W'=>(∃ v,e = .returned v)/\ J n W'
variable {C : Cx} {E : Env} {a : Act} {w : World} {f : Fr} {σ : St} {ι : Nat -> Nat}
theorem xO.lay (G:xO C E a w f σ ι) (o:Obj):xO C E a (w.alloc o) f σ ι:=by have hk:=Kept.alloc w o λ_=>False;exact⟨G.size,G.defers.xE rfl hk.size (λD hD=>hk.mark id hD),G.nx,G.kept.trans hk (λ_ _ h=>h) (λ_ _ h=>h.elim),G.sL.ext hk,G.rQ,G.vC,G.stay,λt=>(G.fr t).xE (λb hb _=>hk.block b hb id) (λ_ _ h=>h) hk.shape (λ_ _=>rfl) (δ _)⟩
abbrev cJ (E:Env) (w:World) (σ:St) (ι:Nat->Nat) (o:Obj):Env:=⟨w.alloc o,λb=>E.M0 b\/b=w.heap.size,λb=>vD ι σ b\/b=w.heap.size,ι,E.B⟩
theorem xO.ot (G:xO C E a w f σ ι) (o:Obj):xO { C with n0:=σ.nx } (cJ E w σ ι o) a (w.alloc o) f σ ι:=by
 have hk:=Kept.alloc w o λ_=>False;have hS:=G.sL.s8 o;refine⟨G.size,G.defers.xE rfl hk.size (λD hD=>hk.mark id hD),δ _,Kept.refl _ _,hS,hS.rQ,λk o hk=>.inr (.inl ⟨k,o,hk,rfl⟩),λ_ _=>rfl,λt=>(G.fr t).xE (λb hb _=>hk.block b hb id) (λb hb hx=>?_) hk.shape (λ_ _=>rfl) (δ _)⟩
 rcases hx with (hx | hx) | hx
 ·exact .inl hx
 ·omega
 ·exact .inr hx
theorem xO.end_ {a0:Act} {w0:World} {f0:Fr} {σ0:St} {ι0:Nat->Nat} {q0:Obj} (G0:xO C E a0 w0 f0 σ0 ι0) (G:xO { C with n0:=σ0.nx } (cJ E w0 σ0 ι0 q0) a w f σ ι):xO C E a w f σ ι:=by
 have hsz:E.w0.heap.size<=w0.heap.size:=G0.kept.size
 have hown:∀ b,vD ι0 σ0 b->E.w0.heap.size<=b\/E.K0 b:=by rintro b ⟨k,o,hk,rfl⟩;exact G0.vC k o hk
 have h1:Kept w0 (w0.alloc q0) λ_=>False:=Kept.alloc w0 q0 _;have hs1:(w0.alloc q0).heap.size=w0.heap.size+1:=by show (w0.heap.push q0).size=_; simp
 have hnx:σ0.nx<=σ.nx:=G.nx;have hnx0:=G0.nx
 refine⟨G.size,G.defers,by omega,?_,G.sL.less λb hb=>.inl hb,G0.rQ,λk o hk=>?_,λk hk=>?_,λt=>(G.fr t).xE (λ_ _ _=>rfl) (λb _ hb=>hb.imp .inl id) (λb cur e h=>⟨cur,h,rfl⟩) (λ_ _=>rfl) (δ _)⟩
 ·refine G0.kept.trans (h1.trans G.kept (K'':=λb=>vD ι0 σ0 b\/b=w0.heap.size) (λ_ _ h=>h.elim) λ_ _ h=>h) (λ_ _ h=>h) λb hb hx=>?_
  rcases hx with hx | hx
  ·rcases hown b hx with h | h
   ·omega
   ·exact h
  ·omega
 ·rcases G.vC k o hk with h | h | h
  ·have h':(w0.alloc q0).heap.size<=ι k:=h;left; omega
  ·exact hown _ h
  ·left; rw [h]; exact hsz
 ·have:=G.stay k (show k<σ0.nx by omega);exact this.trans (G0.stay k hk)
theorem xO.back {a2:Act} {w2:World} {f2:Fr} {σ2:St} {ι2:Nat->Nat} {q:Obj} {rd:Option Nat} (hq:∀ x,q≠Obj.deferred x) (G1:xO C E a w f σ ι) (G2:xO { C with n0:=σ.nx,rd:=rd } (cJ E w σ ι q) a2 w2 f2 σ2 ι2):xO { C with n0:=σ.nx } (cJ E w σ ι q) a w2 f σ2 ι2:=by
 have G:=G1.ot q;have hl:(w.alloc q).heap[w.heap.size]?=some q:=World.alloc_heap_new w q
 refine⟨G.size,G.defers.xE rfl G2.kept.size (λD hD=>G2.kept.mark (λh=>?_) hD),G2.nx,G2.kept,G2.sL,G2.rQ,G2.vC,G2.stay,λt=>?_⟩
 ·rcases h with h | h
  ·exact G.sL.mZ hD h
  ·rw [h,hl] at hD;exact hq _ (Option.some.inj hD)
 ·refine(G.fr t).xE (λb hb hM=>G2.kept.block b hb λh=>hM (h.elim (λh=>.inr h) λh=>.inl (.inr h))) (λb hb hM=>?_) G2.kept.shape (λk hk=>G2.stay k hk) G2.nx
  rcases hM with hM | ⟨k,o,hk,rfl⟩
  ·exact .inl hM
  ·rcases G2.vC k o hk with h | h | h
   ·have:(w.alloc q).heap.size<=ι2 k:=h;omega
   ·exact .inr h
   ·exact .inl (.inr h)
theorem xO.u0 {rd:Option Nat} (G:xO C E a w f σ ι):xO { C with rd:=rd } E a w f σ ι:=⟨G.size,G.defers,G.nx,G.kept,G.sL,G.rQ,G.vC,G.stay,G.fr⟩
theorem xO.j8 (G:xO C E a w f σ ι):xO C E a w.drew f σ ι:=by have hk:Kept w w.drew λ_=>False:=(Kept.refl _ _).drew;exact⟨G.size,G.defers.xE rfl (δ _) λD hD=>hD,G.nx,G.kept.drew,G.sL.ext hk,G.rQ,G.vC,G.stay,G.fr.xE (λb hb _=>rfl) (λ_ _ h=>h) hk.shape (λ_ _=>rfl) (δ _)⟩
theorem xO.bare (G:xO C E a w f σ ι):xO C E { tmps:=a.tmps,defers:=[] } w f σ ι:=⟨G.size,.none rfl G.defers.1,G.nx,G.kept,G.sL,G.rQ,G.vC,G.stay,G.fr⟩
theorem xO.px {b0:Nat} {w':World} (G:xO C E a w f σ ι) (hk:Kept w w' λb=>b=b0) (hM:E.M0 b0) (hK:E.K0 b0) (hd:∀ x,w.heap[b0]?≠some (Obj.deferred x)):xO C E a w' f σ ι:=G.tick hk hM hK hd
theorem yY.vh {M0:Nat->Prop} (hS:yY M0 w σ ι) {D:Nat} {x:Loop} (h:w.heap[D]?=some (Obj.loop x)):¬ vD ι σ D:=by
 rintro ⟨k,o,hk,rfl⟩
 rcases(hS.holds k o hk).2 with ⟨_,cur,e,h1,_⟩ | ⟨_,es,h1,_⟩
 ·rw [h] at h1; cases h1
 ·rw [h] at h1; cases h1
theorem lr {P:Program} {N:Nat} {own:List Nat} {code:Code} {g:yG} {ps:List Nat} {x y:DC} (h:wR P N own code=some (.nK g ps x y)):∃ g0 ps0 a c,code = .rangeFunc g0 ps0 a c/\xU N g0=some g/\ps0.toList=ps/\wR P N own a=some x/\wR P N own c=some y:=by
 cases code with
 | region id ops draw=>rcases zL h with ⟨_,_,e⟩ | ⟨_,⟨_,_,_,_,e⟩ | ⟨_,_,_,_,e⟩ | ⟨_,_,_,_,e⟩⟩ | ⟨_,_,⟨_,_,_,e⟩,_⟩ <;> cases e
 | rangeFunc g0 ps0 a c=> simp only [wR,zO,DC.nK.injEq] at h;obtain⟨g',hg,dx,hx,dy,hy,rfl,rfl,rfl,rfl⟩:=h;exact⟨g0,ps0,a,c,rfl,hg,rfl,hx,hy⟩
 | seq a b=> simp only [wR,zO] at h;obtain⟨dx,hx,dy,hy,h⟩:=h;rcases yP dx dy with e | ⟨_,_,_,_,_,_,_,_,_,_,_,_,e,_⟩ <;> rw [e] at h <;> cases h
 | _=>simp [wR,Option.bind_eq_some_iff] at h
theorem bV (hrd:C.rd=none) {g:yG} {p0 p1:Nat} {dx dy:DC} {Q:Exit->Fr->St->Prop} {gi:FuncId} {xX:List (List D)} {els0:D} (hB:vv C.P gi) (hg:wJ f g = .fn gi [.ptr [els0]]) (he:els0 = .sl 2 xX\/(els0 = .xY/\xX = [])) (hp:p0<C.N/\p1<C.N)
  (J:Nat->St->Prop) (h0:J 0 σ)
  (round:∀ l k σk,k<xX.length->J k σk->wpS { C with n0:=σ.nx,rd:=some l } dx ((f.put (some p0) (.int .i64 ((xX.length-1-k:Nat):Int))).put (some p1) (.agg (xX.getD (xX.length-1-k) []))) σk
   (pN (λf1 σ1=>wpS { C with n0:=σ.nx,rd:=some l } dy f1 σ1 λe f2 σ2=>e = .normal/\∃ f3 σ3,zA { C with n0:=σ.nx,rd:=some l } f2 σ2 f3 σ3/\J (k+1) σ3) λ_ _ _=>False))
  (done:∀ σ',J xX.length σ'->Q .normal f σ'):wpS C (.nK g [p0,p1] dx dy) f σ Q:=by
 intro code hc E a w ⟨ι,G⟩;obtain⟨g0,ps0,x,y,rfl,hg0,hps,hx,hy⟩:=lr hc;obtain rfl:ps0 = #[p0,p1]:=by rw [<- hps]
 obtain⟨vs,hv,hv1,hv2⟩:=(hg ▸ tH G.fr hg0).nT;have hv1':vs.size=1:=hv1;have hvp:=hv2 0 (by show 0<1; omega);obtain⟨Bs,o,vs0,hvB,_,hMB,hcB,hrB⟩:=R.uZ (cs:=[els0]) hvp
 have hlb:vs = #[.pointer (some ⟨Bs,o,none⟩)]:=by
  refine Array.ext (by rw [hv1']; rfl) λi h1 h2=>?_;have hi0:i=0:=by rw [hv1'] at h1; omega
  subst hi0;have:vs.getD 0 undef=vs[0]:=by simp [Array.getD,h1]
  rw [this] at hvB;rw [hvB]; rfl
 have hcB0:=hcB 0 (by show 0<1; omega);have hrB0:=hrB 0 (by show 0<1; omega);generalize vs0 0=sv at hcB0 hrB0
 obtain⟨sa,b,off,cap,va,vb,hsv,hnm,hsa,hcel⟩:∃ (sa:Option Addr) (b off cap:Nat) (va vb:Nat->Value),sv = .slice sa xX.length cap/\xX.length<=maxLen/\(0<xX.length->sa=some ⟨b,off,none⟩/\ ¬ xD E.M0 ι σ b)/\
   ∀ i,i<xX.length->w.cell? ⟨b,off+i*2,none⟩= some (va i)/\ w.cell? ⟨b,off+i*2+1,none⟩= some (vb i)/\ (xX.getD i []).length=2/\RP (xD E.M0 ι σ) w (va i) ((xX.getD i []).getD 0 .top)/\ RP (xD E.M0 ι σ) w (vb i) ((xX.getD i []).getD 1 .top):=by
  rcases he with rfl | ⟨rfl,rfl⟩
  ·rcases(R.pure (ι:=ι) (n:=σ.nx) hrB0).pK with ⟨ad,cap,e1,rfl,hcap⟩ | ⟨b,off,cap,vs,e1,g1,g2,g3,g4,g5,g6,g7⟩
   ·exact⟨ad,0,0,cap,λ_=>undef,λ_=>undef,e1,by simp,λh=>absurd h (by simp),λi hi=>absurd hi (by simp)⟩
   ·refine⟨_,b,off,cap,λi=>vs i 0,λi=>vs i 1,e1,by omega,λ_=>⟨rfl,g2⟩,λi hi=>?_⟩;have hm:xX.getD i [] ∈ xX:=by simp [List.getD,hi]
    have q0:=g6 i hi 0 (by omega);rw [Nat.add_zero] at q0;exact⟨q0,g6 i hi 1 (by omega),g5 _ hm,g7 i hi 0 (by omega),g7 i hi 1 (by omega)⟩
  ·have:=(R.pure (ι:=ι) (n:=σ.nx) hrB0).wV;exact⟨none,0,0,0,λ_=>undef,λ_=>undef,this,by simp,λh=>absurd h (by simp),λi hi=>absurd hi (by simp)⟩
 subst hsv;have hF:C.F=Fence.wide:=by unfold Cx.F; rw [hrd]; rfl
 rw [hF];obtain⟨w',hw'⟩:∃ w',w'=w.alloc (.deferred (some [])):=⟨_,rfl⟩;have G':xO C E a w' f σ ι:=by rw [hw']; exact G.lay _
 have hws:w'.heap.size=w.heap.size+1:=by rw [hw']; show (w.heap.push _).size=_; simp
 have hkw:Kept w w' λ_=>False:=by rw [hw']; exact Kept.alloc w _ _
 have hD':w'.heap[w.heap.size]?=some (Obj.deferred (some [])):=by rw [hw']; exact World.alloc_heap_new w _
 refine wpIn_rangeFunc λfn _=>?_;obtain⟨rec,hrec⟩:∃ rec:LoopState->Option Code->Loop,rec=λst pe=>{ state:=st,pending:=pe,fn,tmps:=a.tmps,params:=#[p0,p1],assign:=x,body:=y,defers:=w.heap.size }:=⟨_,rfl⟩;obtain⟨W1,hW1⟩:∃ W1,W1=w'.alloc (.loop (rec .ready none)):=⟨_,rfl⟩;have hk1:Kept w' W1 λ_=>False:=by rw [hW1]; exact Kept.alloc w' _ _
 have hl1:W1.heap[w.heap.size+1]?=some (Obj.loop (rec .ready none)):=by rw [hW1,<- hws]; exact World.alloc_heap_new w' _
 have hD1:W1.heap[w.heap.size]?=some (Obj.deferred (some [])):=hk1.mark id hD';have hs1:W1.heap.size=w.heap.size+2:=by rw [hW1]; show (w'.heap.push _).size=_; simp; omega
 refine⟨w.heap.size+1,[{ target:=.collected w.heap.size,args:=#[] }],W1,{ target:=.fn (.func gi) vs,args:=#[.func (.yield (w.heap.size+1)) #[] #[]] },W1,gi,#[.func (.yield (w.heap.size+1)) #[] #[]]++vs,W1,?_,?_,λ_ _=>trivial,?_,λh=>absurd (show false=true from h) (by decide),?_⟩
 ·have:=run_enterLoop_outer (P:=C.P) (w:=w) fn a.tmps #[p0,p1] x y;rw [hW1,hw',hrec];exact this
 ·simp only [resolve,hv];simp [go_sem]
 ·have:=qH hB.1 (#[.func (.yield (w.heap.size+1)) #[] #[]]++vs) W1;simpa [invoke,go_sem] using this
 rw [hlb]
 have hblk:∀ {W:World} {σk:St} {ιk:Nat->Nat},xO { C with n0:=σ.nx } (cJ E w' σ ι (.loop (rec .ready none))) a W f σk ιk->∀ b',b'<w.heap.size->¬ xD E.M0 ι σ b'->W.heap[b']?=w.heap[b']?:=λ{W σk ιk} Gk b' hb hM=>by
  have e1:=Gk.kept.block b' (by show b'<(w'.alloc _).heap.size; rw [<- hW1]; omega) λh=>h.elim (λh=>hM (.inr h)) λh=>by omega
  have e2:(w'.alloc (.loop (rec .ready none))).heap[b']?=w'.heap[b']?:=by rw [<- hW1]; exact hk1.block b' (by omega) id
  exact e1.trans (e2.trans (hkw.block b' hb id))
 refine(hB.2 (w.heap.size+1) Bs o b off xX.length cap sa va vb (λk W=>∃ σk ιk,J k σk/\xO { C with n0:=σ.nx } (cJ E w' σ ι (.loop (rec .ready none))) a W f σk ιk/\W.heap[w.heap.size+1]?=some (Obj.loop (rec .ready none))/\ W.heap[w.heap.size]?=some (Obj.deferred (some []))) hnm (λh=>(hsa h).1) ?_ ?_ ?_ W1 ⟨σ,ι,h0,by rw [hW1]; exact G'.ot _,hl1,hD1⟩).mono ?_
 ·rintro k W ⟨σk,ιk,_,Gk,_,_⟩;have hB1:=hblk Gk Bs (mV hcB0) hMB;refine⟨by rw [World.cell?_of_block (w:=w) hB1]; rw [Nat.add_zero] at hcB0; exact hcB0,λi hi=>?_⟩;obtain⟨q1,q2,_⟩:=hcel i hi;have hb1:=hblk Gk b (mV q1) (hsa (by omega)).2;exact⟨by rw [World.cell?_of_block (w:=w) hb1]; exact q1,by rw [World.cell?_of_block (w:=w) hb1]; exact q2⟩
 ·rintro k W ⟨σk,ιk,hJ,Gk,hl,hD⟩;exact⟨σk,ιk,hJ,Gk.j8,hl,hD⟩
 ·rintro k W hk ⟨σk,ιk,hJ,Gk,hl,hD⟩;obtain⟨_,_,q3,q4,q5⟩:=hcel (xX.length-1-k) (by omega);have hy0:=run_yield (P:=C.P) (args:=#[.int .i64 ((xX.length-1-k:Nat):Int),.agg #[va (xX.length-1-k),vb (xX.length-1-k)]]) hl (by rw [hrec]; rfl);rw [hrec] at hy0;refine⟨fn,_,x,y,hy0,roundIn_of_wpIn trivial ?_⟩
  have hMk:∀ b',b'<w.heap.size->xD (cJ E w' σ ι (.loop (rec .ready none))).M0 ιk σk b'->xD E.M0 ι σ b':=λb' hb' hM=>by
   rcases hM with (hM | hM) | ⟨k',o',hk',rfl⟩
   ·exact .inl hM
   ·have:b'=w'.heap.size:=hM;omega
   ·rcases Gk.vC k' o' hk' with h | h | h
    ·have:W1.heap.size<=ιk k':=by rw [hW1]; exact h
     omega
    ·exact .inr h
    ·have:ιk k'=w'.heap.size:=h;omega
  have hRk:∀ {v:Value} {d:D},RP (xD E.M0 ι σ) w v d->RP (xD (cJ E w' σ ι (.loop (rec .ready none))).M0 ιk σk) W v d:=λh=>h.xE (hblk Gk) hMk;have hmin:IntKind.i64.min = -9223372036854775808:=rfl;have hmax:IntKind.i64.max=9223372036854775807:=rfl;have hml:xX.length<=9223372036854775807:=by simp only [maxLen] at hnm; omega
  have G1:=((Gk.open_.u0 (rd:=some (w.heap.size+1))).bare.set (dst:=some p0) (v:=.int .i64 ((xX.length-1-k:Nat):Int)) (d:=.int .i64 ((xX.length-1-k:Nat):Int)) (.pure (.int (by omega))) (λt ht=>by cases ht; exact hp.1)).set (dst:=some p1)
   (v:=.agg #[va (xX.length-1-k),vb (xX.length-1-k)]) (d:=.agg (xX.getD (xX.length-1-k) [])) (.pure (.agg (by rw [q3]; rfl) λj hj=>by
    rw [q3] at hj;have:j=0\/j=1:=by omega
    rcases this with rfl | rfl
    ·exact hRk q4
    ·exact hRk q5)) (λt ht=>by cases ht; exact hp.2)
  have hr:=round (w.heap.size+1) k σk hk hJ x hx _ _ _ ⟨ιk,G1⟩
  have hact:({ tmps:=(#[p0,p1].zip #[Value.int .i64 ((xX.length-1-k:Nat):Int),Value.agg #[va (xX.length-1-k),vb (xX.length-1-k)]]).foldl (λtmps (t,a)=>tmps.setIfInBounds t a) a.tmps,defers:=[] }:Act)=
    (({ tmps:=a.tmps,defers:=[] }:Act).put (some p0) (.int .i64 ((xX.length-1-k:Nat):Int))).put (some p1) (.agg #[va (xX.length-1-k),vb (xX.length-1-k)]):=by simp [Act.put]
  rw [<- hact] at hr;refine wpIn_mono hr λe a1 w1 hq=>?_;obtain⟨f1,σ1,⟨ι1,G1'⟩,hq⟩:=hq
  cases e with
  | normal=>
   have hl1':=G1'.kept.mark (Gk.sL.vh hl) hl;have hD1':=G1'.kept.mark (Gk.sL.mZ hD) hD;have Gc:=(Gk.u0 (rd:=some (w.heap.size+1))).close_ G1';have hlt1:=(γ.1 hl1').1;obtain⟨r6,hr6⟩:∃ r6,r6 = { rec .ready none with state:=.busy }:=⟨_,rfl⟩;have hbr:=run_beginRound (P:=C.P) hl1' (by rw [hrec]);rw [<- hr6] at hbr;have G2:=Gc.px (w':=w1.putObj (w.heap.size+1) (.loop r6)) (sC hl1' λ_ _ e=>by cases e) (.inr hws.symm) (.inr hws.symm) λx e=>by rw [hl1'] at e; cases e
   have hl2:(w1.putObj (w.heap.size+1) (.loop r6)).heap[w.heap.size+1]?=some (Obj.loop r6):=World.putObj_heap_same hlt1;have hD2:(w1.putObj (w.heap.size+1) (.loop r6)).heap[w.heap.size]?=some (Obj.deferred (some [])):=(World.putObj_heap_other (by omega)).trans hD1';refine⟨_,hbr,?_⟩;have hr2:=hq y hy _ _ _ ⟨ι1,G2.open_⟩;refine wpIn_mono hr2 λe a2 w2 hq2=>?_;obtain⟨f2,σ2,⟨ι2,G3⟩,rfl,f3,σ3,hwk,hJ3⟩:=hq2;have hl3:=G3.kept.mark (G2.sL.vh hl2) hl2;have hD3:=G3.kept.mark (G2.sL.mZ hD2) hD2;obtain⟨ι3,G5⟩:=hwk _ a2 w2 ⟨ι2,G2.close_ G3⟩;have hend:=run_endRound (P:=C.P) none hl3;have hr7:({ r6 with state:=if (none:Option Code).isNone then .ready else .done,pending:=none }:Loop)= rec .ready none:=by rw [hr6,hrec]; rfl
   rw [hr7] at hend;have hlt2:=(γ.1 hl3).1;have G6:=G5.px (w':=w2.putObj (w.heap.size+1) (.loop (rec .ready none))) (sC hl3 λ_ _ e=>by cases e) (.inr hws.symm) (.inr hws.symm) λx e=>by rw [hl3] at e; cases e
   exact⟨_,_,hend,rfl,σ3,ι3,hJ3,G'.back (rd:=some (w.heap.size+1)) (λ_ e=>by cases e) G6,World.putObj_heap_same hlt2,(World.putObj_heap_other (by omega)).trans hD3⟩
  | exit id=>exact hq.elim
  | goto t=>exact hq.elim
  | ret=>exact hq.elim
  | panic ch=>exact hq.elim
  | outgrown=>exact hq.elim
 ·rintro e W' ⟨⟨v,rfl⟩,σ',ι',hJ',Ge,hl,hD⟩
  obtain⟨r5,hend⟩:∃ r5,(Instr.endLoop (w.heap.size+1)).run C.P W' = .ok none (W'.putObj (w.heap.size+1) (.loop r5)):=by
   have hend:=run_endLoop (P:=C.P) hl (by rw [hrec]; simp);have hpe:(rec .ready none).pending=none:=by rw [hrec]
   rw [hpe] at hend;exact⟨_,hend⟩
  refine⟨none,_,hend,f,σ',⟨ι',?_⟩,done σ' hJ'⟩;have hlt:w.heap.size+1<W'.heap.size:=(γ.1 hl).1;have G3:=Ge.px (w':=W'.putObj (w.heap.size+1) (.loop r5)) (sC hl λ_ _ e=>by cases e) (.inr hws.symm) (.inr hws.symm) λx e=>by rw [hl] at e; cases e
  have G4:=G'.end_ G3;have hD4:(W'.putObj (w.heap.size+1) (.loop r5)).heap[w.heap.size]?=some (Obj.deferred (some [])):=(World.putObj_heap_other (by omega)).trans hD;obtain⟨hB0,l0,hd1,hd2,hd3⟩:=G4.defers;obtain⟨_,l1,he1,_,he3⟩:=G.defers
  refine⟨G4.size,⟨hB0,w.heap.size :: l0,?_,?_,?_⟩,G4.nx,G4.kept,G4.sL,G4.rQ,G4.vC,G4.stay,G4.fr⟩
  ·show [_]++a.defers=_;rw [hd1]; rfl
  ·refine List.nodup_cons.2 ⟨λhm=>?_,hd2⟩;have hmem:({ target:=.collected w.heap.size,args:=#[] }:Deferred)∈ a.defers:=by rw [hd1]; exact List.mem_map.2 ⟨_,hm,rfl⟩
   rw [he1] at hmem;obtain⟨D,hDl,hDe⟩:=List.mem_map.1 hmem
   have hDw:D=w.heap.size:=by have:=congrArg Deferred.target hDe;simpa using this
   have:=(γ.1 (he3 D hDl).1).1;omega
  ·intro D hD2
   rcases List.mem_cons.1 hD2 with rfl | hD2
   ·exact⟨hD4,G.defers.1⟩
   ·exact hd3 D hD2
end
end Go.Pd
