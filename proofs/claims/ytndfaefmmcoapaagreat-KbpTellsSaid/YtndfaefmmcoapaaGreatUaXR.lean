/- Part XR. -/
import Derived.Test.YtndfaefmmcoapaaGreatUaX9
import Derived.RangeFuncIn
import Derived.RangeFuncRecord
import Derived.RangeFuncSeq
import Derived.Test.YtndfaefmmcoapaaGreatUaCode
import Derived.RangeFuncBox
import Derived.RangeFuncLeaves
import Derived.WalkKit
import Derived.OwnWalkIn
import Derived.TacticsInMore
import Derived.LoopNIn
import Derived.LoopIn
import Derived.Test.YtndfaefmmcoapaaGreatUaKU
set_option linter.unusedSectionVars false
set_option linter.unusedVariables false
set_option linter.unusedSimpArgs false
set_option linter.defProp false
namespace Go.Pd
open Go
section
variable [rV]
def bYl (P:Program) (gi:FuncId):Prop:=sZ P gi/\∀ (l Bs o b off n cap:Nat) (sa:Option Addr) (va vb:Nat->Value) (J:Nat->World->Prop),n<=maxLen->(0<n->sa=some ⟨b,off,none⟩) ->
 (∀ k W,J k W->W.cell? ⟨Bs,o,none⟩= some (.slice sa n cap)/\ ∀ i,i<n->W.cell? ⟨b,off+i*2,none⟩= some (va i)/\ W.cell? ⟨b,off+i*2+1,none⟩= some (vb i))->(∀ k W,J k W->J k W.drew) ->
 (∀ k W,k<n->J k W->YieldAt Fence.wide 0 P l #[.int .i64 ((n-1-k:Nat):Int),.agg #[va (n-1-k),vb (n-1-k)]] W fun e W'=>e = .returned (.bool true)/\ J (k+1) W') ->
 ∀ W,J 0 W->CallsIn Fence.wide 0 P gi #[.func (.yield l) #[] #[],.pointer (some ⟨Bs,o,none⟩)] W fun e W'=>(∃ v,e = .returned v)/\ J n W'
variable {C : Cx} {E : Env} {a : Act} {w : World} {f : Fr} {σ : St} {ι : Nat -> Nat}
theorem yI.lay (G:yI C E a w f σ ι) (o:Obj):yI C E a (w.alloc o) f σ ι:=by have hk:=Kept.alloc w o fun _=>False;exact⟨G.size,G.defers.wW rfl hk.size (fun D hD=>hk.mark id hD),G.nx,G.kept.trans hk (fun _ _ h=>h) (fun _ _ h=>h.elim),G.sim.ext hk,G.old,G.nI,G.stay,fun t=>(G.fr t).wW (fun b hb _=>hk.block b hb id) (fun _ _ h=>h) hk.shape (fun _ _=>rfl) (Nat.le_refl _)⟩
abbrev aEr (E:Env) (w:World) (σ:St) (ι:Nat->Nat) (o:Obj):Env:=⟨w.alloc o,fun b=>E.M0 b\/b=w.heap.size,fun b=>Own ι σ b\/b=w.heap.size,ι,E.B⟩
theorem yI.aDh (G:yI C E a w f σ ι) (o:Obj):yI { C with n0:=σ.nx } (aEr E w σ ι o) a (w.alloc o) f σ ι:=by
 have hk:=Kept.alloc w o fun _=>False;have hS:=G.sim.bUu o;refine⟨G.size,G.defers.wW rfl hk.size (fun D hD=>hk.mark id hD),Nat.le_refl _,Kept.refl _ _,hS,hS.old,fun k o hk=>.inr (.inl ⟨k,o,hk,rfl⟩),fun _ _=>rfl,fun t=>(G.fr t).wW (fun b hb _=>hk.block b hb id) (fun b hb hx=>?_) hk.shape (fun _ _=>rfl) (Nat.le_refl _)⟩
 rcases hx with (hx | hx) | hx
 ·exact .inl hx
 ·omega
 ·exact .inr hx
theorem yI.end_ {a0:Act} {w0:World} {f0:Fr} {σ0:St} {ι0:Nat->Nat} {q0:Obj} (G0:yI C E a0 w0 f0 σ0 ι0) (G:yI { C with n0:=σ0.nx } (aEr E w0 σ0 ι0 q0) a w f σ ι):yI C E a w f σ ι:=by
 have hsz:E.w0.heap.size<=w0.heap.size:=G0.kept.size
 have hown:∀ b,Own ι0 σ0 b->E.w0.heap.size<=b\/E.K0 b:=by rintro b ⟨k,o,hk,rfl⟩;exact G0.nI k o hk
 have h1:Kept w0 (w0.alloc q0) fun _=>False:=Kept.alloc w0 q0 _;have hs1:(w0.alloc q0).heap.size=w0.heap.size+1:=by show (w0.heap.push q0).size=_; simp
 have hnx:σ0.nx<=σ.nx:=G.nx;have hnx0:=G0.nx
 refine⟨G.size,G.defers,by omega,?_,G.sim.less fun b hb=>.inl hb,G0.old,fun k o hk=>?_,fun k hk=>?_,fun t=>(G.fr t).wW (fun _ _ _=>rfl) (fun b _ hb=>hb.imp .inl id) (fun b cur e h=>⟨cur,h,rfl⟩) (fun _ _=>rfl) (Nat.le_refl _)⟩
 ·refine G0.kept.trans (h1.trans G.kept (K'':=fun b=>Own ι0 σ0 b\/b=w0.heap.size) (fun _ _ h=>h.elim) fun _ _ h=>h) (fun _ _ h=>h) fun b hb hx=>?_
  rcases hx with hx | hx
  ·rcases hown b hx with h | h
   ·omega
   ·exact h
  ·omega
 ·rcases G.nI k o hk with h | h | h
  ·have h':(w0.alloc q0).heap.size<=ι k:=h;left; omega
  ·exact hown _ h
  ·left; rw [h]; exact hsz
 ·have:=G.stay k (show k<σ0.nx by omega);exact this.trans (G0.stay k hk)
theorem yI.back {a2:Act} {w2:World} {f2:Fr} {σ2:St} {ι2:Nat->Nat} {q:Obj} {rd:Option Nat} (hq:∀ x,q≠Obj.deferred x) (G1:yI C E a w f σ ι) (G2:yI { C with n0:=σ.nx,rd:=rd } (aEr E w σ ι q) a2 w2 f2 σ2 ι2):yI { C with n0:=σ.nx } (aEr E w σ ι q) a w2 f σ2 ι2:=by
 have G:=G1.aDh q;have hl:(w.alloc q).heap[w.heap.size]?=some q:=World.alloc_heap_new w q
 refine⟨G.size,G.defers.wW rfl G2.kept.size (fun D hD=>G2.kept.mark (fun h=>?_) hD),G2.nx,G2.kept,G2.sim,G2.old,G2.nI,G2.stay,fun t=>?_⟩
 ·rcases h with h | h
  ·exact G.sim.fR hD h
  ·rw [h,hl] at hD;exact hq _ (Option.some.inj hD)
 ·refine(G.fr t).wW (fun b hb hM=>G2.kept.block b hb fun h=>hM (h.elim (fun h=>.inr h) fun h=>.inl (.inr h))) (fun b hb hM=>?_) G2.kept.shape (fun k hk=>G2.stay k hk) G2.nx
  rcases hM with hM | ⟨k,o,hk,rfl⟩
  ·exact .inl hM
  ·rcases G2.nI k o hk with h | h | h
   ·have:(w.alloc q).heap.size<=ι2 k:=h;omega
   ·exact .inr h
   ·exact .inl (.inr h)
theorem yI.bUm {rd:Option Nat} (G:yI C E a w f σ ι):yI { C with rd:=rd } E a w f σ ι:=⟨G.size,G.defers,G.nx,G.kept,G.sim,G.old,G.nI,G.stay,G.fr⟩
theorem yI.bV6 (G:yI C E a w f σ ι):yI C E a w.drew f σ ι:=by have hk:Kept w w.drew fun _=>False:=(Kept.refl _ _).drew;exact⟨G.size,G.defers.wW rfl (Nat.le_refl _) fun D hD=>hD,G.nx,G.kept.drew,G.sim.ext hk,G.old,G.nI,G.stay,G.fr.wW (fun b hb _=>rfl) (fun _ _ h=>h) hk.shape (fun _ _=>rfl) (Nat.le_refl _)⟩
theorem yI.bare (G:yI C E a w f σ ι):yI C E { tmps:=a.tmps,defers:=[] } w f σ ι:=⟨G.size,.none rfl G.defers.1,G.nx,G.kept,G.sim,G.old,G.nI,G.stay,G.fr⟩
theorem yI.aD1 {b0:Nat} {w':World} (G:yI C E a w f σ ι) (hk:Kept w w' fun b=>b=b0) (hM:E.M0 b0) (hK:E.K0 b0) (hd:∀ x,w.heap[b0]?≠some (Obj.deferred x)):yI C E a w' f σ ι:=G.tick hk hM hK hd
theorem vN.aMj {M0:Nat->Prop} (hS:vN M0 w σ ι) {D:Nat} {x:Loop} (h:w.heap[D]?=some (Obj.loop x)):¬ Own ι σ D:=by
 rintro ⟨k,o,hk,rfl⟩
 rcases(hS.holds k o hk).2 with ⟨_,cur,e,h1,_⟩ | ⟨_,es,h1,_⟩
 ·rw [h] at h1; cases h1
 ·rw [h] at h1; cases h1
theorem aG6 {P:Program} {N:Nat} {own:List Nat} {code:Code} {g:Opd} {ps:List Nat} {x y:DC} (h:mkC P N own code=some (.aOn g ps x y)):∃ g0 ps0 a c,code = .rangeFunc g0 ps0 a c/\xB N g0=some g/\ps0.toList=ps/\mkC P N own a=some x/\mkC P N own c=some y:=by
 cases code with
 | region id ops draw=>rcases wG h with ⟨_,_,e⟩ | ⟨_,⟨_,_,_,_,e⟩ | ⟨_,_,_,_,e⟩ | ⟨_,_,_,_,e⟩⟩ | ⟨_,_,⟨_,_,_,e⟩,_⟩ <;> cases e
 | rangeFunc g0 ps0 a c=> simp only [mkC,zO,DC.aOn.injEq] at h;obtain⟨g',hg,dx,hx,dy,hy,rfl,rfl,rfl,rfl⟩:=h;exact⟨g0,ps0,a,c,rfl,hg,rfl,hx,hy⟩
 | seq a b=> simp only [mkC,zO] at h;obtain⟨dx,hx,dy,hy,h⟩:=h;rcases zC dx dy with e | ⟨_,_,_,_,_,_,_,_,_,_,_,_,e,_⟩ <;> rw [e] at h <;> cases h
 | _=>simp [mkC,Option.bind_eq_some_iff] at h
theorem aI5 (hrd:C.rd=none) {g:Opd} {p0 p1:Nat} {dx dy:DC} {Q:Exit->Fr->St->Prop} {gi:FuncId} {els:List (List D)} {els0:D} (hB:bYl C.P gi) (hg:evO f g = .fn gi [.ptr [els0]]) (he:els0 = .sl 2 els\/(els0 = .xL/\els = [])) (hp:p0<C.N/\p1<C.N)
  (J:Nat->St->Prop) (h0:J 0 σ)
  (round:∀ l k σk,k<els.length->J k σk->wpS { C with n0:=σ.nx,rd:=some l } dx ((f.put (some p0) (.int .i64 ((els.length-1-k:Nat):Int))).put (some p1) (.agg (els.getD (els.length-1-k) []))) σk
   (kA (fun f1 σ1=>wpS { C with n0:=σ.nx,rd:=some l } dy f1 σ1 fun e f2 σ2=>e = .normal/\∃ f3 σ3,xH { C with n0:=σ.nx,rd:=some l } f2 σ2 f3 σ3/\J (k+1) σ3) fun _ _ _=>False))
  (done:∀ σ',J els.length σ'->Q .normal f σ'):wpS C (.aOn g [p0,p1] dx dy) f σ Q:=by
 intro code hc E a w ⟨ι,G⟩;obtain⟨g0,ps0,x,y,rfl,hg0,hps,hx,hy⟩:=aG6 hc;obtain rfl:ps0 = #[p0,p1]:=by rw [<- hps]
 obtain⟨vs,hv,hv1,hv2⟩:=(hg ▸ qU G.fr hg0).fV;have hv1':vs.size=1:=hv1;have hvp:=hv2 0 (by show 0<1; omega);obtain⟨Bs,o,vs0,hvB,_,hMB,hcB,hrB⟩:=R.sJ (cs:=[els0]) hvp
 have hlb:vs = #[.pointer (some ⟨Bs,o,none⟩)]:=by
  refine Array.ext (by rw [hv1']; rfl) fun i h1 h2=>?_;have hi0:i=0:=by rw [hv1'] at h1; omega
  subst hi0;have:vs.getD 0 undef=vs[0]:=by simp [Array.getD,h1]
  rw [this] at hvB;rw [hvB]; rfl
 have hcB0:=hcB 0 (by show 0<1; omega);have hrB0:=hrB 0 (by show 0<1; omega);generalize vs0 0=sv at hcB0 hrB0
 obtain⟨sa,b,off,cap,va,vb,hsv,hnm,hsa,hcel⟩:∃ (sa:Option Addr) (b off cap:Nat) (va vb:Nat->Value),sv = .slice sa els.length cap/\els.length<=maxLen/\(0<els.length->sa=some ⟨b,off,none⟩/\ ¬ Mof E.M0 ι σ b)/\
   ∀ i,i<els.length->w.cell? ⟨b,off+i*2,none⟩= some (va i)/\ w.cell? ⟨b,off+i*2+1,none⟩= some (vb i)/\ (els.getD i []).length=2/\RP (Mof E.M0 ι σ) w (va i) ((els.getD i []).getD 0 .top)/\ RP (Mof E.M0 ι σ) w (vb i) ((els.getD i []).getD 1 .top):=by
  rcases he with rfl | ⟨rfl,rfl⟩
  ·rcases(R.pure (ι:=ι) (n:=σ.nx) hrB0).fW with ⟨ad,cap,e1,rfl,hcap⟩ | ⟨b,off,cap,vs,e1,g1,g2,g3,g4,g5,g6,g7⟩
   ·exact⟨ad,0,0,cap,fun _=>undef,fun _=>undef,e1,by simp,fun h=>absurd h (by simp),fun i hi=>absurd hi (by simp)⟩
   ·refine⟨_,b,off,cap,fun i=>vs i 0,fun i=>vs i 1,e1,by omega,fun _=>⟨rfl,g2⟩,fun i hi=>?_⟩;have hm:els.getD i [] ∈ els:=by simp [List.getD,hi]
    have q0:=g6 i hi 0 (by omega);rw [Nat.add_zero] at q0;exact⟨q0,g6 i hi 1 (by omega),g5 _ hm,g7 i hi 0 (by omega),g7 i hi 1 (by omega)⟩
  ·have:=(R.pure (ι:=ι) (n:=σ.nx) hrB0).vP;exact⟨none,0,0,0,fun _=>undef,fun _=>undef,this,by simp,fun h=>absurd h (by simp),fun i hi=>absurd hi (by simp)⟩
 subst hsv;have hF:C.F=Fence.wide:=by unfold Cx.F; rw [hrd]; rfl
 rw [hF];obtain⟨w',hw'⟩:∃ w',w'=w.alloc (.deferred (some [])):=⟨_,rfl⟩;have G':yI C E a w' f σ ι:=by rw [hw']; exact G.lay _
 have hws:w'.heap.size=w.heap.size+1:=by rw [hw']; show (w.heap.push _).size=_; simp
 have hkw:Kept w w' fun _=>False:=by rw [hw']; exact Kept.alloc w _ _
 have hD':w'.heap[w.heap.size]?=some (Obj.deferred (some [])):=by rw [hw']; exact World.alloc_heap_new w _
 refine wpIn_rangeFunc fun fn _=>?_;obtain⟨rec,hrec⟩:∃ rec:LoopState->Option Code->Loop,rec=fun st pe=>{ state:=st,pending:=pe,fn,tmps:=a.tmps,params:=#[p0,p1],assign:=x,body:=y,defers:=w.heap.size }:=⟨_,rfl⟩;obtain⟨W1,hW1⟩:∃ W1,W1=w'.alloc (.loop (rec .ready none)):=⟨_,rfl⟩;have hk1:Kept w' W1 fun _=>False:=by rw [hW1]; exact Kept.alloc w' _ _
 have hl1:W1.heap[w.heap.size+1]?=some (Obj.loop (rec .ready none)):=by rw [hW1,<- hws]; exact World.alloc_heap_new w' _
 have hD1:W1.heap[w.heap.size]?=some (Obj.deferred (some [])):=hk1.mark id hD';have hs1:W1.heap.size=w.heap.size+2:=by rw [hW1]; show (w'.heap.push _).size=_; simp; omega
 refine⟨w.heap.size+1,[{ target:=.collected w.heap.size,args:=#[] }],W1,{ target:=.fn (.func gi) vs,args:=#[.func (.yield (w.heap.size+1)) #[] #[]] },W1,gi,#[.func (.yield (w.heap.size+1)) #[] #[]]++vs,W1,?_,?_,fun _ _=>trivial,?_,fun h=>absurd (show false=true from h) (by decide),?_⟩
 ·have:=run_enterLoop_outer (P:=C.P) (w:=w) fn a.tmps #[p0,p1] x y;rw [hW1,hw',hrec];exact this
 ·simp only [resolve,hv];simp [go_sem]
 ·have:=rM hB.1 (#[.func (.yield (w.heap.size+1)) #[] #[]]++vs) W1;simpa [invoke,go_sem] using this
 rw [hlb]
 have hblk:∀ {W:World} {σk:St} {ιk:Nat->Nat},yI { C with n0:=σ.nx } (aEr E w' σ ι (.loop (rec .ready none))) a W f σk ιk->∀ b',b'<w.heap.size->¬ Mof E.M0 ι σ b'->W.heap[b']?=w.heap[b']?:=fun {W σk ιk} Gk b' hb hM=>by
  have e1:=Gk.kept.block b' (by show b'<(w'.alloc _).heap.size; rw [<- hW1]; omega) fun h=>h.elim (fun h=>hM (.inr h)) fun h=>by omega
  have e2:(w'.alloc (.loop (rec .ready none))).heap[b']?=w'.heap[b']?:=by rw [<- hW1]; exact hk1.block b' (by omega) id
  exact e1.trans (e2.trans (hkw.block b' hb id))
 refine(hB.2 (w.heap.size+1) Bs o b off els.length cap sa va vb (fun k W=>∃ σk ιk,J k σk/\yI { C with n0:=σ.nx } (aEr E w' σ ι (.loop (rec .ready none))) a W f σk ιk/\W.heap[w.heap.size+1]?=some (Obj.loop (rec .ready none))/\ W.heap[w.heap.size]?=some (Obj.deferred (some []))) hnm (fun h=>(hsa h).1) ?_ ?_ ?_ W1 ⟨σ,ι,h0,by rw [hW1]; exact G'.aDh _,hl1,hD1⟩).mono ?_
 ·rintro k W ⟨σk,ιk,_,Gk,_,_⟩;have hB1:=hblk Gk Bs (aXe hcB0) hMB;refine⟨by rw [World.cell?_of_block (w:=w) hB1]; rw [Nat.add_zero] at hcB0; exact hcB0,fun i hi=>?_⟩;obtain⟨q1,q2,_⟩:=hcel i hi;have hb1:=hblk Gk b (aXe q1) (hsa (by omega)).2;exact⟨by rw [World.cell?_of_block (w:=w) hb1]; exact q1,by rw [World.cell?_of_block (w:=w) hb1]; exact q2⟩
 ·rintro k W ⟨σk,ιk,hJ,Gk,hl,hD⟩;exact⟨σk,ιk,hJ,Gk.bV6,hl,hD⟩
 ·rintro k W hk ⟨σk,ιk,hJ,Gk,hl,hD⟩;obtain⟨_,_,q3,q4,q5⟩:=hcel (els.length-1-k) (by omega);have hy0:=run_yield (P:=C.P) (args:=#[.int .i64 ((els.length-1-k:Nat):Int),.agg #[va (els.length-1-k),vb (els.length-1-k)]]) hl (by rw [hrec]; rfl);rw [hrec] at hy0;refine⟨fn,_,x,y,hy0,roundIn_of_wpIn trivial ?_⟩
  have hMk:∀ b',b'<w.heap.size->Mof (aEr E w' σ ι (.loop (rec .ready none))).M0 ιk σk b'->Mof E.M0 ι σ b':=fun b' hb' hM=>by
   rcases hM with (hM | hM) | ⟨k',o',hk',rfl⟩
   ·exact .inl hM
   ·have:b'=w'.heap.size:=hM;omega
   ·rcases Gk.nI k' o' hk' with h | h | h
    ·have:W1.heap.size<=ιk k':=by rw [hW1]; exact h
     omega
    ·exact .inr h
    ·have:ιk k'=w'.heap.size:=h;omega
  have hRk:∀ {v:Value} {d:D},RP (Mof E.M0 ι σ) w v d->RP (Mof (aEr E w' σ ι (.loop (rec .ready none))).M0 ιk σk) W v d:=fun h=>h.wW (hblk Gk) hMk;have hmin:IntKind.i64.min = -9223372036854775808:=rfl;have hmax:IntKind.i64.max=9223372036854775807:=rfl;have hml:els.length<=9223372036854775807:=by simp only [maxLen] at hnm; omega
  have G1:=((Gk.open_.bUm (rd:=some (w.heap.size+1))).bare.set (dst:=some p0) (v:=.int .i64 ((els.length-1-k:Nat):Int)) (d:=.int .i64 ((els.length-1-k:Nat):Int)) (.pure (.int (by omega))) (fun t ht=>by cases ht; exact hp.1)).set (dst:=some p1)
   (v:=.agg #[va (els.length-1-k),vb (els.length-1-k)]) (d:=.agg (els.getD (els.length-1-k) [])) (.pure (.agg (by rw [q3]; rfl) fun j hj=>by
    rw [q3] at hj;have:j=0\/j=1:=by omega
    rcases this with rfl | rfl
    ·exact hRk q4
    ·exact hRk q5)) (fun t ht=>by cases ht; exact hp.2)
  have hr:=round (w.heap.size+1) k σk hk hJ x hx _ _ _ ⟨ιk,G1⟩
  have hact:({ tmps:=(#[p0,p1].zip #[Value.int .i64 ((els.length-1-k:Nat):Int),Value.agg #[va (els.length-1-k),vb (els.length-1-k)]]).foldl (fun tmps (t,a)=>tmps.setIfInBounds t a) a.tmps,defers:=[] }:Act)=
    (({ tmps:=a.tmps,defers:=[] }:Act).put (some p0) (.int .i64 ((els.length-1-k:Nat):Int))).put (some p1) (.agg #[va (els.length-1-k),vb (els.length-1-k)]):=by simp [Act.put]
  rw [<- hact] at hr;refine wpIn_mono hr fun e a1 w1 hq=>?_;obtain⟨f1,σ1,⟨ι1,G1'⟩,hq⟩:=hq
  cases e with
  | normal=>
   have hl1':=G1'.kept.mark (Gk.sim.aMj hl) hl;have hD1':=G1'.kept.mark (Gk.sim.fR hD) hD;have Gc:=(Gk.bUm (rd:=some (w.heap.size+1))).close_ G1';have hlt1:=(Array.getElem?_eq_some_iff.1 hl1').1;obtain⟨r6,hr6⟩:∃ r6,r6 = { rec .ready none with state:=.busy }:=⟨_,rfl⟩;have hbr:=run_beginRound (P:=C.P) hl1' (by rw [hrec]);rw [<- hr6] at hbr;have G2:=Gc.aD1 (w':=w1.putObj (w.heap.size+1) (.loop r6)) (pP hl1' fun _ _ e=>by cases e) (.inr hws.symm) (.inr hws.symm) fun x e=>by rw [hl1'] at e; cases e
   have hl2:(w1.putObj (w.heap.size+1) (.loop r6)).heap[w.heap.size+1]?=some (Obj.loop r6):=World.putObj_heap_same hlt1;have hD2:(w1.putObj (w.heap.size+1) (.loop r6)).heap[w.heap.size]?=some (Obj.deferred (some [])):=(World.putObj_heap_other (by omega)).trans hD1';refine⟨_,hbr,?_⟩;have hr2:=hq y hy _ _ _ ⟨ι1,G2.open_⟩;refine wpIn_mono hr2 fun e a2 w2 hq2=>?_;obtain⟨f2,σ2,⟨ι2,G3⟩,rfl,f3,σ3,hwk,hJ3⟩:=hq2;have hl3:=G3.kept.mark (G2.sim.aMj hl2) hl2;have hD3:=G3.kept.mark (G2.sim.fR hD2) hD2;obtain⟨ι3,G5⟩:=hwk _ a2 w2 ⟨ι2,G2.close_ G3⟩;have hend:=run_endRound (P:=C.P) none hl3;have hr7:({ r6 with state:=if (none:Option Code).isNone then .ready else .done,pending:=none }:Loop)= rec .ready none:=by rw [hr6,hrec]; rfl
   rw [hr7] at hend;have hlt2:=(Array.getElem?_eq_some_iff.1 hl3).1;have G6:=G5.aD1 (w':=w2.putObj (w.heap.size+1) (.loop (rec .ready none))) (pP hl3 fun _ _ e=>by cases e) (.inr hws.symm) (.inr hws.symm) fun x e=>by rw [hl3] at e; cases e
   exact⟨_,_,hend,rfl,σ3,ι3,hJ3,G'.back (rd:=some (w.heap.size+1)) (fun _ e=>by cases e) G6,World.putObj_heap_same hlt2,(World.putObj_heap_other (by omega)).trans hD3⟩
  | exit id=>exact hq.elim
  | goto t=>exact hq.elim
  | ret=>exact hq.elim
  | panic ch=>exact hq.elim
  | outgrown=>exact hq.elim
 ·rintro e W' ⟨⟨v,rfl⟩,σ',ι',hJ',Ge,hl,hD⟩
  obtain⟨r5,hend⟩:∃ r5,(Instr.endLoop (w.heap.size+1)).run C.P W' = .ok none (W'.putObj (w.heap.size+1) (.loop r5)):=by
   have hend:=run_endLoop (P:=C.P) hl (by rw [hrec]; simp);have hpe:(rec .ready none).pending=none:=by rw [hrec]
   rw [hpe] at hend;exact⟨_,hend⟩
  refine⟨none,_,hend,f,σ',⟨ι',?_⟩,done σ' hJ'⟩;have hlt:w.heap.size+1<W'.heap.size:=(Array.getElem?_eq_some_iff.1 hl).1;have G3:=Ge.aD1 (w':=W'.putObj (w.heap.size+1) (.loop r5)) (pP hl fun _ _ e=>by cases e) (.inr hws.symm) (.inr hws.symm) fun x e=>by rw [hl] at e; cases e
  have G4:=G'.end_ G3;have hD4:(W'.putObj (w.heap.size+1) (.loop r5)).heap[w.heap.size]?=some (Obj.deferred (some [])):=(World.putObj_heap_other (by omega)).trans hD;obtain⟨hB0,l0,hd1,hd2,hd3⟩:=G4.defers;obtain⟨_,l1,he1,_,he3⟩:=G.defers
  refine⟨G4.size,⟨hB0,w.heap.size :: l0,?_,?_,?_⟩,G4.nx,G4.kept,G4.sim,G4.old,G4.nI,G4.stay,G4.fr⟩
  ·show [_]++a.defers=_;rw [hd1]; rfl
  ·refine List.nodup_cons.2 ⟨fun hm=>?_,hd2⟩;have hmem:({ target:=.collected w.heap.size,args:=#[] }:Deferred)∈ a.defers:=by rw [hd1]; exact List.mem_map.2 ⟨_,hm,rfl⟩
   rw [he1] at hmem;obtain⟨D,hDl,hDe⟩:=List.mem_map.1 hmem
   have hDw:D=w.heap.size:=by have:=congrArg Deferred.target hDe;simpa using this
   have:=(Array.getElem?_eq_some_iff.1 (he3 D hDl).1).1;omega
  ·intro D hD2
   rcases List.mem_cons.1 hD2 with rfl | hD2
   ·exact⟨hD4,G.defers.1⟩
   ·exact hd3 D hD2
end
end Go.Pd

/- Part B1. -/
set_option maxRecDepth 100000
namespace Go.Pd
open Go Go.Proofs Go.RowKit
theorem aAw (l Bs o b off n cap:Nat) (sa:Option Addr) (va vb:Nat->Value) (J:Nat->World->Prop) (hn:n<=maxLen) (hsa:0<n->sa=some ⟨b,off,none⟩)
  (hRd:∀ k W,J k W->W.cell? ⟨Bs,o,none⟩= some (.slice sa n cap)/\ ∀ i,i<n->W.cell? ⟨b,off+i*2,none⟩= some (va i)/\ W.cell? ⟨b,off+i*2+1,none⟩= some (vb i)) (hdr:∀ k W,J k W->J k W.drew)
  (hY:∀ k W,k<n->J k W->YieldAt Fence.wide 0 Tryz.prog l #[.int .i64 ((n-1-k:Nat):Int),.agg #[va (n-1-k),vb (n-1-k)]] W fun e W'=>e = .returned (.bool true)/\ J (k+1) W') (W:World) (h0:J 0 W) :
  CallsIn Fence.wide 0 Tryz.prog 191 #[.func (.yield l) #[] #[],.pointer (some ⟨Bs,o,none⟩)] W fun e W'=>(∃ v,e = .returned v)/\ J n W':=by
 have hro:Fence.wide.round=none:=rfl;have hc0:=(hRd 0 W h0).1;refine callsIn_of_wp Tryz.func191 rfl trivial ?_ hro;simp only [Tryz.ntmps191,List.size_toArray,List.length_cons,List.length_nil,Nat.reduceAdd,Nat.reduceSub,Array.replicate_succ,Array.replicate_zero,List.push_toArray,List.append_toArray,List.nil_append,List.cons_append]
 gi_wp2
 have hw1:wrap64 ((n:Int)-1)= (n:Int)-1:=by simp only [maxLen] at hn;unfold wrap64;omega
 rw [hw1]
 gi_loopw [3] (fun i wr=>∃ k:Nat,k<=n/\i = .int .i64 ((n:Int)-1-k)/\ J k wr) (fun i _=>(RowKit.intOf i+1).toNat)
 case atStart=>exact⟨0,Nat.zero_le _,by simp,h0⟩
 case round=>
  obtain⟨k,hk,rfl,hJ⟩:=hrel;have hcb:=(hRd k wr hJ).1
  by_cases hlt:k<n
  ·obtain rfl:=hsa (by omega);obtain⟨q1,q2⟩:=(hRd k wr hJ).2 (n-1-k) (by omega);obtain⟨fn,tmps,assign,body,hy,hR⟩:=hY k wr hlt hJ;have hi:(n:Int)-1-k=((n-1-k:Nat):Int):=by omega
   have hi2:((n-1-k:Nat):Int)<(n:Int):=by omega
   rw [hi];generalize hm:n-1-k=m at *
   have hwm:wrap64 ((m:Int)-1)= (m:Int)-1:=by simp only [maxLen] at hn;unfold wrap64;omega
   gi_wp2
   refine⟨rfl,hR.mono ?_⟩;rintro e W3 ⟨rfl,hJ3⟩
   gi_wp2
   go_roundw
   case rel=>exact⟨k+1,by omega,by rw [hwm]; congr 1; omega,hJ3⟩
   case measure=>simp [RowKit.intOf,hwm]
  ·obtain rfl:k=n:=by omega
   have hi:(k:Int)-1-k = -1:=by omega
   rw [hi]
   gi_wp2
   go_end0
   exact⟨⟨_,rfl⟩,hJ⟩
theorem bV9 : bYl Tryz.prog 191:=⟨⟨Tryz.f191,Tryz.func191,by decide,rfl⟩,fun l Bs o b off n cap sa va vb J hn hsa hRd hdr hY W h0=>aAw l Bs o b off n cap sa va vb J hn hsa hRd hdr hY W h0⟩
end Go.Pd

/- Part KW. -/
set_option maxRecDepth 20000
set_option maxHeartbeats 1000000
namespace Go.Pd
open Go Go.Proofs
open BitVec renaming isValue -> ZA
open Rs Fm Ru Te Kb
theorem aTp (l:List ClA):yU Tryz.prog 132 [.sl 2 (clR l)] (.fn 191 [.ptr [.sl 2 (clR l)]]):=by
 refine xX.xQ mixed Tryz.func132 bSr (by simp) fun hf=>?_;simp only [simprocAttr,-ZA,↓zU,↓zD,zV,zT,zW]
 (repeat refine sd ?_)
 exact .drop (by simp) (by simp [vw,vwL,D.xV,D.xG]; exact⟨_,rfl,rfl,rfl⟩)
namespace Kb
def aVs (R:Nat) (g h:Nat->Int) (i:Nat):List Int:=(List.range R).map fun w=>if w<i then g w else h w
theorem aFb (R:Nat) (g h:Nat->Int) (i:Nat):(aVs R g h i).length=R:=by simp [aVs]
theorem aKx (R:Nat) (g h:Nat->Int):aVs R g h 0=(List.range R).map h:=by simp [aVs]
theorem aFc (R:Nat) (g h:Nat->Int) {i:Nat} (hi:R<=i):aVs R g h i=(List.range R).map g:=by refine List.map_congr_left fun f hf=>?_;rw [if_pos (by have:=List.mem_range.1 hf; omega)]
theorem aFa (R:Nat) (g h:Nat->Int) (i:Nat):(aVs R g h i).set i (g i)= aVs R g h (i+1):=by
 refine List.ext_getElem (by simp [aVs]) fun k h1 h2=>?_;rw [List.getElem_set];simp only [aVs,List.getElem_map,List.getElem_range]
 by_cases e:i=k
 ·subst e; rw [if_pos rfl,if_pos (by omega)]
 ·rw [if_neg e]
  by_cases hk:k<i
  ·rw [if_pos hk,if_pos (by omega)]
  ·rw [if_neg hk,if_neg (by omega)]
theorem aKy (R:Nat) {g h:Nat->Int} {i:Nat} (e:g i=h i):aVs R g h (i+1)= aVs R g h i:=by
 refine List.map_congr_left fun w _=>?_
 by_cases hw:w=i
 ·subst hw; rw [if_pos (by omega),if_neg (by omega)]; exact e
 ·by_cases h1:w<i
  ·rw [if_pos (by omega),if_pos h1]
  ·rw [if_neg (by omega),if_neg h1]
def pmO (R:Nat) (V:List (BitVec 64)) (RR:List (List (BitVec 64))):Ob:=⟨3,[[.int .i64 (R:Int),.sl 1 (us V),.sl 1 (rr RR)]]⟩
def mvF (p:PrA) (sts:List (List (BitVec 64))) (t a j:Nat):List Int:=(List.range sts.length).map fun w=>sQ p.see sts t a w ((p.code.getD a []).drop j)
def mvE (p:PrA) (sts:List (List (BitVec 64))) (t a:Nat):List (List (List D)):=(List.range a).map fun b=>rows .i64 (mvF p sts t b 0)
theorem fQ (p:PrA) (sts:List (List (BitVec 64))) (t a:Nat):(mvE p sts t a).length=a:=by simp [mvE]
theorem aS1 (p:PrA) (sts:List (List (BitVec 64))) (t a:Nat):mvE p sts t (a+1)= mvE p sts t a ++ [rows .i64 (mvF p sts t a 0)]:=by unfold mvE; rw [List.range_succ,List.map_append]; rfl
theorem aBp (p:PrA) (sts:List (List (BitVec 64))) (t:Nat):mvE p sts t p.see.length=(vW p sts t).map (rows .i64):=by simp only [mvE,vW,List.map_map];rfl
structure QP where
 a:Nat
 nx:Nat
 kO:Nat
 ks:List Nat
 xS:List (Nat × Ob)
structure IP (p : PrA) (sts : List (List (BitVec 64))) (t : Nat) (mO : Ob) (x : QP) : Prop where
 ha:x.a<=p.see.length
 n0:1<=x.nx
 h0:St.look x.xS 0=some mO
 kO:0<x.kO/\x.kO<x.nx\/x.a=0
 kl:x.ks.length=x.a
 ks:∀ k ∈ x.ks,0<k/\k<x.nx
 nd:x.ks.Nodup
 no:x.a≠0->x.kO ∉ x.ks
 nst:x.a≠0->Nst x.xS x.kO x.ks (mvE p sts t x.a)
def pE (kO a:Nat):D:=if a=0 then .xL else .osl kO 1 a
theorem IP.step {p:PrA} {sts:List (List (BitVec 64))} {t:Nat} {mO:Ob} {x:QP} (h:IP p sts t mO x) (hal:x.a<p.see.length) {m:Nat} {ob:List (Nat × Ob)} (hm:x.nx+3<=m) (hout:St.look ob (m+1)= some ⟨1,rE (x.ks ++ [x.nx+1]) (mvE p sts t (x.a+1))⟩)
  (hnew:St.look ob (x.nx+1)= some ⟨1,rows .i64 (mvF p sts t x.a 0)⟩) (hold:∀ k,k<x.nx->(x.a=0\/k≠x.kO)->St.look ob k=St.look x.xS k):IP p sts t mO ⟨x.a+1,m+1+1,m+1,x.ks ++ [x.nx+1],ob⟩ where
 ha:=by show x.a+1<=_; omega
 n0:=by show 1<=m+1+1; omega
 h0:=by have:=h.n0;show St.look ob 0=_;rw [hold 0 (by omega) (by have:=h.kO; omega)];exact h.h0
 kO:=.inl ⟨by show 0<m+1; omega,by show m+1<m+1+1; omega⟩
 kl:=by simp [h.kl]
 ks:=fun k hk=>by
  rcases List.mem_append.1 hk with hk | hk
  ·have:=h.ks k hk;exact⟨this.1,by show k<m+1+1; omega⟩
  ·rw [List.mem_singleton.1 hk]; exact⟨by omega,by show x.nx+1<m+1+1; omega⟩
 nd:=by refine List.nodup_append.2 ⟨h.nd,by simp,fun k hk j hj e=>?_⟩;have:=h.ks k hk;rw [List.mem_singleton.1 hj] at e;omega
 no:=fun _ hk=>by
  have hk:m+1 ∈ x.ks ++ [x.nx+1]:=hk
  rcases List.mem_append.1 hk with hk | hk
  ·have:=h.ks _ hk; omega
  ·have:=List.mem_singleton.1 hk; omega
 nst :=fun _=>{
  out:=hout
  len:=by rw [fQ]; simp [h.kl]
  each:=fun i hi=>by
   rw [fQ] at hi;have hi:i<x.a+1:=hi;show St.look ob ((x.ks ++ [x.nx+1]).getD i 0)= some ⟨1,(mvE p sts t (x.a+1)).getD i []⟩;rw [aS1]
   by_cases e:i=x.a
   ·subst e;have e1:(x.ks ++ [x.nx+1]).getD x.a 0=x.nx+1:=by simp [List.getD,<- h.kl]
    have e2:(mvE p sts t x.a ++ [rows .i64 (mvF p sts t x.a 0)]).getD x.a []=rows .i64 (mvF p sts t x.a 0):=by have:=fQ p sts t x.a;simp [List.getD,List.getElem?_append,this]
    rw [e1,e2]; exact hnew
   ·have hia:i<x.ks.length:=by rw [h.kl]; omega
    have hia2:i<(mvE p sts t x.a).length:=by rw [fQ]; omega
    have e1:(x.ks ++ [x.nx+1]).getD i 0=x.ks.getD i 0:=by simp [List.getD,List.getElem?_append_left hia]
    have e2:(mvE p sts t x.a ++ [rows .i64 (mvF p sts t x.a 0)]).getD i []=(mvE p sts t x.a).getD i []:=by simp [List.getD,List.getElem?_append_left hia2]
    rw [e1,e2];have hmem:=uI hia;have hlt:=h.ks _ hmem;have ha0:x.a≠0:=by omega
    rw [hold _ hlt.2 (.inr fun e=>h.no ha0 (e ▸ hmem))];exact(h.nst ha0).each i hia2 }
end Kb
theorem aQ5 {n:Nat} (hn:1<=n/\n<=64) (σ:St):xX Tryz.prog 131 [.sl 1 [[.int .i64 (-1)]],.int .i64 (n:Int)] σ (.osl σ.nx 1 n) ⟨σ.nx+1,(σ.nx,⟨1,rows .i64 (List.replicate n (-1))⟩) :: σ.xS⟩:=by have h:=aKe (d:=.int .i64 (-1)) rfl rfl hn;rw [aBl] at h;exact xX.bVt h rfl (tM _ _)
theorem iI {p:PrA} {F:Nat} (hv:PrV p F) {sts:List (List (BitVec 64))} {t:Nat} (ok:PlG p F sts t) :
  xX Tryz.prog 76 [plD p sts,.int .i64 t] St0 (.osl 0 1 p.see.length) ⟨1+p.see.length,aQb ((vW p sts t).map (rows .i64))⟩:=by
 have hm:=aG5 ok.ok;have hH:=fun f hE=>aB8 ok (f:=f) hE;have hK:=fun a w (ha:a<p.see.length) (hw:w<sts.length) f=>aHs ok ha hw f;have hR:=ok.hR;have hA:=ok.hA;have hll:(yM sts.length 0).length=sts.length:=wH _ _;have hRl:(rC (vM p.see sts t) (yM sts.length 0) p.see.length).length=p.see.length:=by simp [rC]
 have hRg:∀ a,a<p.see.length->(rC (vM p.see sts t) (yM sts.length 0) p.see.length).getD a []=rI (vM p.see sts t) (yM sts.length 0) a:=fun a ha=>by simp [rC,List.getD,ha]
 have hrl:∀ a,(rI (vM p.see sts t) (yM sts.length 0) a).length=sts.length:=fun a=>by simp [rI,hll]
 have hrg:∀ a w,w<sts.length->(rI (vM p.see sts t) (yM sts.length 0) a).getD w 0=Ru.gG (vM p.see sts t) (yM sts.length 0) a (wE (vM p.see sts t) a (w,0)) sts.length:=fun a w hw=>by simp [rI,yM,List.getD,hw]
 unfold aIn aIi at hm hH;rw [hll] at hm hH;generalize mG (vM p.see sts t) (yM sts.length 0) F=V at *;generalize rC (vM p.see sts t) (yM sts.length 0) p.see.length=RR at *;unfold plD plC at *;refine xX.xQ mixed Tryz.func76 k76 (by simp) fun hf=>?_;simp only [simprocAttr,-ZA,↓zU,↓zD,zV,zT,zW];refine .go (cr hm) ?_;simp only [simprocAttr,-ZA,↓zU,↓zD,zV,zT,zW,yE,hv.hC]
 (repeat refine sd ?_)
 refine xW (fun x:QP=>[(24,.int .i64 x.a),(23,.int .i64 p.see.length),(22,.sl 1 (cdR p.code)),(6,pE x.kO x.a),(5,.ref 0 3 0 0)]) (fun x=>⟨x.nx,x.xS⟩)
  (IP p sts t (pmO sts.length V RR)) (fun x=>p.see.length-x.a) ⟨0,1,0,[],[(0,pmO sts.length V RR)]⟩ ⟨Nat.zero_le _,Nat.le_refl _,rfl,.inr rfl,rfl,by simp,.nil,fun h=>absurd rfl h,fun h=>absurd rfl h⟩ ?_ ?_
 ·unfold pmO pE
  (refine xH.same ?_; simp [xO,Fr.get])
 rintro ⟨a,nx,kO,ks,xS⟩ hI;obtain⟨ha,n0,h0,hkO,hkl,hks,hnd,hno,hnst⟩:=hI;simp only at ha n0 h0 hkO hkl hks hnd hno hnst;refine xP mixed ?_;by_cases hal:a<p.see.length
 case neg=>
  have hd:¬ ((a:Int)<(p.see.length:Int)):=by omega
  obtain rfl:a=p.see.length:=by omega
  have ha0:p.see.length≠0:=by omega
  unfold pE;rw [if_neg ha0];simp only [simprocAttr,-ZA,↓zU,↓zD,zV,zT,zW,hd];have hn:=hnst ha0;rw [aBp] at hn;have hl2:((vW p sts t).map (rows .i64)).length=p.see.length:=by simp [vW]
  have hr:=nC.nst (nx:=nx) hn hl2.symm hnd (hno ha0) fun e he r hr=>by simp only [List.mem_map] at he;obtain⟨m,_,rfl⟩:=he;exact tM _ _ r hr
  rw [hl2] at hr;exact hr
 have hd:((a:Int)<(p.see.length:Int)):=by omega
 have hac:a<p.code.length:=by rw [hv.hC]; exact hal
 have hdc:((a:Int)<(p.code.length:Int)):=by omega
 have hg:=mR p.code hac;have hmem:=xK (d:=[]) hac;have hbw:=aTp (p.code.getD a [])
 have hF0:mvF p sts t a (p.code.getD a []).length=List.replicate sts.length (-1):=by unfold mvF;rw [List.drop_length];refine List.eq_replicate_iff.2 ⟨by simp,fun x hx=>?_⟩;simp only [List.mem_map] at hx;obtain⟨w,_,rfl⟩:=hx;rfl
 have hF1:∀ j w,j<(p.code.getD a []).length->sQ p.see sts t a w ((p.code.getD a []).drop j)= if knT p.see sts t a ((p.code.getD a []).getD j cl0).test w=true then((p.code.getD a []).getD j cl0).mv else sQ p.see sts t a w ((p.code.getD a []).drop (j+1)):=fun j w hj=>by rw [drop_cons (d:=cl0) hj]; rfl
 have hFm:∀ j,mvF p sts t a j=(List.range sts.length).map fun w=>sQ p.see sts t a w ((p.code.getD a []).drop j):=fun j=>rfl;have hsu:=aS1 p sts t a
 have hE:∀ j,j<(p.code.getD a []).length->fmE p ((p.code.getD a []).getD j cl0).test 15=0:=fun j hj=>by
  have:=hv.code _ hmem _ (xK (d:=cl0) hj);unfold clE at this
  split at this
  ·rename_i h1; exact absurd this h1
  ·rename_i h1; simpa using h1
 have hl6:=hv.cl _ hmem;generalize p.code.getD a []=cl at *;have c0:¬ (nx=0):=by omega
 simp only [simprocAttr,-ZA,↓zU,↓zD,zV,zT,zW,hd,hdc,yE,hg,h0,pmO,c0]
 (repeat refine sd ?_)
 refine .go (aQ5 ⟨hR.1,by omega⟩ _) ?_;simp only [simprocAttr,-ZA,↓zU,↓zD,zV,zT,zW]
 (repeat refine sd ?_)
 refine .go (cr hbw) ?_;simp only [simprocAttr,-ZA,↓zU,↓zD,zV,zT,zW]
 refine aI5 rfl bV9 rfl (.inl rfl) ⟨by decide,by decide⟩ (fun k σk=>∃ m ob,σk=⟨m,ob⟩/\ nx+3<=m/\St.look ob (nx+1+1)= some ⟨1,[[.osl (nx+1) 1 sts.length]]⟩/\ St.look ob (nx+1)= some ⟨1,rows .i64 (mvF p sts t a (cl.length-k))⟩/\ St.look ob nx=some ⟨1,[[.int .i64 a]]⟩/\ ∀ k,k<nx->St.look ob k=St.look xS k) ?_ ?_ ?_
 ·refine⟨_,_,rfl,Nat.le_refl _,?_,?_,?_,fun k hk=>?_⟩
  ·rw [xY,if_pos rfl]
  ·rw [xY,if_neg (by omega),xY,if_pos rfl,Nat.sub_zero,hF0]
  ·rw [xY,if_neg (by omega),xY,if_neg (by omega),xY,if_pos rfl]
  ·rw [xY,if_neg (by omega),xY,if_neg (by omega),xY,if_neg (by omega)]
 ·intro l k σk hk ⟨m,ob,e0,hm3,h2,h1,hx,hold⟩;subst e0;rw [vT] at hk ⊢;have hj:cl.length-1-k<cl.length:=by omega
  have hg1:=aXc cl hj;have hE1:=hE _ hj;have hF2:=fun w=>hF1 (cl.length-1-k) w hj;rw [show cl.length-1-k+1=cl.length-k by omega] at hF2;have e1:cl.length-(k+1)= cl.length-1-k:=by omega
  rw [e1];have hm1:=hFm (cl.length-k);have hm2:=hFm (cl.length-1-k);generalize cl.length-1-k=j at *;generalize cl.length-k=j1 at *;have hH1:=hH _ hE1;generalize cl.getD j cl0=c at *;unfold ClA.row at hg1;have h0':St.look ob 0=some (pmO sts.length V RR):=by rw [hold 0 (by omega)]; exact h0
  unfold pmO at h0';have q1:¬ (m=nx+1+1):=by omega
  have q2:¬ (m=nx+1):=by omega
  have q3:¬ (m=nx):=by omega
  have q4:¬ (m=0):=by omega
  refine xP mixed ?_;simp only [simprocAttr,-ZA,↓zU,↓zD,zV,zT,zW,hg1]
  (repeat refine sd ?_)
  refine xP mixed ?_;simp only [simprocAttr,-ZA,↓zU,↓zD,zV,zT,zW,q1,q2,q3,q4,h0',h1,h2,hx]
  (repeat refine sd ?_)
  refine .go (cr hH1) ?_;simp only [simprocAttr,-ZA,↓zU,↓zD,zV,zT,zW,q1,q2,q3,q4,h0',h1,h2,hx]
  (repeat refine sd ?_)
  have hga:=nG RR (show a<RR.length by omega);rw [hRg a hal] at hga;have hla:=hrl a;have hda:((a:Int)<(RR.length:Int)):=by omega
  refine xW (fun x:Nat × List (Nat × Ob)=>[(46,.int .i64 x.1),(45,.int .i64 sts.length),(12,.int .u64 (ui (bWq p.see sts t c.test))),(11,.ref m 2 0 0),(9,.ref (nx+1+1) 1 0 0),(7,.ref nx 1 0 0),(5,.ref 0 3 0 0)]) (fun x=>⟨m+1,x.2⟩)
   (fun x=>x.1<=sts.length/\St.look x.2 m=some ⟨2,[[.sl 6 (ndR c.test),.int .i64 c.mv]]⟩/\ St.look x.2 (nx+1)= some ⟨1,rows .i64 (aVs sts.length (fun w=>sQ p.see sts t a w (cl.drop j)) (fun w=>sQ p.see sts t a w (cl.drop j1)) x.1)⟩/\ ∀ k,k<m->k≠nx+1->St.look x.2 k=St.look ob k)
   (fun x=>sts.length-x.1) (0,(m,⟨2,[[.sl 6 (ndR c.test),.int .i64 c.mv]]⟩) :: ob) ⟨Nat.zero_le _,by rw [xY,if_pos rfl],by rw [xY,if_neg (by omega),h1,hm1,aKx],fun k hk _=>by rw [xY,if_neg (by omega)]⟩ ?_ ?_
  ·(refine xH.same ?_; simp [xO,Fr.get])
  rintro ⟨w,ob'⟩ ⟨hw,g1,g2,g3⟩;simp only at hw g1 g2 g3;have g4:St.look ob' (nx+1+1)= some ⟨1,[[.osl (nx+1) 1 sts.length]]⟩:=by rw [g3 _ (by omega) (by omega)]; exact h2
  have g5:St.look ob' nx=some ⟨1,[[.int .i64 a]]⟩:=by rw [g3 _ (by omega) (by omega)]; exact hx
  have g6:St.look ob' 0=some ⟨3,[[.int .i64 (sts.length:Int),.sl 1 (us V),.sl 1 (rr RR)]]⟩:=by rw [g3 _ (by omega) (by omega)]; exact h0'
  refine xP mixed ?_;by_cases hwl:w<sts.length
  case neg=>
   have hd3:¬ ((w:Int)<(sts.length:Int)):=by omega
   rw [aFc _ _ _ (by omega),<- hm2] at g2;simp only [simprocAttr,-ZA,↓zU,↓zD,zV,zT,zW,hd3];exact⟨[],⟨m+1,ob'⟩,xH.same trivial,m+1,ob',rfl,by omega,g4,g2,g5,fun k hk=>by rw [g3 k (by omega) (by omega)]; exact hold k hk⟩
  have hd3:((w:Int)<(sts.length:Int)):=by omega
  have hgw:=zH (rI (vM p.see sts t) (yM sts.length 0) a) (show w<_ by rw [hla]; exact hwl);rw [hrg a w hwl] at hgw;have hkn:=hK a w hal hwl c.test;generalize Ru.gG (vM p.see sts t) (yM sts.length 0) a (wE (vM p.see sts t) a (w,0)) sts.length=xr at hgw hkn;have hF3:=hF2 w;have hms:=aFa sts.length (fun w=>sQ p.see sts t a w (cl.drop j)) (fun w=>sQ p.see sts t a w (cl.drop j1)) w;have hml:=aFb sts.length (fun w=>sQ p.see sts t a w (cl.drop j)) (fun w=>sQ p.see sts t a w (cl.drop j1)) w;have hme:=@aKy sts.length (fun w=>sQ p.see sts t a w (cl.drop j)) (fun w=>sQ p.see sts t a w (cl.drop j1)) w
  cases hc:knT p.see sts t a c.test w with
  | false=>
   rw [hc] at hkn hF3;rw [if_neg (by simp)] at hF3;simp only [simprocAttr,-ZA,↓zU,↓zD,zV,zT,zW,hd3,g1,g2,g4,g5,g6,hda,hga,hla,hgw,hkn,zK,xR]
   (repeat refine sd ?_)
   refine⟨(w+1,ob'),⟨by show w+1<=_; omega,g1,by show St.look ob' _=some ⟨1,rows .i64 (aVs _ _ _ (w+1))⟩; rw [hme hF3]; exact g2,g3⟩,?_,by show sts.length-(w+1)<sts.length-w; omega⟩
   (refine xH.same ?_; simp only [xO,Fr.get,simprocAttr,-ZA,zS])
   exact wrap_i64 (by omega)
  | true=>
   rw [hc] at hkn hF3;rw [if_pos rfl] at hF3;rw [hF3] at hms;generalize aVs sts.length (fun w=>sQ p.see sts t a w (cl.drop j)) (fun w=>sQ p.see sts t a w (cl.drop j1)) w=M at *;have hgM:=yB .i64 M (show w<M.length by omega);simp only [simprocAttr,-ZA,↓zU,↓zD,zV,zT,zW,hd3,g1,g2,g4,g5,g6,hda,hga,hla,hgw,hkn,zK,xR,yX,hml,hgM,aH2,hms]
   (repeat refine sd ?_)
   refine⟨(w+1,vH ob' (nx+1) ⟨1,rows .i64 (aVs sts.length (fun w=>sQ p.see sts t a w (cl.drop j)) (fun w=>sQ p.see sts t a w (cl.drop j1)) (w+1))⟩),⟨by show w+1<=_; omega,?_,?_,fun k hk hk2=>?_⟩,?_,by show sts.length-(w+1)<sts.length-w; omega⟩
   ·show St.look (vH _ _ _) _=_;rw [xU,if_neg (by omega)]; exact g1
   ·show St.look (vH _ _ _) _=_;rw [xU,if_pos rfl,g2]; rfl
   ·show St.look (vH _ _ _) _=_;rw [xU,if_neg (fun e=>hk2 e.symm)]; exact g3 k hk hk2
   ·(refine xH.same ?_; simp only [xO,Fr.get,simprocAttr,-ZA,zS])
    exact wrap_i64 (by omega)
 ·intro σ' ⟨m,ob,e0,hm3,h2,h1,hx,hold⟩;subst e0;rw [vT,Nat.sub_self] at h1;have hI:IP p sts t (pmO sts.length V RR) ⟨a,nx,kO,ks,xS⟩:=⟨ha,n0,h0,hkO,hkl,hks,hnd,hno,hnst⟩;have hRl2:(mvF p sts t a 0).length=sts.length:=by simp [mvF]
  have q1:¬ (m=nx+1+1):=by omega
  by_cases ha0:a=0
  ·subst ha0;unfold pE;simp only [simprocAttr,-ZA,↓zU,↓zD,zV,zT,zW,h2,q1]
   (repeat refine sd ?_)
   refine⟨⟨0+1,m+1+1,m+1,ks ++ [nx+1],(m+1,⟨1,[[.osl (nx+1) 1 sts.length]]⟩) :: (m,⟨1,[[.osl (nx+1) 1 sts.length]]⟩) :: ob⟩,IP.step hI hal hm3 ?_ ?_ ?_,?_,by show p.see.length-(0+1)<_; omega⟩
   ·rw [xY,if_pos rfl];show _=some (Ob.mk 1 (rE (ks ++ [nx+1]) (mvE p sts t (0+1))));obtain rfl:ks = []:=List.eq_nil_of_length_eq_zero hkl;rw [hsu];simp [rE,mvE,yX,hRl2]
   ·rw [xY,if_neg (by show ¬ m+1=nx+1; omega),xY,if_neg (by show ¬ m=nx+1; omega)];exact h1
   ·intro k hk _;have hk:k<nx:=hk;rw [xY,if_neg (by omega),xY,if_neg (by omega)];exact hold k hk
   ·simp only [Nat.zero_add,Nat.one_ne_zero,↓reduceIte]
    (refine xH.same ?_; simp only [xO,Fr.get,simprocAttr,-ZA,zS])
    all_goals rfl
  ·have hkO2:0<kO/\kO<nx:=by rcases hkO with h | h <;> omega
   have hn:=hnst ha0;have ho:=hn.out;unfold pE;rw [if_neg ha0];have ho2:St.look ob kO=some ⟨1,rE ks (mvE p sts t a)⟩:=by rw [hold kO hkO2.2]; exact ho
   have q2:¬ (m=kO):=by omega
   have hnl:=uJ hn.len;rw [fQ] at hnl;have htk:(rE ks (mvE p sts t a)).take a=rE ks (mvE p sts t a):=List.take_of_length_le (by omega);simp only [simprocAttr,-ZA,↓zU,↓zD,zV,zT,zW,h2,q1,q2,ho2,hnl,htk]
   (repeat refine sd ?_)
   refine⟨⟨a+1,m+1+1,m+1,ks ++ [nx+1],(m+1,⟨1,rE ks (mvE p sts t a)++ [[.osl (nx+1) 1 sts.length]]⟩) :: (m,⟨1,[[.osl (nx+1) 1 sts.length]]⟩) :: yF ob kO⟩,IP.step hI hal hm3 ?_ ?_ ?_,?_,by show p.see.length-(a+1)<_; omega⟩
   ·rw [xY,if_pos rfl];show _=some (Ob.mk 1 (rE (ks ++ [nx+1]) (mvE p sts t (a+1))));have:=eV hn.len (nx+1) (rows .i64 (mvF p sts t a 0));rw [yX,hRl2] at this;rw [this,hsu]
   ·rw [xY,if_neg (by show ¬ m+1=nx+1; omega),xY,if_neg (by show ¬ m=nx+1; omega),xF,if_neg (by show ¬ kO=nx+1; omega)];exact h1
   ·intro k hk hk2;have hk:k<nx:=hk;have hk2:k≠kO:=hk2.resolve_left ha0;rw [xY,if_neg (by omega),xY,if_neg (by omega),xF,if_neg (fun e=>hk2 e.symm)];exact hold k hk
   ·simp only [Nat.add_one_ne_zero,↓reduceIte]
    (refine xH.same ?_; simp only [xO,Fr.get,simprocAttr,-ZA,zS])
    exact wrap_i64 (by omega)
end Go.Pd
