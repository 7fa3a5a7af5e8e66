/- Part HA. -/
import Derived.Test.YtndfaefmmcoapaaGreatUdP8
import Derived.Test.YtndfaefmmcoapaaGreatUdKG
set_option linter.unusedSectionVars false
set_option linter.unusedVariables false
set_option linter.unusedSimpArgs false
set_option linter.defProp false
set_option maxRecDepth 20000
set_option maxHeartbeats 1000000
namespace Go.Pd
open Go Go.Proofs
open BitVec renaming isValue -> ZA
section
open Rs Fm Ru
namespace Te
def rbR (l:List Bool):List (List D):=l.map fun b=>[.bool b]
def zM (R T:Nat) (φ:Nat × Nat->Bool):List (List D):=(List.range R).map fun i=>[.sl 1 (rbR ((List.range T).map fun t=>φ (i,t)))]
def aO3 (T:Nat) (kr:Nat->Nat) (r i:Nat):List D:=if i<r then [.osl (kr i) 1 T] else [.xO]
def qQ (R T:Nat) (kr:Nat->Nat) (r:Nat):List (List D):=(List.range R).map (aO3 T kr r)
theorem rC (R T:Nat) (kr:Nat->Nat) (r:Nat):(qQ R T kr r).length=R:=by simp [qQ]
theorem eX {R T:Nat} {kr:Nat->Nat} {r i:Nat} (hi:i<R) (h:i<r):(qQ R T kr r).getD i [] = [.osl (kr i) 1 T]:=by simp [qQ,aO3,List.getD,hi,h]
theorem aKp {R T:Nat} {kr:Nat->Nat} {i:Nat} (hi:i<R):(qQ R T kr i).getD i [] = [.xO]:=by simp [qQ,aO3,List.getD,hi]
theorem aKo {R T:Nat} {kr:Nat->Nat} {r n:Nat}:(qQ R T kr r).set r [.osl n 1 T]=qQ R T (fun i=>if i=r then n else kr i) (r+1):=by
 refine List.ext_getElem (by simp [qQ]) fun k h1 h2=>?_;rw [List.getElem_set];simp only [qQ,List.getElem_map,List.getElem_range,aO3]
 by_cases e:r=k
 ·subst e; rw [if_pos rfl,if_pos (by omega),if_pos rfl]
 ·rw [if_neg e]
  by_cases hk:k<r
  ·rw [if_pos hk,if_pos (by omega),if_neg (by omega)]
  ·rw [if_neg hk,if_neg (by omega)]
theorem aPm (R T:Nat) (kr:Nat->Nat):qQ R T kr 0=List.replicate R [.xO]:=by refine List.ext_getElem (by simp [qQ]) fun k h1 h2=>by simp [qQ,aO3]
structure TI (R T nb r : Nat) (kr : Nat -> Nat) (v : Nat -> Nat -> Bool) (nx : Nat) (objs0 xZ : List (Nat × Ob)) : Prop where
 n1:nb<nx
 old:∀ k,k<nb->St.look xZ k=St.look objs0 k
 lo:St.look xZ nb=some ⟨1,qQ R T kr r⟩
 lr:∀ i,i<r->nb<kr i/\kr i<nx/\St.look xZ (kr i)= some ⟨1,rbR ((List.range T).map (v i))⟩
 dr:∀ i j,i<r->j<r->kr i=kr j->i=j
theorem TI.row {R T nb r:Nat} {kr:Nat->Nat} {v:Nat->Nat->Bool} {nx nx' n:Nat} {objs0 xZ objs':List (Nat × Ob)} (h:TI R T nb r kr v nx objs0 xZ) (hn:nx<=n/\n<nx')
  (hs:∀ k,k<nx->k≠nb->St.look objs' k=St.look xZ k) (ho:St.look objs' nb=some ⟨1,qQ R T (fun i=>if i=r then n else kr i) (r+1)⟩) (hx:St.look objs' n=some ⟨1,rbR ((List.range T).map (v r))⟩) :
  TI R T nb (r+1) (fun i=>if i=r then n else kr i) v nx' objs0 objs':=by
 have n1:=h.n1
 refine⟨by omega,fun k hk=>by rw [hs k (by omega) (by omega),h.old k hk],ho,fun i hi=>?_,fun i j hi hj e=>?_⟩
 ·by_cases e:i=r
  ·subst e; simp only [if_true]; exact⟨by omega,hn.2,hx⟩
  ·simp only [if_neg e];obtain⟨a,b,c⟩:=h.lr i (by omega);exact⟨a,by omega,by rw [hs _ b (by omega)]; exact c⟩
 ·by_cases ei:i=r <;> by_cases ej:j=r
  ·omega
  ·subst ei; simp only [if_true,if_neg ej] at e;have:=h.lr j (by omega); omega
  ·subst ej; simp only [if_true,if_neg ei] at e;have:=h.lr i (by omega); omega
  ·simp only [if_neg ei,if_neg ej] at e;exact h.dr i j (by omega) (by omega) e
theorem TI.upd {R T nb r:Nat} {kr:Nat->Nat} {v v':Nat->Nat->Bool} {nx nx':Nat} {objs0 xZ objs':List (Nat × Ob)} (h:TI R T nb r kr v nx objs0 xZ) (hn:nx<=nx') {i:Nat} (hi:i<r)
  (hv:∀ j t,j<r->t<T->j≠i->v j t=v' j t) (hs:∀ k,k<nx->k≠kr i->St.look objs' k=St.look xZ k) (hx:St.look objs' (kr i)= some ⟨1,rbR ((List.range T).map (v' i))⟩):TI R T nb r kr v' nx' objs0 objs':=by
 have n1:=h.n1;obtain⟨q1,q2,q3⟩:=h.lr i hi;refine⟨by omega,fun k hk=>by rw [hs k (by omega) (by omega),h.old k hk],by rw [hs nb n1 (by omega)]; exact h.lo,fun j hj=>?_,h.dr⟩;obtain⟨a,b,c⟩:=h.lr j hj;refine⟨a,by omega,?_⟩
 by_cases e:j=i
 ·subst e; exact hx
 ·rw [hs _ b (fun e2=>e (h.dr j i hj hi e2)),c];congr 3;exact List.map_congr_left fun t ht=>hv j t hj (List.mem_range.1 ht) e
end Te
end
section
open Rs Fm Ru Te
mutual
theorem aPg {n m:Nat} (hm:n<=m):∀ {d:D},d.under n->d.under m
 | .top,_ | .und,_ | .int _ _,_ | .bool _,_ | .str _,_ | .sl _ _,_ | .xO,_ | .emp,_ | .ptr _,_ | .iY,_ | .mY,_ | .pQ,_ | .adr _,_=>by simp only [D.under]
 | .agg cs,h=>by simp only [D.under] at h ⊢; exact uZ hm h
 | .tup cs,h=>by simp only [D.under] at h ⊢; exact uZ hm h
 | .fn _ cs,h=>by simp only [D.under] at h ⊢; exact uZ hm h
 | .ref _ _ _ _,h=>by simp only [D.under] at h ⊢; omega
 | .osl _ _ _,h=>by simp only [D.under] at h ⊢; omega
 | .sub _ _ _ _,h=>by simp only [D.under] at h ⊢; omega
 | .zJ _,h=>by simp only [D.under] at h ⊢; omega
theorem uZ {n m:Nat} (hm:n<=m):∀ {cs:List D},D.wA n cs->D.wA m cs
 | [],_=>by simp only [D.wA]
 | d :: r,h=>by simp only [D.wA] at h ⊢; exact⟨aPg hm h.1,uZ hm h.2⟩
end
theorem pG {σ σ':St} {ρ:Nat->Nat} {α:Type} {f g:α->List D}:∀ {l:List α},(∀ i ∈ l,(f i).length=(g i).length/\vwL σ σ' ρ (f i) (g i))->vwE σ σ' ρ (l.map f) (l.map g)
 | [],_=>.nil
 | x :: l,h=>.cons (h x (by simp)).1 (h x (by simp)).2 (pG fun i hi=>h i (List.mem_cons_of_mem _ hi))
mutual
theorem bZq {σ σ':St} {ρ:Nat->Nat} {n:Nat} (hn:n<=σ'.nx) (hρ:∀ k,k<n->ρ k=k):∀ {d:D},d.under n->vw σ σ' ρ d d
 | .top,_=>by simp only [vw]
 | .und,_=>by simp only [vw]
 | .int _ _,_=>by simp only [vw]
 | .bool _,_=>by simp only [vw]
 | .str _,_=>by simp only [vw]
 | .sl _ _,_=>by simp only [vw]; exact⟨trivial,trivial⟩
 | .xO,_=>by simp only [vw]
 | .emp,_=>by simp only [vw]
 | .agg cs,h=>by simp only [vw]; simp only [D.under] at h; exact⟨trivial,fX hn hρ h⟩
 | .tup cs,h=>by simp only [vw]; simp only [D.under] at h; exact⟨trivial,fX hn hρ h⟩
 | .fn _ cs,h=>by simp only [vw]; simp only [D.under] at h; exact⟨trivial,trivial,fX hn hρ h⟩
 | .ref _ _ _ _,h=>by simp only [vw]; simp only [D.under] at h; rw [hρ _ h]; exact⟨by omega,rfl⟩
 | .osl _ _ _,h=>by simp only [vw]; simp only [D.under] at h; rw [hρ _ h]; exact⟨by omega,rfl⟩
 | .sub _ _ _ _,h=>by simp only [vw]; simp only [D.under] at h; rw [hρ _ h]; exact⟨by omega,rfl⟩
 | .ptr _,_=>by simp only [vw]; exact .inl trivial
 | .zJ _,h=>by simp only [vw]; simp only [D.under] at h; rw [hρ _ h]; exact⟨by omega,rfl⟩
 | .iY,_=>by simp only [vw]
 | .mY,_=>by simp only [vw]
 | .pQ,_=>by simp only [vw]
 | .adr _,_=>by simp only [vw]
theorem fX {σ σ':St} {ρ:Nat->Nat} {n:Nat} (hn:n<=σ'.nx) (hρ:∀ k,k<n->ρ k=k):∀ {cs:List D},D.wA n cs->vwL σ σ' ρ cs cs
 | [],_=>by simp only [vwL]
 | d :: r,h=>by simp only [vwL]; simp only [D.wA] at h; exact⟨bZq hn hρ h.1,fX hn hρ h.2⟩
end
theorem aMg {σ σ':St} {ρ:Nat->Nat} {n:Nat} (hn:n<=σ'.nx) (hρ:∀ k,k<n->ρ k=k):∀ {els:List (List D)},(∀ e ∈ els,D.wA n e)->vwE σ σ' ρ els els
 | [],_=>.nil
 | e :: r,h=>.cons rfl (fX hn hρ (h e (by simp))) (aMg hn hρ fun x hx=>h x (List.mem_cons_of_mem _ hx))
namespace Te
def aV1 (nx R T:Nat) (φ:Nat × Nat->Bool):List (Nat × Ob):=(nx,⟨1,(List.range R).map fun i=>[.osl (nx+1+i) 1 T]⟩) :: (List.range R).map fun i=>(nx+1+i,⟨1,rbR ((List.range T).map fun t=>φ (i,t))⟩)
theorem qH : ∀ {a b:List (Nat × Ob)} {k:Nat},St.look (a++b) k=(St.look a k).or (St.look b k)
 | [],_,_=>rfl
 | (j,o) :: r,b,k=>by
  rw [List.cons_append,xX,xX]
  by_cases e:j=k
  ·rw [if_pos e,if_pos e]; rfl
  ·rw [if_neg e,if_neg e,qH]
theorem dH {c:Nat} {f:Nat->Ob} {k:Nat}:∀ {l:List Nat},(k ∈ l->St.look (l.map fun i=>(c+i,f i)) (c+k)= some (f k))/\ (k ∉ l->St.look (l.map fun i=>(c+i,f i)) (c+k)= none)
 | []=>⟨fun h=>(by cases h),fun _=>rfl⟩
 | j :: l=>by
  have ih:=dH (c:=c) (f:=f) (k:=k) (l:=l);rw [List.map_cons,xX]
  by_cases e:j=k
  ·subst e; rw [if_pos rfl]; exact⟨fun _=>rfl,fun h=>absurd (by simp) h⟩
  ·rw [if_neg (by omega)];refine⟨fun h=>ih.1 ?_,fun h=>ih.2 fun h2=>h (List.mem_cons_of_mem _ h2)⟩
   rcases List.mem_cons.1 h with h | h
   ·exact absurd h.symm e
   ·exact h
theorem oM {c:Nat} {f:Nat->Ob} {k:Nat} (h:k<c):∀ {l:List Nat},St.look (l.map fun i=>(c+i,f i)) k=none
 | []=>rfl
 | j :: l=>by rw [List.map_cons,xX,if_neg (by omega)]; exact oM h
theorem aG8 {nx R T k:Nat} {φ:Nat × Nat->Bool} (h:k<nx):St.look (aV1 nx R T φ) k=none:=by unfold aV1;rw [xX,if_neg (by omega)];exact oM (by omega)
theorem aG7 {nx R T i:Nat} {φ:Nat × Nat->Bool} (h:i<R):St.look (aV1 nx R T φ) (nx+1+i)= some ⟨1,rbR ((List.range T).map fun t=>φ (i,t))⟩:=by unfold aV1;rw [xX,if_neg (by omega)];exact(dH (f:=fun i=>⟨1,rbR ((List.range T).map fun t=>φ (i,t))⟩)).1 (List.mem_range.2 h)
theorem aG6 {nx R T:Nat} {φ:Nat × Nat->Bool}:St.look (aV1 nx R T φ) nx=some ⟨1,(List.range R).map fun i=>[.osl (nx+1+i) 1 T]⟩:=by unfold aV1; rw [xX,if_pos rfl]
theorem TI.start {nx R T:Nat} {φ:Nat × Nat->Bool} {xZ:List (Nat × Ob)}:TI R T nx R (fun i=>nx+1+i) (fun i t=>φ (i,t)) (nx+1+R) xZ (aV1 nx R T φ++xZ):=by refine⟨by omega,fun k hk=>by rw [qH,aG8 hk]; rfl,?_,fun i hi=>⟨by omega,by omega,by rw [qH,aG7 hi]; rfl⟩,fun i j _ _ e=>by omega⟩;rw [qH,aG6];show some _=_;congr 2;exact List.map_congr_left fun i hi=>by unfold aO3; rw [if_pos (List.mem_range.1 hi)]
end Te
theorem xY.alike {P:Program} {g:FuncId} {args:List D} {σ:St} {d:D} {nx:Nat} {xZ objs':List (Nat × Ob)} (hl:∀ k,St.look xZ k=St.look objs' k) (h:xY P g args σ d ⟨nx,objs'⟩):xY P g args σ d ⟨nx,xZ⟩:=by
 refine⟨h.ord,fun M0 w ι vals hS hl' hv=>(h.run M0 w ι vals hS hl' hv).mono fun e w' hh=>?_⟩;obtain⟨v,ι',h1,h2,h3,h4,h5,h6,h7⟩:=hh;have hg:∀ k,St.get ⟨nx,xZ⟩ k=St.get ⟨nx,objs'⟩ k:=fun k=>hl k
 have hM:Mof M0 ι' ⟨nx,xZ⟩= Mof M0 ι' ⟨nx,objs'⟩:=by funext b;unfold Mof;simp only [hg]
 refine⟨v,ι',h1,h2,⟨h3.old,fun k o hk=>?_,fun k k' o o' a b=>?_,fun k o hk=>?_,?_⟩,h4,h5,fun k o hk=>h6 k o (by rw [<- hg]; exact hk),by rw [hM]; exact h7⟩
 ·rw [hM]; exact h3.holds k o (by rw [<- hg]; exact hk)
 ·exact h3.inj k k' o o' (by rw [<- hg]; exact a) (by rw [<- hg]; exact b)
 ·exact h3.notM k o (by rw [<- hg]; exact hk)
 ·rw [hM]; exact h3.kB
theorem bXb {P:Program} {g:FuncId} {args:List D} {nx nx2 R T:Nat} {xZ objs2:List (Nat × Ob)} {kr:Nat->Nat} {φ:Nat × Nat->Bool} (hR:1<=R) (ho:tU P g) (hT:TI R T nx R kr (fun i t=>φ (i,t)) nx2 xZ objs2)
  (h:xY P g args ⟨nx,xZ⟩ (.osl nx 1 R) ⟨nx2,objs2⟩):xY P g args ⟨nx,xZ⟩ (.sl 1 (zM R T φ)) ⟨nx,xZ⟩:=by
 refine xY.wW ho fun hu=>xY.clean ?_;have n1:=hT.n1
 have h1:xY P g args ⟨nx,xZ⟩ (.osl nx 1 R) ⟨nx2,(nx,⟨1,zM R T φ⟩) :: cln xZ⟩:=by
  refine xY.ret h (.inr ⟨fun k=>k,by show nx<=nx2; omega,fun _ _=>rfl,?_,?_,fun p _ q _ e=>e⟩)
  ·simp only [vw]; exact⟨by omega,trivial⟩
  ·intro p hp
   rcases List.mem_cons.1 hp with rfl | hp
   ·refine⟨by show nx<nx2; omega,_,hT.lo,rfl,?_⟩;refine pG fun i hi=>⟨by unfold aO3; split <;> rfl,?_⟩;have hi':=List.mem_range.1 hi;obtain⟨b1,b2,b3⟩:=hT.lr i hi';unfold aO3;rw [if_pos hi'];simp only [vwL,vw,and_true]
    refine⟨trivial,by decide,fun q hq=>?_,_,b3,rfl,by simp [rbR],?_,?_⟩
    ·rcases List.mem_cons.1 hq with rfl | hq
     ·show nx≠kr i; omega
     ·have:=(hu q.1 q.2 (rM hq)).1;simp only at this;omega
    ·rw [List.take_of_length_le (by simp [rbR])]
    ·intro e he;simp only [rbR,List.mem_map] at he;obtain⟨b,_,rfl⟩:=he;rfl
   ·have hl:=rM hp;obtain⟨u1,u2⟩:=hu p.1 p.2 hl;simp only at u1 u2;refine⟨by show p.1<nx2; omega,p.2,?_,rfl,lQ fun e he=>uZ (by show nx<=nx2; omega) (u2 e he)⟩;show St.look objs2 p.1=_;rw [hT.old p.1 u1]; exact hl
 refine xY.ret h1 (.gone hu (fun k o hk=>?_) ?_)
 ·have:=(hu k o hk).1;simp only at this;show St.look (_ :: _) k=_;rw [xX,if_neg (by omega),lI]; exact hk
 ·simp only [vw]
  refine⟨trivial,by decide,fun q hq=>?_,_,by rw [aN7,xX,if_pos rfl],rfl,by simp [zM],(oH (show R=(zM R T φ).length by simp [zM])).symm,?_⟩
  ·have:=(hu q.1 q.2 (rM hq)).1;simp only at this;omega
  ·intro e he;simp only [zM,List.mem_map] at he;obtain⟨b,_,rfl⟩:=he;rfl
theorem aU3 {nx kc:Nat} {xZ:List (Nat × Ob)} {rs:List xD} {A F T:Nat} {same:D} {g:FuncId} {caps:List D} {φ:Nat × Nat->Bool} (ok:OkR rs A F T)
  (hc:St.look xZ kc=some ⟨6,[[.int .i64 (A:Int),.int .i64 (F:Int),.int .i64 (T:Int),.sl 2 (vF rs),.sl 2 (ptR (ptN T (rs.length*T))),same]]⟩)
  (hcl:∀ nx1 objs1 i t,nx<=nx1->(∀ k,k<nx->St.look objs1 k=St.look xZ k)->i<rs.length->t<T->xY Tryz.prog g ([.agg [.int .i64 (i:Int),.int .i64 (t:Int)]]++caps) ⟨nx1,objs1⟩ (.bool (φ (i,t))) ⟨nx1,objs1⟩) :
  xY Tryz.prog 153 [.ref kc 6 0 0,.fn g caps] ⟨nx,xZ⟩ (.osl nx 1 rs.length) ⟨nx+1+rs.length,aV1 nx rs.length T φ++xZ⟩:=by
 obtain⟨T1,T16⟩:=ok.hT;obtain⟨R1,R64⟩:=ok.hR;refine xY.wW ⟨_,Tryz.func153,by kernel_rfl,by kernel_rfl⟩ fun hu=>xY.alike (objs':=aV1 nx rs.length T φ++cln xZ) (fun k=>by rw [qH,qH,lI]) ?_;have hkc:=(hu kc _ hc).1;simp only at hkc;refine xY.xR mixed Tryz.func153 bS8 (by simp) fun hf=>?_;have x1:¬ nx=kc:=by omega
 simp only [simprocAttr,-ZA,↓zU,↓zD,zV,zT,zW,hc,x1,zQ]
 (repeat refine sd ?_)
 refine xQ (fun a:Nat × Nat × List (Nat × Ob)=>[(18,.int .i64 a.1),(17,.int .i64 rs.length),(5,.osl nx 1 rs.length),(1,.fn g caps),(0,.ref kc 6 0 0)]) (fun a=>⟨a.2.1,a.2.2⟩)
  (fun a=>a.1<=rs.length/\a.2.1<=nx+1+a.1/\∃ kr,TI rs.length T nx a.1 kr (fun _ _=>false) a.2.1 xZ a.2.2) (fun a=>rs.length-a.1) (0,nx+1,(nx,⟨1,List.replicate rs.length [.xO]⟩) :: xZ) ⟨Nat.zero_le _,by simp,fun _=>0,?_⟩ ?_ ?_
 ·refine⟨by simp only; omega,fun k hk=>by simp only; rw [xX,if_neg (by omega)],?_,fun i h=>absurd h (Nat.not_lt_zero _),fun i j h=>absurd h (Nat.not_lt_zero _)⟩;rw [aPm]; simp only; rw [xX,if_pos rfl]
 ·(refine xM.same ?_; simp [xP,Fr.get])
 intro ⟨r,nx1,objs1⟩ ⟨hr,hn1,kr,hT⟩;simp only at hr hn1 hT ⊢;refine xN mixed ?_
 by_cases hrl:r<rs.length
 ·have hd:((r:Int)<(rs.length:Int)):=by omega
  have n1:=hT.n1;have hc1:St.look objs1 kc=_:=(hT.old kc hkc).trans hc;have lo:=hT.lo;have y1:¬ nx1=kc:=by omega
  have y2:¬ nx1=nx:=by omega
  simp only [simprocAttr,-ZA,↓zU,↓zD,zV,zT,zW,hd,hc1,lo,y1,y2,rC]
  (repeat refine sd ?_)
  have hset:(qQ rs.length T kr r).set r (((qQ rs.length T kr r).getD r []).set 0 (D.osl nx1 1 T))= qQ rs.length T (fun i=>if i=r then nx1 else kr i) (r+1):=by rw [aKp hrl]; exact aKo
  rw [hset];refine⟨(r+1,?zna,?zoa),?ze1,?ze2,by show rs.length-(r+1)<rs.length-r; omega⟩
  case ze2=>
   (refine xM.same ?_; simp only [xP,Fr.get,simprocAttr,-ZA,zS])
   exact wrap_i64 (by omega)
  case ze1=>
   refine⟨by show r+1<=rs.length; omega,by show nx1+1<=nx+1+(r+1); omega,_,hT.row (n:=nx1) ⟨Nat.le_refl _,Nat.lt_succ_self _⟩ (fun k hk hk2=>?_) ?_ ?_⟩
   ·show St.look (_ :: _) _=_;rw [xX,if_neg (by omega),xV,if_neg (by omega)]
   ·show St.look (_ :: _) _=_;rw [xX,if_neg (by omega),xV,if_pos rfl,lo]; rfl
   ·show St.look (_ :: _) _=_;rw [xX,if_pos rfl];congr 2;exact(List.ext_getElem (by simp [rbR]) fun k h1 h2=>by simp [rbR])
 have hd:¬ ((r:Int)<(rs.length:Int)):=by omega
 obtain rfl:rs.length=r:=by omega
 have n1:=hT.n1;have hc1:St.look objs1 kc=_:=(hT.old kc hkc).trans hc;have hin:Inb rs T (ptN T (rs.length*T)):=nC T1 (Nat.le_refl _);have hln:=vN T (rs.length*T);have hlg:∀ w,w<rs.length*T->(ptN T (rs.length*T)).getD w (0,0)= (w / T,w % T):=fun w h=>aUq T h;have hRT:=ok.hP;generalize ptN T (rs.length*T)= l at hc hc1 hin hln hlg;simp only [simprocAttr,-ZA,↓zU,↓zD,zV,zT,zW,hd,hc1,zY]
 refine zN (fun a:Nat × Nat × List (Nat × Ob)=>[(36,.int .i64 a.1),(35,.int .i64 l.length),(34,.sl 2 (ptR l)),(5,.osl nx 1 rs.length),(1,.fn g caps)]) (fun a=>⟨a.2.1,a.2.2⟩)
  (fun a=>a.1<=l.length/\a.2.1<=nx1+a.1/\nx1<=a.2.1/\∃ kr,TI rs.length T nx rs.length kr (fun i t=>decide (i*T+t<a.1)&& φ (i,t)) a.2.1 xZ a.2.2) (fun a=>l.length-a.1) (0,nx1,objs1) ⟨Nat.zero_le _,by simp,Nat.le_refl _,kr,?_⟩ ?_ ?_
 ·have:(fun i t=>decide (i*T+t<0)&& φ (i,t))= fun _ _=>false:=by funext i t; simp
  rw [this]; exact hT
 ·(refine xM.same ?_; simp [xP,Fr.get])
 clear hT hc1 n1;intro ⟨w,nx2,objs2⟩ ⟨hw,hn2,hn3,kr,hT⟩;simp only at hw hn2 hn3 hT ⊢;have n1:=hT.n1;refine xN mixed ?_
 by_cases hwl:w<l.length
 ·have hd3:((w:Int)<(l.length:Int)):=by omega
  have hp:=hin _ (xS (d:=(0,0)) hwl);have hpg:=qN l hwl;have hpe:=hlg w (by omega);have hwe:(w / T)* T+w % T=w:=by rw [Nat.mul_comm]; exact Nat.div_add_mod w T
  rw [hpe] at hp hpg;generalize w / T=i at hp hpg hwe;generalize w % T=t at hp hpg hwe;simp only at hp hpg;obtain⟨hp1,hp2⟩:=hp;obtain⟨a1,a2,a3⟩:=hT.lr i hp1;have lo:=hT.lo;have hrow:=eX (T:=T) (kr:=kr) hp1 hp1;have hk1:=hcl (nx2+1) ((nx2,⟨2,[[.int .i64 i,.int .i64 t]]⟩) :: objs2) i t (by omega) (fun k hk=>by rw [xX,if_neg (by omega),hT.old k hk]) hp1 hp2;simp only [List.cons_append,List.nil_append] at hk1;have y1:¬ nx2=nx:=by omega
  have y2:¬ nx2=kr i:=by omega
  have hrl:∀ v:List Bool,(rbR v).length=v.length:=fun v=>by simp [rbR]
  simp only [simprocAttr,-ZA,↓zU,↓zD,zV,zT,zW,hd3,zY,hpg,lo,a3,hrow,rC,hrl,List.length_map,List.length_range,y1,y2]
  (repeat refine sd ?_)
  refine .go hk1 ?_;simp only [simprocAttr,-ZA,↓zU,↓zD,zV,zT,zW,a3,y1,y2,hrl,List.length_map,List.length_range]
  (repeat refine sd ?_)
  have hset:(rbR (List.map (fun t=>decide (i*T+t<w)&& φ (i,t)) (List.range T))).set t (((rbR (List.map (fun t=>decide (i*T+t<w)&& φ (i,t)) (List.range T))).getD t []).set 0 (D.bool (φ (i,t))))= rbR (List.map (fun t=>decide (i*T+t<w+1)&& φ (i,t)) (List.range T)):=by
   have hg:(rbR (List.map (fun t=>decide (i*T+t<w)&& φ (i,t)) (List.range T))).getD t [] = [.bool (decide (i*T+t<w)&& φ (i,t))]:=by simp [rbR,List.getD,hp2]
   rw [hg];refine List.ext_getElem (by simp [rbR]) fun k h1 h2=>?_;rw [List.getElem_set]
   by_cases e:t=k
   ·subst e;rw [if_pos rfl];simp [rbR,hwe]
   ·rw [if_neg e]
    have:decide (i*T+k<w)= decide (i*T+k<w+1):=by rw [Bool.eq_iff_iff,decide_eq_true_iff,decide_eq_true_iff]; omega
    simp only [rbR,List.getElem_map,List.getElem_range,this]
  rw [hset];refine⟨(w+1,?znb,?zob),?zg1,?zg2,by show l.length-(w+1)<l.length-w; omega⟩
  case zg2=>
   (refine xM.same ?_; simp only [xP,Fr.get,simprocAttr,-ZA,zS])
   exact wrap_i64 (by omega)
  case zg1=>
   refine⟨by show w+1<=l.length; omega,by show nx2+1<=nx1+(w+1); omega,by show nx1<=nx2+1; omega,kr,hT.upd (Nat.le_succ _) hp1 (fun j u hj hu hne=>?_) (fun k hk hk2=>?_) ?_⟩
   ·have hne':j*T+u≠w:=fun e=>hne (by
     have h1:(j*T+u)/ T=j:=by rw [Nat.mul_comm,Nat.mul_add_div (by omega),Nat.div_eq_of_lt hu]; rfl
     have h2:(i*T+t)/ T=i:=by rw [Nat.mul_comm,Nat.mul_add_div (by omega),Nat.div_eq_of_lt hp2]; rfl
     rw [e] at h1;rw [hwe] at h2;omega)
    have:decide (j*T+u<w)= decide (j*T+u<w+1):=by rw [Bool.eq_iff_iff,decide_eq_true_iff,decide_eq_true_iff]; omega
    simp only [this]
   ·show St.look (_ :: _) _=_;rw [xX,if_neg (by omega),xV,if_neg (fun e=>hk2 e.symm)]
   ·show St.look (_ :: _) _=_;rw [xX,if_neg (by omega),xV,if_pos rfl,a3]; rfl
 have hd3:¬ ((w:Int)<(l.length:Int)):=by omega
 have hv:∀ i t,i<rs.length->t<T->(decide (i*T+t<w)&& φ (i,t))= φ (i,t):=fun i t hi ht=>by have:=Nat.mul_le_mul_right T (show i+1<=rs.length from hi);rw [Nat.succ_mul] at this;rw [decide_eq_true (by omega)]; rfl
 simp only [simprocAttr,-ZA,↓zU,↓zD,zV,zT,zW,hd3];refine .zI ?_;simp only [simprocAttr,-ZA,↓zU,↓zD,zV,zT,zW];have hlow:∀ k,k<nx->(if nx+1<=k/\k<nx+1+rs.length then kr (k-(nx+1)) else k)= k:=fun k hk=>if_neg (by omega)
 refine .inr ⟨fun k=>if nx+1<=k/\k<nx+1+rs.length then kr (k-(nx+1)) else k,by show nx<=nx+1+rs.length; omega,hlow,?_,?_,?_⟩
 ·simp only [vw];exact⟨by omega,by rw [if_neg (by omega)]⟩
 ·intro p hp
  rcases List.mem_append.1 hp with hp | hp
  ·unfold aV1 at hp
   rcases List.mem_cons.1 hp with rfl | hp
   ·refine⟨by show nx<nx+1+rs.length; omega,⟨1,qQ rs.length T kr rs.length⟩,?_,rfl,pG fun i hi=>⟨?_,?_⟩⟩
    ·show St.look objs2 (if _ then _ else _)= _;rw [if_neg (by simp only; omega)]; exact hT.lo
    ·unfold aO3; split <;> rfl
    ·have hi':=List.mem_range.1 hi;unfold aO3;rw [if_pos hi'];simp only [vwL,vw,and_true];refine⟨by omega,?_⟩;rw [if_pos (by omega),show nx+1+i-(nx+1)= i by omega]
   ·simp only [List.mem_map,List.mem_range] at hp;obtain⟨i,hi,rfl⟩:=hp;obtain⟨b1,b2,b3⟩:=hT.lr i hi
    refine⟨by show nx+1+i<nx+1+rs.length; omega,_,?_,rfl,.same ?_⟩
    ·show St.look objs2 (if _ then _ else _)= _;rw [if_pos (by simp only; omega),show nx+1+i-(nx+1)= i by omega,b3];congr 3;exact List.map_congr_left fun t ht=>hv i t hi (List.mem_range.1 ht)
    ·intro e he;simp only [rbR,List.mem_map] at he;obtain⟨b,_,rfl⟩:=he;rfl
  ·have hl:=rM hp;obtain⟨u1,u2⟩:=hu p.1 p.2 hl;simp only at u1 u2
   refine⟨by show p.1<nx+1+rs.length; omega,p.2,?_,rfl,?_⟩
   ·show St.look objs2 (if _ then _ else _)= _;rw [hlow p.1 u1,hT.old p.1 u1]; exact hl
   ·have hself:∀ els:List (List D),(∀ e ∈ els,D.wA nx e)->vwE ⟨nx2,objs2⟩ ⟨nx+1+rs.length,aV1 nx rs.length T φ++cln xZ⟩ (fun k=>if nx+1<=k/\k<nx+1+rs.length then kr (k-(nx+1)) else k) els els:=fun els he=>aMg (n:=nx) (by show nx<=nx+1+rs.length; omega) hlow he;exact hself _ u2
 ·intro p hp q hq e
  have hin:∀ p ∈ aV1 nx rs.length T φ++cln xZ,p.1<nx+1+rs.length:=fun p hp=>by
   rcases List.mem_append.1 hp with hp | hp
   ·unfold aV1 at hp
    rcases List.mem_cons.1 hp with rfl | hp
    ·show nx<_; omega
    ·simp only [List.mem_map,List.mem_range] at hp;obtain⟨i,hi,rfl⟩:=hp;show nx+1+i<_; omega
   ·have:=(hu p.1 p.2 (rM hp)).1;simp only at this;omega
  have h1:=hin p hp;have h2:=hin q hq;simp only at e
  split at e <;> split at e
  ·have:=hT.dr _ _ (by omega) (by omega) e;omega
  ·have:=(hT.lr (p.1-(nx+1)) (by omega)).1;omega
  ·have:=(hT.lr (q.1-(nx+1)) (by omega)).1;omega
  ·exact e
theorem lS {nx kc:Nat} {xZ:List (Nat × Ob)} {rs:List xD} {A F T:Nat} {same:D} {g:FuncId} {caps:List D} {φ:Nat × Nat->Bool} (ok:OkR rs A F T)
  (hc:St.look xZ kc=some ⟨6,[[.int .i64 (A:Int),.int .i64 (F:Int),.int .i64 (T:Int),.sl 2 (vF rs),.sl 2 (ptR (ptN T (rs.length*T))),same]]⟩)
  (hcl:∀ nx1 objs1 i t,nx<=nx1->(∀ k,k<nx->St.look objs1 k=St.look xZ k)->i<rs.length->t<T->xY Tryz.prog g ([.agg [.int .i64 (i:Int),.int .i64 (t:Int)]]++caps) ⟨nx1,objs1⟩ (.bool (φ (i,t))) ⟨nx1,objs1⟩) :
  xY Tryz.prog 153 [.ref kc 6 0 0,.fn g caps] ⟨nx,xZ⟩ (.sl 1 (zM rs.length T φ)) ⟨nx,xZ⟩:=
 bXb (ok.hR.1) ⟨_,Tryz.func153,by kernel_rfl,by kernel_rfl⟩ (TI.start (xZ:=xZ)) (aU3 ok hc hcl)
end
section
open Rs Fm Ru Te
theorem aBm {nx:Nat} {xZ:List (Nat × Ob)} {i t:Nat}:xY Tryz.prog 206 [.agg [.int .i64 (i:Int),.int .i64 (t:Int)]] ⟨nx,xZ⟩ (.bool true) ⟨nx,xZ⟩:=by refine xY.wW ⟨_,Tryz.func206,by kernel_rfl,by kernel_rfl⟩ fun hu=>xY.clean ?_;refine xY.xR mixed Tryz.func206 bSe (by simp) fun hf=>?_;simp only [simprocAttr,-ZA,↓zU,↓zD,zV,zT,zW];refine .gone hu (fun k o hk=>?_) (by simp only [vw]);have:=(hu k o hk).1;simp only at this;show St.look (_ :: _) k=_;rw [xX,if_neg (by omega)]; exact hk
theorem aBl {nx:Nat} {xZ:List (Nat × Ob)} {i t:Nat}:xY Tryz.prog 208 [.agg [.int .i64 (i:Int),.int .i64 (t:Int)]] ⟨nx,xZ⟩ (.bool true) ⟨nx,xZ⟩:=by refine xY.wW ⟨_,Tryz.func208,by kernel_rfl,by kernel_rfl⟩ fun hu=>xY.clean ?_;refine xY.xR mixed Tryz.func208 bSc (by simp) fun hf=>?_;simp only [simprocAttr,-ZA,↓zU,↓zD,zV,zT,zW];refine .gone hu (fun k o hk=>?_) (by simp only [vw]);have:=(hu k o hk).1;simp only at this;show St.look (_ :: _) k=_;rw [xX,if_neg (by omega)]; exact hk
theorem aEl {nx:Nat} {xZ:List (Nat × Ob)} {i t:Nat}:xY Tryz.prog 211 [.agg [.int .i64 (i:Int),.int .i64 (t:Int)]] ⟨nx,xZ⟩ (.bool false) ⟨nx,xZ⟩:=by refine xY.wW ⟨_,Tryz.func211,by kernel_rfl,by kernel_rfl⟩ fun hu=>xY.clean ?_;refine xY.xR mixed Tryz.func211 bT9 (by simp) fun hf=>?_;simp only [simprocAttr,-ZA,↓zU,↓zD,zV,zT,zW];refine .gone hu (fun k o hk=>?_) (by simp only [vw]);have:=(hu k o hk).1;simp only at this;show St.look (_ :: _) k=_;rw [xX,if_neg (by omega)]; exact hk
end
section
open Rs Fm Ru Te
namespace Te
theorem zZ (R T:Nat) (φ:Nat × Nat->Bool):(zM R T φ).length=R:=by simp [zM]
theorem wJ {R T:Nat} {φ:Nat × Nat->Bool} {i:Nat} (h:i<R):(zM R T φ).getD i [] = [.sl 1 (rbR ((List.range T).map fun t=>φ (i,t)))]:=by simp [zM,List.getD,h]
theorem uY {T i t:Nat} {φ:Nat × Nat->Bool} (h:t<T):(rbR ((List.range T).map fun t=>φ (i,t))).getD t [] = [.bool (φ (i,t))]:=by simp [rbR,List.getD,h]
theorem wZ (l:List Bool):(rbR l).length=l.length:=by simp [rbR]
end Te
theorem bZf {nx kx:Nat} {xZ:List (Nat × Ob)} {R T:Nat} {φ:Nat × Nat->Bool} (hR:R<=1000) (hT:T<=1000) (hx:St.look xZ kx=some ⟨1,[[.sl 1 (zM R T φ)]]⟩) {i t:Nat} (hi:i<R) (ht:t<T) :
  xY Tryz.prog 154 ([.agg [.int .i64 (i:Int),.int .i64 (t:Int)]] ++ [.ref kx 1 0 0]) ⟨nx,xZ⟩ (.bool (!φ (i,t))) ⟨nx,xZ⟩:=by
 refine xY.wW ⟨_,Tryz.func154,by kernel_rfl,by kernel_rfl⟩ fun hu=>xY.clean ?_;have hk:=(hu kx _ hx).1;simp only at hk;have y1:¬ nx=kx:=by omega
 have g1:=wJ (T:=T) (φ:=φ) hi;have g2:=uY (i:=i) (φ:=φ) ht;refine xY.xR mixed Tryz.func154 bS7 (by simp) fun hf=>?_;simp only [simprocAttr,-ZA,↓zU,↓zD,zV,zT,zW,hx,y1,zZ,g1,wZ,List.length_map,List.length_range,g2]
 (repeat refine sd ?_)
 refine .gone hu (fun k o hk=>?_) (by simp only [vw]);have:=(hu k o hk).1;simp only at this;show St.look (_ :: _) k=_;rw [xX,if_neg (by omega)]; exact hk
end
section
open Rs Fm Ru Te
namespace Te
def shP (T:Nat) (s:Int) (φ:Nat × Nat->Bool) (p:Nat × Nat):Bool:=decide (0<=(p.2:Int)+ s)&& (decide ((p.2:Int)+ s<T)&& φ (p.1,((p.2:Int)+ s).toNat))
end Te
theorem aGe {nx k5 k3 k4 kc:Nat} {xZ:List (Nat × Ob)} {rs:List xD} {A F T:Nat} {l:List (Nat × Nat)} {same:D} {φ:Nat × Nat->Bool} {s:Int} (ok:OkR rs A F T) (hs:-1<=s/\s<=1)
  (h5:St.look xZ k5=some ⟨1,[[.int .i64 s]]⟩) (h3:St.look xZ k3=some ⟨1,[[.ref kc 6 0 0]]⟩) (h4:St.look xZ k4=some ⟨1,[[.sl 1 (zM rs.length T φ)]]⟩)
  (hc:St.look xZ kc=some ⟨6,[[.int .i64 (A:Int),.int .i64 (F:Int),.int .i64 (T:Int),.sl 2 (vF rs),.sl 2 (ptR l),same]]⟩) {i t:Nat} (hi:i<rs.length) (ht:t<T) :
  xY Tryz.prog 210 ([.agg [.int .i64 (i:Int),.int .i64 (t:Int)]] ++ [.ref k5 1 0 0,.ref k3 1 0 0,.ref k4 1 0 0]) ⟨nx,xZ⟩ (.bool (shP T s φ (i,t))) ⟨nx,xZ⟩:=by
 obtain⟨T1,T16⟩:=ok.hT;refine xY.wW ⟨_,Tryz.func210,by kernel_rfl,by kernel_rfl⟩ fun hu=>xY.clean ?_;have y5:¬ nx=k5:=by have:=(hu k5 _ h5).1; simp only at this; omega
 have y3:¬ nx=k3:=by have:=(hu k3 _ h3).1; simp only at this; omega
 have y4:¬ nx=k4:=by have:=(hu k4 _ h4).1; simp only at this; omega
 have yc:¬ nx=kc:=by have:=(hu kc _ hc).1; simp only at this; omega
 have hkeep:∀ (ob:Ob) k o,St.look xZ k=some o->St.get ⟨nx+1,(nx,ob) :: xZ⟩ k=some o:=fun ob k o hk=>by have:=(hu k o hk).1;simp only at this;show St.look (_ :: _) k=_;rw [xX,if_neg (by omega)]; exact hk
 have hw:IntKind.i64.wrap ((t:Int)+ s)= (t:Int)+ s:=wrap_i64 (by omega);have g1:=wJ (T:=T) (φ:=φ) hi;unfold shP;simp only;refine xY.xR mixed Tryz.func210 bSa (by simp) fun hf=>?_;by_cases e1:0<=(t:Int)+ s
 case neg=> simp only [simprocAttr,-ZA,↓zU,↓zD,zV,zT,zW,h5,y5,hw,e1];exact .gone hu (hkeep _) (by simp [vw])
 by_cases e2:(t:Int)+ s<(T:Int)
 case neg=> simp only [simprocAttr,-ZA,↓zU,↓zD,zV,zT,zW,h5,h3,hc,y5,y3,yc,hw,e1,e2];exact .gone hu (hkeep _) (by simp [vw])
 obtain⟨u,hu2⟩:=Int.eq_ofNat_of_zero_le e1;rw [hu2] at hw e1 e2 ⊢;have g2:=uY (i:=i) (φ:=φ) (show u<T by omega);simp only [simprocAttr,-ZA,↓zU,↓zD,zV,zT,zW,h5,h3,h4,hc,y5,y3,y4,yc,hw,hu2,e1,e2,zZ,g1,wZ,List.length_map,List.length_range,g2]
 (repeat refine sd ?_)
 exact .gone hu (hkeep _) (by simp only [vw])
end
section
open Rs Fm Ru Te
theorem aMp {nx kc:Nat} {xZ:List (Nat × Ob)} {rs:List xD} {A F T:Nat} {same:D} {φ:Nat × Nat->Bool} {s:Int} (ok:OkR rs A F T) (hs:-1<=s/\s<=1)
  (hc:St.look xZ kc=some ⟨6,[[.int .i64 (A:Int),.int .i64 (F:Int),.int .i64 (T:Int),.sl 2 (vF rs),.sl 2 (ptR (ptN T (rs.length*T))),same]]⟩) :
  xY Tryz.prog 163 [.ref kc 6 0 0,.sl 1 (zM rs.length T φ),.int .i64 s] ⟨nx,xZ⟩ (.sl 1 (zM rs.length T (shP T s φ))) ⟨nx,xZ⟩:=by
 refine xY.wW ⟨_,Tryz.func163,by kernel_rfl,by kernel_rfl⟩ fun hu=>xY.clean ?_;have hkc:=(hu kc _ hc).1;simp only at hkc
 have hkeep:∀ (a b c:Ob) k o,St.look xZ k=some o->St.look ((nx+1+1,a) :: (nx+1,b) :: (nx,c) :: xZ) k=some o:=fun a b c k o hk=>by have:=(hu k o hk).1;simp only at this;rw [xX,if_neg (by omega),xX,if_neg (by omega),xX,if_neg (by omega)]; exact hk
 have hfill:=lS (nx:=nx+1+1+1) (kc:=kc) (xZ:=(nx+1+1,⟨1,[[.int .i64 s]]⟩) :: (nx+1,⟨1,[[.sl 1 (zM rs.length T φ)]]⟩) :: (nx,⟨1,[[.ref kc 6 0 0]]⟩) :: xZ) (g:=210) (caps:=[.ref (nx+1+1) 1 0 0,.ref nx 1 0 0,.ref (nx+1) 1 0 0]) (φ:=shP T s φ) ok (hkeep _ _ _ _ _ hc) (fun nx1 objs1 i t h1 h2 hi ht=> aGe ok hs (by rw [h2 _ (by omega),xX,if_pos rfl]) (by rw [h2 _ (by omega),xX,if_neg (by omega),xX,if_neg (by omega),xX,if_pos rfl]) (by rw [h2 _ (by omega),xX,if_neg (by omega),xX,if_pos rfl]) (by rw [h2 _ (by omega)]; exact hkeep _ _ _ _ _ hc) hi ht)
 refine xY.xR mixed Tryz.func163 bSy (by simp) fun hf=>?_;have y1:¬ nx+1=nx:=by omega
 have y2:¬ nx+1+1=nx:=by omega
 simp only [simprocAttr,-ZA,↓zU,↓zD,zV,zT,zW,y1,y2]
 (repeat refine sd ?_)
 refine .go hfill ?_;simp only [simprocAttr,-ZA,↓zU,↓zD,zV,zT,zW];exact .gone hu (hkeep _ _ _) (by simp only [vw]; exact⟨trivial,trivial⟩)
end
end Go.Pd
