/- Part HA. -/
import Derived.Test.YtndfaefmmcoapaaGreatUbF18
import Derived.Test.YtndfaefmmcoapaaGreatUbKG
set_option linter.unusedSectionVars false
set_option linter.unusedVariables false
set_option linter.unusedSimpArgs false
set_option linter.defProp false
set_option maxRecDepth 20000
set_option maxHeartbeats 1000000
open Go.Proofs.Tryz
open List renaming mem_cons_of_mem->γ,mem_cons->δ,mem_range->ε,mem_singleton->ζ,mem_map->η,mem_append->θ,map_cons->κ,map_congr_left->μ,take_of_length_le->ν,length_range->ξ,length_map->ο,map_map->π,ext_getElem->τ,countP_cons->υ,cons_append->χ,length_singleton->ω,take_length->Aa,getElem_map->Ab,all_eq_true->Ac,nodup_cons->Ad,set_cons_succ->Ae,length_append->Af,getElem_range->Ag,take_add_one->Ah,getElem_set->Ai
open Nat renaming le_refl->Aj,zero_le->Ak,mul_comm->Al,lt_succ_self->Am,div_eq_of_lt->An,not_lt_zero->Ao,mul_add_div->Ap,mul_le_mul_right->Aq,le_succ->Ar
open Bool renaming or_eq_true->As,eq_iff_iff->Au,not_eq_true'->Av,and_eq_true->Aw
namespace Go.Pd
open Go Go.Proofs
open BitVec renaming isValue -> ZA
section
open Rs Fm Ru
namespace Te
def rbR (l:List Bool):List (List D):=l.map λb=>[.bool b]
def zI (R T:Nat) (φ:Nat × Nat->Bool):List (List D):=(List.range R).map λi=>[.sl 1 (rbR ((List.range T).map λt=>φ (i,t)))]
def XS (T:Nat) (kr:Nat->Nat) (r i:Nat):List D:=if i<r then [.osl (kr i) 1 T] else [.xK]
def qD (R T:Nat) (kr:Nat->Nat) (r:Nat):List (List D):=(List.range R).map (XS T kr r)
theorem qO (R T:Nat) (kr:Nat->Nat) (r:Nat):(qD R T kr r).length=R:=by simp [qD]
theorem eO {R T:Nat} {kr:Nat->Nat} {r i:Nat} (hi:i<R) (h:i<r):(qD R T kr r).getD i [] = [.osl (kr i) 1 T]:=by simp [qD,XS,List.getD,hi,h]
theorem Z8 {R T:Nat} {kr:Nat->Nat} {i:Nat} (hi:i<R):(qD R T kr i).getD i [] = [.xK]:=by simp [qD,XS,List.getD,hi]
theorem Z9 {R T:Nat} {kr:Nat->Nat} {r n:Nat}:(qD R T kr r).set r [.osl n 1 T]=qD R T (λi=>if i=r then n else kr i) (r+1):=by
 refine τ (by simp [qD]) λk h1 h2=>?_;rw [Ai];simp only [qD,Ab,Ag,XS]
 by_cases e:r=k
 ·subst e; rw [if_pos rfl,if_pos (by omega),if_pos rfl]
 ·rw [if_neg e]
  by_cases hk:k<r
  ·rw [if_pos hk,if_pos (by omega),if_neg (by omega)]
  ·rw [if_neg hk,if_neg (by omega)]
theorem o8 (R T:Nat) (kr:Nat->Nat):qD R T kr 0=List.replicate R [.xK]:=by refine τ (by simp [qD]) λk h1 h2=>by simp [qD,XS]
structure TI (R T nb r : Nat) (kr : Nat -> Nat) (v : Nat -> Nat -> Bool) (nx : Nat) (objs0 xZ : List (Nat × Ob)) : Prop where
 n1:nb<nx
 old:∀ k,k<nb->St.look xZ k=St.look objs0 k
 lo:St.look xZ nb=some ⟨1,qD R T kr r⟩
 lr:∀ i,i<r->nb<kr i/\kr i<nx/\St.look xZ (kr i)= some ⟨1,rbR ((List.range T).map (v i))⟩
 dr:∀ i j,i<r->j<r->kr i=kr j->i=j
theorem TI.row {R T nb r:Nat} {kr:Nat->Nat} {v:Nat->Nat->Bool} {nx nx' n:Nat} {objs0 xZ objs':List (Nat × Ob)} (h:TI R T nb r kr v nx objs0 xZ) (hn:nx<=n/\n<nx')
  (hs:∀ k,k<nx->k≠nb->St.look objs' k=St.look xZ k) (ho:St.look objs' nb=some ⟨1,qD R T (λi=>if i=r then n else kr i) (r+1)⟩) (hx:St.look objs' n=some ⟨1,rbR ((List.range T).map (v r))⟩) :
  TI R T nb (r+1) (λi=>if i=r then n else kr i) v nx' objs0 objs':=by
 have n1:=h.n1
 refine⟨by omega,λk hk=>by rw [hs k (by omega) (by omega),h.old k hk],ho,λi hi=>?_,λi j hi hj e=>?_⟩
 ·by_cases e:i=r
  ·subst e; simp only [if_true]; exact⟨by omega,hn.2,hx⟩
  ·simp only [if_neg e];obtain⟨a,b,c⟩:=h.lr i (by omega);exact⟨a,by omega,by rw [hs _ b (by omega)]; exact c⟩
 ·by_cases ei:i=r <;> by_cases ej:j=r
  ·omega
  ·subst ei; simp only [if_true,if_neg ej] at e;have:=h.lr j (by omega); omega
  ·subst ej; simp only [if_true,if_neg ei] at e;have:=h.lr i (by omega); omega
  ·simp only [if_neg ei,if_neg ej] at e;exact h.dr i j (by omega) (by omega) e
theorem TI.upd {R T nb r:Nat} {kr:Nat->Nat} {v v':Nat->Nat->Bool} {nx nx':Nat} {objs0 xZ objs':List (Nat × Ob)} (h:TI R T nb r kr v nx objs0 xZ) (hn:nx<=nx') {i:Nat} (hi:i<r)
  (hv:∀ j t,j<r->t<T->j≠i->v j t=v' j t) (hs:∀ k,k<nx->k≠kr i->St.look objs' k=St.look xZ k) (hx:St.look objs' (kr i)= some ⟨1,rbR ((List.range T).map (v' i))⟩):TI R T nb r kr v' nx' objs0 objs':=by
 have n1:=h.n1;obtain⟨q1,q2,q3⟩:=h.lr i hi;refine⟨by omega,λk hk=>by rw [hs k (by omega) (by omega),h.old k hk],by rw [hs nb n1 (by omega)]; exact h.lo,λj hj=>?_,h.dr⟩;obtain⟨a,b,c⟩:=h.lr j hj;refine⟨a,by omega,?_⟩
 by_cases e:j=i
 ·subst e; exact hx
 ·rw [hs _ b (λe2=>e (h.dr j i hj hi e2)),c];congr 3;exact μ λt ht=>hv j t hj (ε.1 ht) e
end Te
end
section
open Rs Fm Ru Te
mutual
theorem p8 {n m:Nat} (hm:n<=m):∀ {d:D},d.under n->d.under m
 | .top,_ | .und,_ | .int _ _,_ | .bool _,_ | .str _,_ | .sl _ _,_ | .xK,_ | .emp,_ | .ptr _,_ | .iH,_ | .mF,_ | .pC,_ | .adr _,_=>by simp only [D.under]
 | .agg cs,h=>by simp only [D.under] at h ⊢; exact uT hm h
 | .tup cs,h=>by simp only [D.under] at h ⊢; exact uT hm h
 | .fn _ cs,h=>by simp only [D.under] at h ⊢; exact uT hm h
 | .ref _ _ _ _,h=>by simp only [D.under] at h ⊢; omega
 | .osl _ _ _,h=>by simp only [D.under] at h ⊢; omega
 | .sub _ _ _ _,h=>by simp only [D.under] at h ⊢; omega
 | .zE _,h=>by simp only [D.under] at h ⊢; omega
theorem uT {n m:Nat} (hm:n<=m):∀ {cs:List D},D.vW n cs->D.vW m cs
 | [],_=>by simp only [D.vW]
 | d :: r,h=>by simp only [D.vW] at h ⊢; exact⟨p8 hm h.1,uT hm h.2⟩
end
theorem sG {σ σ':St} {ρ:Nat->Nat} {α:Type} {f g:α->List D}:∀ {l:List α},(∀ i ∈ l,(f i).length=(g i).length/\vwL σ σ' ρ (f i) (g i))->vwE σ σ' ρ (l.map f) (l.map g)
 | [],_=>.nil
 | x :: l,h=>.cons (h x (by simp)).1 (h x (by simp)).2 (sG λi hi=>h i (γ _ hi))
mutual
theorem Ou {σ σ':St} {ρ:Nat->Nat} {n:Nat} (hn:n<=σ'.nx) (hρ:∀ k,k<n->ρ k=k):∀ {d:D},d.under n->vw σ σ' ρ d d
 | .top,_=>by simp only [vw]
 | .und,_=>by simp only [vw]
 | .int _ _,_=>by simp only [vw]
 | .bool _,_=>by simp only [vw]
 | .str _,_=>by simp only [vw]
 | .sl _ _,_=>by simp only [vw]; exact⟨trivial,trivial⟩
 | .xK,_=>by simp only [vw]
 | .emp,_=>by simp only [vw]
 | .agg cs,h=>by simp only [vw]; simp only [D.under] at h; exact⟨trivial,fJ hn hρ h⟩
 | .tup cs,h=>by simp only [vw]; simp only [D.under] at h; exact⟨trivial,fJ hn hρ h⟩
 | .fn _ cs,h=>by simp only [vw]; simp only [D.under] at h; exact⟨trivial,trivial,fJ hn hρ h⟩
 | .ref _ _ _ _,h=>by simp only [vw]; simp only [D.under] at h; rw [hρ _ h]; exact⟨by omega,rfl⟩
 | .osl _ _ _,h=>by simp only [vw]; simp only [D.under] at h; rw [hρ _ h]; exact⟨by omega,rfl⟩
 | .sub _ _ _ _,h=>by simp only [vw]; simp only [D.under] at h; rw [hρ _ h]; exact⟨by omega,rfl⟩
 | .ptr _,_=>by simp only [vw]; exact .inl trivial
 | .zE _,h=>by simp only [vw]; simp only [D.under] at h; rw [hρ _ h]; exact⟨by omega,rfl⟩
 | .iH,_=>by simp only [vw]
 | .mF,_=>by simp only [vw]
 | .pC,_=>by simp only [vw]
 | .adr _,_=>by simp only [vw]
theorem fJ {σ σ':St} {ρ:Nat->Nat} {n:Nat} (hn:n<=σ'.nx) (hρ:∀ k,k<n->ρ k=k):∀ {cs:List D},D.vW n cs->vwL σ σ' ρ cs cs
 | [],_=>by simp only [vwL]
 | d :: r,h=>by simp only [vwL]; simp only [D.vW] at h; exact⟨Ou hn hρ h.1,fJ hn hρ h.2⟩
end
theorem YU {σ σ':St} {ρ:Nat->Nat} {n:Nat} (hn:n<=σ'.nx) (hρ:∀ k,k<n->ρ k=k):∀ {els:List (List D)},(∀ e ∈ els,D.vW n e)->vwE σ σ' ρ els els
 | [],_=>.nil
 | e :: r,h=>.cons rfl (fJ hn hρ (h e (by simp))) (YU hn hρ λx hx=>h x (γ _ hx))
namespace Te
def oo (nx R T:Nat) (φ:Nat × Nat->Bool):List (Nat × Ob):=(nx,⟨1,(List.range R).map λi=>[.osl (nx+1+i) 1 T]⟩) :: (List.range R).map λi=>(nx+1+i,⟨1,rbR ((List.range T).map λt=>φ (i,t))⟩)
theorem pS : ∀ {a b:List (Nat × Ob)} {k:Nat},St.look (a++b) k=(St.look a k).or (St.look b k)
 | [],_,_=>rfl
 | (j,o) :: r,b,k=>by
  rw [χ,xX,xX]
  by_cases e:j=k
  ·rw [if_pos e,if_pos e]; rfl
  ·rw [if_neg e,if_neg e,pS]
theorem cM {c:Nat} {f:Nat->Ob} {k:Nat}:∀ {l:List Nat},(k ∈ l->St.look (l.map λi=>(c+i,f i)) (c+k)= some (f k))/\ (k ∉ l->St.look (l.map λi=>(c+i,f i)) (c+k)= none)
 | []=>⟨λh=>(by cases h),λ_=>rfl⟩
 | j :: l=>by
  have ih:=cM (c:=c) (f:=f) (k:=k) (l:=l);rw [κ,xX]
  by_cases e:j=k
  ·subst e; rw [if_pos rfl]; exact⟨λ_=>rfl,λh=>absurd (by simp) h⟩
  ·rw [if_neg (by omega)];refine⟨λh=>ih.1 ?_,λh=>ih.2 λh2=>h (γ _ h2)⟩
   rcases δ.1 h with h | h
   ·exact absurd h.symm e
   ·exact h
theorem nU {c:Nat} {f:Nat->Ob} {k:Nat} (h:k<c):∀ {l:List Nat},St.look (l.map λi=>(c+i,f i)) k=none
 | []=>rfl
 | j :: l=>by rw [κ,xX,if_neg (by omega)]; exact nU h
theorem UN {nx R T k:Nat} {φ:Nat × Nat->Bool} (h:k<nx):St.look (oo nx R T φ) k=none:=by unfold oo;rw [xX,if_neg (by omega)];exact nU (by omega)
theorem UO {nx R T i:Nat} {φ:Nat × Nat->Bool} (h:i<R):St.look (oo nx R T φ) (nx+1+i)= some ⟨1,rbR ((List.range T).map λt=>φ (i,t))⟩:=by unfold oo;rw [xX,if_neg (by omega)];exact(cM (f:=λi=>⟨1,rbR ((List.range T).map λt=>φ (i,t))⟩)).1 (ε.2 h)
theorem UP {nx R T:Nat} {φ:Nat × Nat->Bool}:St.look (oo nx R T φ) nx=some ⟨1,(List.range R).map λi=>[.osl (nx+1+i) 1 T]⟩:=by unfold oo; rw [xX,if_pos rfl]
theorem TI.start {nx R T:Nat} {φ:Nat × Nat->Bool} {xZ:List (Nat × Ob)}:TI R T nx R (λi=>nx+1+i) (λi t=>φ (i,t)) (nx+1+R) xZ (oo nx R T φ++xZ):=by refine⟨by omega,λk hk=>by rw [pS,UN hk]; rfl,?_,λi hi=>⟨by omega,by omega,by rw [pS,UO hi]; rfl⟩,λi j _ _ e=>by omega⟩;rw [pS,UP];show some _=_;congr 2;exact μ λi hi=>by unfold XS; rw [if_pos (ε.1 hi)]
end Te
theorem xY.alike {P:Program} {g:FuncId} {args:List D} {σ:St} {d:D} {nx:Nat} {xZ objs':List (Nat × Ob)} (hl:∀ k,St.look xZ k=St.look objs' k) (h:xY P g args σ d ⟨nx,objs'⟩):xY P g args σ d ⟨nx,xZ⟩:=by
 refine⟨h.ord,λM0 w ι vals hS hl' hv=>(h.run M0 w ι vals hS hl' hv).mono λe w' hh=>?_⟩;obtain⟨v,ι',h1,h2,h3,h4,h5,h6,h7⟩:=hh;have hg:∀ k,St.get ⟨nx,xZ⟩ k=St.get ⟨nx,objs'⟩ k:=λk=>hl k
 have hM:Mof M0 ι' ⟨nx,xZ⟩= Mof M0 ι' ⟨nx,objs'⟩:=by funext b;unfold Mof;simp only [hg]
 refine⟨v,ι',h1,h2,⟨h3.old,λk o hk=>?_,λk k' o o' a b=>?_,λk o hk=>?_,?_⟩,h4,h5,λk o hk=>h6 k o (by rw [<- hg]; exact hk),by rw [hM]; exact h7⟩
 ·rw [hM]; exact h3.holds k o (by rw [<- hg]; exact hk)
 ·exact h3.inj k k' o o' (by rw [<- hg]; exact a) (by rw [<- hg]; exact b)
 ·exact h3.notM k o (by rw [<- hg]; exact hk)
 ·rw [hM]; exact h3.jK
theorem QT {P:Program} {g:FuncId} {args:List D} {nx nx2 R T:Nat} {xZ objs2:List (Nat × Ob)} {kr:Nat->Nat} {φ:Nat × Nat->Bool} (hR:1<=R) (ho:uV P g) (hT:TI R T nx R kr (λi t=>φ (i,t)) nx2 xZ objs2)
  (h:xY P g args ⟨nx,xZ⟩ (.osl nx 1 R) ⟨nx2,objs2⟩):xY P g args ⟨nx,xZ⟩ (.sl 1 (zI R T φ)) ⟨nx,xZ⟩:=by
 refine xY.wR ho λhu=>xY.clean ?_;have n1:=hT.n1
 have h1:xY P g args ⟨nx,xZ⟩ (.osl nx 1 R) ⟨nx2,(nx,⟨1,zI R T φ⟩) :: cln xZ⟩:=by
  refine xY.ret h (.inr ⟨λk=>k,by show nx<=nx2; omega,λ_ _=>rfl,?_,?_,λp _ q _ e=>e⟩)
  ·simp only [vw]; exact⟨by omega,trivial⟩
  ·intro p hp
   rcases δ.1 hp with rfl | hp
   ·refine⟨by show nx<nx2; omega,_,hT.lo,rfl,?_⟩;refine sG λi hi=>⟨by unfold XS; split <;> rfl,?_⟩;have hi':=ε.1 hi;obtain⟨b1,b2,b3⟩:=hT.lr i hi';unfold XS;rw [if_pos hi'];simp only [vwL,vw,and_true]
    refine⟨trivial,by decide,λq hq=>?_,_,b3,rfl,by simp [rbR],?_,?_⟩
    ·rcases δ.1 hq with rfl | hq
     ·show nx≠kr i; omega
     ·have:=(hu q.1 q.2 (qX hq)).1;simp only at this;omega
    ·rw [ν (by simp [rbR])]
    ·intro e he;simp only [rbR,η] at he;obtain⟨b,_,rfl⟩:=he;rfl
   ·have hl:=qX hp;obtain⟨u1,u2⟩:=hu p.1 p.2 hl;simp only at u1 u2;refine⟨by show p.1<nx2; omega,p.2,?_,rfl,kX λe he=>uT (by show nx<=nx2; omega) (u2 e he)⟩;show St.look objs2 p.1=_;rw [hT.old p.1 u1]; exact hl
 refine xY.ret h1 (.gone hu (λk o hk=>?_) ?_)
 ·have:=(hu k o hk).1;simp only at this;show St.look (_ :: _) k=_;rw [xX,if_neg (by omega),kM]; exact hk
 ·simp only [vw]
  refine⟨trivial,by decide,λq hq=>?_,_,by rw [Ye,xX,if_pos rfl],rfl,by simp [zI],(tO (show R=(zI R T φ).length by simp [zI])).symm,?_⟩
  ·have:=(hu q.1 q.2 (qX hq)).1;simp only at this;omega
  ·intro e he;simp only [zI,η] at he;obtain⟨b,_,rfl⟩:=he;rfl
theorem lh {nx kc:Nat} {xZ:List (Nat × Ob)} {rs:List xG} {A F T:Nat} {same:D} {g:FuncId} {caps:List D} {φ:Nat × Nat->Bool} (ok:OkR rs A F T)
  (hc:St.look xZ kc=some ⟨6,[[.int .i64 (A:Int),.int .i64 (F:Int),.int .i64 (T:Int),.sl 2 (zL rs),.sl 2 (ptR (ptN T (rs.length*T))),same]]⟩)
  (hcl:∀ nx1 objs1 i t,nx<=nx1->(∀ k,k<nx->St.look objs1 k=St.look xZ k)->i<rs.length->t<T->xY prog g ([.agg [.int .i64 (i:Int),.int .i64 (t:Int)]]++caps) ⟨nx1,objs1⟩ (.bool (φ (i,t))) ⟨nx1,objs1⟩) :
  xY prog 153 [.ref kc 6 0 0,.fn g caps] ⟨nx,xZ⟩ (.osl nx 1 rs.length) ⟨nx+1+rs.length,oo nx rs.length T φ++xZ⟩:=by
 obtain⟨T1,T16⟩:=ok.hT;obtain⟨R1,R64⟩:=ok.hR;refine xY.wR ⟨_,func153,by kernel_rfl,by kernel_rfl⟩ λhu=>xY.alike (objs':=oo nx rs.length T φ++cln xZ) (λk=>by rw [pS,pS,kM]) ?_;have hkc:=(hu kc _ hc).1;simp only at hkc;refine xY.xP mixed func153 LD (by simp) λhf=>?_;have x1:¬ nx=kc:=by omega
 simp only [simprocAttr,-ZA,↓zU,↓zD,zV,zT,zW,hc,x1,xJ]
 (repeat refine sd ?_)
 refine xT (λa:Nat × Nat × List (Nat × Ob)=>[(18,.int .i64 a.1),(17,.int .i64 rs.length),(5,.osl nx 1 rs.length),(1,.fn g caps),(0,.ref kc 6 0 0)]) (λa=>⟨a.2.1,a.2.2⟩)
  (λa=>a.1<=rs.length/\a.2.1<=nx+1+a.1/\∃ kr,TI rs.length T nx a.1 kr (λ_ _=>false) a.2.1 xZ a.2.2) (λa=>rs.length-a.1) (0,nx+1,(nx,⟨1,List.replicate rs.length [.xK]⟩) :: xZ) ⟨Ak _,by simp,λ_=>0,?_⟩ ?_ ?_
 ·refine⟨by simp only; omega,λk hk=>by simp only; rw [xX,if_neg (by omega)],?_,λi h=>absurd h (Ao _),λi j h=>absurd h (Ao _)⟩;rw [o8]; simp only; rw [xX,if_pos rfl]
 ·(refine xN.same ?_; simp [xQ,Fr.get])
 intro ⟨r,nx1,objs1⟩ ⟨hr,hn1,kr,hT⟩;simp only at hr hn1 hT ⊢;refine xO mixed ?_
 by_cases hrl:r<rs.length
 ·have hd:((r:Int)<(rs.length:Int)):=by omega
  have n1:=hT.n1;have hc1:St.look objs1 kc=_:=(hT.old kc hkc).trans hc;have lo:=hT.lo;have y1:¬ nx1=kc:=by omega
  have y2:¬ nx1=nx:=by omega
  simp only [simprocAttr,-ZA,↓zU,↓zD,zV,zT,zW,hd,hc1,lo,y1,y2,qO]
  (repeat refine sd ?_)
  have hset:(qD rs.length T kr r).set r (((qD rs.length T kr r).getD r []).set 0 (D.osl nx1 1 T))= qD rs.length T (λi=>if i=r then nx1 else kr i) (r+1):=by rw [Z8 hrl]; exact Z9
  rw [hset];refine⟨(r+1,?zna,?zoa),?ze1,?ze2,by show rs.length-(r+1)<rs.length-r; omega⟩
  case ze2=>
   (refine xN.same ?_; simp only [xQ,Fr.get,simprocAttr,-ZA,zS])
   exact wrap_i64 (by omega)
  case ze1=>
   refine⟨by show r+1<=rs.length; omega,by show nx1+1<=nx+1+(r+1); omega,_,hT.row (n:=nx1) ⟨Aj _,Am _⟩ (λk hk hk2=>?_) ?_ ?_⟩
   ·show St.look (_ :: _) _=_;rw [xX,if_neg (by omega),xW,if_neg (by omega)]
   ·show St.look (_ :: _) _=_;rw [xX,if_neg (by omega),xW,if_pos rfl,lo]; rfl
   ·show St.look (_ :: _) _=_;rw [xX,if_pos rfl];congr 2;exact(τ (by simp [rbR]) λk h1 h2=>by simp [rbR])
 have hd:¬ ((r:Int)<(rs.length:Int)):=by omega
 obtain rfl:rs.length=r:=by omega
 have n1:=hT.n1;have hc1:St.look objs1 kc=_:=(hT.old kc hkc).trans hc;have hin:Inb rs T (ptN T (rs.length*T)):=lD T1 (Aj _);have hln:=vR T (rs.length*T);have hlg:∀ w,w<rs.length*T->(ptN T (rs.length*T)).getD w (0,0)= (w / T,w % T):=λw h=>yj T h;have hRT:=ok.hP;generalize ptN T (rs.length*T)= l at hc hc1 hin hln hlg;simp only [simprocAttr,-ZA,↓zU,↓zD,zV,zT,zW,hd,hc1,yR]
 refine zZ (λa:Nat × Nat × List (Nat × Ob)=>[(36,.int .i64 a.1),(35,.int .i64 l.length),(34,.sl 2 (ptR l)),(5,.osl nx 1 rs.length),(1,.fn g caps)]) (λa=>⟨a.2.1,a.2.2⟩)
  (λa=>a.1<=l.length/\a.2.1<=nx1+a.1/\nx1<=a.2.1/\∃ kr,TI rs.length T nx rs.length kr (λi t=>decide (i*T+t<a.1)&& φ (i,t)) a.2.1 xZ a.2.2) (λa=>l.length-a.1) (0,nx1,objs1) ⟨Ak _,by simp,Aj _,kr,?_⟩ ?_ ?_
 ·have:(λi t=>decide (i*T+t<0)&& φ (i,t))= λ_ _=>false:=by funext i t; simp
  rw [this]; exact hT
 ·(refine xN.same ?_; simp [xQ,Fr.get])
 clear hT hc1 n1;intro ⟨w,nx2,objs2⟩ ⟨hw,hn2,hn3,kr,hT⟩;simp only at hw hn2 hn3 hT ⊢;have n1:=hT.n1;refine xO mixed ?_
 by_cases hwl:w<l.length
 ·have hd3:((w:Int)<(l.length:Int)):=by omega
  have hp:=hin _ (xR (d:=(0,0)) hwl);have hpg:=uL l hwl;have hpe:=hlg w (by omega);have hwe:(w / T)* T+w % T=w:=by rw [Al]; exact Nat.div_add_mod w T
  rw [hpe] at hp hpg;generalize w / T=i at hp hpg hwe;generalize w % T=t at hp hpg hwe;simp only at hp hpg;obtain⟨hp1,hp2⟩:=hp;obtain⟨a1,a2,a3⟩:=hT.lr i hp1;have lo:=hT.lo;have hrow:=eO (T:=T) (kr:=kr) hp1 hp1;have hk1:=hcl (nx2+1) ((nx2,⟨2,[[.int .i64 i,.int .i64 t]]⟩) :: objs2) i t (by omega) (λk hk=>by rw [xX,if_neg (by omega),hT.old k hk]) hp1 hp2;simp only [χ,List.nil_append] at hk1;have y1:¬ nx2=nx:=by omega
  have y2:¬ nx2=kr i:=by omega
  have hrl:∀ v:List Bool,(rbR v).length=v.length:=λv=>by simp [rbR]
  simp only [simprocAttr,-ZA,↓zU,↓zD,zV,zT,zW,hd3,yR,hpg,lo,a3,hrow,qO,hrl,ο,ξ,y1,y2]
  (repeat refine sd ?_)
  refine .go hk1 ?_;simp only [simprocAttr,-ZA,↓zU,↓zD,zV,zT,zW,a3,y1,y2,hrl,ο,ξ]
  (repeat refine sd ?_)
  have hset:(rbR (List.map (λt=>decide (i*T+t<w)&& φ (i,t)) (List.range T))).set t (((rbR (List.map (λt=>decide (i*T+t<w)&& φ (i,t)) (List.range T))).getD t []).set 0 (D.bool (φ (i,t))))= rbR (List.map (λt=>decide (i*T+t<w+1)&& φ (i,t)) (List.range T)):=by
   have hg:(rbR (List.map (λt=>decide (i*T+t<w)&& φ (i,t)) (List.range T))).getD t [] = [.bool (decide (i*T+t<w)&& φ (i,t))]:=by simp [rbR,List.getD,hp2]
   rw [hg];refine τ (by simp [rbR]) λk h1 h2=>?_;rw [Ai]
   by_cases e:t=k
   ·subst e;rw [if_pos rfl];simp [rbR,hwe]
   ·rw [if_neg e]
    have:decide (i*T+k<w)= decide (i*T+k<w+1):=by rw [Au,decide_eq_true_iff,decide_eq_true_iff]; omega
    simp only [rbR,Ab,Ag,this]
  rw [hset];refine⟨(w+1,?znb,?zob),?zg1,?zg2,by show l.length-(w+1)<l.length-w; omega⟩
  case zg2=>
   (refine xN.same ?_; simp only [xQ,Fr.get,simprocAttr,-ZA,zS])
   exact wrap_i64 (by omega)
  case zg1=>
   refine⟨by show w+1<=l.length; omega,by show nx2+1<=nx1+(w+1); omega,by show nx1<=nx2+1; omega,kr,hT.upd (Ar _) hp1 (λj u hj hu hne=>?_) (λk hk hk2=>?_) ?_⟩
   ·have hne':j*T+u≠w:=λe=>hne (by
     have h1:(j*T+u)/ T=j:=by rw [Al,Ap (by omega),An hu]; rfl
     have h2:(i*T+t)/ T=i:=by rw [Al,Ap (by omega),An hp2]; rfl
     rw [e] at h1;rw [hwe] at h2;omega)
    have:decide (j*T+u<w)= decide (j*T+u<w+1):=by rw [Au,decide_eq_true_iff,decide_eq_true_iff]; omega
    simp only [this]
   ·show St.look (_ :: _) _=_;rw [xX,if_neg (by omega),xW,if_neg (λe=>hk2 e.symm)]
   ·show St.look (_ :: _) _=_;rw [xX,if_neg (by omega),xW,if_pos rfl,a3]; rfl
 have hd3:¬ ((w:Int)<(l.length:Int)):=by omega
 have hv:∀ i t,i<rs.length->t<T->(decide (i*T+t<w)&& φ (i,t))= φ (i,t):=λi t hi ht=>by have:=Aq T (show i+1<=rs.length from hi);rw [Nat.succ_mul] at this;rw [decide_eq_true (by omega)]; rfl
 simp only [simprocAttr,-ZA,↓zU,↓zD,zV,zT,zW,hd3];refine .zA ?_;simp only [simprocAttr,-ZA,↓zU,↓zD,zV,zT,zW];have hlow:∀ k,k<nx->(if nx+1<=k/\k<nx+1+rs.length then kr (k-(nx+1)) else k)= k:=λk hk=>if_neg (by omega)
 refine .inr ⟨λk=>if nx+1<=k/\k<nx+1+rs.length then kr (k-(nx+1)) else k,by show nx<=nx+1+rs.length; omega,hlow,?_,?_,?_⟩
 ·simp only [vw];exact⟨by omega,by rw [if_neg (by omega)]⟩
 ·intro p hp
  rcases θ.1 hp with hp | hp
  ·unfold oo at hp
   rcases δ.1 hp with rfl | hp
   ·refine⟨by show nx<nx+1+rs.length; omega,⟨1,qD rs.length T kr rs.length⟩,?_,rfl,sG λi hi=>⟨?_,?_⟩⟩
    ·show St.look objs2 (if _ then _ else _)= _;rw [if_neg (by simp only; omega)]; exact hT.lo
    ·unfold XS; split <;> rfl
    ·have hi':=ε.1 hi;unfold XS;rw [if_pos hi'];simp only [vwL,vw,and_true];refine⟨by omega,?_⟩;rw [if_pos (by omega),show nx+1+i-(nx+1)= i by omega]
   ·simp only [η,ε] at hp;obtain⟨i,hi,rfl⟩:=hp;obtain⟨b1,b2,b3⟩:=hT.lr i hi
    refine⟨by show nx+1+i<nx+1+rs.length; omega,_,?_,rfl,.same ?_⟩
    ·show St.look objs2 (if _ then _ else _)= _;rw [if_pos (by simp only; omega),show nx+1+i-(nx+1)= i by omega,b3];congr 3;exact μ λt ht=>hv i t hi (ε.1 ht)
    ·intro e he;simp only [rbR,η] at he;obtain⟨b,_,rfl⟩:=he;rfl
  ·have hl:=qX hp;obtain⟨u1,u2⟩:=hu p.1 p.2 hl;simp only at u1 u2
   refine⟨by show p.1<nx+1+rs.length; omega,p.2,?_,rfl,?_⟩
   ·show St.look objs2 (if _ then _ else _)= _;rw [hlow p.1 u1,hT.old p.1 u1]; exact hl
   ·have hself:∀ els:List (List D),(∀ e ∈ els,D.vW nx e)->vwE ⟨nx2,objs2⟩ ⟨nx+1+rs.length,oo nx rs.length T φ++cln xZ⟩ (λk=>if nx+1<=k/\k<nx+1+rs.length then kr (k-(nx+1)) else k) els els:=λels he=>YU (n:=nx) (by show nx<=nx+1+rs.length; omega) hlow he;exact hself _ u2
 ·intro p hp q hq e
  have hin:∀ p ∈ oo nx rs.length T φ++cln xZ,p.1<nx+1+rs.length:=λp hp=>by
   rcases θ.1 hp with hp | hp
   ·unfold oo at hp
    rcases δ.1 hp with rfl | hp
    ·show nx<_; omega
    ·simp only [η,ε] at hp;obtain⟨i,hi,rfl⟩:=hp;show nx+1+i<_; omega
   ·have:=(hu p.1 p.2 (qX hp)).1;simp only at this;omega
  have h1:=hin p hp;have h2:=hin q hq;simp only at e
  split at e <;> split at e
  ·have:=hT.dr _ _ (by omega) (by omega) e;omega
  ·have:=(hT.lr (p.1-(nx+1)) (by omega)).1;omega
  ·have:=(hT.lr (q.1-(nx+1)) (by omega)).1;omega
  ·exact e
theorem lB {nx kc:Nat} {xZ:List (Nat × Ob)} {rs:List xG} {A F T:Nat} {same:D} {g:FuncId} {caps:List D} {φ:Nat × Nat->Bool} (ok:OkR rs A F T)
  (hc:St.look xZ kc=some ⟨6,[[.int .i64 (A:Int),.int .i64 (F:Int),.int .i64 (T:Int),.sl 2 (zL rs),.sl 2 (ptR (ptN T (rs.length*T))),same]]⟩)
  (hcl:∀ nx1 objs1 i t,nx<=nx1->(∀ k,k<nx->St.look objs1 k=St.look xZ k)->i<rs.length->t<T->xY prog g ([.agg [.int .i64 (i:Int),.int .i64 (t:Int)]]++caps) ⟨nx1,objs1⟩ (.bool (φ (i,t))) ⟨nx1,objs1⟩) :
  xY prog 153 [.ref kc 6 0 0,.fn g caps] ⟨nx,xZ⟩ (.sl 1 (zI rs.length T φ)) ⟨nx,xZ⟩:=
 QT (ok.hR.1) ⟨_,func153,by kernel_rfl,by kernel_rfl⟩ (TI.start (xZ:=xZ)) (lh ok hc hcl)
end
section
open Rs Fm Ru Te
theorem RY {nx:Nat} {xZ:List (Nat × Ob)} {i t:Nat}:xY prog 206 [.agg [.int .i64 (i:Int),.int .i64 (t:Int)]] ⟨nx,xZ⟩ (.bool true) ⟨nx,xZ⟩:=by refine xY.wR ⟨_,func206,by kernel_rfl,by kernel_rfl⟩ λhu=>xY.clean ?_;refine xY.xP mixed func206 Lq (by simp) λhf=>?_;simp only [simprocAttr,-ZA,↓zU,↓zD,zV,zT,zW];refine .gone hu (λk o hk=>?_) (by simp only [vw]);have:=(hu k o hk).1;simp only at this;show St.look (_ :: _) k=_;rw [xX,if_neg (by omega)]; exact hk
theorem RX {nx:Nat} {xZ:List (Nat × Ob)} {i t:Nat}:xY prog 208 [.agg [.int .i64 (i:Int),.int .i64 (t:Int)]] ⟨nx,xZ⟩ (.bool true) ⟨nx,xZ⟩:=by refine xY.wR ⟨_,func208,by kernel_rfl,by kernel_rfl⟩ λhu=>xY.clean ?_;refine xY.xP mixed func208 Ls (by simp) λhf=>?_;simp only [simprocAttr,-ZA,↓zU,↓zD,zV,zT,zW];refine .gone hu (λk o hk=>?_) (by simp only [vw]);have:=(hu k o hk).1;simp only at this;show St.look (_ :: _) k=_;rw [xX,if_neg (by omega)]; exact hk
theorem TW {nx:Nat} {xZ:List (Nat × Ob)} {i t:Nat}:xY prog 211 [.agg [.int .i64 (i:Int),.int .i64 (t:Int)]] ⟨nx,xZ⟩ (.bool false) ⟨nx,xZ⟩:=by refine xY.wR ⟨_,func211,by kernel_rfl,by kernel_rfl⟩ λhu=>xY.clean ?_;refine xY.xP mixed func211 Lv (by simp) λhf=>?_;simp only [simprocAttr,-ZA,↓zU,↓zD,zV,zT,zW];refine .gone hu (λk o hk=>?_) (by simp only [vw]);have:=(hu k o hk).1;simp only at this;show St.look (_ :: _) k=_;rw [xX,if_neg (by omega)]; exact hk
end
section
open Rs Fm Ru Te
namespace Te
theorem zY (R T:Nat) (φ:Nat × Nat->Bool):(zI R T φ).length=R:=by simp [zI]
theorem wL {R T:Nat} {φ:Nat × Nat->Bool} {i:Nat} (h:i<R):(zI R T φ).getD i [] = [.sl 1 (rbR ((List.range T).map λt=>φ (i,t)))]:=by simp [zI,List.getD,h]
theorem vB {T i t:Nat} {φ:Nat × Nat->Bool} (h:t<T):(rbR ((List.range T).map λt=>φ (i,t))).getD t [] = [.bool (φ (i,t))]:=by simp [rbR,List.getD,h]
theorem wW (l:List Bool):(rbR l).length=l.length:=by simp [rbR]
end Te
theorem P8 {nx kx:Nat} {xZ:List (Nat × Ob)} {R T:Nat} {φ:Nat × Nat->Bool} (hR:R<=1000) (hT:T<=1000) (hx:St.look xZ kx=some ⟨1,[[.sl 1 (zI R T φ)]]⟩) {i t:Nat} (hi:i<R) (ht:t<T) :
  xY prog 154 ([.agg [.int .i64 (i:Int),.int .i64 (t:Int)]] ++ [.ref kx 1 0 0]) ⟨nx,xZ⟩ (.bool (!φ (i,t))) ⟨nx,xZ⟩:=by
 refine xY.wR ⟨_,func154,by kernel_rfl,by kernel_rfl⟩ λhu=>xY.clean ?_;have hk:=(hu kx _ hx).1;simp only at hk;have y1:¬ nx=kx:=by omega
 have g1:=wL (T:=T) (φ:=φ) hi;have g2:=vB (i:=i) (φ:=φ) ht;refine xY.xP mixed func154 LF (by simp) λhf=>?_;simp only [simprocAttr,-ZA,↓zU,↓zD,zV,zT,zW,hx,y1,zY,g1,wW,ο,ξ,g2]
 (repeat refine sd ?_)
 refine .gone hu (λk o hk=>?_) (by simp only [vw]);have:=(hu k o hk).1;simp only at this;show St.look (_ :: _) k=_;rw [xX,if_neg (by omega)]; exact hk
end
section
open Rs Fm Ru Te
namespace Te
def shP (T:Nat) (s:Int) (φ:Nat × Nat->Bool) (p:Nat × Nat):Bool:=decide (0<=(p.2:Int)+ s)&& (decide ((p.2:Int)+ s<T)&& φ (p.1,((p.2:Int)+ s).toNat))
end Te
theorem Uq {nx k5 k3 k4 kc:Nat} {xZ:List (Nat × Ob)} {rs:List xG} {A F T:Nat} {l:List (Nat × Nat)} {same:D} {φ:Nat × Nat->Bool} {s:Int} (ok:OkR rs A F T) (hs:-1<=s/\s<=1)
  (h5:St.look xZ k5=some ⟨1,[[.int .i64 s]]⟩) (h3:St.look xZ k3=some ⟨1,[[.ref kc 6 0 0]]⟩) (h4:St.look xZ k4=some ⟨1,[[.sl 1 (zI rs.length T φ)]]⟩)
  (hc:St.look xZ kc=some ⟨6,[[.int .i64 (A:Int),.int .i64 (F:Int),.int .i64 (T:Int),.sl 2 (zL rs),.sl 2 (ptR l),same]]⟩) {i t:Nat} (hi:i<rs.length) (ht:t<T) :
  xY prog 210 ([.agg [.int .i64 (i:Int),.int .i64 (t:Int)]] ++ [.ref k5 1 0 0,.ref k3 1 0 0,.ref k4 1 0 0]) ⟨nx,xZ⟩ (.bool (shP T s φ (i,t))) ⟨nx,xZ⟩:=by
 obtain⟨T1,T16⟩:=ok.hT;refine xY.wR ⟨_,func210,by kernel_rfl,by kernel_rfl⟩ λhu=>xY.clean ?_;have y5:¬ nx=k5:=by have:=(hu k5 _ h5).1; simp only at this; omega
 have y3:¬ nx=k3:=by have:=(hu k3 _ h3).1; simp only at this; omega
 have y4:¬ nx=k4:=by have:=(hu k4 _ h4).1; simp only at this; omega
 have yc:¬ nx=kc:=by have:=(hu kc _ hc).1; simp only at this; omega
 have hkeep:∀ (ob:Ob) k o,St.look xZ k=some o->St.get ⟨nx+1,(nx,ob) :: xZ⟩ k=some o:=λob k o hk=>by have:=(hu k o hk).1;simp only at this;show St.look (_ :: _) k=_;rw [xX,if_neg (by omega)]; exact hk
 have hw:IntKind.i64.wrap ((t:Int)+ s)= (t:Int)+ s:=wrap_i64 (by omega);have g1:=wL (T:=T) (φ:=φ) hi;unfold shP;simp only;refine xY.xP mixed func210 Lu (by simp) λhf=>?_;by_cases e1:0<=(t:Int)+ s
 case neg=> simp only [simprocAttr,-ZA,↓zU,↓zD,zV,zT,zW,h5,y5,hw,e1];exact .gone hu (hkeep _) (by simp [vw])
 by_cases e2:(t:Int)+ s<(T:Int)
 case neg=> simp only [simprocAttr,-ZA,↓zU,↓zD,zV,zT,zW,h5,h3,hc,y5,y3,yc,hw,e1,e2];exact .gone hu (hkeep _) (by simp [vw])
 obtain⟨u,hu2⟩:=Int.eq_ofNat_of_zero_le e1;rw [hu2] at hw e1 e2 ⊢;have g2:=vB (i:=i) (φ:=φ) (show u<T by omega);simp only [simprocAttr,-ZA,↓zU,↓zD,zV,zT,zW,h5,h3,h4,hc,y5,y3,y4,yc,hw,hu2,e1,e2,zY,g1,wW,ο,ξ,g2]
 (repeat refine sd ?_)
 exact .gone hu (hkeep _) (by simp only [vw])
end
section
open Rs Fm Ru Te
theorem YK {nx kc:Nat} {xZ:List (Nat × Ob)} {rs:List xG} {A F T:Nat} {same:D} {φ:Nat × Nat->Bool} {s:Int} (ok:OkR rs A F T) (hs:-1<=s/\s<=1)
  (hc:St.look xZ kc=some ⟨6,[[.int .i64 (A:Int),.int .i64 (F:Int),.int .i64 (T:Int),.sl 2 (zL rs),.sl 2 (ptR (ptN T (rs.length*T))),same]]⟩) :
  xY prog 163 [.ref kc 6 0 0,.sl 1 (zI rs.length T φ),.int .i64 s] ⟨nx,xZ⟩ (.sl 1 (zI rs.length T (shP T s φ))) ⟨nx,xZ⟩:=by
 refine xY.wR ⟨_,func163,by kernel_rfl,by kernel_rfl⟩ λhu=>xY.clean ?_;have hkc:=(hu kc _ hc).1;simp only at hkc
 have hkeep:∀ (a b c:Ob) k o,St.look xZ k=some o->St.look ((nx+1+1,a) :: (nx+1,b) :: (nx,c) :: xZ) k=some o:=λa b c k o hk=>by have:=(hu k o hk).1;simp only at this;rw [xX,if_neg (by omega),xX,if_neg (by omega),xX,if_neg (by omega)]; exact hk
 have hfill:=lB (nx:=nx+1+1+1) (kc:=kc) (xZ:=(nx+1+1,⟨1,[[.int .i64 s]]⟩) :: (nx+1,⟨1,[[.sl 1 (zI rs.length T φ)]]⟩) :: (nx,⟨1,[[.ref kc 6 0 0]]⟩) :: xZ) (g:=210) (caps:=[.ref (nx+1+1) 1 0 0,.ref nx 1 0 0,.ref (nx+1) 1 0 0]) (φ:=shP T s φ) ok (hkeep _ _ _ _ _ hc) (λnx1 objs1 i t h1 h2 hi ht=> Uq ok hs (by rw [h2 _ (by omega),xX,if_pos rfl]) (by rw [h2 _ (by omega),xX,if_neg (by omega),xX,if_neg (by omega),xX,if_pos rfl]) (by rw [h2 _ (by omega),xX,if_neg (by omega),xX,if_pos rfl]) (by rw [h2 _ (by omega)]; exact hkeep _ _ _ _ _ hc) hi ht)
 refine xY.xP mixed func163 LP (by simp) λhf=>?_;have y1:¬ nx+1=nx:=by omega
 have y2:¬ nx+1+1=nx:=by omega
 simp only [simprocAttr,-ZA,↓zU,↓zD,zV,zT,zW,y1,y2]
 (repeat refine sd ?_)
 refine .go hfill ?_;simp only [simprocAttr,-ZA,↓zU,↓zD,zV,zT,zW];exact .gone hu (hkeep _ _ _) (by simp only [vw]; exact⟨trivial,trivial⟩)
end
section
open Rs Fm Ru
namespace Te
abbrev Tab :=Nat × Nat->Bool
section
variable (rs : List xG) (A T : Nat)
def ptl : List (Nat × Nat):=ptN T (rs.length*T)
def vS (a:Nat) (x:Tab) (p:Nat × Nat):Bool:=(ptl rs T).all λq=>!decide (yJ rs a q=yJ rs a p) || x q
def uS (g:Nat) (x:Tab) (p:Nat × Nat):Bool:=(List.range A).all λa=>!g.testBit a || vS rs T a x p
def XK (g:Nat) (p q:Nat × Nat):Bool:=(List.range A).all λa=>!g.testBit a || decide (yJ rs a p=yJ rs a q)
def bP (g:Nat) (x:Tab) (p:Nat × Nat):Bool:=(ptl rs T).all λq=>!XK rs A g p q || x q
def S4 (g:Nat) (x y now:Tab):Tab:=uS rs A T g λq=>!x q || (y q&&now q)
def tY (g:Nat) (x y:Tab):Nat->Tab
 | 0=>λ_=>true
 | n+1=>S4 rs A T g x y (tY g x y n)
def sC (g:Nat) (x y:Tab):Tab:=tY rs A T g x y (rs.length*T)
end
def tmU (T:Nat) (s:Int) (k:Nat):Nat:=if 0<s then T-1-k else k
def XH (T:Nat) (s:Int) (x y:Tab) (i:Nat):Nat->Bool
 | 0=>false
 | k+1=>y (i,tmU T s k) || (x (i,tmU T s k)&& XH T s x y i k)
def Vp (T:Nat) (s:Int) (x y:Tab) (p:Nat × Nat):Bool:=XH T s x y p.1 (if 0<s then T-p.2 else p.2+1)
def yz (rs:List xG) (n:Nd) (x y:Tab) (p:Nat × Nat):Bool:=
 if n.op=1 then true else if n.op=3 then(xe rs p).getLsbD n.i.toNat else if n.op=4 then !x p else if n.op=5 then x p&&y p else if n.op=6 then x p || y p
 else if n.op=7 then !x p || y p else if n.op=8 then x p==y p else false
def zH (rs:List xG) (A T:Nat) (n:Nd) (x y:Tab):Tab:=
 if n.op=9 then vS rs T n.i.toNat x else if n.op=10 then λp=>!vS rs T n.i.toNat (λq=>!x q) p else if n.op=11 then uS rs A T n.g.toNat x
 else if n.op=12 then bP rs A T n.g.toNat x else if n.op=13 then sC rs A T n.g.toNat x y else if n.op=18 then shP T 1 x else if n.op=20 then shP T (-1) x
 else if n.op=19 then Vp T 1 x y else if n.op=21 then Vp T (-1) x y else yz rs n x y
def wS (rs:List xG) (A T:Nat) (f:List Nd):Nat->List Tab
 | 0=>[]
 | k+1=>wS rs A T f k ++ [zH rs A T (f.getD k nd0) ((wS rs A T f k).getD (f.getD k nd0).x.toNat λ_=>false) ((wS rs A T f k).getD (f.getD k nd0).y.toNat λ_=>false)]
theorem qP (rs:List xG) (A T:Nat) (f:List Nd):∀ k,(wS rs A T f k).length=k
 | 0=>rfl
 | k+1=>by simp [wS,qP rs A T f k]
section
variable {rs : List xG} {A T : Nat}
theorem eZ {α:Type} {l:List α} {f g:α->Bool} (h:∀ q ∈ l,f q=g q):l.all f=l.all g:=by
 induction l with
 | nil=>rfl
 | cons a r ih=>rw [List.all_cons,List.all_cons,h a (by simp),ih λq hq=>h q (γ _ hq)]
theorem jm {a:Nat} {x y:Tab} {p:Nat × Nat} (h:∀ q ∈ ptl rs T,x q=y q):vS rs T a x p=vS rs T a y p:=eZ λq hq=>by rw [h q hq]
theorem pc {g:Nat} {x y:Tab} {p:Nat × Nat} (h:∀ q ∈ ptl rs T,x q=y q):uS rs A T g x p=uS rs A T g y p:=eZ λa _=>by rw [jm h]
theorem jz {g:Nat} {x y n m:Tab} {p:Nat × Nat} (h:∀ q ∈ ptl rs T,n q=m q):S4 rs A T g x y n p=S4 rs A T g x y m p:=pc λq hq=>by rw [h q hq]
theorem jh {g:Nat} {x y:Tab} {p:Nat × Nat} (h:∀ q ∈ ptl rs T,x q=true->y q=true) (hp:uS rs A T g x p=true):uS rs A T g y p=true:=by
 unfold uS vS at hp ⊢;simp only [Ac,As] at hp ⊢;intro a ha
 rcases hp a ha with h1 | h1
 ·exact .inl h1
 ·refine .inr λq hq=>?_
  rcases h1 q hq with h2 | h2
  ·exact .inl h2
  ·exact .inr (h q hq h2)
theorem qh (g:Nat) (x y:Tab):∀ (n:Nat) (p:Nat × Nat),tY rs A T g x y (n+1) p=true->tY rs A T g x y n p=true
 | 0,_,_=>rfl
 | n+1,p,h=>jh (λq _ hq=>by
   simp only [As,Aw] at hq ⊢
   rcases hq with h1 | ⟨h1,h2⟩
   ·exact .inl h1
   ·exact .inr ⟨h1,qh g x y n q h2⟩) h
theorem qM {g:Nat} {x y:Tab} {n:Nat} (h:∀ p ∈ ptl rs T,tY rs A T g x y (n+1) p=tY rs A T g x y n p):∀ (m:Nat) (p:Nat × Nat),p ∈ ptl rs T->tY rs A T g x y (n+m) p=tY rs A T g x y n p
 | 0,_,_=>rfl
 | m+1,p,hp=>by rw [<- h p hp];exact jz λq hq=>qM h m q hq
theorem countP_le {α:Type} {f g:α->Bool}:∀ {l:List α},(∀ q ∈ l,f q=true->g q=true)->l.countP f<=l.countP g
 | [],_=>by simp
 | a :: r,h=>by
  have ih:=countP_le (l:=r) λq hq=>h q (γ _ hq);rw [υ,υ];have:=h a (by simp)
  by_cases e:f a=true
  ·rw [if_pos e,if_pos (this e)]; omega
  ·rw [if_neg e]; omega
theorem cE {α:Type} {f g:α->Bool}:∀ {l:List α},(∀ q ∈ l,f q=true->g q=true)->(∃ q ∈ l,f q≠g q)->l.countP f<l.countP g
 | [],_,h=>by obtain⟨q,hq,_⟩:=h; cases hq
 | a :: r,h,⟨q,hq,hne⟩=>by
  have h':∀ q ∈ r,f q=true->g q=true:=λq hq=>h q (γ _ hq);have ih:=countP_le h';rw [υ,υ];have ha:=h a (by simp)
  by_cases e2:f a=g a
  ·have hr:∃ q ∈ r,f q≠g q:=by
    rcases δ.1 hq with e | e
    ·subst e; exact absurd e2 hne
    ·exact⟨q,e,hne⟩
   have:=cE h' hr;rw [e2]; omega
  ·have h1:f a=false:=by cases e3:f a with
    | false=>rfl
    | true=>exact absurd (e3.trans (ha e3).symm) e2
   have h2:g a=true:=by cases e3:g a with
    | true=>rfl
    | false=>exact absurd (h1.trans e3.symm) e2
   rw [h1,h2];simp only [Bool.false_eq_true,if_false,if_true];omega
def Vj (rs:List xG) (A T g:Nat) (x y:Tab) (n:Nat):Nat:=(ptl rs T).countP (tY rs A T g x y n)
theorem qg (g:Nat) (x y:Tab):Vj rs A T g x y 0=rs.length*T:=by unfold Vj ptl;rw [show tY rs A T g x y 0=λ_=>true from rfl,List.countP_true,vR]
theorem cY {g:Nat} {x y:Tab} {n:Nat} (h:∃ p ∈ ptl rs T,tY rs A T g x y (n+1) p≠tY rs A T g x y n p):Vj rs A T g x y (n+1)<Vj rs A T g x y n:= cE (λq _ hq=>qh g x y n q hq) h
theorem Xj {g:Nat} {x y:Tab} {n:Nat} (hn:n<=rs.length*T) (h:∀ p ∈ ptl rs T,tY rs A T g x y (n+1) p=tY rs A T g x y n p) {p:Nat × Nat} (hp:p ∈ ptl rs T):tY rs A T g x y n p=sC rs A T g x y p:=by obtain⟨m,hm⟩:=Nat.exists_eq_add_of_le hn;unfold sC;rw [hm,qM h m p hp]
def SB (rs:List xG) (A g:Nat) (p q:Nat × Nat):Bool:=(List.range A).any λa=>g.testBit a&&decide (yJ rs a p=yJ rs a q)
theorem Xt {g:Nat} {x:Tab} {p:Nat × Nat}:uS rs A T g x p=true ↔ ∀ q ∈ ptl rs T,SB rs A g p q=true->x q=true:=by
 unfold uS vS SB;simp only [Ac,List.any_eq_true,As,Aw,Av,decide_eq_true_eq,decide_eq_false_iff_not]
 constructor
 ·rintro h q hq ⟨a,ha,h1,h2⟩
  rcases h a ha with h3 | h3
  ·rw [h1] at h3; cases h3
  ·rcases h3 q hq with h4 | h4
   ·exact absurd h2.symm h4
   ·exact h4
 ·intro h a ha
  cases e:g.testBit a with
  | false=>exact .inl rfl
  | true=>
   refine .inr λq hq=>?_
   by_cases e2:yJ rs a q=yJ rs a p
   ·exact .inr (h q hq ⟨a,ha,e,e2.symm⟩)
   ·exact .inl e2
theorem bh (g:Nat) (x y:Tab):∃ n,n<=rs.length*T/\∀ p ∈ ptl rs T,tY rs A T g x y (n+1) p=tY rs A T g x y n p:=by
 have key:∀ (m n:Nat),Vj rs A T g x y n<=m->n+Vj rs A T g x y n<=rs.length*T->∃ n,n<=rs.length*T/\∀ p ∈ ptl rs T,tY rs A T g x y (n+1) p=tY rs A T g x y n p:=by
  intro m
  induction m with
  | zero=> intro n h1 h2;refine⟨n,by omega,λp hp=>Decidable.byContradiction λh=>?_⟩;have:=cY (rs:=rs) (A:=A) (T:=T) ⟨p,hp,h⟩;omega
  | succ m ih=>
   intro n h1 h2
   by_cases h:∃ p ∈ ptl rs T,tY rs A T g x y (n+1) p≠tY rs A T g x y n p
   ·have:=cY h;exact ih (n+1) (by omega) (by omega)
   ·exact⟨n,by omega,λp hp=>Decidable.byContradiction λh'=>h ⟨p,hp,h'⟩⟩
 exact key _ 0 (Aj _) (by rw [qg]; omega)
end
end Te
end
section
open Rs Fm Ru Te
namespace Te
abbrev Pt :=Nat × Nat
def upG (x:Int) (p:Pt):List (Int × List Pt)->List (Int × List Pt)
 | []=>[(x,[p])]
 | (y,l) :: r=>if x=y then(y,l ++ [p]) :: r else(y,l) :: upG x p r
def Vk (f:Pt->Int):Nat->List Pt->List (Int × List Pt)
 | 0,_=>[]
 | k+1,l=>upG (f (l.getD k (0,0))) (l.getD k (0,0)) (Vk f k l)
structure GOk (f : Pt -> Int) (l : List Pt) (G : List (Int × List Pt)) : Prop where
 nd:(G.map (·.1)).Nodup
 eq:∀ e ∈ G,∀ q,q ∈ e.2 ↔ (q ∈ l/\f q=e.1)
 has:∀ q ∈ l,∃ e ∈ G,e.1=f q
 ln:∀ e ∈ G,e.2.length<=l.length
theorem zj (x:Int) (p:Pt):∀ G,(upG x p G).map (·.1)= if x ∈ G.map (·.1) then G.map (·.1) else G.map (·.1)++ [x]
 | []=>by simp [upG]
 | (y,l) :: r=>by
  unfold upG
  by_cases h:x=y
  ·rw [if_pos h]; subst h; simp
  ·rw [if_neg h,κ,zj x p r];simp only [κ,δ,h,false_or];split <;> simp
theorem nh {x:Int} {p:Pt} {e:Int × List Pt}:∀ {G:List (Int × List Pt)},(G.map (·.1)).Nodup->e ∈ upG x p G->(e ∈ G/\e.1≠x)\/(e.1=x/\((∃ l,(x,l)∈ G/\e.2=l ++ [p])\/(x ∉ G.map (·.1)/\ e.2 = [p])))
 | [],_,h=>by simp only [upG,ζ] at h;subst h;exact .inr ⟨rfl,.inr ⟨by simp,rfl⟩⟩
 | (y,l) :: r,hn,h=>by
  rw [κ,Ad] at hn;unfold upG at h
  by_cases hx:x=y
  ·rw [if_pos hx] at h;subst hx
   rcases δ.1 h with rfl | h
   ·exact .inr ⟨rfl,.inl ⟨l,by simp,rfl⟩⟩
   ·refine .inl ⟨γ _ h,λe1=>hn.1 ?_⟩;rw [η]; exact⟨e,h,e1⟩
  ·rw [if_neg hx] at h
   rcases δ.1 h with rfl | h
   ·exact .inl ⟨by simp,λe=>hx e.symm⟩
   ·rcases nh hn.2 h with ⟨h1,h2⟩ | ⟨h1,h2⟩
    ·exact .inl ⟨γ _ h1,h2⟩
    ·refine .inr ⟨h1,?_⟩
     rcases h2 with ⟨l',h2,h3⟩ | ⟨h2,h3⟩
     ·exact .inl ⟨l',γ _ h2,h3⟩
     ·exact .inr ⟨by simp only [κ,δ,not_or]; exact⟨hx,h2⟩,h3⟩
theorem gg {x:Int} {p:Pt} {y:Int} {G:List (Int × List Pt)} (h:y ∈ G.map (·.1)\/y=x):y ∈ (upG x p G).map (·.1):=by
 rw [zj]
 split
 ·rename_i h1
  rcases h with h | rfl
  ·exact h
  ·exact h1
 ·rcases h with h | rfl
  ·exact List.mem_append_left _ h
  ·simp
theorem GOk.step {f:Pt->Int} {l:List Pt} {G:List (Int × List Pt)} (h:GOk f l G) (p:Pt):GOk f (l ++ [p]) (upG (f p) p G) where
 nd:=by
  rw [zj]
  split
  ·exact h.nd
  ·rename_i hx;rw [List.nodup_append];refine⟨h.nd,by simp,λa ha b hb=>?_⟩;rw [ζ] at hb;subst hb;intro e; subst e; exact hx ha
 eq :=by
  intro e he q
  rcases nh h.nd he with ⟨h1,h2⟩ | ⟨h1,h2⟩
  ·rw [h.eq e h1 q];simp only [θ,ζ]
   constructor
   ·rintro ⟨a,b⟩; exact⟨.inl a,b⟩
   ·rintro ⟨a | rfl,b⟩
    ·exact⟨a,b⟩
    ·exact absurd b.symm h2
  ·rcases h2 with ⟨l',h2,h3⟩ | ⟨h2,h3⟩
   ·rw [h3];have:=h.eq _ h2 q;simp only at this;simp only [θ,ζ,this,h1]
    constructor
    ·rintro (⟨a,b⟩ | rfl)
     ·exact⟨.inl a,b⟩
     ·exact⟨.inr rfl,rfl⟩
    ·rintro ⟨a | rfl,b⟩
     ·exact .inl ⟨a,b⟩
     ·exact .inr rfl
   ·rw [h3];simp only [θ,ζ,h1]
    constructor
    ·rintro rfl; exact⟨.inr rfl,rfl⟩
    ·rintro ⟨a | rfl,b⟩
     ·obtain⟨e',he',e2⟩:=h.has q a;exact absurd (by rw [η]; exact⟨e',he',e2.trans b⟩) h2
     ·rfl
 has:=by
  intro q hq
  have:f q ∈ (upG (f p) p G).map (·.1):=by
   rcases θ.1 hq with hq | hq
   ·obtain⟨e,he,e1⟩:=h.has q hq;exact gg (.inl (by rw [η]; exact⟨e,he,e1⟩))
   ·rw [ζ] at hq; subst hq; exact gg (.inr rfl)
  rw [η] at this;obtain⟨e,he,e1⟩:=this;exact⟨e,he,e1⟩
 ln :=by
  intro e he;rw [Af,ω]
  rcases nh h.nd he with ⟨h1,h2⟩ | ⟨h1,h2⟩
  ·have:=h.ln e h1; omega
  ·rcases h2 with ⟨l',h2,h3⟩ | ⟨h2,h3⟩
   ·have:=h.ln _ h2;simp only at this;rw [h3,Af,ω]; omega
   ·rw [h3,ω]; omega
theorem lW (f:Pt->Int) (l:List Pt):∀ k,k<=l.length->GOk f (l.take k) (Vk f k l)
 | 0,_=>⟨by simp [Vk],by simp [Vk],by simp,by simp [Vk]⟩
 | k+1,h=>by
  have ih:=(lW f l k (by omega)).step (l.getD k (0,0))
  have e:l.take (k+1)= l.take k ++ [l.getD k (0,0)]:=by rw [Ah];congr 1;simp [List.getD,show k<l.length by omega]
  rw [e];exact ih
abbrev EM :=List (Int × Nat × List Pt)
def mE (E:EM):List (Int × D):=E.map λe=>(e.1,.osl e.2.1 2 e.2.2.length)
def gE (E:EM):List (Int × List Pt):=E.map λe=>(e.1,e.2.2)
def mG (G:List (Int × List Pt)):List (Int × D):=G.map λe=>(e.1,.sl 2 (ptR e.2))
def lkE (x:Int):EM->Option (Nat × List Pt)
 | []=>none
 | (y,k,l) :: r=>if x=y then some (k,l) else lkE x r
def upE (x:Int) (n:Nat) (p:Pt):EM->EM
 | []=>[(x,n,[p])]
 | (y,k,l) :: r=>if x=y then(y,n,l ++ [p]) :: r else(y,k,l) :: upE x n p r
theorem Rt (x:Int) (n:Nat) (p:Pt):∀ E,gE (upE x n p E)= upG x p (gE E)
 | []=>rfl
 | (y,k,l) :: r=>by
  show gE (upE x n p ((y,k,l) :: r))= upG x p ((y,l) :: gE r);unfold upE upG
  by_cases h:x=y
  ·rw [if_pos h,if_pos h]; rfl
  ·rw [if_neg h,if_neg h,<- Rt x n p r]; rfl
theorem Y2 (x:Int):∀ E,lH false .xK (wT x (mE E) 0)= match lkE x E with | none=>.xK | some e=>.osl e.1 2 e.2.length
 | []=>rfl
 | (y,k,l) :: r=>by
  show lH false _ (wT x ((y,.osl k 2 l.length) :: mE r) 0)= _;unfold wT lkE
  by_cases h:x=y
  ·rw [if_pos h,if_pos h]; rfl
  ·rw [if_neg h,if_neg h,<- Y2 x r,Ru.wV]
   cases wT x (mE r) 0 with
   | none=>rfl
   | some p=>rfl
def Pf (x:Int) (E:EM):Nat:=match lkE x E with | none=>0 | some e=>e.2.length
theorem kh (x:Int) (n:Nat) (p:Pt):∀ E,xc (mE E) x (.osl n 2 (Pf x E+1))= mE (upE x n p E)
 | []=>rfl
 | (y,k,l) :: r=>by
  have ih:=kh x n p r;show xc ((y,.osl k 2 l.length) :: mE r) x _=_;unfold xc Pf at ih ⊢;unfold wT upE lkE
  by_cases h:x=y
  ·subst h; rw [if_pos rfl,if_pos rfl,if_pos rfl]; simp [mE]
  ·rw [if_neg h,if_neg h,if_neg h,Ru.wV]
   cases hf:wT x (mE r) 0 with
   | none=>rw [hf] at ih; simp only [Option.map_none] at ih ⊢; rw [χ,ih]; rfl
   | some p=>rw [hf] at ih; simp only [Option.map_some] at ih ⊢; rw [Ae,ih]; rfl
theorem fC {x:Int} {k:Nat} {l:List Pt}:∀ {E:EM},lkE x E=some (k,l)->(x,k,l)∈ E
 | [],h=>by cases h
 | (y,k',l') :: r,h=>by
  unfold lkE at h
  by_cases e:x=y
  ·rw [if_pos e] at h; cases h; subst e; simp
  ·rw [if_neg e] at h; exact γ _ (fC h)
theorem yp {x:Int} {n:Nat} {p:Pt} {e:Int × Nat × List Pt}:∀ {E:EM},((gE E).map (·.1)).Nodup->e ∈ upE x n p E->(e ∈ E/\e.1≠x)\/(e.1=x/\e.2.1=n/\e.2.2=(match lkE x E with | none=>[] | some q=>q.2)++ [p])
 | [],_,h=>by simp only [upE,ζ] at h;subst h;exact .inr ⟨rfl,rfl,rfl⟩
 | (y,k,l) :: r,hn,h=>by
  have hn':((y :: (gE r).map (·.1))).Nodup:=hn;rw [Ad] at hn';unfold upE at h;unfold lkE
  by_cases hx:x=y
  ·rw [if_pos hx] at h ⊢;subst hx
   rcases δ.1 h with rfl | h
   ·exact .inr ⟨rfl,rfl,rfl⟩
   ·refine .inl ⟨γ _ h,λe1=>hn'.1 ?_⟩;simp only [gE,π,η];exact⟨e,h,e1⟩
  ·rw [if_neg hx] at h ⊢
   rcases δ.1 h with rfl | h
   ·exact .inl ⟨by simp,λe=>hx e.symm⟩
   ·rcases yp hn'.2 h with ⟨h1,h2⟩ | h2
    ·exact .inl ⟨γ _ h1,h2⟩
    ·exact .inr h2
structure MI (km : Nat) (E : EM) (nx : Nat) (objs0 xZ : List (Nat × Ob)) : Prop where
 n1:km<nx
 old:∀ k,k<km->St.look xZ k=St.look objs0 k
 mp:St.look xZ km=some ⟨0,rB .i64 (mE E)⟩
 ob:∀ e ∈ E,km<e.2.1/\e.2.1<nx/\St.look xZ e.2.1=some ⟨2,ptR e.2.2⟩
 ds:∀ e ∈ E,∀ e' ∈ E,e.2.1=e'.2.1->e.1=e'.1
theorem MI.step {km:Nat} {E:EM} {nx nx' n:Nat} {objs0 xZ objs':List (Nat × Ob)} (h:MI km E nx objs0 xZ) (hnd:((gE E).map (·.1)).Nodup) {x:Int} {p:Pt} (hn:nx<=n/\n<nx')
  (hs:∀ k,k<nx->k≠km->(∀ q,lkE x E=some q->k≠q.1)->St.look objs' k=St.look xZ k) (hm:St.look objs' km=some ⟨0,rB .i64 (mE (upE x n p E))⟩)
  (ho:St.look objs' n=some ⟨2,ptR ((match lkE x E with | none=>[] | some q=>q.2)++ [p])⟩):MI km (upE x n p E) nx' objs0 objs':=by
 have n1:=h.n1
 refine⟨by omega,λk hk=>?_,hm,λe he=>?_,λe he e' he' hee=>?_⟩
 ·rw [hs k (by omega) (by omega) λq hq=>?_,h.old k hk];have:=(h.ob _ (fC hq)).1;simp only at this;omega
 ·rcases yp hnd he with ⟨h1,h2⟩ | ⟨h1,h2,h3⟩
  ·obtain⟨a,b,c⟩:=h.ob e h1;refine⟨a,by omega,?_⟩
   rw [hs _ b (by omega) λq hq hh=>?_]
   ·exact c
   ·exact h2 (h.ds e h1 _ (fC hq) hh)
  ·rw [h2,h3]; exact⟨by omega,hn.2,ho⟩
 ·rcases yp hnd he with ⟨h1,h2⟩ | ⟨h1,h2,h3⟩ <;> rcases yp hnd he' with ⟨k1,k2⟩ | ⟨k1,k2,k3⟩
  ·exact h.ds e h1 e' k1 hee
  ·have:=(h.ob e h1).2.1; omega
  ·have:=(h.ob e' k1).2.1; omega
  ·rw [h1,k1]
def NM (rs:List xG) (A F T:Nat) (a:Nat):Ob:=⟨6,[[.int .i64 (A:Int),.int .i64 (F:Int),.int .i64 (T:Int),.sl 2 (zL rs),.sl 2 (ptR (ptl rs T)),xD 2 1 ((List.range a).map λi=>[.zE (3+i)])]]⟩
def bY (rs:List xG) (T:Nat) (i:Nat):List (Int × List Pt):=Vk (yJ rs i) (ptl rs T).length (ptl rs T)
def nv (rs:List xG) (T:Nat) (i:Nat):Nat × Ob:=(3+i,⟨0,rB .i64 (mG (bY rs T i))⟩)
def bV (rs:List xG) (A F T:Nat) (a:Nat):List (Nat × Ob):=(0,⟨4,[[.int .i64 (A:Int),.int .i64 (F:Int),.int .i64 (T:Int),.sl 2 (zL rs)]]⟩) :: (1,NM rs A F T a) :: (xA 2 1 ((List.range a).map λi=>[.zE (3+i)])++ (List.range a).map (nv rs T))
theorem rm {rs:List xG} {T:Nat}:∀ {l:List Nat} {i:Nat},i ∈ l->St.look (l.map (nv rs T)) (3+i)= some ⟨0,rB .i64 (mG (bY rs T i))⟩
 | [],i,h=>by cases h
 | j :: l,i,h=>by
  rw [κ];unfold nv;rw [xX]
  by_cases e:j=i
  ·subst e; rw [if_pos rfl]
  ·rw [if_neg (by omega)]
   rcases δ.1 h with h | h
   ·exact absurd h.symm e
   ·exact rm h
theorem mI {rs:List xG} {T:Nat} {k:Nat}:∀ {l:List Nat},(∀ i ∈ l,3+i≠k)->St.look (l.map (nv rs T)) k=none
 | [],h=>rfl
 | j :: l,h=>by rw [κ];unfold nv;rw [xX,if_neg (h j (by simp))];exact mI λi hi=>h i (γ _ hi)
theorem vt {rs:List xG} {A F T a i:Nat} (h:i<a):St.look (bV rs A F T a) (3+i)= some ⟨0,rB .i64 (mG (bY rs T i))⟩:=by unfold bV;rw [xX,if_neg (by omega),xX,if_neg (by omega),xH,if_neg (by omega)];exact rm (ε.2 h)
theorem cZ {rs:List xG} {A F T a:Nat}:St.look (bV rs A F T a) 2=vZ 1 ((List.range a).map λi=>[.zE (3+i)]):=by unfold bV;rw [xX,if_neg (by omega),xX,if_neg (by omega),xH,if_pos rfl,mI (λi _=>by omega)];exact Option.or_none
end Te
end
section
open Rs Fm Ru Te
namespace Te
theorem pv {n k s:Nat} {els:List (List D)} (h:k<n):D.under n (xD k s els):=by cases els <;> simp [xD,D.under,h]
theorem mZ {rs:List xG} {A F T a:Nat}:∀ p ∈ bV rs A F T a,p.1<3+a/\St.look (bV rs A F T a) p.1=some p.2/\∀ e ∈ p.2.els,D.vW (3+a) e:=by
 intro p hp;unfold bV at hp
 rcases δ.1 hp with rfl | hp
 ·refine⟨by show 0<3+a; omega,rfl,λe he=>?_⟩;simp only [ζ] at he;subst he;simp [D.vW,D.under]
 rcases δ.1 hp with rfl | hp
 ·refine⟨by show 1<3+a; omega,rfl,λe he=>?_⟩;simp only [NM,ζ] at he;subst he;simp only [D.vW,D.under,true_and,and_true];exact pv (by omega)
 rcases θ.1 hp with hp | hp
 ·have hk:p=(2,⟨1,(List.range a).map λi=>[.zE (3+i)]⟩):=by revert hp;generalize ((List.range a).map λi=>[D.zE (3+i)])= els;cases els <;> simp [xA]
  have hg:vZ 1 ((List.range a).map λi=>[D.zE (3+i)])= some p.2:=by rw [hk];revert hp;rw [hk];generalize ((List.range a).map λi=>[D.zE (3+i)])= els;cases els <;> simp [xA,vZ]
  rw [<- hg,hk];refine⟨by show 2<3+a; omega,cZ,λe he=>?_⟩;simp only [η,ε] at he;obtain⟨i,hi,rfl⟩:=he;simp only [D.vW,D.under,and_true]; omega
 ·simp only [η,ε] at hp;obtain⟨i,hi,rfl⟩:=hp;refine⟨by show 3+i<3+a; omega,vt hi,λe he=>?_⟩;simp only [nv,rB,mG,π,η] at he;obtain⟨g,_,rfl⟩:=he;simp [D.vW,D.under]
end Te
theorem j9 {rs:List xG} {A F T:Nat} (hz:chk ⟨A,F,T,rs⟩= 0) (ok:OkR rs A F T):xY prog 102 [sD A F T rs] St0 (.ref 1 6 0 0) ⟨3+A,bV rs A F T A⟩:=by
 obtain⟨T1,T16⟩:=ok.hT;obtain⟨R1,R64⟩:=ok.hR;have hA4:=ok.hA;have hRT:=ok.hP;have hP:=gA ⟨A,F,T,rs⟩;have ep:cB ⟨A,F,T,rs⟩= ptl rs T:=by unfold cB; rw [if_neg (by simpa using hz)]; rfl
 rw [ep] at hP;have hD:tZ.d ⟨A,F,T,rs⟩= .agg [.int .i64 (A:Int),.int .i64 (F:Int),.int .i64 (T:Int),.sl 2 (zL rs)]:=rfl;rw [hD] at hP;unfold sD;refine xY.xP mixed func102 Kd (by simp) λhf=>?_;simp only [simprocAttr,-ZA,↓zU,↓zD,zV,zT,zW]
 (repeat refine sd ?_)
 refine .go (cq hP) ?_;simp only [simprocAttr,-ZA,↓zU,↓zD,zV,zT,zW]
 (repeat refine sd ?_)
 refine xT (λa:Nat=>[(16,.int .i64 a),(15,.int .i64 A),(3,.ref 1 6 0 0),(1,.ref 0 4 0 0)]) (λa=>⟨3+a,bV rs A F T a⟩) (λa=>a<=A) (λa=>A-a) 0 (Ak _) ?_ ?_
 ·(refine xN.ren [] [0,1] (by simp) (by simp) (by decide) ?_; simp only [yT,zQ,simprocAttr,-ZA,exists_eq_left',ne_eq,zR,bV,NM,List.range_zero,List.map_nil,zM,zN,List.nil_append])
 intro a ha;refine xO mixed ?_;have l0:St.look (bV rs A F T a) 0=some ⟨4,[[.int .i64 (A:Int),.int .i64 (F:Int),.int .i64 (T:Int),.sl 2 (zL rs)]]⟩:=rfl;have l1:St.look (bV rs A F T a) 1=some ⟨6,[[.int .i64 (A:Int),.int .i64 (F:Int),.int .i64 (T:Int),.sl 2 (zL rs),.sl 2 (ptR (ptl rs T)),xD 2 1 ((List.range a).map λi=>[.zE (3+i)])]]⟩:=rfl;by_cases hal:a<A
 case neg=>
  have hd:¬ ((a:Int)<(A:Int)):=by omega
  obtain rfl:a=A:=by omega
  simp only [simprocAttr,-ZA,↓zU,↓zD,zV,zT,zW,hd];exact .same
 have hd:((a:Int)<(A:Int)):=by omega
 have y1:¬ 3+a=1:=by omega
 have hin:Inb rs T (ptl rs T):=lD T1 (Aj _);have hln:(ptl rs T).length=rs.length*T:=vR _ _;have hlr:=mZ (rs:=rs) (A:=A) (F:=F) (T:=T) (a:=a);simp only [simprocAttr,-ZA,↓zU,↓zD,zV,zT,zW,hd,l0,l1,y1]
 (repeat refine sd ?_)
 refine zZ (λb:Nat × Nat × List (Nat × Ob)=>[(25,.int .i64 b.1),(24,.int .i64 (ptl rs T).length),(23,.sl 2 (ptR (ptl rs T))),(16,.int .i64 a),(15,.int .i64 A),(5,.zE (3+a)),(4,.int .i64 a),(3,.ref 1 6 0 0),(1,.ref 0 4 0 0)])
  (λb=>⟨b.2.1,b.2.2⟩) (λb=>b.1<=(ptl rs T).length/\∃ E,MI (3+a) E b.2.1 (bV rs A F T a) b.2.2/\gE E=Vk (yJ rs a) b.1 (ptl rs T)) (λb=>(ptl rs T).length-b.1) (0,3+a+1,(3+a,⟨0,[]⟩) :: bV rs A F T a) ⟨Ak _,[],⟨by simp only; omega,λk hk=>?_,?_,by simp,by simp⟩,rfl⟩ ?_ ?_
 ·show St.look (_ :: _) k=_;rw [xX,if_neg (by omega)]
 ·show St.look (_ :: _) _=_;rw [xX,if_pos rfl]; rfl
 ·(refine xN.same ?_; simp [xQ,Fr.get,yR])
 intro ⟨w,nx,xZ⟩ ⟨hw,E,hM,hg⟩;simp only at hw hM hg ⊢;refine xO mixed ?_;have n1:=hM.n1;have l0':St.look xZ 0=_:=(hM.old 0 (by omega)).trans l0;have l1':St.look xZ 1=_:=(hM.old 1 (by omega)).trans l1;have lm:=hM.mp;by_cases hwl:w<(ptl rs T).length
 case neg=>
  have hd2:¬ ((w:Int)<((ptl rs T).length:Int)):=by omega
  obtain rfl:w=(ptl rs T).length:=by omega
  simp only [simprocAttr,-ZA,↓zU,↓zD,zV,zT,zW,hd2]
  refine .go [(16,.int .i64 a),(15,.int .i64 A),(5,.zE (3+a)),(3,.ref 1 6 0 0),(1,.ref 0 4 0 0)] ⟨3+(a+1),(3+a,⟨0,rB .i64 (mG (bY rs T a))⟩) :: bV rs A F T a⟩ (xN.view (λk=>k) (Ak _) (λ_ _=>rfl) ?_ ?_ (λp _ q _ e=>e)) ?_
  ·simp only [vwF,vw,Fr.get,reduceIte,Nat.reduceEqDiff,and_true,true_and];omega
  ·intro p hp
   rcases δ.1 hp with rfl | hp
   ·refine⟨by show 3+a<3+(a+1); omega,_,lm,rfl,?_⟩;have:gE E=bY rs T a:=hg;rw [<- this];unfold rB mE mG gE;rw [π,π,π];refine sG λe he=>⟨rfl,?_⟩;obtain⟨b1,b2,b3⟩:=hM.ob e he;simp only [Function.comp,vwL,vw,true_and,and_true];refine⟨by decide,λq hq=>?_,_,b3,rfl,by rw [yR]; exact Aj _,by rw [ν (by rw [yR]; exact Aj _)],wv _⟩
    rcases δ.1 hq with rfl | hq
    ·show 3+a≠e.2.1; omega
    ·have:=(hlr q hq).1; omega
   ·obtain⟨u1,u2,u3⟩:=hlr p hp;exact⟨by show p.1<3+(a+1); omega,p.2,(hM.old p.1 (by omega)).trans u2,rfl,kX λe he=>uT (by show 3+a<=3+(a+1); omega) (u3 e he)⟩
  have ls:=cZ (rs:=rs) (A:=A) (F:=F) (T:=T) (a:=a);have w1:¬ 3+a=1:=by omega
  have w2:¬ 3+a=2:=by omega
  have w3:¬ 3+(a+1)= 1:=by omega
  have w4:¬ 3+(a+1)= 2:=by omega
  have hL:((List.range a).map λi=>[D.zE (3+i)]).length=a:=by simp
  have hLs:((List.range a).map λi=>[D.zE (3+i)])++ [[D.zE (3+a)]]=(List.range (a+1)).map λi=>[D.zE (3+i)]:=by rw [List.range_succ,List.map_append]; rfl
  have le1:St.look (yC (bV rs A F T a) 2) 1=St.look (bV rs A F T a) 1:=by rw [xM,if_neg (by omega)]
  rw [l1] at le1;have w5:¬ 3+(a+1)+ 1=1:=by omega
  simp only [simprocAttr,-ZA,↓zU,↓zD,zV,zT,zW,l1,ls,w1,w2,w3,w4,w5,hL,hLs,le1]
  (repeat refine sd ?_)
  refine⟨a+1,by omega,xN.view (λk=>if k=2 then 3+(a+1)+ 1 else k) (Ak _) (λk hk=>absurd hk (Ao _)) ?_ ?_ ?_,by omega⟩
  ·simp only [vwF,vw,Fr.get,reduceIte,Nat.reduceEqDiff,and_true,true_and,D.int.injEq];exact⟨yB (by omega),by omega,by omega⟩
  ·have hLn:((List.range (a+1)).map λi=>[D.zE (3+i)])≠ []:=by simp
   intro p hp;have hpu:=mZ (rs:=rs) (A:=A) (F:=F) (T:=T) (a:=a+1) p hp;unfold bV at hp
   rcases δ.1 hp with rfl | hp
   ·refine⟨by show 0<3+(a+1); omega,⟨4,[[.int .i64 (A:Int),.int .i64 (F:Int),.int .i64 (T:Int),.sl 2 (zL rs)]]⟩,?_,rfl,.same (by simp [D.xU,D.xL])⟩;show St.look _ 0=_;rw [xH,if_neg (by omega),xX,if_neg (by omega),xX,if_neg (by omega),xW,if_neg (by omega),xM,if_neg (by omega)]; exact l0
   rcases δ.1 hp with rfl | hp
   ·refine⟨by show 1<3+(a+1); omega,⟨6,[[.int .i64 (A:Int),.int .i64 (F:Int),.int .i64 (T:Int),.sl 2 (zL rs),.sl 2 (ptR (ptl rs T)),xD (3+(a+1)+ 1) 1 ((List.range (a+1)).map λi=>[D.zE (3+i)])]]⟩,?_,rfl,.cons rfl ?_ .nil⟩
    ·show St.look _ 1=_;rw [xH,if_neg (by omega),xX,if_neg (by omega),xX,if_neg (by omega),xW,if_pos rfl,le1]; rfl
    ·simp only [vwL,vw,and_true,true_and,YV,reduceIte];exact .inr (by omega)
   rcases θ.1 hp with hp | hp
   ·rw [wc hLn,ζ] at hp;subst hp
    refine⟨by show 2<3+(a+1); omega,⟨1,(List.range (a+1)).map λi=>[.zE (3+i)]⟩,?_,rfl,sG λi hi=>⟨rfl,?_⟩⟩
    ·show St.look _ (if 2=2 then _ else _)= _;rw [if_pos rfl,xH,if_pos rfl,wb hLn]; rfl
    ·have:=ε.1 hi;simp only [vwL,vw,and_true];exact⟨by omega,by rw [if_neg (by omega)]⟩
   ·simp only [η,ε] at hp;obtain⟨i,hi,rfl⟩:=hp;refine⟨hpu.1,_,?_,rfl,.same λe he=>?_⟩
    rotate_left
    ·simp only [nv,rB,mG,π,η] at he;obtain⟨g,_,rfl⟩:=he;rfl
    show St.look _ (if 3+i=2 then _ else 3+i)= _;rw [if_neg (by omega),xH,if_neg (by omega),xX,if_neg (by omega),xX]
    by_cases e:i=a
    ·subst e; rw [if_pos rfl]; rfl
    ·rw [if_neg (by omega),xW,if_neg (by omega),xM,if_neg (by omega),vt (by omega)]; rfl
  ·intro p hp q hq e;have h1:=(mZ p hp).1;have h2:=(mZ q hq).1;simp only at e;split at e <;> split at e <;> omega
 have hd2:((w:Int)<((ptl rs T).length:Int)):=by omega
 have hp:=hin _ (xR (d:=(0,0)) hwl);have hpg:=uL (ptl rs T) hwl;have hgo:=(lW (yJ rs a) (ptl rs T) w hw).nd;have hgl:=(lW (yJ rs a) (ptl rs T) w hw).ln;rw [<- hg] at hgl;rw [<- hg] at hgo;have hgn:Vk (yJ rs a) (w+1) (ptl rs T)= upG (yJ rs a ((ptl rs T).getD w (0,0))) ((ptl rs T).getD w (0,0)) (gE E):=by rw [hg]; rfl
 generalize (ptl rs T).getD w (0,0)= p at hp hpg hgn;have hm:=xR (d:=tX) hp.1;have hgr:=vF rs hp.1;have h1:=ok.loc _ hm;have h2:=ok.row _ hm _ (xR (d:=[]) (show p.2<(rs.getD p.1 tX).loc.length by omega));have hx:((rs.getD p.1 tX).loc.getD p.2 []).getD a 0=yJ rs a p:=rfl;generalize rs.getD p.1 tX=r at hgr h1 h2 hx;have hg2:=tH r.loc (show p.2<r.loc.length by omega);generalize r.loc.getD p.2 []=x at hg2 h2 hx;have hg3:=yV .i64 x (show a<x.length by omega);rw [hx] at hg3;have z0:¬ nx=0:=by omega
 have zm:¬ nx=3+a:=by omega
 generalize yJ rs a p=v at hg3 hgn;have hmr:=Y2 v E
 cases hk:lkE v E with
 | none=>
  rw [hk] at hmr;simp only at hmr
  have hap:xc (mE E) v (.osl (nx+1) 2 1)= mE (upE v (nx+1) p E):=by have:=kh v (nx+1) p E;rw [show Pf v E=0 by unfold Pf; rw [hk]] at this;exact this
  have zm1:¬ nx+1=3+a:=by omega
  simp only [simprocAttr,-ZA,↓zU,↓zD,zV,zT,zW,hd2,yR,hpg,xJ,hgr,xG.row,yD,hg2,yZ,hg3,l0',lm,z0,zm,zm1,hmr,hap]
  (repeat refine sd ?_)
  refine⟨(w+1,?zna,?zoa),⟨by show w+1<=_; omega,upE v (nx+1) p E,?ze1,?ze3⟩,?ze2,by show (ptl rs T).length-(w+1)<(ptl rs T).length-w; omega⟩
  case ze2=>
   (refine xN.same ?_; simp only [xQ,Fr.get,simprocAttr,-ZA,zS])
   exact yB (by omega)
  case ze3=>rw [Rt,hgn]
  case ze1=>
   refine hM.step hgo (n:=nx+1) ⟨by omega,Am _⟩ (λk h1 h2 h3=>?_) ?_ ?_
   ·show St.look (_ :: _ :: _) k=_;rw [xX,if_neg (by omega),xX,if_neg (by omega),xW,if_neg (by omega)]
   ·show St.look (_ :: _ :: _) _=_;rw [xX,if_neg (by omega),xX,if_neg (by omega),xW,if_pos rfl,lm]; rfl
   ·show St.look (_ :: _ :: _) _=_;rw [xX,if_pos rfl,hk]; rfl
 | some q=>
  obtain⟨kq,lq⟩:=q;rw [hk] at hmr;simp only at hmr;obtain⟨q1,q2,q3⟩:=hM.ob _ (fC hk);simp only at q1 q2 q3;have zq:¬ nx=kq:=by omega
  have hap:xc (mE E) v (.osl (nx+1) 2 (lq.length+1))= mE (upE v (nx+1) p E):=by have:=kh v (nx+1) p E;rw [show Pf v E=lq.length by unfold Pf; rw [hk]] at this;exact this
  have zm1:¬ nx+1=3+a:=by omega
  have zq1:¬ kq=3+a:=by omega
  have htk:(ptR lq).take lq.length=ptR lq:=ν (by rw [yR]; omega)
  have hbl:lq.length<=512:=by have:=hgl (v,lq) (by simp only [gE,η]; exact⟨_,fC hk,rfl⟩);simp only [List.length_take] at this;omega
  have hle:St.look (yC xZ kq) (3+a)= some ⟨0,rB .i64 (mE E)⟩:=by rw [xM,if_neg zq1]; exact lm
  simp only [simprocAttr,-ZA,↓zU,↓zD,zV,zT,zW,hd2,yR,hpg,xJ,hgr,xG.row,yD,hg2,yZ,hg3,l0',lm,z0,zm,zm1,zq,zq1,hmr,q3,hap,htk,hle]
  (repeat refine sd ?_)
  refine⟨(w+1,?znb,?zob),⟨by show w+1<=_; omega,upE v (nx+1) p E,?zf1,?zf3⟩,?zf2,by show (ptl rs T).length-(w+1)<(ptl rs T).length-w; omega⟩
  case zf2=>
   (refine xN.same ?_; simp only [xQ,Fr.get,simprocAttr,-ZA,zS])
   exact yB (by omega)
  case zf3=>rw [Rt,hgn]
  case zf1=>
   refine hM.step hgo (n:=nx+1) ⟨by omega,Am _⟩ (λk h1 h2 h3=>?_) ?_ ?_
   ·have h3':=h3 _ hk;simp only at h3';show St.look (_ :: _ :: _) k=_;rw [xX,if_neg (by omega),xX,if_neg (by omega),xW,if_neg (by omega),xM,if_neg (by omega)]
   ·show St.look (_ :: _ :: _) _=_;rw [xX,if_neg (by omega),xX,if_neg (by omega),xW,if_pos rfl,hle]; rfl
   ·show St.look (_ :: _ :: _) _=_;rw [xX,if_pos rfl,hk];simp only [ptR,List.map_append,κ,List.map_nil]
end
section
open Rs Fm Ru Te
namespace Te
def mB (u:List (Int × Bool)):List (Int × D):=u.map λp=>(p.1,.bool p.2)
def blk (x:Int):List (Int × Bool)->Bool
 | []=>false
 | (k,v) :: r=>if x=k then v else blk x r
def Sw (x:Int) (v:Bool):List (Int × Bool)->List (Int × Bool)
 | []=>[(x,v)]
 | (k,w) :: r=>if x=k then(x,v) :: r else(k,w) :: Sw x v r
theorem Zl (x y:Int) (v:Bool):∀ u,blk y (Sw x v u)= if y=x then v else blk y u
 | []=>by simp [Sw,blk]
 | (k,w) :: r=>by
  unfold Sw
  by_cases h:x=k
  ·rw [if_pos h];subst h
   by_cases e:y=x
   ·simp [blk,e]
   ·simp [blk,e]
  ·rw [if_neg h,blk,Zl x y v r]
   by_cases e:y=k
   ·subst e;rw [if_pos rfl,if_neg (λe=>h e.symm)];simp [blk]
   ·rw [if_neg e];simp [blk,e]
theorem Y1 (x:Int):∀ u,lH false (.bool false) (wT x (mB u) 0)= .bool (blk x u)
 | []=>rfl
 | (k,v) :: r=>by
  show lH false _ (wT x ((k,.bool v) :: mB r) 0)= _;unfold wT blk
  by_cases h:x=k
  ·rw [if_pos h,if_pos h]; rfl
  ·rw [if_neg h,if_neg h,<- Y1 x r,Ru.wV]
   cases wT x (mB r) 0 with
   | none=>rfl
   | some p=>rfl
theorem Zh (x:Int) (v:Bool):∀ u,xc (mB u) x (.bool v)= mB (Sw x v u)
 | []=>rfl
 | (k,w) :: r=>by
  have ih:=Zh x v r;show xc ((k,.bool w) :: mB r) x _=_;unfold xc at ih ⊢;unfold wT Sw
  by_cases h:x=k
  ·rw [if_pos h,if_pos h]; rfl
  ·rw [if_neg h,if_neg h,Ru.wV]
   cases hf:wT x (mB r) 0 with
   | none=>rw [hf] at ih; simp only [Option.map_none] at ih ⊢; rw [χ,ih]; rfl
   | some p=>rw [hf] at ih; simp only [Option.map_some] at ih ⊢; rw [Ae,ih]; rfl
theorem aU {R T:Nat} {φ ψ:Nat × Nat->Bool} (h:∀ i t,i<R->t<T->φ (i,t)= ψ (i,t)):zI R T φ=zI R T ψ:=by unfold zI;refine μ λi hi=>?_;congr 3;exact μ λt ht=>h i t (ε.1 hi) (ε.1 ht)
theorem lZ {rs:List xG} {T:Nat} (hT:1<=T) {i t:Nat} (hi:i<rs.length) (ht:t<T):(i,t)∈ ptl rs T:=by
 unfold ptl ptN;rw [η]
 refine⟨i*T+t,ε.2 ?_,?_⟩
 ·have:=Aq T (show i+1<=rs.length from hi);rw [Nat.succ_mul] at this;omega
 ·have e1:(i*T+t)/ T=i:=by rw [Al,Ap (by omega),An ht]; rfl
  have e2:(i*T+t) % T=t:=by rw [Al,Nat.mul_add_mod,Nat.mod_eq_of_lt ht]
  rw [e1,e2]
theorem ug {rs:List xG} {T:Nat} (hT:1<=T) {p:Nat × Nat} (h:p ∈ ptl rs T):p.1<rs.length/\p.2<T:=lD hT (Aj _) p h
structure mD (rs : List xG) (A F T kc ks : Nat) (km : Nat -> Nat) (xZ : List (Nat × Ob)) : Prop where
 c:St.look xZ kc=some ⟨6,[[.int .i64 (A:Int),.int .i64 (F:Int),.int .i64 (T:Int),.sl 2 (zL rs),.sl 2 (ptR (ptN T (rs.length*T))),xD ks 1 ((List.range A).map λi=>[.zE (km i)])]]⟩
 s:0<A->St.look xZ ks=some ⟨1,(List.range A).map λi=>[.zE (km i)]⟩
 m:∀ i,i<A->St.look xZ (km i)= some ⟨0,rB .i64 (mG (bY rs T i))⟩
theorem mD.mono {rs:List xG} {A F T kc ks:Nat} {km:Nat->Nat} {xZ objs':List (Nat × Ob)} (h:mD rs A F T kc ks km xZ) (hk:∀ k o,St.look xZ k=some o->St.look objs' k=some o):mD rs A F T kc ks km objs':=⟨hk _ _ h.c,λa=>hk _ _ (h.s a),λi hi=>hk _ _ (h.m i hi)⟩
theorem mD.start {rs:List xG} {A F T:Nat}:mD rs A F T 1 2 (λi=>3+i) (bV rs A F T A):=⟨rfl,λh=>by rw [cZ]; exact wb (by simp; omega),λi hi=>vt hi⟩
end Te
theorem Qk {nx k7 kk k3 k4 kc:Nat} {xZ:List (Nat × Ob)} {rs:List xG} {A F T a:Nat} {pts:List (Nat × Nat)} {same:D} {u:List (Int × Bool)} (ok:OkR rs A F T) (ha:a<A)
  (h7:St.look xZ k7=some ⟨1,[[.zE kk]]⟩) (hk:St.look xZ kk=some ⟨0,rB .i64 (mB u)⟩) (h3:St.look xZ k3=some ⟨1,[[.ref kc 6 0 0]]⟩) (h4:St.look xZ k4=some ⟨1,[[.int .i64 (a:Int)]]⟩)
  (hc:St.look xZ kc=some ⟨6,[[.int .i64 (A:Int),.int .i64 (F:Int),.int .i64 (T:Int),.sl 2 (zL rs),.sl 2 (ptR pts),same]]⟩) {i t:Nat} (hi:i<rs.length) (ht:t<T) :
  xY prog 205 ([.agg [.int .i64 (i:Int),.int .i64 (t:Int)]] ++ [.ref k7 1 0 0,.ref k3 1 0 0,.ref k4 1 0 0]) ⟨nx,xZ⟩ (.bool (blk (yJ rs a (i,t)) u)) ⟨nx,xZ⟩:=by
 obtain⟨T1,T16⟩:=ok.hT;refine xY.wR ⟨_,func205,by kernel_rfl,by kernel_rfl⟩ λhu=>xY.clean ?_;have y7:¬ nx=k7:=by have:=(hu k7 _ h7).1; simp only at this; omega
 have yk:¬ nx=kk:=by have:=(hu kk _ hk).1; simp only at this; omega
 have y3:¬ nx=k3:=by have:=(hu k3 _ h3).1; simp only at this; omega
 have y4:¬ nx=k4:=by have:=(hu k4 _ h4).1; simp only at this; omega
 have yc:¬ nx=kc:=by have:=(hu kc _ hc).1; simp only at this; omega
 have hkeep:∀ (ob:Ob) k o,St.look xZ k=some o->St.get ⟨nx+1,(nx,ob) :: xZ⟩ k=some o:=λob k o hk=>by have:=(hu k o hk).1;simp only at this;show St.look (_ :: _) k=_;rw [xX,if_neg (by omega)]; exact hk
 have hm:=xR (d:=tX) hi;have hgr:=vF rs hi;have h1:=ok.loc _ hm;have h2:=ok.row _ hm _ (xR (d:=[]) (show t<(rs.getD i tX).loc.length by omega));have hx:((rs.getD i tX).loc.getD t []).getD a 0=yJ rs a (i,t):=rfl;generalize rs.getD i tX=r at hgr h1 h2 hx;have hg2:=tH r.loc (show t<r.loc.length by omega);generalize r.loc.getD t []=x at hg2 h2 hx;have hg3:=yV .i64 x (show a<x.length by omega);rw [hx] at hg3;generalize yJ rs a (i,t)= v at hg3;have hmr:=Y1 v u;refine xY.xP mixed func205 Lp (by simp) λhf=>?_;simp only [simprocAttr,-ZA,↓zU,↓zD,zV,zT,zW,h7,hk,h3,h4,hc,y7,yk,y3,y4,yc,xJ,hgr,xG.row,yD,hg2,yZ,hg3,hmr]
 (repeat refine sd ?_)
 exact .gone hu (hkeep _) (by simp only [vw])
end
section
open Rs Fm Ru Te
namespace Te
def KnJ (φ:Nat × Nat->Bool) (G:List (Int × List (Nat × Nat))) (seen:List Nat) (u:List (Int × Bool)):Prop:=∀ i ∈ seen,blk (G.getD i (0,[])).1 u=(G.getD i (0,[])).2.all φ
theorem UC {G:List (Int × List (Nat × Nat))} (h:(G.map (·.1)).Nodup) {i j:Nat} (hi:i<G.length) (hj:j<G.length) (e:(G.getD i (0,[])).1=(G.getD j (0,[])).1):i=j:=by
 have h1:(G.map (·.1))[i]'(by simpa using hi)= (G.map (·.1))[j]'(by simpa using hj):=by simp only [Ab];simpa [List.getD,hi,hj] using e
 exact(List.getElem_inj h).1 h1
theorem KnJ.step {φ:Nat × Nat->Bool} {G:List (Int × List (Nat × Nat))} {seen:List Nat} {u:List (Int × Bool)} (h:KnJ φ G seen u) (hn:(G.map (·.1)).Nodup) (hs:∀ j ∈ seen,j<G.length) {i:Nat} (hi:i<G.length) (hni:i ∉ seen) :
  KnJ φ G (seen ++ [i]) (Sw (G.getD i (0,[])).1 ((G.getD i (0,[])).2.all φ) u):=by
 intro j hj;rw [Zl]
 rcases θ.1 hj with hj | hj
 ·rw [if_neg λe=>hni (by rw [<- UC hn (hs j hj) hi e]; exact hj)];exact h j hj
 ·rw [ζ] at hj;subst hj;rw [if_pos rfl]
theorem KnJ.MF {φ:Nat × Nat->Bool} {rs:List xG} {T a:Nat} {seen:List Nat} {u:List (Int × Bool)} (h:KnJ φ (bY rs T a) seen u) (hall:∀ i,i<(bY rs T a).length->i ∈ seen) {p:Nat × Nat} (hp:p ∈ ptl rs T) :
  blk (yJ rs a p) u=vS rs T a φ p:=by
 have hg:=lW (yJ rs a) (ptl rs T) (ptl rs T).length (Aj _);rw [Aa] at hg;obtain⟨e,he,e1⟩:=hg.has p hp;obtain⟨i,hi,rfl⟩:=List.getElem_of_mem he;have h2:=h i (hall i hi)
 have h3:(bY rs T a).getD i (0,[])= (Vk (yJ rs a) (ptl rs T).length (ptl rs T))[i]:=by show (Vk (yJ rs a) (ptl rs T).length (ptl rs T)).getD i (0,[])= _;simp [List.getD,hi]
 rw [h3,e1] at h2;rw [h2,Au];unfold vS;simp only [Ac,As,Av,decide_eq_false_iff_not]
 constructor
 ·intro h q hq
  by_cases e:yJ rs a q=yJ rs a p
  ·exact .inr (h q ((hg.eq _ he q).2 ⟨hq,by rw [e1]; exact e⟩))
  ·exact .inl e
 ·intro h q hq;obtain⟨h4,h5⟩:=(hg.eq _ he q).1 hq
  rcases h q h4 with h6 | h6
  ·exact absurd (h5.trans e1) h6
  ·exact h6
theorem Ty {kk:IntKind} {l:List (Int × D)} {i:Nat} (h:i<l.length):(rB kk l).getD i [] = [.int kk (l.getD i (0,.top)).1,(l.getD i (0,.top)).2]:=by simp [rB,List.getD,h]
theorem OA {G:List (Int × List (Nat × Nat))} {i:Nat} (h:i<G.length):(mG G).getD i (0,.top)= ((G.getD i (0,[])).1,.sl 2 (ptR (G.getD i (0,[])).2)):=by simp [mG,List.getD,h]
theorem Yg (G:List (Int × List (Nat × Nat))):(mG G).length=G.length:=by simp [mG]
theorem QZ {rs:List xG} {T a i:Nat} (h:i<(bY rs T a).length):∀ q ∈ ((bY rs T a).getD i (0,[])).2,q ∈ ptl rs T:=by have hg:=lW (yJ rs a) (ptl rs T) (ptl rs T).length (Aj _);rw [Aa] at hg;have hm:(bY rs T a).getD i (0,[])∈ bY rs T a:=xR h;exact λq hq=>((hg.eq _ hm q).1 hq).1
theorem TX {rs:List xG} {T a i:Nat} (h:i<(bY rs T a).length):((bY rs T a).getD i (0,[])).2.length<=rs.length*T:=by have hg:=lW (yJ rs a) (ptl rs T) (ptl rs T).length (Aj _);rw [Aa] at hg;have hm:(bY rs T a).getD i (0,[])∈ bY rs T a:=xR h;have:=hg.ln _ hm;rw [show (ptl rs T).length=rs.length*T from vR _ _] at this;exact this
theorem QY (rs:List xG) (T a:Nat):((bY rs T a).map (·.1)).Nodup:=(lW (yJ rs a) (ptl rs T) (ptl rs T).length (Aj _)).nd
theorem Nq {n:Nat} {l:List Nat} (hd:l.Nodup) (h:∀ x ∈ l,x<n) (hl:l.length=n):∀ i,i<n->i ∈ l:=λi hi=>by
 refine Classical.byContradiction λhno=>?_
 have:=pO n (i :: l) (Ad.2 ⟨hno,hd⟩) λx hx=>by
  rcases δ.1 hx with rfl | hx
  ·exact hi
  ·exact h x hx
 rw [List.length_cons] at this;omega
structure KnI (nx a kc : Nat) (xZ : List (Nat × Ob)) (u : List (Int × Bool)) (nx' : Nat) (objs' : List (Nat × Ob)) : Prop where
 n1:nx+1+1+1<nx'
 old:∀ k,k<nx->St.look objs' k=St.look xZ k
 k0:St.look objs' nx=some ⟨1,[[.ref kc 6 0 0]]⟩
 k1:St.look objs' (nx+1)= some ⟨1,[[.int .i64 (a:Int)]]⟩
 k2:St.look objs' (nx+1+1)= some ⟨0,rB .i64 (mB u)⟩
 k3:St.look objs' (nx+1+1+1)= some ⟨1,[[.zE (nx+1+1)]]⟩
theorem KnI.more {nx a kc nx' nx'':Nat} {xZ objs' objs'':List (Nat × Ob)} {u:List (Int × Bool)} (h:KnI nx a kc xZ u nx' objs') (hn:nx'<=nx'') (hl:∀ k,k<nx'->St.look objs'' k=St.look objs' k):KnI nx a kc xZ u nx'' objs'':=by have n1:=h.n1;exact⟨by omega,λk hk=>by rw [hl k (by omega)]; exact h.old k hk,by rw [hl _ (by omega)]; exact h.k0,by rw [hl _ (by omega)]; exact h.k1,by rw [hl _ (by omega)]; exact h.k2,by rw [hl _ (by omega)]; exact h.k3⟩
end Te
theorem gv {nx kc ks:Nat} {km:Nat->Nat} {xZ:List (Nat × Ob)} {rs:List xG} {A F T a:Nat} {φ:Nat × Nat->Bool} (ok:OkR rs A F T) (hS:mD rs A F T kc ks km xZ) (ha:a<A) :
  xY prog 151 [.ref kc 6 0 0,.int .i64 (a:Int),.sl 1 (zI rs.length T φ)] ⟨nx,xZ⟩ (.sl 1 (zI rs.length T (vS rs T a φ))) ⟨nx,xZ⟩:=by
 obtain⟨T1,T16⟩:=ok.hT;obtain⟨R1,R64⟩:=ok.hR;have hA4:=ok.hA;have hRT:=ok.hP;refine xY.wR ⟨_,func151,by kernel_rfl,by kernel_rfl⟩ λhu=>xY.clean ?_;have hc:=hS.c;have hs:=hS.s (by omega);have hm:=hS.m a ha;have bc:=(hu _ _ hc).1;have bs:=(hu _ _ hs).1;have bm:=(hu _ _ hm).1;simp only at bc bs bm;have hL:((List.range A).map λi=>[D.zE (km i)]).length=A:=by simp
 have hne:((List.range A).map λi=>[D.zE (km i)])≠ []:=λe=>by rw [e] at hL; simp at hL; omega
 have hLg:((List.range A).map λi=>[D.zE (km i)]).getD a [] = [D.zE (km a)]:=by simp [List.getD,ha]
 rw [pR hne,hL] at hc;have y1:¬ nx+1+1+1=kc:=by omega
 have y2:¬ nx+1+1=kc:=by omega
 have y3:¬ nx+1=kc:=by omega
 have y4:¬ nx=kc:=by omega
 have z1:¬ nx+1+1+1=ks:=by omega
 have z2:¬ nx+1+1=ks:=by omega
 have z3:¬ nx+1=ks:=by omega
 have z4:¬ nx=ks:=by omega
 have w1:¬ nx+1+1+1=nx:=by omega
 have w2:¬ nx+1+1=nx:=by omega
 have w3:¬ nx+1=nx:=by omega
 have w4:¬ nx+1+1+1=nx+1:=by omega
 have w5:¬ nx+1+1=nx+1:=by omega
 refine xY.xP mixed func151 LB (by simp) λhf=>?_;simp only [simprocAttr,-ZA,↓zU,↓zD,zV,zT,zW,hc,hs,hL,hLg,y1,y2,y3,y4,z1,z2,z3,z4,w1,w2,w3,w4,w5]
 (repeat refine sd ?_)
 have hk1:∀ {objs':List (Nat × Ob)},(∀ k,k<nx->St.look objs' k=St.look xZ k)->mD rs A F T kc ks km objs':=λh=>hS.mono λk o hk=>by have:=(hu k o hk).1;simp only at this;rw [h k this]; exact hk
 refine Tv mixed (km a) (rB .i64 (mG (bY rs T a))) (by simp [evO,Fr.get]) (by show St.look _ (km a)= _; rw [xX,if_neg (by omega),xX,if_neg (by omega),xX,if_neg (by omega),xX,if_neg (by omega)]; exact hm)
  (λ(_:List Nat) (_:List (Int × Bool) × Nat × List (Nat × Ob))=>[(7,.ref (nx+1+1+1) 1 0 0),(4,.ref (nx+1) 1 0 0),(3,.ref nx 1 0 0),(2,.sl 1 (zI rs.length T φ))]) (λ_ a=>⟨a.2.1,a.2.2⟩)
  (λseen b=>KnI nx a kc xZ b.1 b.2.1 b.2.2/\KnJ φ (bY rs T a) seen b.1) ([],nx+1+1+1+1,(nx+1+1+1,⟨1,[[.zE (nx+1+1)]]⟩) :: (nx+1+1,⟨0,[]⟩) :: (nx+1,⟨1,[[.int .i64 (a:Int)]]⟩) :: (nx,⟨1,[[.ref kc 6 0 0]]⟩) :: xZ) ⟨⟨by simp only; omega,λk hk=>?_,?_,?_,?_,?_⟩,λi hi=>absurd hi (by simp)⟩ ?_ ?_ ?_ ?_
 ·simp only; rw [xX,if_neg (by omega),xX,if_neg (by omega),xX,if_neg (by omega),xX,if_neg (by omega)]
 ·simp only; rw [xX,if_neg (by omega),xX,if_neg (by omega),xX,if_neg (by omega),xX,if_pos rfl]
 ·simp only; rw [xX,if_neg (by omega),xX,if_neg (by omega),xX,if_pos rfl]
 ·simp only; rw [xX,if_neg (by omega),xX,if_pos rfl]; rfl
 ·simp only; rw [xX,if_pos rfl]
 ·intro b
  (refine xN.same ?_; simp [xQ,Fr.get])
 ·intro seen b ⟨hI,_⟩;exact(hI.old _ bm).trans hm
 ·rintro b seen ⟨u,nx',objs'⟩ ⟨hI,hJ⟩ hnd hlt hall;simp only at hI hJ ⊢;rw [cw,Yg] at hlt hall;have hS':=hk1 hI.old;have e3:=hI.k3;have e0:=hI.k0;have n1:=hI.n1
  have hfill:=lB (nx:=nx') (kc:=kc) (xZ:=objs') (g:=205) (caps:=[.ref (nx+1+1+1) 1 0 0,.ref nx 1 0 0,.ref (nx+1) 1 0 0]) (φ:=λp=>blk (yJ rs a p) u) ok hS'.c (λnx1 objs1 i t h1 h2 hi ht=> Qk ok ha (by rw [h2 _ (by omega)]; exact hI.k3) (by rw [h2 _ (by omega)]; exact hI.k2) (by rw [h2 _ (by omega)]; exact hI.k0) (by rw [h2 _ (by omega)]; exact hI.k1) (by rw [h2 _ (by omega)]; exact hS'.c) hi ht)
  rw [aU (ψ:=vS rs T a φ) λi t hi ht=>hJ.MF (λi hi=>Nq hnd hlt hall i hi) (lZ T1 hi ht)] at hfill;simp only [simprocAttr,-ZA,↓zU,↓zD,zV,zT,zW,e0]
  (repeat refine sd ?_)
  refine .go hfill ?_;simp only [simprocAttr,-ZA,↓zU,↓zD,zV,zT,zW];refine .gone hu (λk o hk=>?_) (by simp only [vw]; exact⟨trivial,trivial⟩);have:=(hu k o hk).1;simp only at this;show St.look objs' k=_;rw [hI.old k this]; exact hk
 rintro b seen ⟨u,nx',objs'⟩ i ⟨hI,hJ⟩ hnd hlt hi hni;simp only at hI hJ ⊢;rw [cw,Yg] at hlt hi;have hgi:=Ty (kk:=.i64) (l:=mG (bY rs T a)) (by rw [Yg]; exact hi);rw [OA hi] at hgi;have hstep:=hJ.step (QY rs T a) hlt hi hni;have hin:=QZ hi;have hgl:=TX hi;generalize (bY rs T a).getD i (0,[])= g at hgi hstep hin hgl;obtain⟨x,l⟩:=g;simp only at hgi hstep hin hgl;rw [hgi];simp only [simprocAttr,-ZA,↓zU,↓zD,zV,zT,zW]
 (repeat refine sd ?_)
 refine Wl mixed ?_;simp only [simprocAttr,-ZA,↓zU,↓zD,zV,zT,zW,yR]
 (repeat refine sd ?_)
 refine xT (λc:Nat × Nat × List (Nat × Ob)=>[(29,.int .i64 c.1),(28,.int .i64 l.length),(27,.sl 2 (ptR l)),(10,.bool ((l.take c.1).all φ)),(8,.int .i64 x),(21,.adr b),(7,.ref (nx+1+1+1) 1 0 0),(4,.ref (nx+1) 1 0 0),(3,.ref nx 1 0 0),(2,.sl 1 (zI rs.length T φ))])
  (λc=>⟨c.2.1,c.2.2⟩) (λc=>c.1<=l.length/\KnI nx a kc xZ u c.2.1 c.2.2) (λc=>l.length-c.1) (0,nx',objs') ⟨Ak _,hI⟩ ?_ ?_
 ·(refine xN.same ?_; simp [xQ,Fr.get])
 clear hI;rintro ⟨w,nx2,objs2⟩ ⟨hw,hI⟩;simp only at hw hI ⊢;refine xO mixed ?_;by_cases hwl:w<l.length
 case neg=>
  have hd:¬ ((w:Int)<(l.length:Int)):=by omega
  have hall:l.take w=l:=ν (by omega);have e2:=hI.k2;have e3:=hI.k3;have hap:=Zh x (l.all φ) u;simp only [simprocAttr,-ZA,↓zU,↓zD,zV,zT,zW,hd,hall,e2,e3,hap]
  (repeat refine sd ?_)
  have n1:=hI.n1;refine⟨(Sw x (l.all φ) u,nx2,?zo0),⟨⟨n1,λk hk=>?_,?_,?_,?_,?_⟩,hstep⟩,?zw⟩
  case zw=>(refine xN.same ?_; simp [xQ,Fr.get])
  all_goals simp only
  ·rw [xW,if_neg (by omega)]; exact hI.old k hk
  ·rw [xW,if_neg (by omega)]; exact hI.k0
  ·rw [xW,if_neg (by omega)]; exact hI.k1
  ·rw [xW,if_pos rfl,e2]; rfl
  ·rw [xW,if_neg (by omega)]; exact hI.k3
 have hd:((w:Int)<(l.length:Int)):=by omega
 have hpg:=uL l hwl;have hp:=ug T1 (hin _ (xR (d:=(0,0)) hwl))
 have htk:l.take (w+1)= l.take w ++ [l.getD w (0,0)]:=by rw [Ah];congr 1;simp [List.getD,hwl]
 generalize l.getD w (0,0)= p at hpg hp htk;have hall:(l.take (w+1)).all φ=((l.take w).all φ&&φ p):=by rw [htk,List.all_append]; simp
 generalize (l.take w).all φ=c at hall;have g1:=wL (T:=T) (φ:=φ) hp.1;have g2:=vB (i:=p.1) (φ:=φ) hp.2
 cases c with
 | true=>
  simp only [simprocAttr,-ZA,↓zU,↓zD,zV,zT,zW,hd,yR,hpg,zY,g1,wW,ο,ξ,g2]
  (repeat refine sd ?_)
  refine⟨(w+1,nx2+1,?zo1),⟨by show w+1<=l.length; omega,hI.more (Ar _) λk hk=>?_⟩,?zx,by show l.length-(w+1)<l.length-w; omega⟩
  case zx=>
   (refine xN.same ?_; simp only [xQ,Fr.get,simprocAttr,-ZA,zS,hall,Bool.true_and,Bool.false_and])
   exact yB (by omega)
  ·simp only; rw [xX,if_neg (by omega)]
 | false=>
  simp only [simprocAttr,-ZA,↓zU,↓zD,zV,zT,zW,hd,yR,hpg]
  (repeat refine sd ?_)
  refine⟨(w+1,nx2+1,?zo2),⟨by show w+1<=l.length; omega,hI.more (Ar _) λk hk=>?_⟩,?zy,by show l.length-(w+1)<l.length-w; omega⟩
  case zy=>
   (refine xN.same ?_; simp only [xQ,Fr.get,simprocAttr,-ZA,zS,hall,Bool.true_and,Bool.false_and])
   exact yB (by omega)
  ·simp only; rw [xX,if_neg (by omega)]
end
end Go.Pd
