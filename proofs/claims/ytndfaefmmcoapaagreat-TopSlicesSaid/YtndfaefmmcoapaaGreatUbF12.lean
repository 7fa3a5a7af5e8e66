/- Part F12. -/
import Derived.Test.YtndfaefmmcoapaaGreatUbX9
set_option linter.unusedSectionVars false
set_option linter.unusedVariables false
set_option linter.unusedSimpArgs false
set_option linter.defProp false
set_option maxRecDepth 20000
set_option maxHeartbeats 1000000
open Go.Proofs.Tryz
open List renaming length_append->γ,getD_eq_getElem?_getD->δ,length_singleton->ε,mem_singleton->ζ
open Bool renaming or_eq_false_iff->η,true_and->θ,and_eq_true->κ
open Nat renaming le_refl->μ,pow_le_pow_right->ν,or_lt_two_pow->ξ
open Int renaming toNat_of_nonneg->ο
open BitVec renaming ofInt_natCast->π,toNat_ofNat->τ
namespace Go.Pd
open Go Go.Proofs
open BitVec renaming isValue -> ZA
open Rs Fm
namespace Fm
def ig (i:Nat) (q:Nd) (s:CS):Int × CS:=match iG q s.out 0 with
 | some k=>(k,⟨s.out,xk i k s.done⟩)
 | none=>(s.out.length,⟨s.out ++ [q],xk i s.out.length s.done⟩)
theorem vY {xZ:List (Nat × Ob)} {k j:Nat} {o:Ob} (h:St.look xZ k=none):St.look (vN xZ j o) k=none:=by
 rw [xW]; split
 ·rw [h]; rfl
 ·exact h
theorem OE (l:List Nd) (q:Nd):∃ e r,ndR (l ++ [q])= e :: r:=by
 cases h:ndR (l ++ [q]) with
 | nil=>simp [ndR] at h
 | cons e r=>exact⟨e,r,rfl⟩
theorem lg {f:List Nd} {nx nx2:Nat} {objs2:List (Nat × Ob)} {key2:Nat} {s2:CS} {q:Nd} {i:Nat} (hI:bU f nx2 objs2 key2 s2) (h7:7<=nx) (hle:nx+1+1<=nx2) (hke:key2≠nx) (hlen:s2.out.length<=1000) :
  ∃ nx' objs' key',NT i nx nx2 objs2 key2 s2 q (.int .i64 (ig i q s2).1) ⟨nx',objs'⟩/\ bU f nx' objs' key' (ig i q s2).2/\nx2<=nx'/\(key'=key2\/nx2<=key')/\ ∀ k,7<=k->k<nx2->k≠key2->k≠nx->St.look objs' k=St.look objs2 k:=by
 obtain⟨hn,h0,h1,⟨k1,k2,k3,hkk⟩,hfr,h2,h3,h4,h5,h6⟩:=hI;unfold ig
 cases he:iG q s2.out 0 with
 | some k=>
  refine⟨nx2,_,key2,.inl ⟨k,he,rfl,rfl⟩,⟨hn,?_,?_,⟨k1,k2,k3,?_⟩,?_,?_,?_,?_,?_,?_⟩,μ _,.inl rfl,?_⟩
  ·rw [xW,if_neg (by omega),xW,if_neg (by omega)]; exact h0
  ·rw [xW,if_neg (by omega),xW,if_neg (by omega)]; exact h1
  ·rw [xW,if_neg (by omega),xW,if_neg (λe=>hke e.symm)]; exact hkk
  ·exact λj hj=>vY (vY (hfr j hj))
  ·rw [xW,if_neg (by omega),xW,if_neg (by omega)]; exact h2
  ·rw [xW,if_neg (by omega),xW,if_neg (by omega)]; exact h3
  ·rw [xW,if_pos rfl,xW,if_neg (by omega),h4]; rfl
  ·rw [xW,if_neg (by omega),xW,if_neg (by omega)]; exact h5
  ·rw [xW,if_neg (by omega),xW,if_neg (by omega)]; exact h6
  ·intro j a1 a2 a3 a4;rw [xW,if_neg (by omega),xW,if_neg (λe=>a4 e.symm)]
 | none=>
  obtain⟨e,r,hr⟩:=OE s2.out q
  have hlk:∀ j,j≠nx2->∀ (o1 o2 o4 oq:Ob),j≠1->j≠2->j≠4->j≠key2->j≠nx->St.look (xA nx2 6 (ndR (s2.out ++ [q]))++ vN (vN (vN (yC (vN objs2 nx oq) key2) 1 o1) 2 o2) 4 o4) j=St.look objs2 j:=λj b1 o1 o2 o4 oq b2 b3 b4 b5 b6=>by rw [xH,if_neg (λe=>b1 e.symm),xW,if_neg (λe=>b4 e.symm),xW,if_neg (λe=>b3 e.symm),xW,if_neg (λe=>b2 e.symm),xM,if_neg (λe=>b5 e.symm),xW,if_neg (λe=>b6 e.symm)]
  refine⟨nx2+1,_,nx2,.inr ⟨he,hlen,rfl,rfl⟩,⟨by omega,?_,?_,⟨by omega,by omega,by omega,?_⟩,?_,?_,?_,?_,?_,?_⟩,by omega,.inr (μ _),?_⟩
  ·rw [hlk 0 (by omega) _ _ _ _ (by omega) (by omega) (by omega) (by omega) (by omega)]; exact h0
  ·rw [xH,if_neg (by omega),xW,if_neg (by omega),xW,if_neg (by omega),xW,if_pos rfl,xM,if_neg (by omega),xW,if_neg (by omega),h1]; rfl
  ·rw [xH,if_pos rfl];show (vZ 6 (ndR (s2.out ++ [q]))).or _=vZ 6 (ndR (s2.out ++ [q]));rw [hr]; rfl
  ·intro j hj;rw [xH,if_neg (by omega)];refine vY (vY (vY ?_))
   rw [xM]; split
   ·rfl
   ·exact vY (hfr j (by omega))
  ·rw [xH,if_neg (by omega),xW,if_neg (by omega),xW,if_pos rfl,xW,if_neg (by omega),xM,if_neg (by omega),xW,if_neg (by omega),h2]; rfl
  ·rw [hlk 3 (by omega) _ _ _ _ (by omega) (by omega) (by omega) (by omega) (by omega)]; exact h3
  ·rw [xH,if_neg (by omega),xW,if_pos rfl,xW,if_neg (by omega),xW,if_neg (by omega),xM,if_neg (by omega),xW,if_neg (by omega),h4]; rfl
  ·rw [hlk 5 (by omega) _ _ _ _ (by omega) (by omega) (by omega) (by omega) (by omega)]; exact h5
  ·rw [hlk 6 (by omega) _ _ _ _ (by omega) (by omega) (by omega) (by omega) (by omega)]; exact h6
  ·intro j a1 a2 a3 a4;exact hlk j (by omega) _ _ _ _ (by omega) (by omega) (by omega) a3 a4
end Fm
open Rs Fm
namespace Fm
theorem aW {x:Int}:∀ {u:List (Int × Int)},vM x u=none->∀ p ∈ u,p.1≠x
 | [],_,p,hp=>by cases hp
 | (k,y) :: r,h,p,hp=>by
  unfold vM at h
  by_cases e:x=k
  ·rw [if_pos e] at h; cases h
  ·rw [if_neg e] at h
   rcases List.mem_cons.1 hp with rfl | hp
   ·exact λe'=>e e'.symm
   ·exact aW h p hp
theorem gh {x y:Int}:∀ {u:List (Int × Int)},vM x u=none->xk x y u=u ++ [(x,y)]
 | [],_=>rfl
 | (k,z) :: r,h=>by
  unfold vM at h
  by_cases e:x=k
  ·rw [if_pos e] at h; cases h
  ·rw [if_neg e] at h;unfold xk;rw [if_neg e,gh h]; rfl
structure bN (f : List Nd) (s : CS) : Prop where
 le:s.out.length<=s.done.length
 nd:(s.done.map (·.1)).Nodup
 rg:∀ p ∈ s.done,0<=p.1/\p.1<f.length
theorem bN.len {f:List Nd} {s:CS} (h:bN f s):s.out.length<=f.length:=by
 have:=dg f.length (s.done.map λp=>p.1.toNat) ?_ ?_
 ·rw [List.length_map] at this; have:=h.le; omega
 ·have h1:=h.nd;unfold List.Nodup at h1 ⊢;rw [List.pairwise_map] at h1 ⊢;refine h1.imp_of_mem λ{a b} ha hb hne e=>hne ?_;have:=(h.rg a ha).1;have:=(h.rg b hb).1;omega
 ·intro x hx;simp only [List.mem_map] at hx;obtain⟨p,hp,rfl⟩:=hx;have:=h.rg p hp;omega
theorem O0 {f:List Nd} {s:CS} {i:Nat} {q:Nd} (h:bN f s) (hi:i<f.length) (hno:vM i s.done=none):bN f (ig i q s).2/\∀ z:Int,z≠i->vM z (ig i q s).2.done=vM z s.done:=by
 have hput:∀ y,bN f ⟨s.out,xk i y s.done⟩/\ (xk i y s.done).length=s.done.length+1:=λy=>by
  rw [gh hno]
  refine⟨⟨by simp only [γ]; have:=h.le; omega,?_,?_⟩,by simp⟩
  ·rw [List.map_append];refine List.nodup_append.2 ⟨h.nd,by simp,λa ha b hb=>?_⟩;simp only [List.mem_map] at ha;obtain⟨p,hp,rfl⟩:=ha;simp only [List.map_cons,List.map_nil,ζ] at hb;subst hb;exact aW hno p hp
  ·intro p hp
   rcases List.mem_append.1 hp with hp | hp
   ·exact h.rg p hp
   ·rw [ζ.1 hp]; exact⟨by simp,by simpa using hi⟩
 unfold ig
 cases he:iG q s.out 0 with
 | some k=>exact⟨(hput _).1,λz hz=>by simp only; rw [sR,if_neg hz]⟩
 | none=> refine⟨⟨?_,(hput _).1.nd,(hput _).1.rg⟩,λz hz=>by simp only; rw [sR,if_neg hz]⟩;have:=(hput s.out.length).2;have:=h.le;simp only [γ,ε]; omega
theorem nL {p:Nd} {k:Int} (h:zG p k=0):((xV p.op).1.x=true->0<=p.x/\p.x<k)/\ ((xV p.op).1.y=true->0<=p.y/\p.y<k):=by
 unfold zG at h
 by_cases h1:(xV p.op).2=false
 ·rw [if_pos h1] at h; cases h
 rw [if_neg h1] at h
 by_cases h2:(yG (xV p.op).1.x p.x k&&yG (xV p.op).1.y p.y k)= false
 ·rw [if_pos h2] at h; cases h
 simp only [Bool.not_eq_false,κ] at h2
 refine⟨λhx=>?_,λhy=>?_⟩
 ·have:=h2.1;unfold yG at this;rw [if_pos hx,κ,decide_eq_true_eq,decide_eq_true_eq] at this;exact this
 ·have:=h2.2;unfold yG at this;rw [if_pos hy,κ,decide_eq_true_eq,decide_eq_true_eq] at this;exact this
theorem nA {f:List Nd} {n i:Nat} {s:CS} (hno:vM i s.done=none):xF f (n+1) i s =
  (let p:=f.getD i nd0
   let a:=if (xV p.op).1.x=true then xF f n p.x.toNat s else(p.x,s)
   let b:=if (xV p.op).1.y=true then xF f n p.y.toNat a.2 else(p.y,a.2)
   ig i ⟨p.op,p.i,p.e,p.g,a.1,b.1⟩ b.2):=by
 rw [xF,hno]; rfl
theorem oB {f:List Nd} (hc:∀ k,k<f.length->zG (f.getD k nd0) k=0):∀ (n:Nat) {i:Nat} {s:CS},i<n->i<f.length->bN f s->bN f (xF f n i s).2/\∀ z:Int,(i:Int)<z->vM z (xF f n i s).2.done=vM z s.done
 | 0,i,s,h,_,_=>by omega
 | n + 1,i,s,h,hi,hs=>by
  cases hu:vM i s.done with
  | some k=>rw [xF,hu]; exact⟨hs,λ_ _=>rfl⟩
  | none=>
   rw [nA hu];obtain⟨ox,oy⟩:=nL (hc i hi);simp only;generalize f.getD i nd0=p at ox oy
   have ha:bN f (if (xV p.op).1.x=true then xF f n p.x.toNat s else(p.x,s)).2/\∀ z:Int,(i:Int)<=z->vM z (if (xV p.op).1.x=true then xF f n p.x.toNat s else(p.x,s)).2.done=vM z s.done:=by
    by_cases hx:(xV p.op).1.x=true
    ·rw [if_pos hx];have:=ox hx;obtain⟨b1,b2⟩:=oB hc n (i:=p.x.toNat) (s:=s) (by omega) (by omega) hs;exact⟨b1,λz hz=>b2 z (by omega)⟩
    ·rw [if_neg hx]; exact⟨hs,λ_ _=>rfl⟩
   generalize (if (xV p.op).1.x=true then xF f n p.x.toNat s else(p.x,s))= a at ha;obtain⟨a1,a2⟩:=ha
   have hb:bN f (if (xV p.op).1.y=true then xF f n p.y.toNat a.2 else(p.y,a.2)).2/\∀ z:Int,(i:Int)<=z->vM z (if (xV p.op).1.y=true then xF f n p.y.toNat a.2 else(p.y,a.2)).2.done=vM z a.2.done:=by
    by_cases hy:(xV p.op).1.y=true
    ·rw [if_pos hy];have:=oy hy;obtain⟨b1,b2⟩:=oB hc n (i:=p.y.toNat) (s:=a.2) (by omega) (by omega) a1;exact⟨b1,λz hz=>b2 z (by omega)⟩
    ·rw [if_neg hy]; exact⟨a1,λ_ _=>rfl⟩
   generalize (if (xV p.op).1.y=true then xF f n p.y.toNat a.2 else(p.y,a.2))= b at hb;obtain⟨b1,b2⟩:=hb;obtain⟨e1,e2⟩:=O0 (q:=⟨p.op,p.i,p.e,p.g,a.1,b.1⟩) b1 hi (by rw [b2 i (by omega),a2 i (by omega)]; exact hu);exact⟨e1,λz hz=>by rw [e2 z (by omega),b2 z (by omega),a2 z (by omega)]⟩
end Fm
open Rs Fm
namespace Fm
theorem Rc (op:Int) (h:(xV op).1.y=true):(xV op).1.x=true:=by
 have hc:op=1\/op=2\/op=3\/op=4\/op=5\/op=6\/op=7\/op=8\/op=9\/op=10\/op=11\/op=12\/op=13\/op=14\/op=15\/op=16\/op=17\/op=18\/op=19\/op=20\/op=21\/(op<1\/21<op):=by omega
 rcases hc with rfl | rfl | rfl | rfl | rfl | rfl | rfl | rfl | rfl | rfl | rfl | rfl | rfl | rfl | rfl | rfl | rfl | rfl | rfl | rfl | rfl | hc
 rotate_right
 ·rw [show xV op=(gU,false) from if_pos hc] at h; cases h
 all_goals simp [xV,gU] at h ⊢
theorem bU.N5 {f:List Nd} {nx:Nat} {xZ:List (Nat × Ob)} {key:Nat} {s:CS} (h:bU f nx xZ key s):∃ key',bU f nx xZ key' s/\((s.out = []/\key'=nx+4)\/(s.out ≠ []/\key'=key/\key'<nx)):=by
 obtain⟨hn,h0,h1,⟨k1,k2,k3,hkk⟩,hfr,h2,h3,h4,h5,h6⟩:=h
 by_cases ho:s.out = []
 ·refine⟨nx+4,⟨hn,h0,?_,⟨by omega,by omega,by omega,?_⟩,hfr,h2,h3,h4,h5,h6⟩,.inl ⟨ho,rfl⟩⟩
  ·rw [h1,ho]; rfl
  ·rw [hfr _ (by omega),ho]; rfl
 ·refine⟨key,⟨hn,h0,h1,⟨k1,k2,k3,hkk⟩,hfr,h2,h3,h4,h5,h6⟩,.inr ⟨ho,rfl,?_⟩⟩
  by_cases hlt:key<nx
  ·exact hlt
  ·rw [hfr key (by omega)] at hkk
   cases hd:ndR s.out with
   | nil=>simp [ndR] at hd; exact absurd hd ho
   | cons e r=>rw [hd] at hkk; cases hkk
theorem bU.alloc {f:List Nd} {nx:Nat} {xZ:List (Nat × Ob)} {key:Nat} {s:CS} (h:bU f nx xZ key s) (hk:key<nx\/key=nx+4) (o1 o2:Ob):bU f (nx+1+1) ((nx+1,o1) :: (nx,o2) :: xZ) key s:=by
 obtain⟨hn,h0,h1,⟨k1,k2,k3,hkk⟩,hfr,h2,h3,h4,h5,h6⟩:=h
 have hl:∀ k,k≠nx->k≠nx+1->St.look ((nx+1,o1) :: (nx,o2) :: xZ) k=St.look xZ k:=λk a b=>by rw [xX,if_neg (λe=>b e.symm),xX,if_neg (λe=>a e.symm)]
 refine⟨by omega,?_,?_,⟨k1,by omega,by omega,?_⟩,?_,?_,?_,?_,?_,?_⟩
 ·rw [hl 0 (by omega) (by omega)]; exact h0
 ·rw [hl 1 (by omega) (by omega)]; exact h1
 ·rw [hl key k2 k3]; exact hkk
 ·intro k hk2; rw [hl k (by omega) (by omega)]; exact hfr k (by omega)
 ·rw [hl 2 (by omega) (by omega)]; exact h2
 ·rw [hl 3 (by omega) (by omega)]; exact h3
 ·rw [hl 4 (by omega) (by omega)]; exact h4
 ·rw [hl 5 (by omega) (by omega)]; exact h5
 ·rw [hl 6 (by omega) (by omega)]; exact h6
theorem bU.set {f:List Nd} {nx:Nat} {xZ:List (Nat × Ob)} {key:Nat} {s:CS} (h:bU f nx xZ key s) {j:Nat} (hj:7<=j) (hk:key≠j) (o:Ob):bU f nx (vN xZ j o) key s:=by
 obtain⟨hn,h0,h1,⟨k1,k2,k3,hkk⟩,hfr,h2,h3,h4,h5,h6⟩:=h;have hl:∀ k,k≠j->St.look (vN xZ j o) k=St.look xZ k:=λk a=>by rw [xW,if_neg (λe=>a e.symm)]
 refine⟨hn,?_,?_,⟨k1,k2,k3,?_⟩,?_,?_,?_,?_,?_,?_⟩
 ·rw [hl 0 (by omega)]; exact h0
 ·rw [hl 1 (by omega)]; exact h1
 ·rw [hl key hk]; exact hkk
 ·exact λk hk2=>vY (hfr k hk2)
 ·rw [hl 2 (by omega)]; exact h2
 ·rw [hl 3 (by omega)]; exact h3
 ·rw [hl 4 (by omega)]; exact h4
 ·rw [hl 5 (by omega)]; exact h5
 ·rw [hl 6 (by omega)]; exact h6
end Fm
theorem VE {f:List Nd} {nx:Nat} {xZ:List (Nat × Ob)} {key:Nat} {s:CS} {i:Nat} {k:Int} (hI:bU f nx xZ key s) (hu:vM i s.done=some k) :
  xY prog 202 [.int .i64 i,.ref 5 1 0 0,.ref 0 1 0 0,.ref 6 1 0 0,.ref 3 1 0 0,.ref 1 1 0 0] ⟨nx,xZ⟩ (.int .i64 k) ⟨nx,xZ⟩:=by
 obtain⟨hn,h0,h1,hk,hfr,h2,h3,h4,h5,h6⟩:=hI
 rcases kH (i:Int) s.done 0 with ⟨q1,q2⟩ | ⟨y,j,q1,q2⟩
 ·rw [hu] at q1; cases q1
 ·rw [hu] at q1; cases q1;refine xY.xP mixed func202 NX (by simp) λhf=>?_;simp only [simprocAttr,-ZA,↓zU,↓zD,zV,zT,zW,h5,h4,q2]
  (repeat refine sd ?_)
  exact .same
theorem dY {f:List Nd} (hc:∀ k,k<f.length->zG (f.getD k nd0) k=0) (hlen:f.length<=900):∀ (n:Nat) {i nx:Nat} {xZ:List (Nat × Ob)} {key:Nat} {s:CS},i<n->i<f.length->bN f s->bU f nx xZ key s ->
  ∃ nx' objs' key',bU f nx' objs' key' (xF f n i s).2/\nx<=nx'/\(key'=key\/nx<=key')/\ (∀ k,7<=k->k<nx->(k≠key\/s.out = [])->St.look objs' k=St.look xZ k)/\
   xY prog 202 [.int .i64 i,.ref 5 1 0 0,.ref 0 1 0 0,.ref 6 1 0 0,.ref 3 1 0 0,.ref 1 1 0 0] ⟨nx,xZ⟩ (.int .i64 (xF f n i s).1) ⟨nx',objs'⟩
 | 0,i,nx,xZ,key,s,h,_,_,_=>by omega
 | n + 1,i,nx,xZ,key,s,h,hi,hs,hI=>by
  cases hu:vM i s.done with
  | some k=> rw [xF,hu];exact⟨nx,xZ,key,hI,μ _,.inl rfl,λ_ _ _ _=>rfl,VE hI hu⟩
  | none=>
   rw [nA hu];obtain⟨ox,oy⟩:=nL (hc i hi);simp only;generalize hp:f.getD i nd0=p at ox oy;obtain⟨ky,hI',hky⟩:=hI.N5;have hn:=hI'.hn;have hkc:ky<nx\/ky=nx+4:=by rcases hky with ⟨_,h⟩ | ⟨_,_,h⟩; exact .inr h; exact .inl h
   have hA:=hI'.alloc hkc (iv (xV p.op).1) (gQ p.op p.i p.e p.g p.x p.y)
   have hkk:∀ k,k<nx->(k≠key\/s.out = [])->k≠ky:=λk h1 h2=>by
    rcases hky with ⟨_,e⟩ | ⟨ho,e,_⟩
    ·omega
    ·rcases h2 with h2 | h2
     ·rw [e]; exact h2
     ·exact absurd h2 ho
   have hkey:∀ k',k'=ky\/nx<=k'->k'=key\/nx<=k':=λk' h=>by
    rcases h with h | h
    ·rcases hky with ⟨_,e⟩ | ⟨_,e,_⟩
     ·exact .inr (by omega)
     ·exact .inl (by rw [h,e])
    ·exact .inr h
   have hA0:∀ k,k<nx->St.look ((nx+1,iv (xV p.op).1) :: (nx,gQ p.op p.i p.e p.g p.x p.y) :: xZ) k=St.look xZ k:=λk hk=>by rw [xX,if_neg (by omega),xX,if_neg (by omega)]
   by_cases hx:(xV p.op).1.x=true
   ·obtain⟨hx1,hx2⟩:=ox hx;have hxn:((p.x.toNat:Nat):Int)= p.x:=ο hx1;obtain⟨nx1,objs1,key1,I1,l1,kk1,fr1,c1⟩:=dY hc hlen n (i:=p.x.toNat) (by omega) (by omega) hs hA;have f1:=(oB hc n (i:=p.x.toNat) (s:=s) (by omega) (by omega) hs);rw [if_pos hx];rw [hxn] at c1;generalize xF f n p.x.toNat s=a at I1 c1 f1
    have hN:St.look objs1 nx=some (gQ p.op p.i p.e p.g p.x p.y):=by rw [fr1 nx hn (by omega) (.inl (by omega)),xX,if_neg (by omega),xX,if_pos rfl]
    have hU:St.look objs1 (nx+1)= some (iv (xV p.op).1):=by rw [fr1 (nx+1) (by omega) (by omega) (.inl (by omega)),xX,if_pos rfl]
    have hk1:key1≠nx:=by omega
    by_cases hy:(xV p.op).1.y=true
    ·obtain⟨hy1,hy2⟩:=oy hy;have hyn:((p.y.toNat:Nat):Int)= p.y:=ο hy1;obtain⟨nx2,objs2,key2,I2,l2,kk2,fr2,c2⟩:=dY hc hlen n (i:=p.y.toNat) (by omega) (by omega) f1.1 (I1.set (j:=nx) hn hk1 (gQ p.op p.i p.e p.g a.1 p.y));have f2:=(oB hc n (i:=p.y.toNat) (s:=a.2) (by omega) (by omega) f1.1);rw [if_pos hy];rw [hyn] at c2;generalize xF f n p.y.toNat a.2=b at I2 c2 f2
     have hN2:St.look objs2 nx=some (gQ p.op p.i p.e p.g a.1 p.y):=by rw [fr2 nx hn (by omega) (.inl (by omega)),xW,if_pos rfl,hN]; rfl
     have hk2:key2≠nx:=by omega
     obtain⟨nx',objs',key',e1,e2,e3,e4,e5⟩:=lg (q:=⟨p.op,p.i,p.e,p.g,a.1,b.1⟩) (i:=i) (nx:=nx) I2 (by omega) (by omega) hk2 (by have:=f2.1.len; omega);refine⟨nx',objs',key',e2,by omega,hkey _ (by omega),λk a1 a2 a3=>?_,ZW hI' hi (by omega) hp hu hx hy c1 I1 hN hU c2 I2 hN2 (by omega) hk2 e1⟩;have hk3:=hkk k a2 a3;rw [e5 k a1 (by omega) (by omega) (by omega),fr2 k a1 (by omega) (.inl (by omega)),xW,if_neg (by omega),fr1 k a1 (by omega) (.inl hk3)];exact hA0 k a2
    ·rw [if_neg hy];obtain⟨nx',objs',key',e1,e2,e3,e4,e5⟩:=lg (q:=⟨p.op,p.i,p.e,p.g,a.1,p.y⟩) (i:=i) (nx:=nx) I1 (by omega) (by omega) hk1 (by have:=f1.1.len; omega);refine⟨nx',objs',key',e2,by omega,hkey _ (by omega),λk a1 a2 a3=>?_,VF hI' hi (by omega) hp hu hx (by simpa using hy) c1 I1 hN hU (by omega) hk1 e1⟩;have hk3:=hkk k a2 a3;rw [e5 k a1 (by omega) (by omega) (by omega),fr1 k a1 (by omega) (.inl hk3)];exact hA0 k a2
   ·have hy:¬ (xV p.op).1.y=true:=λhy=>hx (Rc _ hy);rw [if_neg hx,if_neg hy];obtain⟨nx',objs',key',e1,e2,e3,e4,e5⟩:=lg (q:=p) (i:=i) (nx:=nx) hA (by omega) (by omega) (by omega) (by have:=hs.len; omega)
    refine⟨nx',objs',key',e2,by omega,?_,λk a1 a2 a3=>?_,Rj hI' hi (by omega) hp hu (by simpa using hx) (by simpa using hy) e1⟩
    ·rcases e4 with e4 | e4
     ·exact hkey _ (.inl e4)
     ·exact .inr (by omega)
    ·rw [e5 k a1 (by omega) (hkk k a2 a3) (by omega)];exact hA0 k a2
open Rs Fm
theorem qj {f:List Nd} {i:Nat} (hc:∀ k,k<f.length->zG (f.getD k nd0) k=0) (hlen:f.length<=900) (hi:i<f.length):zX prog 143 [.sl 6 (ndR f),.int .i64 i] (.sl 6 (ndR (uW f i))):=by
 have hI0:bU f 7 [(6,⟨1,[[.fn 202 [.ref 5 1 0 0,.ref 0 1 0 0,.ref 6 1 0 0,.ref 3 1 0 0,.ref 1 1 0 0]]]⟩),(5,⟨1,[[.zE 4]]⟩),(4,⟨0,[]⟩),(3,⟨1,[[.zE 2]]⟩),(2,⟨0,[]⟩),(1,⟨1,[[.xK]]⟩),(0,⟨1,[[.sl 6 (ndR f)]]⟩)] 11 ⟨[],[]⟩:=by refine⟨μ _,by simp [St.look],by simp [St.look,ndR,xD],⟨by omega,by omega,by omega,by simp [St.look,ndR,vZ]⟩,λk hk=>?_,by simp [St.look,bZ,oY],by simp [St.look],by simp [St.look,mo,rB],by simp [St.look],by simp [St.look]⟩;simp only [xX,look_nil];rw [if_neg (by omega),if_neg (by omega),if_neg (by omega),if_neg (by omega),if_neg (by omega),if_neg (by omega),if_neg (by omega)]
 obtain⟨nx',objs',key',I1,_,_,_,c1⟩:=dY hc hlen (i+1) (i:=i) (by omega) hi ⟨μ _,by simp,λp hp=>by cases hp⟩ hI0;have e:(xF f (i+1) i ⟨[],[]⟩).2.out=uW f i:=rfl;have h1:=I1.h1;have hk:=I1.hk.2.2.2;rw [e] at h1 hk;refine xY.xP mixed func143 L3 (by simp) λhf=>?_;simp only [simprocAttr,-ZA,↓zU,↓zD,zV,zT,zW]
 (repeat refine sd ?_)
 refine .go c1 ?_;simp only [simprocAttr,-ZA,↓zU,↓zD,zV,zT,zW,h1]
 (repeat refine sd ?_)
 exact .drop (by simp) (iO (by simp) (wq _) hk)
namespace Fm
theorem vX {f:List Nd} (h:yN f=0):f ≠ []/\f.length<=200/\∀ k,k<f.length->zG (f.getD k nd0) k=0:=by
 unfold yN at h
 by_cases h1:f = []
 ·rw [if_pos h1] at h; cases h
 rw [if_neg h1] at h
 by_cases h2:200<f.length
 ·rw [if_pos h2] at h; cases h
 rw [if_neg h2] at h;refine⟨h1,by omega,λk hk=>?_⟩;have:=WL h k hk
 rwa [Int.zero_add] at this
def ou (f:List Nd) (i:Int):List Nd:=if yN f≠0\/i<0\/(f.length:Int)<=i then [] else uW f i.toNat
def xB (f:List Nd):List Nd:=ou f ((f.length:Int)-1)
end Fm
theorem Mf (f:List Nd) (i:Int):zX prog 149 [.sl 6 (ndR f),.int .i64 i] (.sl 6 (ndR (ou f i))):=by
 refine xY.xP mixed func149 L9 (by simp) λhf=>?_;simp only [simprocAttr,-ZA,↓zU,↓zD,zV,zT,zW];refine .go (cr (nJ f)) ?_;by_cases hc:yN f=0
 case neg=> have e:(yN f != 0)= true:=bne_iff_ne.2 hc;simp only [simprocAttr,-ZA,↓zU,↓zD,zV,zT,zW,e];rw [show ou f i = [] from if_pos (.inl hc)];exact .drop (by simp) (by simp [vw,ndR])
 have e:(yN f != 0)= false:=by simpa using hc
 by_cases h1:i<0
 ·simp only [simprocAttr,-ZA,↓zU,↓zD,zV,zT,zW,e,h1];rw [show ou f i = [] from if_pos (.inr (.inl h1))];exact .drop (by simp) (by simp [vw,ndR])
 by_cases h2:(f.length:Int)<=i
 ·simp only [simprocAttr,-ZA,↓zU,↓zD,zV,zT,zW,e,h1,xE,h2];rw [show ou f i = [] from if_pos (.inr (.inr h2))];exact .drop (by simp) (by simp [vw,ndR])
 obtain⟨j,rfl⟩:=Int.eq_ofNat_of_zero_le (show 0<=i by omega);obtain⟨c1,c2,c3⟩:=vX hc;rw [show ou f j=uW f j by rw [ou,if_neg (by omega),Int.toNat_natCast]];simp only [simprocAttr,-ZA,↓zU,↓zD,zV,zT,zW,e,h1,xE,h2];refine .go (xY.yO (qj c3 (by omega) (show j<f.length by omega)) (by simp [D.xU,D.xL])) ?_;simp only [simprocAttr,-ZA,↓zU,↓zD,zV,zT,zW];exact .same
theorem cV (f:List Nd):zX prog 103 [.sl 6 (ndR f)] (.sl 6 (ndR (xB f))):=by refine xY.xP mixed func103 Ke (by simp) λhf=>?_;simp only [D.sT,D.fact,xE] at hf;have hlen:=hf.1.1;have e:IntKind.i64.wrap ((f.length:Int)-1)= (f.length:Int)-1:=wrap_i64 (by omega);simp only [simprocAttr,-ZA,↓zU,↓zD,zV,zT,zW,xE,e];refine .go (xY.yO (Mf f ((f.length:Int)-1)) (by simp [D.xU,D.xL])) ?_;simp only [simprocAttr,-ZA,↓zU,↓zD,zV,zT,zW];exact .same
open Rs Fm
theorem Mx {a b:Nat} (ha:a<2 ^ 62) (hb:b<2 ^ 62):pJ .or .i64 (a:Int) (b:Int)= ((a ||| b:Nat):Int):=by show IntKind.i64.wrap ((BitVec.ofInt 64 (a:Int) ||| BitVec.ofInt 64 (b:Int)).toNat:Int)= _;rw [π,π,BitVec.toNat_or,τ,τ,Nat.mod_eq_of_lt (by omega),Nat.mod_eq_of_lt (by omega)];have:=ξ ha hb;exact wrap_i64 (by omega)
namespace Fm
def vD (m:Nd->Nat) (l:List Nd):Nat:=l.foldl (λa p=>a ||| m p) 0
theorem ka (m:Nd->Nat) (l:List Nd) (p:Nd):vD m (l ++ [p])= vD m l ||| m p:=by simp [vD]
theorem eV {m:Nd->Nat} {l:List Nd} (h:∀ p ∈ l,m p<4096):vD m l<2 ^ 12:=by
 have key:∀ (l:List Nd) (a:Nat),a<2 ^ 12->(∀ p ∈ l,m p<4096)->l.foldl (λa p=>a ||| m p) a<2 ^ 12:=by
  intro l
  induction l with
  | nil=>intro a ha _; exact ha
  | cons p r ih=>intro a ha h; exact ih _ (ξ ha (h p (by simp))) λq hq=>h q (by simp [hq])
 exact key l 0 (by decide) h
end Fm
theorem nf {f:List Nd} {g:FuncId} {m:Nd->Nat} (hm:∀ p ∈ xB f,m p<4096) (h:∀ p ∈ xB f,zX prog g [.agg p.row,.agg (xV p.op).1.row] (.int .i64 (m p))) (hlen:(xB f).length<=1000) :
  zX prog 111 [.sl 6 (ndR f),.fn g []] (.int .i64 (vD m (xB f))):=by
 refine xY.xP mixed func111 Kk (by simp) λhf=>?_;simp only [simprocAttr,-ZA,↓zU,↓zD,zV,zT,zW];refine .go (cr (cV f)) ?_;generalize xB f=l at hm h hlen;simp only [simprocAttr,-ZA,↓zU,↓zD,zV,zT,zW,xE]
 refine xT (λk:Nat=>[(13,.int .i64 k),(12,.int .i64 l.length),(11,.sl 6 (ndR l)),(5,.int .i64 (vD m (l.take k))),(1,.fn g [])]) (λ_=>⟨0,[]⟩) (λk=>k<=l.length) (λk=>l.length-k) 0 (Nat.zero_le _) ?_ ?_
 ·(refine xN.same ?_; simp [xQ,Fr.get,vD])
 intro k hk;refine xO mixed ?_;by_cases hh:k<l.length
 case neg=>
  have hd:¬ ((k:Int)<(l.length:Int)):=by omega
  rw [tO (show k=l.length by omega)];simp only [simprocAttr,-ZA,↓zU,↓zD,zV,zT,zW,hd];exact .same
 have hd:((k:Int)<(l.length:Int)):=by omega
 have hs:vD m (l.take (k+1))= vD m (l.take k) ||| m (l.getD k nd0):=by rw [zK (d:=nd0) hh,ka]
 have hg:=oL l hh;have hmem:=xR (d:=nd0) hh;have hlt:vD m (l.take k)<2 ^ 12:=eV λp hp=>hm p (List.mem_of_mem_take hp);generalize l.getD k nd0=p at hs hg hmem;have hmp:=hm p hmem;simp only [simprocAttr,-ZA,↓zU,↓zD,zV,zT,zW,hd,xE,hg,Nd.row]
 (repeat refine sd ?_)
 refine .go (cq (bF p.op)) ?_;simp only [simprocAttr,-ZA,↓zU,↓zD,zV,zT,zW,Use.row]
 (repeat refine sd ?_)
 refine .go (xY.yO (h p hmem) (by simp [D.xU,D.xL,Nd.row,Use.row])) ?_;simp only [simprocAttr,-ZA,↓zU,↓zD,zV,zT,zW,Mx (show vD m (l.take k)<2 ^ 62 by omega) (show m p<2 ^ 62 by omega)];refine⟨k+1,by omega,?_,by omega⟩;rw [hs]
 (refine xN.view (λk=>k) (by simp) (by simp) ?_ (by simp [stays]) (by simp [uQ]); simp [vwF,vw,vwL,Fr.get])
 exact wrap_i64 (by omega)
open Rs Fm
namespace Fm
theorem yt (op:Int):0<=(xV op).1.fr/\(xV op).1.fr<=256:=by
 have hc:op=1\/op=2\/op=3\/op=4\/op=5\/op=6\/op=7\/op=8\/op=9\/op=10\/op=11\/op=12\/op=13\/op=14\/op=15\/op=16\/op=17\/op=18\/op=19\/op=20\/op=21\/(op<1\/21<op):=by omega
 rcases hc with rfl | rfl | rfl | rfl | rfl | rfl | rfl | rfl | rfl | rfl | rfl | rfl | rfl | rfl | rfl | rfl | rfl | rfl | rfl | rfl | rfl | hc
 rotate_right
 ·rw [show xV op=(gU,false) from if_pos hc]; exact⟨by decide,by decide⟩
 all_goals simp [xV,gU]
def fU (p:Nd):Nat:=(xV p.op).1.fr.toNat
def zC (f:List Nd):Nat:=vD fU (xB f)
theorem Xw {f:List Nd} {i:Nat} (hc:∀ k,k<f.length->zG (f.getD k nd0) k=0) (hi:i<f.length):(uW f i).length<=f.length:=(oB hc (i+1) (i:=i) (s:=⟨[],[]⟩) (by omega) hi ⟨μ _,by simp,λp hp=>by cases hp⟩).1.len
theorem fI (f:List Nd) (i:Int):(ou f i).length<=200:=by
 unfold ou
 by_cases h:yN f≠0\/i<0\/(f.length:Int)<=i
 ·rw [if_pos h]; simp
 ·rw [if_neg h];obtain⟨c1,c2,c3⟩:=vX (f:=f) (by omega);have:=Xw c3 (i:=i.toNat) (by omega);omega
end Fm
theorem zo (f:List Nd):zX prog 53 [.sl 6 (ndR f)] (.int .i64 (zC f)):=by
 refine xY.xP mixed func53 k53 (by simp) λhf=>?_;simp only [simprocAttr,-ZA,↓zU,↓zD,zV,zT,zW]
 refine .go (xY.yO (nf (m:=fU) (λp _=>by have:=yt p.op; unfold fU; omega) (λp _=>?_) (by have:=fI f ((f.length:Int)-1); unfold xB; omega)) rfl) ?_
 ·have h:=QO p (xV p.op).1;have:=yt p.op;rw [show ((fU p:Nat):Int)= (xV p.op).1.fr from ο this.1];exact h
 simp only [simprocAttr,-ZA,↓zU,↓zD,zV,zT,zW];exact .same
open Rs Fm
namespace Fm
def iB (m:Nat) (n:Int):Bool:=decide (31<=n) || decide (m / 2 ^ n.toNat=0)
end Fm
theorem SY (m:Nat) (n:Int):zX prog 146 [.int .i64 m,.int .i64 n] (.bool (iB m n)):=by
 refine xY.xP mixed func146 L6 (by simp) λhf=>?_
 by_cases h1:31<=n
 ·simp only [simprocAttr,-ZA,↓zU,↓zD,zV,zT,zW,h1];exact .drop (by simp) (by simp [vw,iB,h1])
 have e:max n 0=((n.toNat:Nat):Int):=by omega
 have e2:max 0 n=((n.toNat:Nat):Int):=by omega
 have hb:(((m / 2 ^ n.toNat:Nat):Int)== 0)= decide (m / 2 ^ n.toNat=0):=by rw [Bool.eq_iff_iff,beq_iff_eq,decide_eq_true_iff]; omega
 simp only [simprocAttr,-ZA,↓zU,↓zD,zV,zT,zW,h1,OD,e,e2,Sk m n.toNat (by omega),hb]
 (repeat refine sd ?_)
 exact .drop (by simp) (by simp [vw,iB,h1])
open Rs Fm
namespace Fm
theorem wI {p:Nd} {k:Int}:zG p k=0 ↔ (xV p.op).2=true/\yG (xV p.op).1.x p.x k=true/\yG (xV p.op).1.y p.y k=true /\
  ((!((xV p.op).1.fa || (xV p.op).1.ag || (xV p.op).1.ev)&& decide (p.i≠0)) || (!(xV p.op).1.ev&&decide (p.e≠0)) || (!(xV p.op).1.gr&&decide (p.g≠0)))= false /\
  (yX (xV p.op).1.fa p.i 0 7 || yX (xV p.op).1.ag p.i 0 3 || yX (xV p.op).1.ev p.i 0 7 || yX (xV p.op).1.ev p.e 0 7 || yX (xV p.op).1.gr p.g 1 15)= false:=by
 unfold zG
 cases h1:(xV p.op).2
 ·simp
 cases h2:yG (xV p.op).1.x p.x k
 ·simp
 cases h3:yG (xV p.op).1.y p.y k
 ·simp
 generalize ((!((xV p.op).1.fa || (xV p.op).1.ag || (xV p.op).1.ev)&& decide (p.i≠0)) || (!(xV p.op).1.ev&&decide (p.e≠0)) || (!(xV p.op).1.gr&&decide (p.g≠0)))= c;generalize (yX (xV p.op).1.fa p.i 0 7 || yX (xV p.op).1.ag p.i 0 3 || yX (xV p.op).1.ev p.i 0 7 || yX (xV p.op).1.ev p.e 0 7 || yX (xV p.op).1.gr p.g 1 15)= d;cases c <;> cases d <;> simp
theorem jY {p:Nd} {a b k k':Int} (h:zG p k=0) (ha:if (xV p.op).1.x=true then 0<=a/\a<k' else a=p.x) (hb:if (xV p.op).1.y=true then 0<=b/\b<k' else b=p.y):zG ⟨p.op,p.i,p.e,p.g,a,b⟩ k'=0:=by
 rw [wI] at h ⊢;obtain⟨h1,h2,h3,h4,h5⟩:=h
 refine⟨h1,?_,?_,h4,h5⟩
 ·simp only
  cases hx:(xV p.op).1.x
  ·rw [hx] at ha h2;rw [if_neg (by simp)] at ha;rw [ha]; exact h2
  ·rw [hx,if_pos rfl] at ha;simp [yG,ha]
 ·simp only
  cases hx:(xV p.op).1.y
  ·rw [hx] at hb h3;rw [if_neg (by simp)] at hb;rw [hb]; exact h3
  ·rw [hx,if_pos rfl] at hb;simp [yG,hb]
structure PZ (s : CS) : Prop where
 nd:∀ k,k<s.out.length->zG (s.out.getD k nd0) k=0
 dn:∀ z k:Int,vM z s.done=some k->0<=k/\k<s.out.length
theorem Zw {q:Nd}:∀ {l:List Nd} {k j:Nat},iG q l k=some j->k<=j/\j<k+l.length
 | [],_,_,h=>by cases h
 | p :: r,k,j,h=>by
  unfold iG at h
  by_cases e:q=p
  ·rw [if_pos e] at h; cases h; simp
  ·rw [if_neg e] at h;have:=Zw h;simp only [List.length_cons]; omega
theorem Nx {s:CS} {i:Nat} {q:Nd} (h:PZ s) (hq:zG q s.out.length=0):PZ (ig i q s).2/\0<=(ig i q s).1/\(ig i q s).1<(ig i q s).2.out.length/\s.out.length<=(ig i q s).2.out.length:=by
 unfold ig
 cases he:iG q s.out 0 with
 | some k=>
  have hk:=Zw he;refine⟨⟨h.nd,λz j hz=>?_⟩,by simp,by simp only; omega,μ _⟩;simp only at hz;rw [sR] at hz
  by_cases e:z=i
  ·rw [if_pos e] at hz; cases hz; simp only; omega
  ·rw [if_neg e] at hz; exact h.dn z j hz
 | none=>
  refine⟨⟨λk hk=>?_,λz j hz=>?_⟩,by simp,by simp; omega,by simp⟩
  ·simp only [γ,ε] at hk
   by_cases hl:k<s.out.length
   ·have:=h.nd k hl;simp only [δ] at this ⊢
    rwa [List.getElem?_append_left hl]
   ·obtain rfl:k=s.out.length:=by omega
    simpa [δ] using hq
  ·simp only at hz;rw [sR] at hz
   by_cases e:z=i
   ·rw [if_pos e] at hz; cases hz; simp; omega
   ·rw [if_neg e] at hz;have:=h.dn z j hz;simp only [γ,ε]; omega
theorem jV {f:List Nd} (hc:∀ k,k<f.length->zG (f.getD k nd0) k=0):∀ (n:Nat) {i:Nat} {s:CS},i<n->i<f.length->PZ s ->
  PZ (xF f n i s).2/\0<=(xF f n i s).1/\(xF f n i s).1<(xF f n i s).2.out.length/\s.out.length<=(xF f n i s).2.out.length
 | 0,i,s,h,_,_=>by omega
 | n + 1,i,s,h,hi,hs=>by
  cases hu:vM i s.done with
  | some k=>rw [xF,hu]; exact⟨hs,(hs.dn _ _ hu).1,(hs.dn _ _ hu).2,μ _⟩
  | none=>
   rw [nA hu];have hp:=hc i hi;obtain⟨ox,oy⟩:=nL hp;simp only;generalize f.getD i nd0=p at ox oy hp
   have ha:PZ (if (xV p.op).1.x=true then xF f n p.x.toNat s else(p.x,s)).2/\(if (xV p.op).1.x=true then 0<=(if (xV p.op).1.x=true then xF f n p.x.toNat s else(p.x,s)).1/\(if (xV p.op).1.x=true then xF f n p.x.toNat s else(p.x,s)).1<(if (xV p.op).1.x=true then xF f n p.x.toNat s else(p.x,s)).2.out.length else(if (xV p.op).1.x=true then xF f n p.x.toNat s else(p.x,s)).1=p.x)/\ s.out.length<=(if (xV p.op).1.x=true then xF f n p.x.toNat s else(p.x,s)).2.out.length:=by
    by_cases hx:(xV p.op).1.x=true
    ·simp only [if_pos hx];have:=ox hx;obtain⟨b1,b2,b3,b4⟩:=jV hc n (i:=p.x.toNat) (s:=s) (by omega) (by omega) hs;exact⟨b1,⟨b2,b3⟩,b4⟩
    ·simp only [if_neg hx]; exact⟨hs,trivial,μ _⟩
   generalize (if (xV p.op).1.x=true then xF f n p.x.toNat s else(p.x,s))= a at ha;obtain⟨a1,a2,a3⟩:=ha
   have hb:PZ (if (xV p.op).1.y=true then xF f n p.y.toNat a.2 else(p.y,a.2)).2/\(if (xV p.op).1.y=true then 0<=(if (xV p.op).1.y=true then xF f n p.y.toNat a.2 else(p.y,a.2)).1/\(if (xV p.op).1.y=true then xF f n p.y.toNat a.2 else(p.y,a.2)).1<(if (xV p.op).1.y=true then xF f n p.y.toNat a.2 else(p.y,a.2)).2.out.length else(if (xV p.op).1.y=true then xF f n p.y.toNat a.2 else(p.y,a.2)).1=p.y)/\ a.2.out.length<=(if (xV p.op).1.y=true then xF f n p.y.toNat a.2 else(p.y,a.2)).2.out.length:=by
    by_cases hy:(xV p.op).1.y=true
    ·simp only [if_pos hy];have:=oy hy;obtain⟨b1,b2,b3,b4⟩:=jV hc n (i:=p.y.toNat) (s:=a.2) (by omega) (by omega) a1;exact⟨b1,⟨b2,b3⟩,b4⟩
    ·simp only [if_neg hy]; exact⟨a1,trivial,μ _⟩
   generalize (if (xV p.op).1.y=true then xF f n p.y.toNat a.2 else(p.y,a.2))= b at hb;obtain⟨b1,b2,b3⟩:=hb
   have hq:zG ⟨p.op,p.i,p.e,p.g,a.1,b.1⟩ b.2.out.length=0:=by
    refine jY hp ?_ b2
    split
    ·rename_i hx;rw [if_pos hx] at a2; omega
    ·rename_i hx;rw [if_neg hx] at a2; exact a2
   obtain⟨e1,e2,e3,e4⟩:=Nx (i:=i) b1 hq;exact⟨e1,e2,e3,by omega⟩
theorem fS (f:List Nd) (i:Int):∀ k,k<(ou f i).length->zG ((ou f i).getD k nd0) k=0:=by
 unfold ou
 by_cases h:yN f≠0\/i<0\/(f.length:Int)<=i
 ·rw [if_pos h]; intro k hk; simp at hk
 ·rw [if_neg h];obtain⟨c1,c2,c3⟩:=vX (f:=f) (by omega);exact(jV c3 (i.toNat+1) (i:=i.toNat) (s:=⟨[],[]⟩) (by omega) (by omega) ⟨λk hk=>by simp at hk,λz k hz=>by cases hz⟩).1.nd
theorem Oa {f:List Nd} {i:Nat} (hc:yN f=0) (hi:i<f.length):0<(ou f i).length:=by obtain⟨c1,c2,c3⟩:=vX hc;unfold ou;rw [if_neg (by omega)];have:=(jV c3 ((i:Int).toNat+1) (i:=(i:Int).toNat) (s:=⟨[],[]⟩) (by omega) (by omega) ⟨λk hk=>by simp at hk,λz k hz=>by cases hz⟩).2;unfold uW;omega
theorem iI {f:List Nd} (hc:yN f=0):0<(xB f).length:=by
 have h1:=(vX hc).1;have:0<f.length:=List.length_pos_iff.2 h1;have:=Oa (i:=f.length-1) hc (by omega);unfold xB
 rwa [show ((f.length:Int)-1)= ((f.length-1:Nat):Int) by omega]
theorem bC {l:List Nd} (h:∀ k,k<l.length->zG (l.getD k nd0) k=0) {p:Nd} (hp:p ∈ l):∃ k:Nat,zG p k=0:=by
 obtain⟨k,hk,rfl⟩:=List.getElem_of_mem hp;refine⟨k,?_⟩;have:=h k hk
 rwa [δ,List.getElem?_eq_getElem hk] at this
theorem jC {p:Nd} {k:Int} (h:zG p k=0) (hf:(xV p.op).1.fa=true):0<=p.i/\p.i<=7:=by have:=(wI.1 h).2.2.2.2;simp only [yX,hf,η,θ,decide_eq_false_iff_not] at this;omega
theorem uE {p:Nd} {k:Int} (h:zG p k=0) (hf:(xV p.op).1.ag=true):0<=p.i/\p.i<=3:=by have:=(wI.1 h).2.2.2.2;simp only [yX,hf,η,θ,decide_eq_false_iff_not] at this;omega
theorem gL {p:Nd} {k:Int} (h:zG p k=0):0<=p.g/\p.g<=15:=by
 have h1:=(wI.1 h).2.2.2.2;have h2:=(wI.1 h).2.2.2.1
 cases hg:(xV p.op).1.gr
 ·simp only [hg,η,Bool.not_false,θ,decide_eq_false_iff_not] at h2;omega
 ·simp only [yX,hg,η,θ,decide_eq_false_iff_not] at h1;omega
def qQ (p:Nd):Nat:=if (xV p.op).1.ag=true then 2 ^ p.i.toNat else p.g.toNat
def yy (p:Nd):Nat:=if (xV p.op).1.fa=true then 2 ^ p.i.toNat else 0
def oH (f:List Nd):Nat:=vD qQ (xB f)
def bA (f:List Nd):Nat:=vD yy (xB f)
theorem Vr {p:Nd} {k:Int} (h:zG p k=0):qQ p<4096:=by
 unfold qQ
 split
 ·rename_i hf;have:=uE h hf;have:2 ^ p.i.toNat<=2 ^ 3:=ν (by decide) (by omega);omega
 ·have:=gL h;omega
theorem TV {p:Nd} {k:Int} (h:zG p k=0):yy p<4096:=by
 unfold yy
 split
 ·rename_i hf;have:=jC h hf;have:2 ^ p.i.toNat<=2 ^ 7:=ν (by decide) (by omega);omega
 ·omega
def sU (f:List Nd) (a b:Int):Bool:=decide (yN f=0)&& iB (oH f) a&&iB (bA f) b
end Fm
theorem T4 (f:List Nd):zX prog 147 [.sl 6 (ndR f)] (.int .i64 (oH f)):=by
 refine xY.xP mixed func147 L7 (by simp) λhf=>?_;simp only [simprocAttr,-ZA,↓zU,↓zD,zV,zT,zW]
 refine .go (xY.yO (nf (m:=qQ) (λp hp=>?_) (λp hp=>?_) (by have:=fI f ((f.length:Int)-1); unfold xB; omega)) rfl) ?_
 ·obtain⟨k,hk⟩:=bC (fS f _) hp;exact Vr hk
 ·obtain⟨k,hk⟩:=bC (fS f _) hp;have h:=T5 p (xV p.op).1 (λha=>by have:=uE hk ha; omega)
  rw [show ((qQ p:Nat):Int)= (if (xV p.op).1.ag=true then((2 ^ p.i.toNat:Nat):Int) else p.g) by
   unfold qQ
   split
   ·rfl
   ·have:=gL hk; omega]
  exact h
 simp only [simprocAttr,-ZA,↓zU,↓zD,zV,zT,zW];exact .same
theorem Q0 (f:List Nd):zX prog 148 [.sl 6 (ndR f)] (.int .i64 (bA f)):=by
 refine xY.xP mixed func148 L8 (by simp) λhf=>?_;simp only [simprocAttr,-ZA,↓zU,↓zD,zV,zT,zW]
 refine .go (xY.yO (nf (m:=yy) (λp hp=>?_) (λp hp=>?_) (by have:=fI f ((f.length:Int)-1); unfold xB; omega)) rfl) ?_
 ·obtain⟨k,hk⟩:=bC (fS f _) hp;exact TV hk
 ·obtain⟨k,hk⟩:=bC (fS f _) hp;have h:=QN p (xV p.op).1 (λha=>by have:=jC hk ha; omega)
  rw [show ((yy p:Nat):Int)= (if (xV p.op).1.fa=true then((2 ^ p.i.toNat:Nat):Int) else 0) by unfold yy;split <;> rfl]
  exact h
 simp only [simprocAttr,-ZA,↓zU,↓zD,zV,zT,zW];exact .same
theorem YY (f:List Nd) (a b:Int):zX prog 101 [.sl 6 (ndR f),.int .i64 a,.int .i64 b] (.bool (sU f a b)):=by
 refine xY.xP mixed func101 Kc (by simp) λhf=>?_;simp only [simprocAttr,-ZA,↓zU,↓zD,zV,zT,zW];refine .go (cr (nJ f)) ?_;by_cases hc:yN f=0
 case neg=>
  have e:(yN f==0)= false:=by simpa using hc
  simp only [simprocAttr,-ZA,↓zU,↓zD,zV,zT,zW,e];exact .drop (by simp) (by simp [vw,sU,hc])
 have e:(yN f==0)= true:=by simpa using hc
 simp only [simprocAttr,-ZA,↓zU,↓zD,zV,zT,zW,e];refine .go (cr (T4 f)) ?_;simp only [simprocAttr,-ZA,↓zU,↓zD,zV,zT,zW];refine .go (xY.yO (SY (oH f) a) rfl) ?_
 cases hb:iB (oH f) a
 ·simp only [simprocAttr,-ZA,↓zU,↓zD,zV,zT,zW];exact .drop (by simp) (by simp [vw,sU,hb])
 simp only [simprocAttr,-ZA,↓zU,↓zD,zV,zT,zW];refine .go (cr (Q0 f)) ?_;simp only [simprocAttr,-ZA,↓zU,↓zD,zV,zT,zW];refine .go (xY.yO (SY (bA f) b) rfl) ?_;simp only [simprocAttr,-ZA,↓zU,↓zD,zV,zT,zW];exact .drop (by simp) (by simp [vw,sU,hb,hc])
end Go.Pd
