/- Part F12. -/
import Derived.Test.YtndfaefmmcoapaaGreatUeF8
set_option linter.unusedSectionVars false
set_option linter.unusedVariables false
set_option linter.unusedSimpArgs false
set_option linter.defProp false
set_option maxRecDepth 20000
set_option maxHeartbeats 1000000
namespace Go.Pd
open Go Go.Proofs
open BitVec renaming isValue -> ZA
open Rs Fm
namespace Fm
def cZ (i:Nat) (q:Nd) (s:CS):Int × CS:=match qG q s.out 0 with
 | some k=>(k,⟨s.out,iA i k s.done⟩)
 | none=>(s.out.length,⟨s.out ++ [q],iA i s.out.length s.done⟩)
theorem zN {xS:List (Nat × Ob)} {k j:Nat} {o:Ob} (h:St.look xS k=none):St.look (vV xS j o) k=none:=by
 rw [xV]; split
 ·rw [h]; rfl
 ·exact h
theorem aEd (l:List Nd) (q:Nd):∃ e r,ndR (l ++ [q])= e :: r:=by
 cases h:ndR (l ++ [q]) with
 | nil=>simp [ndR] at h
 | cons e r=>exact⟨e,r,rfl⟩
theorem aV5 {f:List Nd} {nx nx2:Nat} {objs2:List (Nat × Ob)} {key2:Nat} {s2:CS} {q:Nd} {i:Nat} (hI:dW f nx2 objs2 key2 s2) (h7:7<=nx) (hle:nx+1+1<=nx2) (hke:key2≠nx) (hlen:s2.out.length<=1000) :
  ∃ nx' objs' key',bZ3 i nx nx2 objs2 key2 s2 q (.int .i64 (cZ i q s2).1) ⟨nx',objs'⟩/\ dW f nx' objs' key' (cZ i q s2).2/\nx2<=nx'/\(key'=key2\/nx2<=key')/\ ∀ k,7<=k->k<nx2->k≠key2->k≠nx->St.look objs' k=St.look objs2 k:=by
 obtain⟨hn,h0,h1,⟨k1,k2,k3,hkk⟩,hfr,h2,h3,h4,h5,h6⟩:=hI;unfold cZ
 cases he:qG q s2.out 0 with
 | some k=>
  refine⟨nx2,_,key2,.inl ⟨k,he,rfl,rfl⟩,⟨hn,?_,?_,⟨k1,k2,k3,?_⟩,?_,?_,?_,?_,?_,?_⟩,Nat.le_refl _,.inl rfl,?_⟩
  ·rw [xV,if_neg (by omega),xV,if_neg (by omega)]; exact h0
  ·rw [xV,if_neg (by omega),xV,if_neg (by omega)]; exact h1
  ·rw [xV,if_neg (by omega),xV,if_neg (fun e=>hke e.symm)]; exact hkk
  ·exact fun j hj=>zN (zN (hfr j hj))
  ·rw [xV,if_neg (by omega),xV,if_neg (by omega)]; exact h2
  ·rw [xV,if_neg (by omega),xV,if_neg (by omega)]; exact h3
  ·rw [xV,if_pos rfl,xV,if_neg (by omega),h4]; rfl
  ·rw [xV,if_neg (by omega),xV,if_neg (by omega)]; exact h5
  ·rw [xV,if_neg (by omega),xV,if_neg (by omega)]; exact h6
  ·intro j a1 a2 a3 a4;rw [xV,if_neg (by omega),xV,if_neg (fun e=>a4 e.symm)]
 | none=>
  obtain⟨e,r,hr⟩:=aEd s2.out q
  have hlk:∀ j,j≠nx2->∀ (o1 o2 o4 oq:Ob),j≠1->j≠2->j≠4->j≠key2->j≠nx->St.look (yW nx2 6 (ndR (s2.out ++ [q]))++ vV (vV (vV (yG (vV objs2 nx oq) key2) 1 o1) 2 o2) 4 o4) j=St.look objs2 j:=fun j b1 o1 o2 o4 oq b2 b3 b4 b5 b6=>by rw [yK,if_neg (fun e=>b1 e.symm),xV,if_neg (fun e=>b4 e.symm),xV,if_neg (fun e=>b3 e.symm),xV,if_neg (fun e=>b2 e.symm),xF,if_neg (fun e=>b5 e.symm),xV,if_neg (fun e=>b6 e.symm)]
  refine⟨nx2+1,_,nx2,.inr ⟨he,hlen,rfl,rfl⟩,⟨by omega,?_,?_,⟨by omega,by omega,by omega,?_⟩,?_,?_,?_,?_,?_,?_⟩,by omega,.inr (Nat.le_refl _),?_⟩
  ·rw [hlk 0 (by omega) _ _ _ _ (by omega) (by omega) (by omega) (by omega) (by omega)]; exact h0
  ·rw [yK,if_neg (by omega),xV,if_neg (by omega),xV,if_neg (by omega),xV,if_pos rfl,xF,if_neg (by omega),xV,if_neg (by omega),h1]; rfl
  ·rw [yK,if_pos rfl];show (vS 6 (ndR (s2.out ++ [q]))).or _=vS 6 (ndR (s2.out ++ [q]));rw [hr]; rfl
  ·intro j hj;rw [yK,if_neg (by omega)];refine zN (zN (zN ?_))
   rw [xF]; split
   ·rfl
   ·exact zN (hfr j (by omega))
  ·rw [yK,if_neg (by omega),xV,if_neg (by omega),xV,if_pos rfl,xV,if_neg (by omega),xF,if_neg (by omega),xV,if_neg (by omega),h2]; rfl
  ·rw [hlk 3 (by omega) _ _ _ _ (by omega) (by omega) (by omega) (by omega) (by omega)]; exact h3
  ·rw [yK,if_neg (by omega),xV,if_pos rfl,xV,if_neg (by omega),xV,if_neg (by omega),xF,if_neg (by omega),xV,if_neg (by omega),h4]; rfl
  ·rw [hlk 5 (by omega) _ _ _ _ (by omega) (by omega) (by omega) (by omega) (by omega)]; exact h5
  ·rw [hlk 6 (by omega) _ _ _ _ (by omega) (by omega) (by omega) (by omega) (by omega)]; exact h6
  ·intro j a1 a2 a3 a4;exact hlk j (by omega) _ _ _ _ (by omega) (by omega) (by omega) a3 a4
end Fm
open Rs Fm
namespace Fm
theorem cQ {x:Int}:∀ {u:List (Int × Int)},wR x u=none->∀ p ∈ u,p.1≠x
 | [],_,p,hp=>by cases hp
 | (k,y) :: r,h,p,hp=>by
  unfold wR at h
  by_cases e:x=k
  ·rw [if_pos e] at h; cases h
  ·rw [if_neg e] at h
   rcases List.mem_cons.1 hp with rfl | hp
   ·exact fun e'=>e e'.symm
   ·exact cQ h p hp
theorem aTv {x y:Int}:∀ {u:List (Int × Int)},wR x u=none->iA x y u=u ++ [(x,y)]
 | [],_=>rfl
 | (k,z) :: r,h=>by
  unfold wR at h
  by_cases e:x=k
  ·rw [if_pos e] at h; cases h
  ·rw [if_neg e] at h;unfold iA;rw [if_neg e,aTv h]; rfl
structure kP (f : List Nd) (s : CS) : Prop where
 le:s.out.length<=s.done.length
 nd:(s.done.map (·.1)).Nodup
 rg:∀ p ∈ s.done,0<=p.1/\p.1<f.length
theorem kP.len {f:List Nd} {s:CS} (h:kP f s):s.out.length<=f.length:=by
 have:=aSi f.length (s.done.map fun p=>p.1.toNat) ?_ ?_
 ·rw [List.length_map] at this; have:=h.le; omega
 ·have h1:=h.nd;unfold List.Nodup at h1 ⊢;rw [List.pairwise_map] at h1 ⊢;refine h1.imp_of_mem fun {a b} ha hb hne e=>hne ?_;have:=(h.rg a ha).1;have:=(h.rg b hb).1;omega
 ·intro x hx;simp only [List.mem_map] at hx;obtain⟨p,hp,rfl⟩:=hx;have:=h.rg p hp;omega
theorem bY8 {f:List Nd} {s:CS} {i:Nat} {q:Nd} (h:kP f s) (hi:i<f.length) (hno:wR i s.done=none):kP f (cZ i q s).2/\∀ z:Int,z≠i->wR z (cZ i q s).2.done=wR z s.done:=by
 have hput:∀ y,kP f ⟨s.out,iA i y s.done⟩/\ (iA i y s.done).length=s.done.length+1:=fun y=>by
  rw [aTv hno]
  refine⟨⟨by simp only [List.length_append]; have:=h.le; omega,?_,?_⟩,by simp⟩
  ·rw [List.map_append];refine List.nodup_append.2 ⟨h.nd,by simp,fun a ha b hb=>?_⟩;simp only [List.mem_map] at ha;obtain⟨p,hp,rfl⟩:=ha;simp only [List.map_cons,List.map_nil,List.mem_singleton] at hb;subst hb;exact cQ hno p hp
  ·intro p hp
   rcases List.mem_append.1 hp with hp | hp
   ·exact h.rg p hp
   ·rw [List.mem_singleton.1 hp]; exact⟨by simp,by simpa using hi⟩
 unfold cZ
 cases he:qG q s.out 0 with
 | some k=>exact⟨(hput _).1,fun z hz=>by simp only; rw [vE,if_neg hz]⟩
 | none=> refine⟨⟨?_,(hput _).1.nd,(hput _).1.rg⟩,fun z hz=>by simp only; rw [vE,if_neg hz]⟩;have:=(hput s.out.length).2;have:=h.le;simp only [List.length_append,List.length_singleton]; omega
theorem qZ {p:Nd} {k:Int} (h:yA p k=0):((xZ p.op).1.x=true->0<=p.x/\p.x<k)/\ ((xZ p.op).1.y=true->0<=p.y/\p.y<k):=by
 unfold yA at h
 by_cases h1:(xZ p.op).2=false
 ·rw [if_pos h1] at h; cases h
 rw [if_neg h1] at h
 by_cases h2:(xD (xZ p.op).1.x p.x k&&xD (xZ p.op).1.y p.y k)= false
 ·rw [if_pos h2] at h; cases h
 simp only [Bool.not_eq_false,Bool.and_eq_true] at h2
 refine⟨fun hx=>?_,fun hy=>?_⟩
 ·have:=h2.1;unfold xD at this;rw [if_pos hx,Bool.and_eq_true,decide_eq_true_eq,decide_eq_true_eq] at this;exact this
 ·have:=h2.2;unfold xD at this;rw [if_pos hy,Bool.and_eq_true,decide_eq_true_eq,decide_eq_true_eq] at this;exact this
theorem rF {f:List Nd} {n i:Nat} {s:CS} (hno:wR i s.done=none):xK f (n+1) i s =
  (let p:=f.getD i nd0
   let a:=if (xZ p.op).1.x=true then xK f n p.x.toNat s else(p.x,s)
   let b:=if (xZ p.op).1.y=true then xK f n p.y.toNat a.2 else(p.y,a.2)
   cZ i ⟨p.op,p.i,p.e,p.g,a.1,b.1⟩ b.2):=by
 rw [xK,hno]; rfl
theorem sT {f:List Nd} (hc:∀ k,k<f.length->yA (f.getD k nd0) k=0):∀ (n:Nat) {i:Nat} {s:CS},i<n->i<f.length->kP f s->kP f (xK f n i s).2/\∀ z:Int,(i:Int)<z->wR z (xK f n i s).2.done=wR z s.done
 | 0,i,s,h,_,_=>by omega
 | n + 1,i,s,h,hi,hs=>by
  cases hu:wR i s.done with
  | some k=>rw [xK,hu]; exact⟨hs,fun _ _=>rfl⟩
  | none=>
   rw [rF hu];obtain⟨ox,oy⟩:=qZ (hc i hi);simp only;generalize f.getD i nd0=p at ox oy
   have ha:kP f (if (xZ p.op).1.x=true then xK f n p.x.toNat s else(p.x,s)).2/\∀ z:Int,(i:Int)<=z->wR z (if (xZ p.op).1.x=true then xK f n p.x.toNat s else(p.x,s)).2.done=wR z s.done:=by
    by_cases hx:(xZ p.op).1.x=true
    ·rw [if_pos hx];have:=ox hx;obtain⟨b1,b2⟩:=sT hc n (i:=p.x.toNat) (s:=s) (by omega) (by omega) hs;exact⟨b1,fun z hz=>b2 z (by omega)⟩
    ·rw [if_neg hx]; exact⟨hs,fun _ _=>rfl⟩
   generalize (if (xZ p.op).1.x=true then xK f n p.x.toNat s else(p.x,s))= a at ha;obtain⟨a1,a2⟩:=ha
   have hb:kP f (if (xZ p.op).1.y=true then xK f n p.y.toNat a.2 else(p.y,a.2)).2/\∀ z:Int,(i:Int)<=z->wR z (if (xZ p.op).1.y=true then xK f n p.y.toNat a.2 else(p.y,a.2)).2.done=wR z a.2.done:=by
    by_cases hy:(xZ p.op).1.y=true
    ·rw [if_pos hy];have:=oy hy;obtain⟨b1,b2⟩:=sT hc n (i:=p.y.toNat) (s:=a.2) (by omega) (by omega) a1;exact⟨b1,fun z hz=>b2 z (by omega)⟩
    ·rw [if_neg hy]; exact⟨a1,fun _ _=>rfl⟩
   generalize (if (xZ p.op).1.y=true then xK f n p.y.toNat a.2 else(p.y,a.2))= b at hb;obtain⟨b1,b2⟩:=hb;obtain⟨e1,e2⟩:=bY8 (q:=⟨p.op,p.i,p.e,p.g,a.1,b.1⟩) b1 hi (by rw [b2 i (by omega),a2 i (by omega)]; exact hu);exact⟨e1,fun z hz=>by rw [e2 z (by omega),b2 z (by omega),a2 z (by omega)]⟩
end Fm
open Rs Fm
namespace Fm
theorem aDx (op:Int) (h:(xZ op).1.y=true):(xZ op).1.x=true:=by
 have hc:op=1\/op=2\/op=3\/op=4\/op=5\/op=6\/op=7\/op=8\/op=9\/op=10\/op=11\/op=12\/op=13\/op=14\/op=15\/op=16\/op=17\/op=18\/op=19\/op=20\/op=21\/(op<1\/21<op):=by omega
 rcases hc with rfl | rfl | rfl | rfl | rfl | rfl | rfl | rfl | rfl | rfl | rfl | rfl | rfl | rfl | rfl | rfl | rfl | rfl | rfl | rfl | rfl | hc
 rotate_right
 ·rw [show xZ op=(tF,false) from if_pos hc] at h; cases h
 all_goals simp [xZ,tF] at h ⊢
theorem dW.bWr {f:List Nd} {nx:Nat} {xS:List (Nat × Ob)} {key:Nat} {s:CS} (h:dW f nx xS key s):∃ key',dW f nx xS key' s/\((s.out = []/\key'=nx+4)\/(s.out ≠ []/\key'=key/\key'<nx)):=by
 obtain⟨hn,h0,h1,⟨k1,k2,k3,hkk⟩,hfr,h2,h3,h4,h5,h6⟩:=h
 by_cases ho:s.out = []
 ·refine⟨nx+4,⟨hn,h0,?_,⟨by omega,by omega,by omega,?_⟩,hfr,h2,h3,h4,h5,h6⟩,.inl ⟨ho,rfl⟩⟩
  ·rw [h1,ho]; rfl
  ·rw [hfr _ (by omega),ho]; rfl
 ·refine⟨key,⟨hn,h0,h1,⟨k1,k2,k3,hkk⟩,hfr,h2,h3,h4,h5,h6⟩,.inr ⟨ho,rfl,?_⟩⟩
  by_cases hlt:key<nx
  ·exact hlt
  ·rw [hfr key (by omega)] at hkk
   cases hd:ndR s.out with
   | nil=>simp [ndR] at hd; exact absurd hd ho
   | cons e r=>rw [hd] at hkk; cases hkk
theorem dW.alloc {f:List Nd} {nx:Nat} {xS:List (Nat × Ob)} {key:Nat} {s:CS} (h:dW f nx xS key s) (hk:key<nx\/key=nx+4) (o1 o2:Ob):dW f (nx+1+1) ((nx+1,o1) :: (nx,o2) :: xS) key s:=by
 obtain⟨hn,h0,h1,⟨k1,k2,k3,hkk⟩,hfr,h2,h3,h4,h5,h6⟩:=h
 have hl:∀ k,k≠nx->k≠nx+1->St.look ((nx+1,o1) :: (nx,o2) :: xS) k=St.look xS k:=fun k a b=>by rw [xY,if_neg (fun e=>b e.symm),xY,if_neg (fun e=>a e.symm)]
 refine⟨by omega,?_,?_,⟨k1,by omega,by omega,?_⟩,?_,?_,?_,?_,?_,?_⟩
 ·rw [hl 0 (by omega) (by omega)]; exact h0
 ·rw [hl 1 (by omega) (by omega)]; exact h1
 ·rw [hl key k2 k3]; exact hkk
 ·intro k hk2; rw [hl k (by omega) (by omega)]; exact hfr k (by omega)
 ·rw [hl 2 (by omega) (by omega)]; exact h2
 ·rw [hl 3 (by omega) (by omega)]; exact h3
 ·rw [hl 4 (by omega) (by omega)]; exact h4
 ·rw [hl 5 (by omega) (by omega)]; exact h5
 ·rw [hl 6 (by omega) (by omega)]; exact h6
theorem dW.set {f:List Nd} {nx:Nat} {xS:List (Nat × Ob)} {key:Nat} {s:CS} (h:dW f nx xS key s) {j:Nat} (hj:7<=j) (hk:key≠j) (o:Ob):dW f nx (vV xS j o) key s:=by
 obtain⟨hn,h0,h1,⟨k1,k2,k3,hkk⟩,hfr,h2,h3,h4,h5,h6⟩:=h;have hl:∀ k,k≠j->St.look (vV xS j o) k=St.look xS k:=fun k a=>by rw [xV,if_neg (fun e=>a e.symm)]
 refine⟨hn,?_,?_,⟨k1,k2,k3,?_⟩,?_,?_,?_,?_,?_,?_⟩
 ·rw [hl 0 (by omega)]; exact h0
 ·rw [hl 1 (by omega)]; exact h1
 ·rw [hl key hk]; exact hkk
 ·exact fun k hk2=>zN (hfr k hk2)
 ·rw [hl 2 (by omega)]; exact h2
 ·rw [hl 3 (by omega)]; exact h3
 ·rw [hl 4 (by omega)]; exact h4
 ·rw [hl 5 (by omega)]; exact h5
 ·rw [hl 6 (by omega)]; exact h6
end Fm
theorem aIq {f:List Nd} {nx:Nat} {xS:List (Nat × Ob)} {key:Nat} {s:CS} {i:Nat} {k:Int} (hI:dW f nx xS key s) (hu:wR i s.done=some k) :
  xX Tryz.prog 202 [.int .i64 i,.ref 5 1 0 0,.ref 0 1 0 0,.ref 6 1 0 0,.ref 3 1 0 0,.ref 1 1 0 0] ⟨nx,xS⟩ (.int .i64 k) ⟨nx,xS⟩:=by
 obtain⟨hn,h0,h1,hk,hfr,h2,h3,h4,h5,h6⟩:=hI
 rcases lZ (i:Int) s.done 0 with ⟨q1,q2⟩ | ⟨y,j,q1,q2⟩
 ·rw [hu] at q1; cases q1
 ·rw [hu] at q1; cases q1;refine xX.xP mixed Tryz.func202 bZy (by simp) fun hf=>?_;simp only [simprocAttr,-ZA,↓zU,↓zD,zV,zT,zW,h5,h4,q2]
  (repeat refine sd ?_)
  exact .same
theorem fE {f:List Nd} (hc:∀ k,k<f.length->yA (f.getD k nd0) k=0) (hlen:f.length<=900):∀ (n:Nat) {i nx:Nat} {xS:List (Nat × Ob)} {key:Nat} {s:CS},i<n->i<f.length->kP f s->dW f nx xS key s ->
  ∃ nx' objs' key',dW f nx' objs' key' (xK f n i s).2/\nx<=nx'/\(key'=key\/nx<=key')/\ (∀ k,7<=k->k<nx->(k≠key\/s.out = [])->St.look objs' k=St.look xS k)/\
   xX Tryz.prog 202 [.int .i64 i,.ref 5 1 0 0,.ref 0 1 0 0,.ref 6 1 0 0,.ref 3 1 0 0,.ref 1 1 0 0] ⟨nx,xS⟩ (.int .i64 (xK f n i s).1) ⟨nx',objs'⟩
 | 0,i,nx,xS,key,s,h,_,_,_=>by omega
 | n + 1,i,nx,xS,key,s,h,hi,hs,hI=>by
  cases hu:wR i s.done with
  | some k=> rw [xK,hu];exact⟨nx,xS,key,hI,Nat.le_refl _,.inl rfl,fun _ _ _ _=>rfl,aIq hI hu⟩
  | none=>
   rw [rF hu];obtain⟨ox,oy⟩:=qZ (hc i hi);simp only;generalize hp:f.getD i nd0=p at ox oy;obtain⟨ky,hI',hky⟩:=hI.bWr;have hn:=hI'.hn;have hkc:ky<nx\/ky=nx+4:=by rcases hky with ⟨_,h⟩ | ⟨_,_,h⟩; exact .inr h; exact .inl h
   have hA:=hI'.alloc hkc (aTb (xZ p.op).1) (vK p.op p.i p.e p.g p.x p.y)
   have hkk:∀ k,k<nx->(k≠key\/s.out = [])->k≠ky:=fun k h1 h2=>by
    rcases hky with ⟨_,e⟩ | ⟨ho,e,_⟩
    ·omega
    ·rcases h2 with h2 | h2
     ·rw [e]; exact h2
     ·exact absurd h2 ho
   have hkey:∀ k',k'=ky\/nx<=k'->k'=key\/nx<=k':=fun k' h=>by
    rcases h with h | h
    ·rcases hky with ⟨_,e⟩ | ⟨_,e,_⟩
     ·exact .inr (by omega)
     ·exact .inl (by rw [h,e])
    ·exact .inr h
   have hA0:∀ k,k<nx->St.look ((nx+1,aTb (xZ p.op).1) :: (nx,vK p.op p.i p.e p.g p.x p.y) :: xS) k=St.look xS k:=fun k hk=>by rw [xY,if_neg (by omega),xY,if_neg (by omega)]
   by_cases hx:(xZ p.op).1.x=true
   ·obtain⟨hx1,hx2⟩:=ox hx;have hxn:((p.x.toNat:Nat):Int)= p.x:=Int.toNat_of_nonneg hx1;obtain⟨nx1,objs1,key1,I1,l1,kk1,fr1,c1⟩:=fE hc hlen n (i:=p.x.toNat) (by omega) (by omega) hs hA;have f1:=(sT hc n (i:=p.x.toNat) (s:=s) (by omega) (by omega) hs);rw [if_pos hx];rw [hxn] at c1;generalize xK f n p.x.toNat s=a at I1 c1 f1
    have hN:St.look objs1 nx=some (vK p.op p.i p.e p.g p.x p.y):=by rw [fr1 nx hn (by omega) (.inl (by omega)),xY,if_neg (by omega),xY,if_pos rfl]
    have hU:St.look objs1 (nx+1)= some (aTb (xZ p.op).1):=by rw [fr1 (nx+1) (by omega) (by omega) (.inl (by omega)),xY,if_pos rfl]
    have hk1:key1≠nx:=by omega
    by_cases hy:(xZ p.op).1.y=true
    ·obtain⟨hy1,hy2⟩:=oy hy;have hyn:((p.y.toNat:Nat):Int)= p.y:=Int.toNat_of_nonneg hy1;obtain⟨nx2,objs2,key2,I2,l2,kk2,fr2,c2⟩:=fE hc hlen n (i:=p.y.toNat) (by omega) (by omega) f1.1 (I1.set (j:=nx) hn hk1 (vK p.op p.i p.e p.g a.1 p.y));have f2:=(sT hc n (i:=p.y.toNat) (s:=a.2) (by omega) (by omega) f1.1);rw [if_pos hy];rw [hyn] at c2;generalize xK f n p.y.toNat a.2=b at I2 c2 f2
     have hN2:St.look objs2 nx=some (vK p.op p.i p.e p.g a.1 p.y):=by rw [fr2 nx hn (by omega) (.inl (by omega)),xV,if_pos rfl,hN]; rfl
     have hk2:key2≠nx:=by omega
     obtain⟨nx',objs',key',e1,e2,e3,e4,e5⟩:=aV5 (q:=⟨p.op,p.i,p.e,p.g,a.1,b.1⟩) (i:=i) (nx:=nx) I2 (by omega) (by omega) hk2 (by have:=f2.1.len; omega);refine⟨nx',objs',key',e2,by omega,hkey _ (by omega),fun k a1 a2 a3=>?_,aM5 hI' hi (by omega) hp hu hx hy c1 I1 hN hU c2 I2 hN2 (by omega) hk2 e1⟩;have hk3:=hkk k a2 a3;rw [e5 k a1 (by omega) (by omega) (by omega),fr2 k a1 (by omega) (.inl (by omega)),xV,if_neg (by omega),fr1 k a1 (by omega) (.inl hk3)];exact hA0 k a2
    ·rw [if_neg hy];obtain⟨nx',objs',key',e1,e2,e3,e4,e5⟩:=aV5 (q:=⟨p.op,p.i,p.e,p.g,a.1,p.y⟩) (i:=i) (nx:=nx) I1 (by omega) (by omega) hk1 (by have:=f1.1.len; omega);refine⟨nx',objs',key',e2,by omega,hkey _ (by omega),fun k a1 a2 a3=>?_,aIp hI' hi (by omega) hp hu hx (by simpa using hy) c1 I1 hN hU (by omega) hk1 e1⟩;have hk3:=hkk k a2 a3;rw [e5 k a1 (by omega) (by omega) (by omega),fr1 k a1 (by omega) (.inl hk3)];exact hA0 k a2
   ·have hy:¬ (xZ p.op).1.y=true:=fun hy=>hx (aDx _ hy);rw [if_neg hx,if_neg hy];obtain⟨nx',objs',key',e1,e2,e3,e4,e5⟩:=aV5 (q:=p) (i:=i) (nx:=nx) hA (by omega) (by omega) (by omega) (by have:=hs.len; omega)
    refine⟨nx',objs',key',e2,by omega,?_,fun k a1 a2 a3=>?_,aDr hI' hi (by omega) hp hu (by simpa using hx) (by simpa using hy) e1⟩
    ·rcases e4 with e4 | e4
     ·exact hkey _ (.inl e4)
     ·exact .inr (by omega)
    ·rw [e5 k a1 (by omega) (hkk k a2 a3) (by omega)];exact hA0 k a2
open Rs Fm
theorem aZ6 {f:List Nd} {i:Nat} (hc:∀ k,k<f.length->yA (f.getD k nd0) k=0) (hlen:f.length<=900) (hi:i<f.length):yV Tryz.prog 143 [.sl 6 (ndR f),.int .i64 i] (.sl 6 (ndR (vW f i))):=by
 have hI0:dW f 7 [(6,⟨1,[[.fn 202 [.ref 5 1 0 0,.ref 0 1 0 0,.ref 6 1 0 0,.ref 3 1 0 0,.ref 1 1 0 0]]]⟩),(5,⟨1,[[.vJ 4]]⟩),(4,⟨0,[]⟩),(3,⟨1,[[.vJ 2]]⟩),(2,⟨0,[]⟩),(1,⟨1,[[.xH]]⟩),(0,⟨1,[[.sl 6 (ndR f)]]⟩)] 11 ⟨[],[]⟩:=by refine⟨Nat.le_refl _,by simp [St.look],by simp [St.look,ndR,yX],⟨by omega,by omega,by omega,by simp [St.look,ndR,vS]⟩,fun k hk=>?_,by simp [St.look,dX,qF],by simp [St.look],by simp [St.look,mo,cX],by simp [St.look],by simp [St.look]⟩;simp only [xY,look_nil];rw [if_neg (by omega),if_neg (by omega),if_neg (by omega),if_neg (by omega),if_neg (by omega),if_neg (by omega),if_neg (by omega)]
 obtain⟨nx',objs',key',I1,_,_,_,c1⟩:=fE hc hlen (i+1) (i:=i) (by omega) hi ⟨Nat.le_refl _,by simp,fun p hp=>by cases hp⟩ hI0;have e:(xK f (i+1) i ⟨[],[]⟩).2.out=vW f i:=rfl;have h1:=I1.h1;have hk:=I1.hk.2.2.2;rw [e] at h1 hk;refine xX.xP mixed Tryz.func143 bTg (by simp) fun hf=>?_;simp only [simprocAttr,-ZA,↓zU,↓zD,zV,zT,zW]
 (repeat refine sd ?_)
 refine .go c1 ?_;simp only [simprocAttr,-ZA,↓zU,↓zD,zV,zT,zW,h1]
 (repeat refine sd ?_)
 exact .drop (by simp) (oK (by simp) (iJ _) hk)
namespace Fm
theorem wP {f:List Nd} (h:yY f=0):f ≠ []/\f.length<=200/\∀ k,k<f.length->yA (f.getD k nd0) k=0:=by
 unfold yY at h
 by_cases h1:f = []
 ·rw [if_pos h1] at h; cases h
 rw [if_neg h1] at h
 by_cases h2:200<f.length
 ·rw [if_pos h2] at h; cases h
 rw [if_neg h2] at h;refine⟨h1,by omega,fun k hk=>?_⟩;have:=aK2 h k hk
 rwa [Int.zero_add] at this
def iU (f:List Nd) (i:Int):List Nd:=if yY f≠0\/i<0\/(f.length:Int)<=i then [] else vW f i.toNat
def xC (f:List Nd):List Nd:=iU f ((f.length:Int)-1)
end Fm
theorem bVc (f:List Nd) (i:Int):yV Tryz.prog 149 [.sl 6 (ndR f),.int .i64 i] (.sl 6 (ndR (iU f i))):=by
 refine xX.xP mixed Tryz.func149 bTa (by simp) fun hf=>?_;simp only [simprocAttr,-ZA,↓zU,↓zD,zV,zT,zW];refine .go (cr (mB f)) ?_;by_cases hc:yY f=0
 case neg=> have e:(yY f != 0)= true:=bne_iff_ne.2 hc;simp only [simprocAttr,-ZA,↓zU,↓zD,zV,zT,zW,e];rw [show iU f i = [] from if_pos (.inl hc)];exact .drop (by simp) (by simp [vw,ndR])
 have e:(yY f != 0)= false:=by simpa using hc
 by_cases h1:i<0
 ·simp only [simprocAttr,-ZA,↓zU,↓zD,zV,zT,zW,e,h1];rw [show iU f i = [] from if_pos (.inr (.inl h1))];exact .drop (by simp) (by simp [vw,ndR])
 by_cases h2:(f.length:Int)<=i
 ·simp only [simprocAttr,-ZA,↓zU,↓zD,zV,zT,zW,e,h1,xJ,h2];rw [show iU f i = [] from if_pos (.inr (.inr h2))];exact .drop (by simp) (by simp [vw,ndR])
 obtain⟨j,rfl⟩:=Int.eq_ofNat_of_zero_le (show 0<=i by omega);obtain⟨c1,c2,c3⟩:=wP hc;rw [show iU f j=vW f j by rw [iU,if_neg (by omega),Int.toNat_natCast]];simp only [simprocAttr,-ZA,↓zU,↓zD,zV,zT,zW,e,h1,xJ,h2];refine .go (xX.yN (aZ6 c3 (by omega) (show j<f.length by omega)) (by simp [D.xU,D.xG])) ?_;simp only [simprocAttr,-ZA,↓zU,↓zD,zV,zT,zW];exact .same
theorem aWk (f:List Nd):yV Tryz.prog 103 [.sl 6 (ndR f)] (.sl 6 (ndR (xC f))):=by refine xX.xP mixed Tryz.func103 bT6 (by simp) fun hf=>?_;simp only [D.tE,D.fact,xJ] at hf;have hlen:=hf.1.1;have e:IntKind.i64.wrap ((f.length:Int)-1)= (f.length:Int)-1:=wrap_i64 (by omega);simp only [simprocAttr,-ZA,↓zU,↓zD,zV,zT,zW,xJ,e];refine .go (xX.yN (bVc f ((f.length:Int)-1)) (by simp [D.xU,D.xG])) ?_;simp only [simprocAttr,-ZA,↓zU,↓zD,zV,zT,zW];exact .same
end Go.Pd
