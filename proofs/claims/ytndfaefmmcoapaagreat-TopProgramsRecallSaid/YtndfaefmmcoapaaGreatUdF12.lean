/- Part F12. -/
import Derived.Test.YtndfaefmmcoapaaGreatUdF8
set_option linter.unusedSectionVars false
set_option linter.unusedVariables false
set_option linter.unusedSimpArgs false
set_option linter.defProp false
set_option maxRecDepth 20000
set_option maxHeartbeats 1000000
namespace Go.Pd
open Go Go.Proofs
open BitVec renaming isValue -> ZA
open Rs Fm
namespace Fm
def aSh (i:Nat) (q:Nd) (s:CS):Int × CS:=match iW q s.out 0 with
 | some k=>(k,⟨s.out,aG i k s.done⟩)
 | none=>(s.out.length,⟨s.out ++ [q],aG i s.out.length s.done⟩)
theorem wC {xZ:List (Nat × Ob)} {k j:Nat} {o:Ob} (h:St.look xZ k=none):St.look (uR xZ j o) k=none:=by
 rw [xV]; split
 ·rw [h]; rfl
 ·exact h
theorem bWo (l:List Nd) (q:Nd):∃ e r,ndR (l ++ [q])= e :: r:=by
 cases h:ndR (l ++ [q]) with
 | nil=>simp [ndR] at h
 | cons e r=>exact⟨e,r,rfl⟩
theorem aU5 {f:List Nd} {nx nx2:Nat} {objs2:List (Nat × Ob)} {key2:Nat} {s2:CS} {q:Nd} {i:Nat} (hI:cM f nx2 objs2 key2 s2) (h7:7<=nx) (hle:nx+1+1<=nx2) (hke:key2≠nx) (hlen:s2.out.length<=1000) :
  ∃ nx' objs' key',bVt i nx nx2 objs2 key2 s2 q (.int .i64 (aSh i q s2).1) ⟨nx',objs'⟩/\ cM f nx' objs' key' (aSh i q s2).2/\nx2<=nx'/\(key'=key2\/nx2<=key')/\ ∀ k,7<=k->k<nx2->k≠key2->k≠nx->St.look objs' k=St.look objs2 k:=by
 obtain⟨hn,h0,h1,⟨k1,k2,k3,hkk⟩,hfr,h2,h3,h4,h5,h6⟩:=hI;unfold aSh
 cases he:iW q s2.out 0 with
 | some k=>
  refine⟨nx2,_,key2,.inl ⟨k,he,rfl,rfl⟩,⟨hn,?_,?_,⟨k1,k2,k3,?_⟩,?_,?_,?_,?_,?_,?_⟩,Nat.le_refl _,.inl rfl,?_⟩
  ·rw [xV,if_neg (by omega),xV,if_neg (by omega)]; exact h0
  ·rw [xV,if_neg (by omega),xV,if_neg (by omega)]; exact h1
  ·rw [xV,if_neg (by omega),xV,if_neg (fun e=>hke e.symm)]; exact hkk
  ·exact fun j hj=>wC (wC (hfr j hj))
  ·rw [xV,if_neg (by omega),xV,if_neg (by omega)]; exact h2
  ·rw [xV,if_neg (by omega),xV,if_neg (by omega)]; exact h3
  ·rw [xV,if_pos rfl,xV,if_neg (by omega),h4]; rfl
  ·rw [xV,if_neg (by omega),xV,if_neg (by omega)]; exact h5
  ·rw [xV,if_neg (by omega),xV,if_neg (by omega)]; exact h6
  ·intro j a1 a2 a3 a4;rw [xV,if_neg (by omega),xV,if_neg (fun e=>a4 e.symm)]
 | none=>
  obtain⟨e,r,hr⟩:=bWo s2.out q
  have hlk:∀ j,j≠nx2->∀ (o1 o2 o4 oq:Ob),j≠1->j≠2->j≠4->j≠key2->j≠nx->St.look (yY nx2 6 (ndR (s2.out ++ [q]))++ uR (uR (uR (yF (uR objs2 nx oq) key2) 1 o1) 2 o2) 4 o4) j=St.look objs2 j:=fun j b1 o1 o2 o4 oq b2 b3 b4 b5 b6=>by rw [yG,if_neg (fun e=>b1 e.symm),xV,if_neg (fun e=>b4 e.symm),xV,if_neg (fun e=>b3 e.symm),xV,if_neg (fun e=>b2 e.symm),xG,if_neg (fun e=>b5 e.symm),xV,if_neg (fun e=>b6 e.symm)]
  refine⟨nx2+1,_,nx2,.inr ⟨he,hlen,rfl,rfl⟩,⟨by omega,?_,?_,⟨by omega,by omega,by omega,?_⟩,?_,?_,?_,?_,?_,?_⟩,by omega,.inr (Nat.le_refl _),?_⟩
  ·rw [hlk 0 (by omega) _ _ _ _ (by omega) (by omega) (by omega) (by omega) (by omega)]; exact h0
  ·rw [yG,if_neg (by omega),xV,if_neg (by omega),xV,if_neg (by omega),xV,if_pos rfl,xG,if_neg (by omega),xV,if_neg (by omega),h1]; rfl
  ·rw [yG,if_pos rfl];show (uP 6 (ndR (s2.out ++ [q]))).or _=uP 6 (ndR (s2.out ++ [q]));rw [hr]; rfl
  ·intro j hj;rw [yG,if_neg (by omega)];refine wC (wC (wC ?_))
   rw [xG]; split
   ·rfl
   ·exact wC (hfr j (by omega))
  ·rw [yG,if_neg (by omega),xV,if_neg (by omega),xV,if_pos rfl,xV,if_neg (by omega),xG,if_neg (by omega),xV,if_neg (by omega),h2]; rfl
  ·rw [hlk 3 (by omega) _ _ _ _ (by omega) (by omega) (by omega) (by omega) (by omega)]; exact h3
  ·rw [yG,if_neg (by omega),xV,if_pos rfl,xV,if_neg (by omega),xV,if_neg (by omega),xG,if_neg (by omega),xV,if_neg (by omega),h4]; rfl
  ·rw [hlk 5 (by omega) _ _ _ _ (by omega) (by omega) (by omega) (by omega) (by omega)]; exact h5
  ·rw [hlk 6 (by omega) _ _ _ _ (by omega) (by omega) (by omega) (by omega) (by omega)]; exact h6
  ·intro j a1 a2 a3 a4;exact hlk j (by omega) _ _ _ _ (by omega) (by omega) (by omega) a3 a4
end Fm
open Rs Fm
namespace Fm
theorem bS {x:Int}:∀ {u:List (Int × Int)},vS x u=none->∀ p ∈ u,p.1≠x
 | [],_,p,hp=>by cases hp
 | (k,y) :: r,h,p,hp=>by
  unfold vS at h
  by_cases e:x=k
  ·rw [if_pos e] at h; cases h
  ·rw [if_neg e] at h
   rcases List.mem_cons.1 hp with rfl | hp
   ·exact fun e'=>e e'.symm
   ·exact bS h p hp
theorem aSz {x y:Int}:∀ {u:List (Int × Int)},vS x u=none->aG x y u=u ++ [(x,y)]
 | [],_=>rfl
 | (k,z) :: r,h=>by
  unfold vS at h
  by_cases e:x=k
  ·rw [if_pos e] at h; cases h
  ·rw [if_neg e] at h;unfold aG;rw [if_neg e,aSz h]; rfl
structure cI (f : List Nd) (s : CS) : Prop where
 le:s.out.length<=s.done.length
 nd:(s.done.map (·.1)).Nodup
 rg:∀ p ∈ s.done,0<=p.1/\p.1<f.length
theorem cI.len {f:List Nd} {s:CS} (h:cI f s):s.out.length<=f.length:=by
 have:=aRo f.length (s.done.map fun p=>p.1.toNat) ?_ ?_
 ·rw [List.length_map] at this; have:=h.le; omega
 ·have h1:=h.nd;unfold List.Nodup at h1 ⊢;rw [List.pairwise_map] at h1 ⊢;refine h1.imp_of_mem fun {a b} ha hb hne e=>hne ?_;have:=(h.rg a ha).1;have:=(h.rg b hb).1;omega
 ·intro x hx;simp only [List.mem_map] at hx;obtain⟨p,hp,rfl⟩:=hx;have:=h.rg p hp;omega
theorem bW2 {f:List Nd} {s:CS} {i:Nat} {q:Nd} (h:cI f s) (hi:i<f.length) (hno:vS i s.done=none):cI f (aSh i q s).2/\∀ z:Int,z≠i->vS z (aSh i q s).2.done=vS z s.done:=by
 have hput:∀ y,cI f ⟨s.out,aG i y s.done⟩/\ (aG i y s.done).length=s.done.length+1:=fun y=>by
  rw [aSz hno]
  refine⟨⟨by simp only [List.length_append]; have:=h.le; omega,?_,?_⟩,by simp⟩
  ·rw [List.map_append];refine List.nodup_append.2 ⟨h.nd,by simp,fun a ha b hb=>?_⟩;simp only [List.mem_map] at ha;obtain⟨p,hp,rfl⟩:=ha;simp only [List.map_cons,List.map_nil,List.mem_singleton] at hb;subst hb;exact bS hno p hp
  ·intro p hp
   rcases List.mem_append.1 hp with hp | hp
   ·exact h.rg p hp
   ·rw [List.mem_singleton.1 hp]; exact⟨by simp,by simpa using hi⟩
 unfold aSh
 cases he:iW q s.out 0 with
 | some k=>exact⟨(hput _).1,fun z hz=>by simp only; rw [sX,if_neg hz]⟩
 | none=> refine⟨⟨?_,(hput _).1.nd,(hput _).1.rg⟩,fun z hz=>by simp only; rw [sX,if_neg hz]⟩;have:=(hput s.out.length).2;have:=h.le;simp only [List.length_append,List.length_singleton]; omega
theorem oD {p:Nd} {k:Int} (h:yE p k=0):((xW p.op).1.x=true->0<=p.x/\p.x<k)/\ ((xW p.op).1.y=true->0<=p.y/\p.y<k):=by
 unfold yE at h
 by_cases h1:(xW p.op).2=false
 ·rw [if_pos h1] at h; cases h
 rw [if_neg h1] at h
 by_cases h2:(yL (xW p.op).1.x p.x k&&yL (xW p.op).1.y p.y k)= false
 ·rw [if_pos h2] at h; cases h
 simp only [Bool.not_eq_false,Bool.and_eq_true] at h2
 refine⟨fun hx=>?_,fun hy=>?_⟩
 ·have:=h2.1;unfold yL at this;rw [if_pos hx,Bool.and_eq_true,decide_eq_true_eq,decide_eq_true_eq] at this;exact this
 ·have:=h2.2;unfold yL at this;rw [if_pos hy,Bool.and_eq_true,decide_eq_true_eq,decide_eq_true_eq] at this;exact this
theorem nP {f:List Nd} {n i:Nat} {s:CS} (hno:vS i s.done=none):xJ f (n+1) i s =
  (let p:=f.getD i nd0
   let a:=if (xW p.op).1.x=true then xJ f n p.x.toNat s else(p.x,s)
   let b:=if (xW p.op).1.y=true then xJ f n p.y.toNat a.2 else(p.y,a.2)
   aSh i ⟨p.op,p.i,p.e,p.g,a.1,b.1⟩ b.2):=by
 rw [xJ,hno]; rfl
theorem oS {f:List Nd} (hc:∀ k,k<f.length->yE (f.getD k nd0) k=0):∀ (n:Nat) {i:Nat} {s:CS},i<n->i<f.length->cI f s->cI f (xJ f n i s).2/\∀ z:Int,(i:Int)<z->vS z (xJ f n i s).2.done=vS z s.done
 | 0,i,s,h,_,_=>by omega
 | n + 1,i,s,h,hi,hs=>by
  cases hu:vS i s.done with
  | some k=>rw [xJ,hu]; exact⟨hs,fun _ _=>rfl⟩
  | none=>
   rw [nP hu];obtain⟨ox,oy⟩:=oD (hc i hi);simp only;generalize f.getD i nd0=p at ox oy
   have ha:cI f (if (xW p.op).1.x=true then xJ f n p.x.toNat s else(p.x,s)).2/\∀ z:Int,(i:Int)<=z->vS z (if (xW p.op).1.x=true then xJ f n p.x.toNat s else(p.x,s)).2.done=vS z s.done:=by
    by_cases hx:(xW p.op).1.x=true
    ·rw [if_pos hx];have:=ox hx;obtain⟨b1,b2⟩:=oS hc n (i:=p.x.toNat) (s:=s) (by omega) (by omega) hs;exact⟨b1,fun z hz=>b2 z (by omega)⟩
    ·rw [if_neg hx]; exact⟨hs,fun _ _=>rfl⟩
   generalize (if (xW p.op).1.x=true then xJ f n p.x.toNat s else(p.x,s))= a at ha;obtain⟨a1,a2⟩:=ha
   have hb:cI f (if (xW p.op).1.y=true then xJ f n p.y.toNat a.2 else(p.y,a.2)).2/\∀ z:Int,(i:Int)<=z->vS z (if (xW p.op).1.y=true then xJ f n p.y.toNat a.2 else(p.y,a.2)).2.done=vS z a.2.done:=by
    by_cases hy:(xW p.op).1.y=true
    ·rw [if_pos hy];have:=oy hy;obtain⟨b1,b2⟩:=oS hc n (i:=p.y.toNat) (s:=a.2) (by omega) (by omega) a1;exact⟨b1,fun z hz=>b2 z (by omega)⟩
    ·rw [if_neg hy]; exact⟨a1,fun _ _=>rfl⟩
   generalize (if (xW p.op).1.y=true then xJ f n p.y.toNat a.2 else(p.y,a.2))= b at hb;obtain⟨b1,b2⟩:=hb;obtain⟨e1,e2⟩:=bW2 (q:=⟨p.op,p.i,p.e,p.g,a.1,b.1⟩) b1 hi (by rw [b2 i (by omega),a2 i (by omega)]; exact hu);exact⟨e1,fun z hz=>by rw [e2 z (by omega),b2 z (by omega),a2 z (by omega)]⟩
end Fm
open Rs Fm
namespace Fm
theorem aBi (op:Int) (h:(xW op).1.y=true):(xW op).1.x=true:=by
 have hc:op=1\/op=2\/op=3\/op=4\/op=5\/op=6\/op=7\/op=8\/op=9\/op=10\/op=11\/op=12\/op=13\/op=14\/op=15\/op=16\/op=17\/op=18\/op=19\/op=20\/op=21\/(op<1\/21<op):=by omega
 rcases hc with rfl | rfl | rfl | rfl | rfl | rfl | rfl | rfl | rfl | rfl | rfl | rfl | rfl | rfl | rfl | rfl | rfl | rfl | rfl | rfl | rfl | hc
 rotate_right
 ·rw [show xW op=(iF,false) from if_pos hc] at h; cases h
 all_goals simp [xW,iF] at h ⊢
theorem cM.bUj {f:List Nd} {nx:Nat} {xZ:List (Nat × Ob)} {key:Nat} {s:CS} (h:cM f nx xZ key s):∃ key',cM f nx xZ key' s/\((s.out = []/\key'=nx+4)\/(s.out ≠ []/\key'=key/\key'<nx)):=by
 obtain⟨hn,h0,h1,⟨k1,k2,k3,hkk⟩,hfr,h2,h3,h4,h5,h6⟩:=h
 by_cases ho:s.out = []
 ·refine⟨nx+4,⟨hn,h0,?_,⟨by omega,by omega,by omega,?_⟩,hfr,h2,h3,h4,h5,h6⟩,.inl ⟨ho,rfl⟩⟩
  ·rw [h1,ho]; rfl
  ·rw [hfr _ (by omega),ho]; rfl
 ·refine⟨key,⟨hn,h0,h1,⟨k1,k2,k3,hkk⟩,hfr,h2,h3,h4,h5,h6⟩,.inr ⟨ho,rfl,?_⟩⟩
  by_cases hlt:key<nx
  ·exact hlt
  ·rw [hfr key (by omega)] at hkk
   cases hd:ndR s.out with
   | nil=>simp [ndR] at hd; exact absurd hd ho
   | cons e r=>rw [hd] at hkk; cases hkk
theorem cM.alloc {f:List Nd} {nx:Nat} {xZ:List (Nat × Ob)} {key:Nat} {s:CS} (h:cM f nx xZ key s) (hk:key<nx\/key=nx+4) (o1 o2:Ob):cM f (nx+1+1) ((nx+1,o1) :: (nx,o2) :: xZ) key s:=by
 obtain⟨hn,h0,h1,⟨k1,k2,k3,hkk⟩,hfr,h2,h3,h4,h5,h6⟩:=h
 have hl:∀ k,k≠nx->k≠nx+1->St.look ((nx+1,o1) :: (nx,o2) :: xZ) k=St.look xZ k:=fun k a b=>by rw [xX,if_neg (fun e=>b e.symm),xX,if_neg (fun e=>a e.symm)]
 refine⟨by omega,?_,?_,⟨k1,by omega,by omega,?_⟩,?_,?_,?_,?_,?_,?_⟩
 ·rw [hl 0 (by omega) (by omega)]; exact h0
 ·rw [hl 1 (by omega) (by omega)]; exact h1
 ·rw [hl key k2 k3]; exact hkk
 ·intro k hk2; rw [hl k (by omega) (by omega)]; exact hfr k (by omega)
 ·rw [hl 2 (by omega) (by omega)]; exact h2
 ·rw [hl 3 (by omega) (by omega)]; exact h3
 ·rw [hl 4 (by omega) (by omega)]; exact h4
 ·rw [hl 5 (by omega) (by omega)]; exact h5
 ·rw [hl 6 (by omega) (by omega)]; exact h6
theorem cM.set {f:List Nd} {nx:Nat} {xZ:List (Nat × Ob)} {key:Nat} {s:CS} (h:cM f nx xZ key s) {j:Nat} (hj:7<=j) (hk:key≠j) (o:Ob):cM f nx (uR xZ j o) key s:=by
 obtain⟨hn,h0,h1,⟨k1,k2,k3,hkk⟩,hfr,h2,h3,h4,h5,h6⟩:=h;have hl:∀ k,k≠j->St.look (uR xZ j o) k=St.look xZ k:=fun k a=>by rw [xV,if_neg (fun e=>a e.symm)]
 refine⟨hn,?_,?_,⟨k1,k2,k3,?_⟩,?_,?_,?_,?_,?_,?_⟩
 ·rw [hl 0 (by omega)]; exact h0
 ·rw [hl 1 (by omega)]; exact h1
 ·rw [hl key hk]; exact hkk
 ·exact fun k hk2=>wC (hfr k hk2)
 ·rw [hl 2 (by omega)]; exact h2
 ·rw [hl 3 (by omega)]; exact h3
 ·rw [hl 4 (by omega)]; exact h4
 ·rw [hl 5 (by omega)]; exact h5
 ·rw [hl 6 (by omega)]; exact h6
end Fm
theorem aHu {f:List Nd} {nx:Nat} {xZ:List (Nat × Ob)} {key:Nat} {s:CS} {i:Nat} {k:Int} (hI:cM f nx xZ key s) (hu:vS i s.done=some k) :
  xY Tryz.prog 202 [.int .i64 i,.ref 5 1 0 0,.ref 0 1 0 0,.ref 6 1 0 0,.ref 3 1 0 0,.ref 1 1 0 0] ⟨nx,xZ⟩ (.int .i64 k) ⟨nx,xZ⟩:=by
 obtain⟨hn,h0,h1,hk,hfr,h2,h3,h4,h5,h6⟩:=hI
 rcases lF (i:Int) s.done 0 with ⟨q1,q2⟩ | ⟨y,j,q1,q2⟩
 ·rw [hu] at q1; cases q1
 ·rw [hu] at q1; cases q1;refine xY.xR mixed Tryz.func202 bVp (by simp) fun hf=>?_;simp only [simprocAttr,-ZA,↓zU,↓zD,zV,zT,zW,h5,h4,q2]
  (repeat refine sd ?_)
  exact .same
theorem eG {f:List Nd} (hc:∀ k,k<f.length->yE (f.getD k nd0) k=0) (hlen:f.length<=900):∀ (n:Nat) {i nx:Nat} {xZ:List (Nat × Ob)} {key:Nat} {s:CS},i<n->i<f.length->cI f s->cM f nx xZ key s ->
  ∃ nx' objs' key',cM f nx' objs' key' (xJ f n i s).2/\nx<=nx'/\(key'=key\/nx<=key')/\ (∀ k,7<=k->k<nx->(k≠key\/s.out = [])->St.look objs' k=St.look xZ k)/\
   xY Tryz.prog 202 [.int .i64 i,.ref 5 1 0 0,.ref 0 1 0 0,.ref 6 1 0 0,.ref 3 1 0 0,.ref 1 1 0 0] ⟨nx,xZ⟩ (.int .i64 (xJ f n i s).1) ⟨nx',objs'⟩
 | 0,i,nx,xZ,key,s,h,_,_,_=>by omega
 | n + 1,i,nx,xZ,key,s,h,hi,hs,hI=>by
  cases hu:vS i s.done with
  | some k=> rw [xJ,hu];exact⟨nx,xZ,key,hI,Nat.le_refl _,.inl rfl,fun _ _ _ _=>rfl,aHu hI hu⟩
  | none=>
   rw [nP hu];obtain⟨ox,oy⟩:=oD (hc i hi);simp only;generalize hp:f.getD i nd0=p at ox oy;obtain⟨ky,hI',hky⟩:=hI.bUj;have hn:=hI'.hn;have hkc:ky<nx\/ky=nx+4:=by rcases hky with ⟨_,h⟩ | ⟨_,_,h⟩; exact .inr h; exact .inl h
   have hA:=hI'.alloc hkc (aSb (xW p.op).1) (iA p.op p.i p.e p.g p.x p.y)
   have hkk:∀ k,k<nx->(k≠key\/s.out = [])->k≠ky:=fun k h1 h2=>by
    rcases hky with ⟨_,e⟩ | ⟨ho,e,_⟩
    ·omega
    ·rcases h2 with h2 | h2
     ·rw [e]; exact h2
     ·exact absurd h2 ho
   have hkey:∀ k',k'=ky\/nx<=k'->k'=key\/nx<=k':=fun k' h=>by
    rcases h with h | h
    ·rcases hky with ⟨_,e⟩ | ⟨_,e,_⟩
     ·exact .inr (by omega)
     ·exact .inl (by rw [h,e])
    ·exact .inr h
   have hA0:∀ k,k<nx->St.look ((nx+1,aSb (xW p.op).1) :: (nx,iA p.op p.i p.e p.g p.x p.y) :: xZ) k=St.look xZ k:=fun k hk=>by rw [xX,if_neg (by omega),xX,if_neg (by omega)]
   by_cases hx:(xW p.op).1.x=true
   ·obtain⟨hx1,hx2⟩:=ox hx;have hxn:((p.x.toNat:Nat):Int)= p.x:=Int.toNat_of_nonneg hx1;obtain⟨nx1,objs1,key1,I1,l1,kk1,fr1,c1⟩:=eG hc hlen n (i:=p.x.toNat) (by omega) (by omega) hs hA;have f1:=(oS hc n (i:=p.x.toNat) (s:=s) (by omega) (by omega) hs);rw [if_pos hx];rw [hxn] at c1;generalize xJ f n p.x.toNat s=a at I1 c1 f1
    have hN:St.look objs1 nx=some (iA p.op p.i p.e p.g p.x p.y):=by rw [fr1 nx hn (by omega) (.inl (by omega)),xX,if_neg (by omega),xX,if_pos rfl]
    have hU:St.look objs1 (nx+1)= some (aSb (xW p.op).1):=by rw [fr1 (nx+1) (by omega) (by omega) (.inl (by omega)),xX,if_pos rfl]
    have hk1:key1≠nx:=by omega
    by_cases hy:(xW p.op).1.y=true
    ·obtain⟨hy1,hy2⟩:=oy hy;have hyn:((p.y.toNat:Nat):Int)= p.y:=Int.toNat_of_nonneg hy1;obtain⟨nx2,objs2,key2,I2,l2,kk2,fr2,c2⟩:=eG hc hlen n (i:=p.y.toNat) (by omega) (by omega) f1.1 (I1.set (j:=nx) hn hk1 (iA p.op p.i p.e p.g a.1 p.y));have f2:=(oS hc n (i:=p.y.toNat) (s:=a.2) (by omega) (by omega) f1.1);rw [if_pos hy];rw [hyn] at c2;generalize xJ f n p.y.toNat a.2=b at I2 c2 f2
     have hN2:St.look objs2 nx=some (iA p.op p.i p.e p.g a.1 p.y):=by rw [fr2 nx hn (by omega) (.inl (by omega)),xV,if_pos rfl,hN]; rfl
     have hk2:key2≠nx:=by omega
     obtain⟨nx',objs',key',e1,e2,e3,e4,e5⟩:=aU5 (q:=⟨p.op,p.i,p.e,p.g,a.1,b.1⟩) (i:=i) (nx:=nx) I2 (by omega) (by omega) hk2 (by have:=f2.1.len; omega);refine⟨nx',objs',key',e2,by omega,hkey _ (by omega),fun k a1 a2 a3=>?_,aL3 hI' hi (by omega) hp hu hx hy c1 I1 hN hU c2 I2 hN2 (by omega) hk2 e1⟩;have hk3:=hkk k a2 a3;rw [e5 k a1 (by omega) (by omega) (by omega),fr2 k a1 (by omega) (.inl (by omega)),xV,if_neg (by omega),fr1 k a1 (by omega) (.inl hk3)];exact hA0 k a2
    ·rw [if_neg hy];obtain⟨nx',objs',key',e1,e2,e3,e4,e5⟩:=aU5 (q:=⟨p.op,p.i,p.e,p.g,a.1,p.y⟩) (i:=i) (nx:=nx) I1 (by omega) (by omega) hk1 (by have:=f1.1.len; omega);refine⟨nx',objs',key',e2,by omega,hkey _ (by omega),fun k a1 a2 a3=>?_,aHt hI' hi (by omega) hp hu hx (by simpa using hy) c1 I1 hN hU (by omega) hk1 e1⟩;have hk3:=hkk k a2 a3;rw [e5 k a1 (by omega) (by omega) (by omega),fr1 k a1 (by omega) (.inl hk3)];exact hA0 k a2
   ·have hy:¬ (xW p.op).1.y=true:=fun hy=>hx (aBi _ hy);rw [if_neg hx,if_neg hy];obtain⟨nx',objs',key',e1,e2,e3,e4,e5⟩:=aU5 (q:=p) (i:=i) (nx:=nx) hA (by omega) (by omega) (by omega) (by have:=hs.len; omega)
    refine⟨nx',objs',key',e2,by omega,?_,fun k a1 a2 a3=>?_,aBd hI' hi (by omega) hp hu (by simpa using hx) (by simpa using hy) e1⟩
    ·rcases e4 with e4 | e4
     ·exact hkey _ (.inl e4)
     ·exact .inr (by omega)
    ·rw [e5 k a1 (by omega) (hkk k a2 a3) (by omega)];exact hA0 k a2
open Rs Fm
theorem aW2 {f:List Nd} {i:Nat} (hc:∀ k,k<f.length->yE (f.getD k nd0) k=0) (hlen:f.length<=900) (hi:i<f.length):yB Tryz.prog 143 [.sl 6 (ndR f),.int .i64 i] (.sl 6 (ndR (vB f i))):=by
 have hI0:cM f 7 [(6,⟨1,[[.fn 202 [.ref 5 1 0 0,.ref 0 1 0 0,.ref 6 1 0 0,.ref 3 1 0 0,.ref 1 1 0 0]]]⟩),(5,⟨1,[[.zJ 4]]⟩),(4,⟨0,[]⟩),(3,⟨1,[[.zJ 2]]⟩),(2,⟨0,[]⟩),(1,⟨1,[[.xO]]⟩),(0,⟨1,[[.sl 6 (ndR f)]]⟩)] 11 ⟨[],[]⟩:=by refine⟨Nat.le_refl _,by simp [St.look],by simp [St.look,ndR,xA],⟨by omega,by omega,by omega,by simp [St.look,ndR,uP]⟩,fun k hk=>?_,by simp [St.look,cO,pP],by simp [St.look],by simp [St.look,mo,qS],by simp [St.look],by simp [St.look]⟩;simp only [xX,look_nil];rw [if_neg (by omega),if_neg (by omega),if_neg (by omega),if_neg (by omega),if_neg (by omega),if_neg (by omega),if_neg (by omega)]
 obtain⟨nx',objs',key',I1,_,_,_,c1⟩:=eG hc hlen (i+1) (i:=i) (by omega) hi ⟨Nat.le_refl _,by simp,fun p hp=>by cases hp⟩ hI0;have e:(xJ f (i+1) i ⟨[],[]⟩).2.out=vB f i:=rfl;have h1:=I1.h1;have hk:=I1.hk.2.2.2;rw [e] at h1 hk;refine xY.xR mixed Tryz.func143 bRi (by simp) fun hf=>?_;simp only [simprocAttr,-ZA,↓zU,↓zD,zV,zT,zW]
 (repeat refine sd ?_)
 refine .go c1 ?_;simp only [simprocAttr,-ZA,↓zU,↓zD,zV,zT,zW,h1]
 (repeat refine sd ?_)
 exact .drop (by simp) (jE (by simp) (aX4 _) hk)
namespace Fm
theorem wQ {f:List Nd} (h:xB f=0):f ≠ []/\f.length<=200/\∀ k,k<f.length->yE (f.getD k nd0) k=0:=by
 unfold xB at h
 by_cases h1:f = []
 ·rw [if_pos h1] at h; cases h
 rw [if_neg h1] at h
 by_cases h2:200<f.length
 ·rw [if_pos h2] at h; cases h
 rw [if_neg h2] at h;refine⟨h1,by omega,fun k hk=>?_⟩;have:=aJ0 h k hk
 rwa [Int.zero_add] at this
def aVy (f:List Nd) (i:Int):List Nd:=if xB f≠0\/i<0\/(f.length:Int)<=i then [] else vB f i.toNat
def xH (f:List Nd):List Nd:=aVy f ((f.length:Int)-1)
end Fm
theorem bU9 (f:List Nd) (i:Int):yB Tryz.prog 149 [.sl 6 (ndR f),.int .i64 i] (.sl 6 (ndR (aVy f i))):=by
 refine xY.xR mixed Tryz.func149 bRc (by simp) fun hf=>?_;simp only [simprocAttr,-ZA,↓zU,↓zD,zV,zT,zW];refine .go (cr (oB f)) ?_;by_cases hc:xB f=0
 case neg=> have e:(xB f != 0)= true:=bne_iff_ne.2 hc;simp only [simprocAttr,-ZA,↓zU,↓zD,zV,zT,zW,e];rw [show aVy f i = [] from if_pos (.inl hc)];exact .drop (by simp) (by simp [vw,ndR])
 have e:(xB f != 0)= false:=by simpa using hc
 by_cases h1:i<0
 ·simp only [simprocAttr,-ZA,↓zU,↓zD,zV,zT,zW,e,h1];rw [show aVy f i = [] from if_pos (.inr (.inl h1))];exact .drop (by simp) (by simp [vw,ndR])
 by_cases h2:(f.length:Int)<=i
 ·simp only [simprocAttr,-ZA,↓zU,↓zD,zV,zT,zW,e,h1,xI,h2];rw [show aVy f i = [] from if_pos (.inr (.inr h2))];exact .drop (by simp) (by simp [vw,ndR])
 obtain⟨j,rfl⟩:=Int.eq_ofNat_of_zero_le (show 0<=i by omega);obtain⟨c1,c2,c3⟩:=wQ hc;rw [show aVy f j=vB f j by rw [aVy,if_neg (by omega),Int.toNat_natCast]];simp only [simprocAttr,-ZA,↓zU,↓zD,zV,zT,zW,e,h1,xI,h2];refine .go (xY.yM (aW2 c3 (by omega) (show j<f.length by omega)) (by simp [D.xU,D.xL])) ?_;simp only [simprocAttr,-ZA,↓zU,↓zD,zV,zT,zW];exact .same
theorem dX (f:List Nd):yB Tryz.prog 103 [.sl 6 (ndR f)] (.sl 6 (ndR (xH f))):=by refine xY.xR mixed Tryz.func103 bR5 (by simp) fun hf=>?_;simp only [D.rG,D.fact,xI] at hf;have hlen:=hf.1.1;have e:IntKind.i64.wrap ((f.length:Int)-1)= (f.length:Int)-1:=wrap_i64 (by omega);simp only [simprocAttr,-ZA,↓zU,↓zD,zV,zT,zW,xI,e];refine .go (xY.yM (bU9 f ((f.length:Int)-1)) (by simp [D.xU,D.xL])) ?_;simp only [simprocAttr,-ZA,↓zU,↓zD,zV,zT,zW];exact .same
open Rs Fm
theorem bUp {a b:Nat} (ha:a<2 ^ 62) (hb:b<2 ^ 62):pT .or .i64 (a:Int) (b:Int)= ((a ||| b:Nat):Int):=by show IntKind.i64.wrap ((BitVec.ofInt 64 (a:Int) ||| BitVec.ofInt 64 (b:Int)).toNat:Int)= _;rw [BitVec.ofInt_natCast,BitVec.ofInt_natCast,BitVec.toNat_or,BitVec.toNat_ofNat,BitVec.toNat_ofNat,Nat.mod_eq_of_lt (by omega),Nat.mod_eq_of_lt (by omega)];have:=Nat.or_lt_two_pow ha hb;exact wrap_i64 (by omega)
namespace Fm
def vI (m:Nd->Nat) (l:List Nd):Nat:=l.foldl (fun a p=>a ||| m p) 0
theorem aTh (m:Nd->Nat) (l:List Nd) (p:Nd):vI m (l ++ [p])= vI m l ||| m p:=by simp [vI]
theorem fI {m:Nd->Nat} {l:List Nd} (h:∀ p ∈ l,m p<4096):vI m l<2 ^ 12:=by
 have key:∀ (l:List Nd) (a:Nat),a<2 ^ 12->(∀ p ∈ l,m p<4096)->l.foldl (fun a p=>a ||| m p) a<2 ^ 12:=by
  intro l
  induction l with
  | nil=>intro a ha _; exact ha
  | cons p r ih=>intro a ha h; exact ih _ (Nat.or_lt_two_pow ha (h p (by simp))) fun q hq=>h q (by simp [hq])
 exact key l 0 (by decide) h
end Fm
theorem aUi {f:List Nd} {g:FuncId} {m:Nd->Nat} (hm:∀ p ∈ xH f,m p<4096) (h:∀ p ∈ xH f,yB Tryz.prog g [.agg p.row,.agg (xW p.op).1.row] (.int .i64 (m p))) (hlen:(xH f).length<=1000) :
  yB Tryz.prog 111 [.sl 6 (ndR f),.fn g []] (.int .i64 (vI m (xH f))):=by
 refine xY.xR mixed Tryz.func111 bR1 (by simp) fun hf=>?_;simp only [simprocAttr,-ZA,↓zU,↓zD,zV,zT,zW];refine .go (cr (dX f)) ?_;generalize xH f=l at hm h hlen;simp only [simprocAttr,-ZA,↓zU,↓zD,zV,zT,zW,xI]
 refine xQ (fun k:Nat=>[(13,.int .i64 k),(12,.int .i64 l.length),(11,.sl 6 (ndR l)),(5,.int .i64 (vI m (l.take k))),(1,.fn g [])]) (fun _=>⟨0,[]⟩) (fun k=>k<=l.length) (fun k=>l.length-k) 0 (Nat.zero_le _) ?_ ?_
 ·(refine xM.same ?_; simp [xP,Fr.get,vI])
 intro k hk;refine xN mixed ?_;by_cases hh:k<l.length
 case neg=>
  have hd:¬ ((k:Int)<(l.length:Int)):=by omega
  rw [oH (show k=l.length by omega)];simp only [simprocAttr,-ZA,↓zU,↓zD,zV,zT,zW,hd];exact .same
 have hd:((k:Int)<(l.length:Int)):=by omega
 have hs:vI m (l.take (k+1))= vI m (l.take k) ||| m (l.getD k nd0):=by rw [wT (d:=nd0) hh,aTh]
 have hg:=pC l hh;have hmem:=xS (d:=nd0) hh;have hlt:vI m (l.take k)<2 ^ 12:=fI fun p hp=>hm p (List.mem_of_mem_take hp);generalize l.getD k nd0=p at hs hg hmem;have hmp:=hm p hmem;simp only [simprocAttr,-ZA,↓zU,↓zD,zV,zT,zW,hd,xI,hg,Nd.row]
 (repeat refine sd ?_)
 refine .go (cq (cB p.op)) ?_;simp only [simprocAttr,-ZA,↓zU,↓zD,zV,zT,zW,Use.row]
 (repeat refine sd ?_)
 refine .go (xY.yM (h p hmem) (by simp [D.xU,D.xL,Nd.row,Use.row])) ?_;simp only [simprocAttr,-ZA,↓zU,↓zD,zV,zT,zW,bUp (show vI m (l.take k)<2 ^ 62 by omega) (show m p<2 ^ 62 by omega)];refine⟨k+1,by omega,?_,by omega⟩;rw [hs]
 (refine xM.view (fun k=>k) (by simp) (by simp) ?_ (by simp [stays]) (by simp [uU]); simp [vwF,vw,vwL,Fr.get])
 exact wrap_i64 (by omega)
open Rs Fm
namespace Fm
theorem aXe (op:Int):0<=(xW op).1.fr/\(xW op).1.fr<=256:=by
 have hc:op=1\/op=2\/op=3\/op=4\/op=5\/op=6\/op=7\/op=8\/op=9\/op=10\/op=11\/op=12\/op=13\/op=14\/op=15\/op=16\/op=17\/op=18\/op=19\/op=20\/op=21\/(op<1\/21<op):=by omega
 rcases hc with rfl | rfl | rfl | rfl | rfl | rfl | rfl | rfl | rfl | rfl | rfl | rfl | rfl | rfl | rfl | rfl | rfl | rfl | rfl | rfl | rfl | hc
 rotate_right
 ·rw [show xW op=(iF,false) from if_pos hc]; exact⟨by decide,by decide⟩
 all_goals simp [xW,iF]
def jW (p:Nd):Nat:=(xW p.op).1.fr.toNat
def zC (f:List Nd):Nat:=vI jW (xH f)
theorem nQ {f:List Nd} {i:Nat} (hc:∀ k,k<f.length->yE (f.getD k nd0) k=0) (hi:i<f.length):(vB f i).length<=f.length:=(oS hc (i+1) (i:=i) (s:=⟨[],[]⟩) (by omega) hi ⟨Nat.le_refl _,by simp,fun p hp=>by cases hp⟩).1.len
theorem fY (f:List Nd) (i:Int):(aVy f i).length<=200:=by
 unfold aVy
 by_cases h:xB f≠0\/i<0\/(f.length:Int)<=i
 ·rw [if_pos h]; simp
 ·rw [if_neg h];obtain⟨c1,c2,c3⟩:=wQ (f:=f) (by omega);have:=nQ c3 (i:=i.toNat) (by omega);omega
end Fm
theorem aTd (f:List Nd):yB Tryz.prog 53 [.sl 6 (ndR f)] (.int .i64 (zC f)):=by
 refine xY.xR mixed Tryz.func53 k53 (by simp) fun hf=>?_;simp only [simprocAttr,-ZA,↓zU,↓zD,zV,zT,zW]
 refine .go (xY.yM (aUi (m:=jW) (fun p _=>by have:=aXe p.op; unfold jW; omega) (fun p _=>?_) (by have:=fY f ((f.length:Int)-1); unfold xH; omega)) rfl) ?_
 ·have h:=bXc p (xW p.op).1;have:=aXe p.op;rw [show ((jW p:Nat):Int)= (xW p.op).1.fr from Int.toNat_of_nonneg this.1];exact h
 simp only [simprocAttr,-ZA,↓zU,↓zD,zV,zT,zW];exact .same
open Rs Fm
namespace Fm
def iN (m:Nat) (n:Int):Bool:=decide (31<=n) || decide (m / 2 ^ n.toNat=0)
end Fm
theorem aCb (m:Nat) (n:Int):yB Tryz.prog 146 [.int .i64 m,.int .i64 n] (.bool (iN m n)):=by
 refine xY.xR mixed Tryz.func146 bRf (by simp) fun hf=>?_
 by_cases h1:31<=n
 ·simp only [simprocAttr,-ZA,↓zU,↓zD,zV,zT,zW,h1];exact .drop (by simp) (by simp [vw,iN,h1])
 have e:max n 0=((n.toNat:Nat):Int):=by omega
 have e2:max 0 n=((n.toNat:Nat):Int):=by omega
 have hb:(((m / 2 ^ n.toNat:Nat):Int)== 0)= decide (m / 2 ^ n.toNat=0):=by rw [Bool.eq_iff_iff,beq_iff_eq,decide_eq_true_iff]; omega
 simp only [simprocAttr,-ZA,↓zU,↓zD,zV,zT,zW,h1,bWp,e,e2,aDx m n.toNat (by omega),hb]
 (repeat refine sd ?_)
 exact .drop (by simp) (by simp [vw,iN,h1])
open Rs Fm
namespace Fm
theorem vZ {p:Nd} {k:Int}:yE p k=0 ↔ (xW p.op).2=true/\yL (xW p.op).1.x p.x k=true/\yL (xW p.op).1.y p.y k=true /\
  ((!((xW p.op).1.fa || (xW p.op).1.ag || (xW p.op).1.ev)&& decide (p.i≠0)) || (!(xW p.op).1.ev&&decide (p.e≠0)) || (!(xW p.op).1.gr&&decide (p.g≠0)))= false /\
  (xC (xW p.op).1.fa p.i 0 7 || xC (xW p.op).1.ag p.i 0 3 || xC (xW p.op).1.ev p.i 0 7 || xC (xW p.op).1.ev p.e 0 7 || xC (xW p.op).1.gr p.g 1 15)= false:=by
 unfold yE
 cases h1:(xW p.op).2
 ·simp
 cases h2:yL (xW p.op).1.x p.x k
 ·simp
 cases h3:yL (xW p.op).1.y p.y k
 ·simp
 generalize ((!((xW p.op).1.fa || (xW p.op).1.ag || (xW p.op).1.ev)&& decide (p.i≠0)) || (!(xW p.op).1.ev&&decide (p.e≠0)) || (!(xW p.op).1.gr&&decide (p.g≠0)))= c;generalize (xC (xW p.op).1.fa p.i 0 7 || xC (xW p.op).1.ag p.i 0 3 || xC (xW p.op).1.ev p.i 0 7 || xC (xW p.op).1.ev p.e 0 7 || xC (xW p.op).1.gr p.g 1 15)= d;cases c <;> cases d <;> simp
theorem tM {p:Nd} {a b k k':Int} (h:yE p k=0) (ha:if (xW p.op).1.x=true then 0<=a/\a<k' else a=p.x) (hb:if (xW p.op).1.y=true then 0<=b/\b<k' else b=p.y):yE ⟨p.op,p.i,p.e,p.g,a,b⟩ k'=0:=by
 rw [vZ] at h ⊢;obtain⟨h1,h2,h3,h4,h5⟩:=h
 refine⟨h1,?_,?_,h4,h5⟩
 ·simp only
  cases hx:(xW p.op).1.x
  ·rw [hx] at ha h2;rw [if_neg (by simp)] at ha;rw [ha]; exact h2
  ·rw [hx,if_pos rfl] at ha;simp [yL,ha]
 ·simp only
  cases hx:(xW p.op).1.y
  ·rw [hx] at hb h3;rw [if_neg (by simp)] at hb;rw [hb]; exact h3
  ·rw [hx,if_pos rfl] at hb;simp [yL,hb]
structure bYt (s : CS) : Prop where
 nd:∀ k,k<s.out.length->yE (s.out.getD k nd0) k=0
 dn:∀ z k:Int,vS z s.done=some k->0<=k/\k<s.out.length
theorem aLd {q:Nd}:∀ {l:List Nd} {k j:Nat},iW q l k=some j->k<=j/\j<k+l.length
 | [],_,_,h=>by cases h
 | p :: r,k,j,h=>by
  unfold iW at h
  by_cases e:q=p
  ·rw [if_pos e] at h; cases h; simp
  ·rw [if_neg e] at h;have:=aLd h;simp only [List.length_cons]; omega
theorem bW3 {s:CS} {i:Nat} {q:Nd} (h:bYt s) (hq:yE q s.out.length=0):bYt (aSh i q s).2/\0<=(aSh i q s).1/\(aSh i q s).1<(aSh i q s).2.out.length/\s.out.length<=(aSh i q s).2.out.length:=by
 unfold aSh
 cases he:iW q s.out 0 with
 | some k=>
  have hk:=aLd he;refine⟨⟨h.nd,fun z j hz=>?_⟩,by simp,by simp only; omega,Nat.le_refl _⟩;simp only at hz;rw [sX] at hz
  by_cases e:z=i
  ·rw [if_pos e] at hz; cases hz; simp only; omega
  ·rw [if_neg e] at hz; exact h.dn z j hz
 | none=>
  refine⟨⟨fun k hk=>?_,fun z j hz=>?_⟩,by simp,by simp; omega,by simp⟩
  ·simp only [List.length_append,List.length_singleton] at hk
   by_cases hl:k<s.out.length
   ·have:=h.nd k hl;simp only [List.getD_eq_getElem?_getD] at this ⊢
    rwa [List.getElem?_append_left hl]
   ·obtain rfl:k=s.out.length:=by omega
    simpa [List.getD_eq_getElem?_getD] using hq
  ·simp only at hz;rw [sX] at hz
   by_cases e:z=i
   ·rw [if_pos e] at hz; cases hz; simp; omega
   ·rw [if_neg e] at hz;have:=h.dn z j hz;simp only [List.length_append,List.length_singleton]; omega
theorem kV {f:List Nd} (hc:∀ k,k<f.length->yE (f.getD k nd0) k=0):∀ (n:Nat) {i:Nat} {s:CS},i<n->i<f.length->bYt s ->
  bYt (xJ f n i s).2/\0<=(xJ f n i s).1/\(xJ f n i s).1<(xJ f n i s).2.out.length/\s.out.length<=(xJ f n i s).2.out.length
 | 0,i,s,h,_,_=>by omega
 | n + 1,i,s,h,hi,hs=>by
  cases hu:vS i s.done with
  | some k=>rw [xJ,hu]; exact⟨hs,(hs.dn _ _ hu).1,(hs.dn _ _ hu).2,Nat.le_refl _⟩
  | none=>
   rw [nP hu];have hp:=hc i hi;obtain⟨ox,oy⟩:=oD hp;simp only;generalize f.getD i nd0=p at ox oy hp
   have ha:bYt (if (xW p.op).1.x=true then xJ f n p.x.toNat s else(p.x,s)).2/\(if (xW p.op).1.x=true then 0<=(if (xW p.op).1.x=true then xJ f n p.x.toNat s else(p.x,s)).1/\(if (xW p.op).1.x=true then xJ f n p.x.toNat s else(p.x,s)).1<(if (xW p.op).1.x=true then xJ f n p.x.toNat s else(p.x,s)).2.out.length else(if (xW p.op).1.x=true then xJ f n p.x.toNat s else(p.x,s)).1=p.x)/\ s.out.length<=(if (xW p.op).1.x=true then xJ f n p.x.toNat s else(p.x,s)).2.out.length:=by
    by_cases hx:(xW p.op).1.x=true
    ·simp only [if_pos hx];have:=ox hx;obtain⟨b1,b2,b3,b4⟩:=kV hc n (i:=p.x.toNat) (s:=s) (by omega) (by omega) hs;exact⟨b1,⟨b2,b3⟩,b4⟩
    ·simp only [if_neg hx]; exact⟨hs,trivial,Nat.le_refl _⟩
   generalize (if (xW p.op).1.x=true then xJ f n p.x.toNat s else(p.x,s))= a at ha;obtain⟨a1,a2,a3⟩:=ha
   have hb:bYt (if (xW p.op).1.y=true then xJ f n p.y.toNat a.2 else(p.y,a.2)).2/\(if (xW p.op).1.y=true then 0<=(if (xW p.op).1.y=true then xJ f n p.y.toNat a.2 else(p.y,a.2)).1/\(if (xW p.op).1.y=true then xJ f n p.y.toNat a.2 else(p.y,a.2)).1<(if (xW p.op).1.y=true then xJ f n p.y.toNat a.2 else(p.y,a.2)).2.out.length else(if (xW p.op).1.y=true then xJ f n p.y.toNat a.2 else(p.y,a.2)).1=p.y)/\ a.2.out.length<=(if (xW p.op).1.y=true then xJ f n p.y.toNat a.2 else(p.y,a.2)).2.out.length:=by
    by_cases hy:(xW p.op).1.y=true
    ·simp only [if_pos hy];have:=oy hy;obtain⟨b1,b2,b3,b4⟩:=kV hc n (i:=p.y.toNat) (s:=a.2) (by omega) (by omega) a1;exact⟨b1,⟨b2,b3⟩,b4⟩
    ·simp only [if_neg hy]; exact⟨a1,trivial,Nat.le_refl _⟩
   generalize (if (xW p.op).1.y=true then xJ f n p.y.toNat a.2 else(p.y,a.2))= b at hb;obtain⟨b1,b2,b3⟩:=hb
   have hq:yE ⟨p.op,p.i,p.e,p.g,a.1,b.1⟩ b.2.out.length=0:=by
    refine tM hp ?_ b2
    split
    ·rename_i hx;rw [if_pos hx] at a2; omega
    ·rename_i hx;rw [if_neg hx] at a2; exact a2
   obtain⟨e1,e2,e3,e4⟩:=bW3 (i:=i) b1 hq;exact⟨e1,e2,e3,by omega⟩
theorem gF (f:List Nd) (i:Int):∀ k,k<(aVy f i).length->yE ((aVy f i).getD k nd0) k=0:=by
 unfold aVy
 by_cases h:xB f≠0\/i<0\/(f.length:Int)<=i
 ·rw [if_pos h]; intro k hk; simp at hk
 ·rw [if_neg h];obtain⟨c1,c2,c3⟩:=wQ (f:=f) (by omega);exact(kV c3 (i.toNat+1) (i:=i.toNat) (s:=⟨[],[]⟩) (by omega) (by omega) ⟨fun k hk=>by simp at hk,fun z k hz=>by cases hz⟩).1.nd
theorem bZ5 {f:List Nd} {i:Nat} (hc:xB f=0) (hi:i<f.length):0<(aVy f i).length:=by obtain⟨c1,c2,c3⟩:=wQ hc;unfold aVy;rw [if_neg (by omega)];have:=(kV c3 ((i:Int).toNat+1) (i:=(i:Int).toNat) (s:=⟨[],[]⟩) (by omega) (by omega) ⟨fun k hk=>by simp at hk,fun z k hz=>by cases hz⟩).2;unfold vB;omega
theorem uC {f:List Nd} (hc:xB f=0):0<(xH f).length:=by
 have h1:=(wQ hc).1;have:0<f.length:=List.length_pos_iff.2 h1;have:=bZ5 (i:=f.length-1) hc (by omega);unfold xH
 rwa [show ((f.length:Int)-1)= ((f.length-1:Nat):Int) by omega]
theorem bX {l:List Nd} (h:∀ k,k<l.length->yE (l.getD k nd0) k=0) {p:Nd} (hp:p ∈ l):∃ k:Nat,yE p k=0:=by
 obtain⟨k,hk,rfl⟩:=List.getElem_of_mem hp;refine⟨k,?_⟩;have:=h k hk
 rwa [List.getD_eq_getElem?_getD,List.getElem?_eq_getElem hk] at this
theorem jR {p:Nd} {k:Int} (h:yE p k=0) (hf:(xW p.op).1.fa=true):0<=p.i/\p.i<=7:=by have:=(vZ.1 h).2.2.2.2;simp only [xC,hf,Bool.or_eq_false_iff,Bool.true_and,decide_eq_false_iff_not] at this;omega
theorem tB {p:Nd} {k:Int} (h:yE p k=0) (hf:(xW p.op).1.ag=true):0<=p.i/\p.i<=3:=by have:=(vZ.1 h).2.2.2.2;simp only [xC,hf,Bool.or_eq_false_iff,Bool.true_and,decide_eq_false_iff_not] at this;omega
theorem gV {p:Nd} {k:Int} (h:yE p k=0):0<=p.g/\p.g<=15:=by
 have h1:=(vZ.1 h).2.2.2.2;have h2:=(vZ.1 h).2.2.2.1
 cases hg:(xW p.op).1.gr
 ·simp only [hg,Bool.or_eq_false_iff,Bool.not_false,Bool.true_and,decide_eq_false_iff_not] at h2;omega
 ·simp only [xC,hg,Bool.or_eq_false_iff,Bool.true_and,decide_eq_false_iff_not] at h1;omega
def tE (p:Nd):Nat:=if (xW p.op).1.ag=true then 2 ^ p.i.toNat else p.g.toNat
def gH (p:Nd):Nat:=if (xW p.op).1.fa=true then 2 ^ p.i.toNat else 0
def oX (f:List Nd):Nat:=vI tE (xH f)
def bW (f:List Nd):Nat:=vI gH (xH f)
theorem aIt {p:Nd} {k:Int} (h:yE p k=0):tE p<4096:=by
 unfold tE
 split
 ·rename_i hf;have:=tB h hf;have:2 ^ p.i.toNat<=2 ^ 3:=Nat.pow_le_pow_right (by decide) (by omega);omega
 ·have:=gV h;omega
theorem aEm {p:Nd} {k:Int} (h:yE p k=0):gH p<4096:=by
 unfold gH
 split
 ·rename_i hf;have:=jR h hf;have:2 ^ p.i.toNat<=2 ^ 7:=Nat.pow_le_pow_right (by decide) (by omega);omega
 ·omega
def sT (f:List Nd) (a b:Int):Bool:=decide (xB f=0)&& iN (oX f) a&&iN (bW f) b
end Fm
theorem aDf (f:List Nd):yB Tryz.prog 147 [.sl 6 (ndR f)] (.int .i64 (oX f)):=by
 refine xY.xR mixed Tryz.func147 bRe (by simp) fun hf=>?_;simp only [simprocAttr,-ZA,↓zU,↓zD,zV,zT,zW]
 refine .go (xY.yM (aUi (m:=tE) (fun p hp=>?_) (fun p hp=>?_) (by have:=fY f ((f.length:Int)-1); unfold xH; omega)) rfl) ?_
 ·obtain⟨k,hk⟩:=bX (gF f _) hp;exact aIt hk
 ·obtain⟨k,hk⟩:=bX (gF f _) hp;have h:=aDe p (xW p.op).1 (fun ha=>by have:=tB hk ha; omega)
  rw [show ((tE p:Nat):Int)= (if (xW p.op).1.ag=true then((2 ^ p.i.toNat:Nat):Int) else p.g) by
   unfold tE
   split
   ·rfl
   ·have:=gV hk; omega]
  exact h
 simp only [simprocAttr,-ZA,↓zU,↓zD,zV,zT,zW];exact .same
theorem bX2 (f:List Nd):yB Tryz.prog 148 [.sl 6 (ndR f)] (.int .i64 (bW f)):=by
 refine xY.xR mixed Tryz.func148 bRd (by simp) fun hf=>?_;simp only [simprocAttr,-ZA,↓zU,↓zD,zV,zT,zW]
 refine .go (xY.yM (aUi (m:=gH) (fun p hp=>?_) (fun p hp=>?_) (by have:=fY f ((f.length:Int)-1); unfold xH; omega)) rfl) ?_
 ·obtain⟨k,hk⟩:=bX (gF f _) hp;exact aEm hk
 ·obtain⟨k,hk⟩:=bX (gF f _) hp;have h:=bXd p (xW p.op).1 (fun ha=>by have:=jR hk ha; omega)
  rw [show ((gH p:Nat):Int)= (if (xW p.op).1.fa=true then((2 ^ p.i.toNat:Nat):Int) else 0) by unfold gH;split <;> rfl]
  exact h
 simp only [simprocAttr,-ZA,↓zU,↓zD,zV,zT,zW];exact .same
theorem aMc (f:List Nd) (a b:Int):yB Tryz.prog 101 [.sl 6 (ndR f),.int .i64 a,.int .i64 b] (.bool (sT f a b)):=by
 refine xY.xR mixed Tryz.func101 bR7 (by simp) fun hf=>?_;simp only [simprocAttr,-ZA,↓zU,↓zD,zV,zT,zW];refine .go (cr (oB f)) ?_;by_cases hc:xB f=0
 case neg=>
  have e:(xB f==0)= false:=by simpa using hc
  simp only [simprocAttr,-ZA,↓zU,↓zD,zV,zT,zW,e];exact .drop (by simp) (by simp [vw,sT,hc])
 have e:(xB f==0)= true:=by simpa using hc
 simp only [simprocAttr,-ZA,↓zU,↓zD,zV,zT,zW,e];refine .go (cr (aDf f)) ?_;simp only [simprocAttr,-ZA,↓zU,↓zD,zV,zT,zW];refine .go (xY.yM (aCb (oX f) a) rfl) ?_
 cases hb:iN (oX f) a
 ·simp only [simprocAttr,-ZA,↓zU,↓zD,zV,zT,zW];exact .drop (by simp) (by simp [vw,sT,hb])
 simp only [simprocAttr,-ZA,↓zU,↓zD,zV,zT,zW];refine .go (cr (bX2 f)) ?_;simp only [simprocAttr,-ZA,↓zU,↓zD,zV,zT,zW];refine .go (xY.yM (aCb (bW f) b) rfl) ?_;simp only [simprocAttr,-ZA,↓zU,↓zD,zV,zT,zW];exact .drop (by simp) (by simp [vw,sT,hb,hc])
end Go.Pd
