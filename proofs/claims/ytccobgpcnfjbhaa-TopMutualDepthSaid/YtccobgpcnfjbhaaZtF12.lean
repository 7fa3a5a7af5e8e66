/- Part F12. -/
import Derived.Test.YtccobgpcnfjbhaaZtB0
set_option linter.unusedSectionVars false
set_option linter.unusedVariables false
set_option linter.unusedSimpArgs false
set_option linter.defProp false
set_option maxRecDepth 20000
set_option maxHeartbeats 1000000
open Go.Proofs.Try
open List renaming length_append->γ,getD_eq_getElem?_getD->δ,length_singleton->ε,mem_singleton->ζ
open Bool renaming or_eq_false_iff->η,true_and->θ,and_eq_true->κ
open Nat renaming le_refl->μ,pow_le_pow_right->ν,or_lt_two_pow->ξ
open Int renaming toNat_of_nonneg->ο
open BitVec renaming ofInt_natCast->π,toNat_ofNat->υ
namespace Go.Pd
open Go Go.Proofs
open BitVec renaming isValue -> ZA
open Rs Fm
namespace Fm
def iA (i:Nat) (q:Nd) (s:CS):Int × CS:=match kF q s.out 0 with
 | some k=>(k,⟨s.out,nB i k s.done⟩)
 | none=>(s.out.length,⟨s.out ++ [q],nB i s.out.length s.done⟩)
theorem vH {xY:List (Nat × Ob)} {k j:Nat} {o:Ob} (h:St.look xY k=none):St.look (vK xY j o) k=none:=by
 rw [xT]; split
 ·rw [h]; rfl
 ·exact h
theorem SZ (l:List Nd) (q:Nd):∃ e r,uS (l ++ [q])= e :: r:=by
 cases h:uS (l ++ [q]) with
 | nil=>simp [uS] at h
 | cons e r=>exact⟨e,r,rfl⟩
theorem vl {f:List Nd} {nx nx2:Nat} {objs2:List (Nat × Ob)} {key2:Nat} {s2:CS} {q:Nd} {i:Nat} (hI:pD f nx2 objs2 key2 s2) (h7:7<=nx) (hle:nx+1+1<=nx2) (hke:key2≠nx) (hlen:s2.out.length<=1000) :
  ∃ nx' objs' key',VH i nx nx2 objs2 key2 s2 q (.int .i64 (iA i q s2).1) ⟨nx',objs'⟩/\ pD f nx' objs' key' (iA i q s2).2/\nx2<=nx'/\(key'=key2\/nx2<=key')/\ ∀ k,7<=k->k<nx2->k≠key2->k≠nx->St.look objs' k=St.look objs2 k:=by
 obtain⟨hn,h0,h1,⟨k1,k2,k3,hkk⟩,hfr,h2,h3,h4,h5,h6⟩:=hI;unfold iA
 cases he:kF q s2.out 0 with
 | some k=>
  refine⟨nx2,_,key2,.inl ⟨k,he,rfl,rfl⟩,⟨hn,?_,?_,⟨k1,k2,k3,?_⟩,?_,?_,?_,?_,?_,?_⟩,μ _,.inl rfl,?_⟩
  ·rw [xT,if_neg (by omega),xT,if_neg (by omega)]; exact h0
  ·rw [xT,if_neg (by omega),xT,if_neg (by omega)]; exact h1
  ·rw [xT,if_neg (by omega),xT,if_neg (λe=>hke e.symm)]; exact hkk
  ·exact λj hj=>vH (vH (hfr j hj))
  ·rw [xT,if_neg (by omega),xT,if_neg (by omega)]; exact h2
  ·rw [xT,if_neg (by omega),xT,if_neg (by omega)]; exact h3
  ·rw [xT,if_pos rfl,xT,if_neg (by omega),h4]; rfl
  ·rw [xT,if_neg (by omega),xT,if_neg (by omega)]; exact h5
  ·rw [xT,if_neg (by omega),xT,if_neg (by omega)]; exact h6
  ·intro j a1 a2 a3 a4;rw [xT,if_neg (by omega),xT,if_neg (λe=>a4 e.symm)]
 | none=>
  obtain⟨e,r,hr⟩:=SZ s2.out q
  have hlk:∀ j,j≠nx2->∀ (o1 o2 o4 oq:Ob),j≠1->j≠2->j≠4->j≠key2->j≠nx->St.look (yD nx2 6 (uS (s2.out ++ [q]))++ vK (vK (vK (zI (vK objs2 nx oq) key2) 1 o1) 2 o2) 4 o4) j=St.look objs2 j:=λj b1 o1 o2 o4 oq b2 b3 b4 b5 b6=>by rw [zM,if_neg (λe=>b1 e.symm),xT,if_neg (λe=>b4 e.symm),xT,if_neg (λe=>b3 e.symm),xT,if_neg (λe=>b2 e.symm),yO,if_neg (λe=>b5 e.symm),xT,if_neg (λe=>b6 e.symm)]
  refine⟨nx2+1,_,nx2,.inr ⟨he,hlen,rfl,rfl⟩,⟨by omega,?_,?_,⟨by omega,by omega,by omega,?_⟩,?_,?_,?_,?_,?_,?_⟩,by omega,.inr (μ _),?_⟩
  ·rw [hlk 0 (by omega) _ _ _ _ (by omega) (by omega) (by omega) (by omega) (by omega)]; exact h0
  ·rw [zM,if_neg (by omega),xT,if_neg (by omega),xT,if_neg (by omega),xT,if_pos rfl,yO,if_neg (by omega),xT,if_neg (by omega),h1]; rfl
  ·rw [zM,if_pos rfl];show (vF 6 (uS (s2.out ++ [q]))).or _=vF 6 (uS (s2.out ++ [q]));rw [hr]; rfl
  ·intro j hj;rw [zM,if_neg (by omega)];refine vH (vH (vH ?_))
   rw [yO]; split
   ·rfl
   ·exact vH (hfr j (by omega))
  ·rw [zM,if_neg (by omega),xT,if_neg (by omega),xT,if_pos rfl,xT,if_neg (by omega),yO,if_neg (by omega),xT,if_neg (by omega),h2]; rfl
  ·rw [hlk 3 (by omega) _ _ _ _ (by omega) (by omega) (by omega) (by omega) (by omega)]; exact h3
  ·rw [zM,if_neg (by omega),xT,if_pos rfl,xT,if_neg (by omega),xT,if_neg (by omega),yO,if_neg (by omega),xT,if_neg (by omega),h4]; rfl
  ·rw [hlk 5 (by omega) _ _ _ _ (by omega) (by omega) (by omega) (by omega) (by omega)]; exact h5
  ·rw [hlk 6 (by omega) _ _ _ _ (by omega) (by omega) (by omega) (by omega) (by omega)]; exact h6
  ·intro j a1 a2 a3 a4;exact hlk j (by omega) _ _ _ _ (by omega) (by omega) (by omega) a3 a4
end Fm
open Rs Fm
namespace Fm
theorem aW {x:Int}:∀ {u:List (Int × Int)},wM x u=none->∀ p ∈ u,p.1≠x
 | [],_,p,hp=>by cases hp
 | (k,y) :: r,h,p,hp=>by
  unfold wM at h
  by_cases e:x=k
  ·rw [if_pos e] at h; cases h
  ·rw [if_neg e] at h
   rcases List.mem_cons.1 hp with rfl | hp
   ·exact λe'=>e e'.symm
   ·exact aW h p hp
theorem rh {x y:Int}:∀ {u:List (Int × Int)},wM x u=none->nB x y u=u ++ [(x,y)]
 | [],_=>rfl
 | (k,z) :: r,h=>by
  unfold wM at h
  by_cases e:x=k
  ·rw [if_pos e] at h; cases h
  ·rw [if_neg e] at h;unfold nB;rw [if_neg e,rh h]; rfl
structure kM (f : List Nd) (s : CS) : Prop where
 le:s.out.length<=s.done.length
 nd:(s.done.map (·.1)).Nodup
 rg:∀ p ∈ s.done,0<=p.1/\p.1<f.length
theorem kM.len {f:List Nd} {s:CS} (h:kM f s):s.out.length<=f.length:=by
 have:=qv f.length (s.done.map λp=>p.1.toNat) ?_ ?_
 ·rw [List.length_map] at this; have:=h.le; omega
 ·have h1:=h.nd;unfold List.Nodup at h1 ⊢;rw [List.pairwise_map] at h1 ⊢;refine h1.imp_of_mem λ{a b} ha hb hne e=>hne ?_;have:=(h.rg a ha).1;have:=(h.rg b hb).1;omega
 ·intro x hx;simp only [List.mem_map] at hx;obtain⟨p,hp,rfl⟩:=hx;have:=h.rg p hp;omega
theorem SE {f:List Nd} {s:CS} {i:Nat} {q:Nd} (h:kM f s) (hi:i<f.length) (hno:wM i s.done=none):kM f (iA i q s).2/\∀ z:Int,z≠i->wM z (iA i q s).2.done=wM z s.done:=by
 have hput:∀ y,kM f ⟨s.out,nB i y s.done⟩/\ (nB i y s.done).length=s.done.length+1:=λy=>by
  rw [rh hno]
  refine⟨⟨by simp only [γ]; have:=h.le; omega,?_,?_⟩,by simp⟩
  ·rw [List.map_append];refine List.nodup_append.2 ⟨h.nd,by simp,λa ha b hb=>?_⟩;simp only [List.mem_map] at ha;obtain⟨p,hp,rfl⟩:=ha;simp only [List.map_cons,List.map_nil,ζ] at hb;subst hb;exact aW hno p hp
  ·intro p hp
   rcases List.mem_append.1 hp with hp | hp
   ·exact h.rg p hp
   ·rw [ζ.1 hp]; exact⟨by simp,by simpa using hi⟩
 unfold iA
 cases he:kF q s.out 0 with
 | some k=>exact⟨(hput _).1,λz hz=>by simp only; rw [qI,if_neg hz]⟩
 | none=> refine⟨⟨?_,(hput _).1.nd,(hput _).1.rg⟩,λz hz=>by simp only; rw [qI,if_neg hz]⟩;have:=(hput s.out.length).2;have:=h.le;simp only [γ,ε]; omega
theorem iQ {p:Nd} {k:Int} (h:wL p k=0):((xS p.op).1.x=true->0<=p.x/\p.x<k)/\ ((xS p.op).1.y=true->0<=p.y/\p.y<k):=by
 unfold wL at h
 by_cases h1:(xS p.op).2=false
 ·rw [if_pos h1] at h; cases h
 rw [if_neg h1] at h
 by_cases h2:(yE (xS p.op).1.x p.x k&&yE (xS p.op).1.y p.y k)= false
 ·rw [if_pos h2] at h; cases h
 simp only [Bool.not_eq_false,κ] at h2
 refine⟨λhx=>?_,λhy=>?_⟩
 ·have:=h2.1;unfold yE at this;rw [if_pos hx,κ,decide_eq_true_eq,decide_eq_true_eq] at this;exact this
 ·have:=h2.2;unfold yE at this;rw [if_pos hy,κ,decide_eq_true_eq,decide_eq_true_eq] at this;exact this
theorem jO {f:List Nd} {n i:Nat} {s:CS} (hno:wM i s.done=none):xE f (n+1) i s =
  (let p:=f.getD i nG
   let a:=if (xS p.op).1.x=true then xE f n p.x.toNat s else(p.x,s)
   let b:=if (xS p.op).1.y=true then xE f n p.y.toNat a.2 else(p.y,a.2)
   iA i ⟨p.op,p.i,p.e,p.g,a.1,b.1⟩ b.2):=by
 rw [xE,hno]; rfl
theorem oE {f:List Nd} (hc:∀ k,k<f.length->wL (f.getD k nG) k=0):∀ (n:Nat) {i:Nat} {s:CS},i<n->i<f.length->kM f s->kM f (xE f n i s).2/\∀ z:Int,(i:Int)<z->wM z (xE f n i s).2.done=wM z s.done
 | 0,i,s,h,_,_=>by omega
 | n + 1,i,s,h,hi,hs=>by
  cases hu:wM i s.done with
  | some k=>rw [xE,hu]; exact⟨hs,λ_ _=>rfl⟩
  | none=>
   rw [jO hu];obtain⟨ox,oy⟩:=iQ (hc i hi);simp only;generalize f.getD i nG=p at ox oy
   have ha:kM f (if (xS p.op).1.x=true then xE f n p.x.toNat s else(p.x,s)).2/\∀ z:Int,(i:Int)<=z->wM z (if (xS p.op).1.x=true then xE f n p.x.toNat s else(p.x,s)).2.done=wM z s.done:=by
    by_cases hx:(xS p.op).1.x=true
    ·rw [if_pos hx];have:=ox hx;obtain⟨b1,b2⟩:=oE hc n (i:=p.x.toNat) (s:=s) (by omega) (by omega) hs;exact⟨b1,λz hz=>b2 z (by omega)⟩
    ·rw [if_neg hx]; exact⟨hs,λ_ _=>rfl⟩
   generalize (if (xS p.op).1.x=true then xE f n p.x.toNat s else(p.x,s))= a at ha;obtain⟨a1,a2⟩:=ha
   have hb:kM f (if (xS p.op).1.y=true then xE f n p.y.toNat a.2 else(p.y,a.2)).2/\∀ z:Int,(i:Int)<=z->wM z (if (xS p.op).1.y=true then xE f n p.y.toNat a.2 else(p.y,a.2)).2.done=wM z a.2.done:=by
    by_cases hy:(xS p.op).1.y=true
    ·rw [if_pos hy];have:=oy hy;obtain⟨b1,b2⟩:=oE hc n (i:=p.y.toNat) (s:=a.2) (by omega) (by omega) a1;exact⟨b1,λz hz=>b2 z (by omega)⟩
    ·rw [if_neg hy]; exact⟨a1,λ_ _=>rfl⟩
   generalize (if (xS p.op).1.y=true then xE f n p.y.toNat a.2 else(p.y,a.2))= b at hb;obtain⟨b1,b2⟩:=hb;obtain⟨e1,e2⟩:=SE (q:=⟨p.op,p.i,p.e,p.g,a.1,b.1⟩) b1 hi (by rw [b2 i (by omega),a2 i (by omega)]; exact hu);exact⟨e1,λz hz=>by rw [e2 z (by omega),b2 z (by omega),a2 z (by omega)]⟩
end Fm
open Rs Fm
namespace Fm
theorem VA (op:Int) (h:(xS op).1.y=true):(xS op).1.x=true:=by
 have hc:op=1\/op=2\/op=3\/op=4\/op=5\/op=6\/op=7\/op=8\/op=9\/op=10\/op=11\/op=12\/op=13\/op=14\/op=15\/op=16\/op=17\/op=18\/op=19\/op=20\/op=21\/(op<1\/21<op):=by omega
 rcases hc with rfl | rfl | rfl | rfl | rfl | rfl | rfl | rfl | rfl | rfl | rfl | rfl | rfl | rfl | rfl | rfl | rfl | rfl | rfl | rfl | rfl | hc
 rotate_right
 ·rw [show xS op=(mT,false) from if_pos hc] at h; cases h
 all_goals simp [xS,mT] at h ⊢
theorem pD.QS {f:List Nd} {nx:Nat} {xY:List (Nat × Ob)} {key:Nat} {s:CS} (h:pD f nx xY key s):∃ key',pD f nx xY key' s/\((s.out = []/\key'=nx+4)\/(s.out ≠ []/\key'=key/\key'<nx)):=by
 obtain⟨hn,h0,h1,⟨k1,k2,k3,hkk⟩,hfr,h2,h3,h4,h5,h6⟩:=h
 by_cases ho:s.out = []
 ·refine⟨nx+4,⟨hn,h0,?_,⟨by omega,by omega,by omega,?_⟩,hfr,h2,h3,h4,h5,h6⟩,.inl ⟨ho,rfl⟩⟩
  ·rw [h1,ho]; rfl
  ·rw [hfr _ (by omega),ho]; rfl
 ·refine⟨key,⟨hn,h0,h1,⟨k1,k2,k3,hkk⟩,hfr,h2,h3,h4,h5,h6⟩,.inr ⟨ho,rfl,?_⟩⟩
  by_cases hlt:key<nx
  ·exact hlt
  ·rw [hfr key (by omega)] at hkk
   cases hd:uS s.out with
   | nil=>simp [uS] at hd; exact absurd hd ho
   | cons e r=>rw [hd] at hkk; cases hkk
theorem pD.alloc {f:List Nd} {nx:Nat} {xY:List (Nat × Ob)} {key:Nat} {s:CS} (h:pD f nx xY key s) (hk:key<nx\/key=nx+4) (o1 o2:Ob):pD f (nx+1+1) ((nx+1,o1) :: (nx,o2) :: xY) key s:=by
 obtain⟨hn,h0,h1,⟨k1,k2,k3,hkk⟩,hfr,h2,h3,h4,h5,h6⟩:=h
 have hl:∀ k,k≠nx->k≠nx+1->St.look ((nx+1,o1) :: (nx,o2) :: xY) k=St.look xY k:=λk a b=>by rw [xX,if_neg (λe=>b e.symm),xX,if_neg (λe=>a e.symm)]
 refine⟨by omega,?_,?_,⟨k1,by omega,by omega,?_⟩,?_,?_,?_,?_,?_,?_⟩
 ·rw [hl 0 (by omega) (by omega)]; exact h0
 ·rw [hl 1 (by omega) (by omega)]; exact h1
 ·rw [hl key k2 k3]; exact hkk
 ·intro k hk2; rw [hl k (by omega) (by omega)]; exact hfr k (by omega)
 ·rw [hl 2 (by omega) (by omega)]; exact h2
 ·rw [hl 3 (by omega) (by omega)]; exact h3
 ·rw [hl 4 (by omega) (by omega)]; exact h4
 ·rw [hl 5 (by omega) (by omega)]; exact h5
 ·rw [hl 6 (by omega) (by omega)]; exact h6
theorem pD.set {f:List Nd} {nx:Nat} {xY:List (Nat × Ob)} {key:Nat} {s:CS} (h:pD f nx xY key s) {j:Nat} (hj:7<=j) (hk:key≠j) (o:Ob):pD f nx (vK xY j o) key s:=by
 obtain⟨hn,h0,h1,⟨k1,k2,k3,hkk⟩,hfr,h2,h3,h4,h5,h6⟩:=h;have hl:∀ k,k≠j->St.look (vK xY j o) k=St.look xY k:=λk a=>by rw [xT,if_neg (λe=>a e.symm)]
 refine⟨hn,?_,?_,⟨k1,k2,k3,?_⟩,?_,?_,?_,?_,?_,?_⟩
 ·rw [hl 0 (by omega)]; exact h0
 ·rw [hl 1 (by omega)]; exact h1
 ·rw [hl key hk]; exact hkk
 ·exact λk hk2=>vH (hfr k hk2)
 ·rw [hl 2 (by omega)]; exact h2
 ·rw [hl 3 (by omega)]; exact h3
 ·rw [hl 4 (by omega)]; exact h4
 ·rw [hl 5 (by omega)]; exact h5
 ·rw [hl 6 (by omega)]; exact h6
end Fm
theorem YL {f:List Nd} {nx:Nat} {xY:List (Nat × Ob)} {key:Nat} {s:CS} {i:Nat} {k:Int} (hI:pD f nx xY key s) (hu:wM i s.done=some k) :
  xW prog 117 [.int .i64 i,.ref 5 1 0 0,.ref 0 1 0 0,.ref 6 1 0 0,.ref 3 1 0 0,.ref 1 1 0 0] ⟨nx,xY⟩ (.int .i64 k) ⟨nx,xY⟩:=by
 obtain⟨hn,h0,h1,hk,hfr,h2,h3,h4,h5,h6⟩:=hI
 rcases mA (i:Int) s.done 0 with ⟨q1,q2⟩ | ⟨y,j,q1,q2⟩
 ·rw [hu] at q1; cases q1
 ·rw [hu] at q1; cases q1;refine zJ func117 XO λhf=>?_;refine ai h5 h4 q2 ?_;exact .same
theorem gB {f:List Nd} (hc:∀ k,k<f.length->wL (f.getD k nG) k=0) (hlen:f.length<=900):∀ (n:Nat) {i nx:Nat} {xY:List (Nat × Ob)} {key:Nat} {s:CS},i<n->i<f.length->kM f s->pD f nx xY key s ->
  ∃ nx' objs' key',pD f nx' objs' key' (xE f n i s).2/\nx<=nx'/\(key'=key\/nx<=key')/\ (∀ k,7<=k->k<nx->(k≠key\/s.out = [])->St.look objs' k=St.look xY k)/\
   xW prog 117 [.int .i64 i,.ref 5 1 0 0,.ref 0 1 0 0,.ref 6 1 0 0,.ref 3 1 0 0,.ref 1 1 0 0] ⟨nx,xY⟩ (.int .i64 (xE f n i s).1) ⟨nx',objs'⟩
 | 0,i,nx,xY,key,s,h,_,_,_=>by omega
 | n + 1,i,nx,xY,key,s,h,hi,hs,hI=>by
  cases hu:wM i s.done with
  | some k=> rw [xE,hu];exact⟨nx,xY,key,hI,μ _,.inl rfl,λ_ _ _ _=>rfl,YL hI hu⟩
  | none=>
   rw [jO hu];obtain⟨ox,oy⟩:=iQ (hc i hi);simp only;generalize hp:f.getD i nG=p at ox oy;obtain⟨ky,hI',hky⟩:=hI.QS;have hn:=hI'.hn;have hkc:ky<nx\/ky=nx+4:=by rcases hky with ⟨_,h⟩ | ⟨_,_,h⟩; exact .inr h; exact .inl h
   have hA:=hI'.alloc hkc (jN (xS p.op).1) (rF p.op p.i p.e p.g p.x p.y)
   have hkk:∀ k,k<nx->(k≠key\/s.out = [])->k≠ky:=λk h1 h2=>by
    rcases hky with ⟨_,e⟩ | ⟨ho,e,_⟩
    ·omega
    ·rcases h2 with h2 | h2
     ·rw [e]; exact h2
     ·exact absurd h2 ho
   have hkey:∀ k',k'=ky\/nx<=k'->k'=key\/nx<=k':=λk' h=>by
    rcases h with h | h
    ·rcases hky with ⟨_,e⟩ | ⟨_,e,_⟩
     ·exact .inr (by omega)
     ·exact .inl (by rw [h,e])
    ·exact .inr h
   have hA0:∀ k,k<nx->St.look ((nx+1,jN (xS p.op).1) :: (nx,rF p.op p.i p.e p.g p.x p.y) :: xY) k=St.look xY k:=λk hk=>by rw [xX,if_neg (by omega),xX,if_neg (by omega)]
   by_cases hx:(xS p.op).1.x=true
   ·obtain⟨hx1,hx2⟩:=ox hx;have hxn:((p.x.toNat:Nat):Int)= p.x:=ο hx1;obtain⟨nx1,objs1,key1,I1,l1,kk1,fr1,c1⟩:=gB hc hlen n (i:=p.x.toNat) (by omega) (by omega) hs hA;have f1:=(oE hc n (i:=p.x.toNat) (s:=s) (by omega) (by omega) hs);rw [if_pos hx];rw [hxn] at c1;generalize xE f n p.x.toNat s=a at I1 c1 f1
    have hN:St.look objs1 nx=some (rF p.op p.i p.e p.g p.x p.y):=by rw [fr1 nx hn (by omega) (.inl (by omega)),xX,if_neg (by omega),xX,if_pos rfl]
    have hU:St.look objs1 (nx+1)= some (jN (xS p.op).1):=by rw [fr1 (nx+1) (by omega) (by omega) (.inl (by omega)),xX,if_pos rfl]
    have hk1:key1≠nx:=by omega
    by_cases hy:(xS p.op).1.y=true
    ·obtain⟨hy1,hy2⟩:=oy hy;have hyn:((p.y.toNat:Nat):Int)= p.y:=ο hy1;obtain⟨nx2,objs2,key2,I2,l2,kk2,fr2,c2⟩:=gB hc hlen n (i:=p.y.toNat) (by omega) (by omega) f1.1 (I1.set (j:=nx) hn hk1 (rF p.op p.i p.e p.g a.1 p.y));have f2:=(oE hc n (i:=p.y.toNat) (s:=a.2) (by omega) (by omega) f1.1);rw [if_pos hy];rw [hyn] at c2;generalize xE f n p.y.toNat a.2=b at I2 c2 f2
     have hN2:St.look objs2 nx=some (rF p.op p.i p.e p.g a.1 p.y):=by rw [fr2 nx hn (by omega) (.inl (by omega)),xT,if_pos rfl,hN]; rfl
     have hk2:key2≠nx:=by omega
     obtain⟨nx',objs',key',e1,e2,e3,e4,e5⟩:=vl (q:=⟨p.op,p.i,p.e,p.g,a.1,b.1⟩) (i:=i) (nx:=nx) I2 (by omega) (by omega) hk2 (by have:=f2.1.len; omega);refine⟨nx',objs',key',e2,by omega,hkey _ (by omega),λk a1 a2 a3=>?_,z6 hI' hi (by omega) hp hu hx hy c1 I1 hN hU c2 I2 hN2 (by omega) hk2 e1⟩;have hk3:=hkk k a2 a3;rw [e5 k a1 (by omega) (by omega) (by omega),fr2 k a1 (by omega) (.inl (by omega)),xT,if_neg (by omega),fr1 k a1 (by omega) (.inl hk3)];exact hA0 k a2
    ·rw [if_neg hy];obtain⟨nx',objs',key',e1,e2,e3,e4,e5⟩:=vl (q:=⟨p.op,p.i,p.e,p.g,a.1,p.y⟩) (i:=i) (nx:=nx) I1 (by omega) (by omega) hk1 (by have:=f1.1.len; omega);refine⟨nx',objs',key',e2,by omega,hkey _ (by omega),λk a1 a2 a3=>?_,YM hI' hi (by omega) hp hu hx (by simpa using hy) c1 I1 hN hU (by omega) hk1 e1⟩;have hk3:=hkk k a2 a3;rw [e5 k a1 (by omega) (by omega) (by omega),fr1 k a1 (by omega) (.inl hk3)];exact hA0 k a2
   ·have hy:¬ (xS p.op).1.y=true:=λhy=>hx (VA _ hy);rw [if_neg hx,if_neg hy];obtain⟨nx',objs',key',e1,e2,e3,e4,e5⟩:=vl (q:=p) (i:=i) (nx:=nx) hA (by omega) (by omega) (by omega) (by have:=hs.len; omega)
    refine⟨nx',objs',key',e2,by omega,?_,λk a1 a2 a3=>?_,VD hI' hi (by omega) hp hu (by simpa using hx) (by simpa using hy) e1⟩
    ·rcases e4 with e4 | e4
     ·exact hkey _ (.inl e4)
     ·exact .inr (by omega)
    ·rw [e5 k a1 (by omega) (hkk k a2 a3) (by omega)];exact hA0 k a2
open Rs Fm
theorem Xt {f:List Nd} {i:Nat} (hc:∀ k,k<f.length->wL (f.getD k nG) k=0) (hlen:f.length<=900) (hi:i<f.length):xK prog 67 [.sl 6 (uS f),.int .i64 i] (.sl 6 (uS (oJ f i))):=by
 have hI0:pD f 7 [(6,⟨1,[[.fn 117 [.ref 5 1 0 0,.ref 0 1 0 0,.ref 6 1 0 0,.ref 3 1 0 0,.ref 1 1 0 0]]]⟩),(5,⟨1,[[.xG 4]]⟩),(4,⟨0,[]⟩),(3,⟨1,[[.xG 2]]⟩),(2,⟨0,[]⟩),(1,⟨1,[[.xU]]⟩),(0,⟨1,[[.sl 6 (uS f)]]⟩)] 11 ⟨[],[]⟩:=by refine⟨μ _,by simp [St.look],by simp [St.look,uS,yH],⟨by omega,by omega,by omega,by simp [St.look,uS,vF]⟩,λk hk=>?_,by simp [St.look,pG,vD],by simp [St.look],by simp [St.look,mo,tX],by simp [St.look],by simp [St.look]⟩;simp only [xX,look_nil];rw [if_neg (by omega),if_neg (by omega),if_neg (by omega),if_neg (by omega),if_neg (by omega),if_neg (by omega),if_neg (by omega)]
 obtain⟨nx',objs',key',I1,_,_,_,c1⟩:=gB hc hlen (i+1) (i:=i) (by omega) hi ⟨μ _,by simp,λp hp=>by cases hp⟩ hI0;have e:(xE f (i+1) i ⟨[],[]⟩).2.out=oJ f i:=rfl;have h1:=I1.h1;have hk:=I1.hk.2.2.2;rw [e] at h1 hk;refine zJ func67 MX λhf=>?_;refine nA ?_;refine .go c1 ?_;refine qV h1 ?_;exact .drop (by simp) (jQ (by simp) (ZO _) hk)
namespace Fm
theorem rO {f:List Nd} (h:wS f=0):f ≠ []/\f.length<=200/\∀ k,k<f.length->wL (f.getD k nG) k=0:=by
 unfold wS at h
 by_cases h1:f = []
 ·rw [if_pos h1] at h; cases h
 rw [if_neg h1] at h
 by_cases h2:200<f.length
 ·rw [if_pos h2] at h; cases h
 rw [if_neg h2] at h;refine⟨h1,by omega,λk hk=>?_⟩;have:=j0 h k hk
 rwa [Int.zero_add] at this
def jM (f:List Nd) (i:Int):List Nd:=if wS f≠0\/i<0\/(f.length:Int)<=i then [] else oJ f i.toNat
def yL (f:List Nd):List Nd:=jM f ((f.length:Int)-1)
end Fm
theorem Q5 (f:List Nd) (i:Int):xK prog 77 [.sl 6 (uS f),.int .i64 i] (.sl 6 (uS (jM f i))):=by
 refine zJ func77 Ml λhf=>?_;refine yQ ?_;refine .go (cr (bA f)) ?_;by_cases hc:wS f=0
 case neg=> have e:(wS f != 0)= true:=bne_iff_ne.2 hc;refine yF e ?_;rw [show jM f i = [] from if_pos (.inl hc)];exact .drop (by simp) (by simp [vw,uS])
 have e:(wS f != 0)= false:=by simpa using hc
 by_cases h1:i<0
 ·refine mX e h1 ?_;rw [show jM f i = [] from if_pos (.inr (.inl h1))];exact .drop (by simp) (by simp [vw,uS])
 by_cases h2:(f.length:Int)<=i
 ·refine WV e h1 wI h2 ?_;rw [show jM f i = [] from if_pos (.inr (.inr h2))];exact .drop (by simp) (by simp [vw,uS])
 obtain⟨j,rfl⟩:=Int.eq_ofNat_of_zero_le (show 0<=i by omega);obtain⟨c1,c2,c3⟩:=rO hc;rw [show jM f j=oJ f j by rw [jM,if_neg (by omega),Int.toNat_natCast]];refine WV e h1 wI h2 ?_;refine .go (xW.vZ (Xt c3 (by omega) (show j<f.length by omega)) (by simp [D.xJ,D.xH])) ?_;refine yQ ?_;exact .same
theorem zi (f:List Nd):xK prog 40 [.sl 6 (uS f)] (.sl 6 (uS (yL f))):=by refine zJ func40 MU λhf=>?_;simp only [D.nE,D.fact,wI] at hf;have hlen:=hf.1.1;have e:IntKind.i64.wrap ((f.length:Int)-1)= (f.length:Int)-1:=wrap_i64 (by omega);refine mX wI e ?_;refine .go (xW.vZ (Q5 f ((f.length:Int)-1)) (by simp [D.xJ,D.xH])) ?_;refine yQ ?_;exact .same
open Rs Fm
theorem QP {a b:Nat} (ha:a<2 ^ 62) (hb:b<2 ^ 62):rL .or .i64 (a:Int) (b:Int)= ((a ||| b:Nat):Int):=by show IntKind.i64.wrap ((BitVec.ofInt 64 (a:Int) ||| BitVec.ofInt 64 (b:Int)).toNat:Int)= _;rw [π,π,BitVec.toNat_or,υ,υ,Nat.mod_eq_of_lt (by omega),Nat.mod_eq_of_lt (by omega)];have:=ξ ha hb;exact wrap_i64 (by omega)
namespace Fm
def tZ (m:Nd->Nat) (l:List Nd):Nat:=l.foldl (λa p=>a ||| m p) 0
theorem qd (m:Nd->Nat) (l:List Nd) (p:Nd):tZ m (l ++ [p])= tZ m l ||| m p:=by simp [tZ]
theorem v8 {m:Nd->Nat} {l:List Nd} (h:∀ p ∈ l,m p<4096):tZ m l<2 ^ 12:=by
 have key:∀ (l:List Nd) (a:Nat),a<2 ^ 12->(∀ p ∈ l,m p<4096)->l.foldl (λa p=>a ||| m p) a<2 ^ 12:=by
  intro l
  induction l with
  | nil=>intro a ha _; exact ha
  | cons p r ih=>intro a ha h; exact ih _ (ξ ha (h p (by simp))) λq hq=>h q (by simp [hq])
 exact key l 0 (by decide) h
end Fm
theorem vy {f:List Nd} {g:FuncId} {m:Nd->Nat} (hm:∀ p ∈ yL f,m p<4096) (h:∀ p ∈ yL f,xK prog g [.agg p.row,.agg (xS p.op).1.row] (.int .i64 (m p))) (hlen:(yL f).length<=1000) :
  xK prog 72 [.sl 6 (uS f),.fn g []] (.int .i64 (tZ m (yL f))):=by
 refine zJ func72 Mf λhf=>?_;refine yQ ?_;refine .go (cr (zi f)) ?_;generalize yL f=l at hm h hlen;refine yF wI ?_
 refine zC (λk:Nat=>[(13,.int .i64 k),(12,.int .i64 l.length),(11,.sl 6 (uS l)),(5,.int .i64 (tZ m (l.take k))),(1,.fn g [])]) (λ_=>⟨0,[]⟩) (λk=>k<=l.length) (λk=>l.length-k) 0 (Nat.zero_le _) ?_ ?_
 ·(refine yV.same ?_; simp [zL,Fr.get,tZ])
 intro k hk;refine wZ mixed ?_;by_cases hh:k<l.length
 case neg=>
  have hd:¬ ((k:Int)<(l.length:Int)):=by omega
  rw [bR (show k=l.length by omega)];refine yF hd ?_;exact .same
 have hd:((k:Int)<(l.length:Int)):=by omega
 have hs:tZ m (l.take (k+1))= tZ m (l.take k) ||| m (l.getD k nG):=by rw [u6 (d:=nG) hh,qd]
 have hg:=lI l hh;have hmem:=zH (d:=nG) hh;have hlt:tZ m (l.take k)<2 ^ 12:=v8 λp hp=>hm p (List.mem_of_mem_take hp);generalize l.getD k nG=p at hs hg hmem;have hmp:=hm p hmem;simp only [simprocAttr,-ZA,↓zU,↓zD,zV,zT,zW,hd,wI,hg,Nd.row]
 (repeat refine sd ?_)
 refine .go (cq (dC p.op)) ?_;simp only [simprocAttr,-ZA,↓zU,↓zD,zV,zT,zW,aE.row]
 (repeat refine sd ?_)
 refine .go (xW.vZ (h p hmem) (by simp [D.xJ,D.xH,Nd.row,aE.row])) ?_;simp only [simprocAttr,-ZA,↓zU,↓zD,zV,zT,zW,QP (show tZ m (l.take k)<2 ^ 62 by omega) (show m p<2 ^ 62 by omega)];refine⟨k+1,by omega,?_,by omega⟩;rw [hs]
 (refine yV.view (λk=>k) (by simp) (by simp) ?_ (by simp [stays]) (by simp [rU]); simp [uk,vw,rN,Fr.get])
 exact wrap_i64 (by omega)
open Rs Fm
namespace Fm
theorem ct (op:Int):0<=(xS op).1.fr/\(xS op).1.fr<=256:=by
 have hc:op=1\/op=2\/op=3\/op=4\/op=5\/op=6\/op=7\/op=8\/op=9\/op=10\/op=11\/op=12\/op=13\/op=14\/op=15\/op=16\/op=17\/op=18\/op=19\/op=20\/op=21\/(op<1\/21<op):=by omega
 rcases hc with rfl | rfl | rfl | rfl | rfl | rfl | rfl | rfl | rfl | rfl | rfl | rfl | rfl | rfl | rfl | rfl | rfl | rfl | rfl | rfl | rfl | hc
 rotate_right
 ·rw [show xS op=(mT,false) from if_pos hc]; exact⟨by decide,by decide⟩
 all_goals simp [xS,mT]
def df (p:Nd):Nat:=(xS p.op).1.fr.toNat
def gQ (f:List Nd):Nat:=tZ df (yL f)
theorem fm {f:List Nd} {i:Nat} (hc:∀ k,k<f.length->wL (f.getD k nG) k=0) (hi:i<f.length):(oJ f i).length<=f.length:=(oE hc (i+1) (i:=i) (s:=⟨[],[]⟩) (by omega) hi ⟨μ _,by simp,λp hp=>by cases hp⟩).1.len
theorem eM (f:List Nd) (i:Int):(jM f i).length<=200:=by
 unfold jM
 by_cases h:wS f≠0\/i<0\/(f.length:Int)<=i
 ·rw [if_pos h]; simp
 ·rw [if_neg h];obtain⟨c1,c2,c3⟩:=rO (f:=f) (by omega);have:=fm c3 (i:=i.toNat) (by omega);omega
end Fm
theorem UC (f:List Nd):xK prog 37 [.sl 6 (uS f)] (.int .i64 (gQ f)):=by
 refine zJ func37 MR λhf=>?_;refine yQ ?_
 refine .go (xW.vZ (vy (m:=df) (λp _=>by have:=ct p.op; unfold df; omega) (λp _=>?_) (by have:=eM f ((f.length:Int)-1); unfold yL; omega)) rfl) ?_
 ·have h:=UQ p (xS p.op).1;have:=ct p.op;rw [show ((df p:Nat):Int)= (xS p.op).1.fr from ο this.1];exact h
 refine yQ ?_;exact .same
open Rs Fm
namespace Fm
def jZ (m:Nat) (n:Int):Bool:=decide (31<=n) || decide (m / 2 ^ n.toNat=0)
end Fm
theorem Yc (m:Nat) (n:Int):xK prog 74 [.int .i64 m,.int .i64 n] (.bool (jZ m n)):=by
 refine zJ func74 Mh λhf=>?_
 by_cases h1:31<=n
 ·refine yF h1 ?_;exact .drop (by simp) (by simp [vw,jZ,h1])
 have e:max n 0=((n.toNat:Nat):Int):=by omega
 have e2:max 0 n=((n.toNat:Nat):Int):=by omega
 have hb:(((m / 2 ^ n.toNat:Nat):Int)== 0)= decide (m / 2 ^ n.toNat=0):=by rw [Bool.eq_iff_iff,beq_iff_eq,decide_eq_true_iff]; omega
 simp only [simprocAttr,-ZA,↓zU,↓zD,zV,zT,zW,h1,SW,e,e2,Yj m n.toNat (by omega),hb]
 (repeat refine sd ?_)
 exact .drop (by simp) (by simp [vw,jZ,h1])
open Rs Fm
namespace Fm
theorem qX {p:Nd} {k:Int}:wL p k=0 ↔ (xS p.op).2=true/\yE (xS p.op).1.x p.x k=true/\yE (xS p.op).1.y p.y k=true /\
  ((!((xS p.op).1.fa || (xS p.op).1.ag || (xS p.op).1.ev)&& decide (p.i≠0)) || (!(xS p.op).1.ev&&decide (p.e≠0)) || (!(xS p.op).1.gr&&decide (p.g≠0)))= false /\
  (xA (xS p.op).1.fa p.i 0 7 || xA (xS p.op).1.ag p.i 0 3 || xA (xS p.op).1.ev p.i 0 7 || xA (xS p.op).1.ev p.e 0 7 || xA (xS p.op).1.gr p.g 1 15)= false:=by
 unfold wL
 cases h1:(xS p.op).2
 ·simp
 cases h2:yE (xS p.op).1.x p.x k
 ·simp
 cases h3:yE (xS p.op).1.y p.y k
 ·simp
 generalize ((!((xS p.op).1.fa || (xS p.op).1.ag || (xS p.op).1.ev)&& decide (p.i≠0)) || (!(xS p.op).1.ev&&decide (p.e≠0)) || (!(xS p.op).1.gr&&decide (p.g≠0)))= c;generalize (xA (xS p.op).1.fa p.i 0 7 || xA (xS p.op).1.ag p.i 0 3 || xA (xS p.op).1.ev p.i 0 7 || xA (xS p.op).1.ev p.e 0 7 || xA (xS p.op).1.gr p.g 1 15)= d;cases c <;> cases d <;> simp
theorem n6 {p:Nd} {a b k k':Int} (h:wL p k=0) (ha:if (xS p.op).1.x=true then 0<=a/\a<k' else a=p.x) (hb:if (xS p.op).1.y=true then 0<=b/\b<k' else b=p.y):wL ⟨p.op,p.i,p.e,p.g,a,b⟩ k'=0:=by
 rw [qX] at h ⊢;obtain⟨h1,h2,h3,h4,h5⟩:=h
 refine⟨h1,?_,?_,h4,h5⟩
 ·simp only
  cases hx:(xS p.op).1.x
  ·rw [hx] at ha h2;rw [if_neg (by simp)] at ha;rw [ha]; exact h2
  ·rw [hx,if_pos rfl] at ha;simp [yE,ha]
 ·simp only
  cases hx:(xS p.op).1.y
  ·rw [hx] at hb h3;rw [if_neg (by simp)] at hb;rw [hb]; exact h3
  ·rw [hx,if_pos rfl] at hb;simp [yE,hb]
structure x8 (s : CS) : Prop where
 nd:∀ k,k<s.out.length->wL (s.out.getD k nG) k=0
 dn:∀ z k:Int,wM z s.done=some k->0<=k/\k<s.out.length
theorem bn {q:Nd}:∀ {l:List Nd} {k j:Nat},kF q l k=some j->k<=j/\j<k+l.length
 | [],_,_,h=>by cases h
 | p :: r,k,j,h=>by
  unfold kF at h
  by_cases e:q=p
  ·rw [if_pos e] at h; cases h; simp
  ·rw [if_neg e] at h;have:=bn h;simp only [List.length_cons]; omega
theorem SD {s:CS} {i:Nat} {q:Nd} (h:x8 s) (hq:wL q s.out.length=0):x8 (iA i q s).2/\0<=(iA i q s).1/\(iA i q s).1<(iA i q s).2.out.length/\s.out.length<=(iA i q s).2.out.length:=by
 unfold iA
 cases he:kF q s.out 0 with
 | some k=>
  have hk:=bn he;refine⟨⟨h.nd,λz j hz=>?_⟩,by simp,by simp only; omega,μ _⟩;simp only at hz;rw [qI] at hz
  by_cases e:z=i
  ·rw [if_pos e] at hz; cases hz; simp only; omega
  ·rw [if_neg e] at hz; exact h.dn z j hz
 | none=>
  refine⟨⟨λk hk=>?_,λz j hz=>?_⟩,by simp,by simp; omega,by simp⟩
  ·simp only [γ,ε] at hk
   by_cases hl:k<s.out.length
   ·have:=h.nd k hl;simp only [δ] at this ⊢
    rwa [List.getElem?_append_left hl]
   ·obtain rfl:k=s.out.length:=by omega
    simpa [δ] using hq
  ·simp only at hz;rw [qI] at hz
   by_cases e:z=i
   ·rw [if_pos e] at hz; cases hz; simp; omega
   ·rw [if_neg e] at hz;have:=h.dn z j hz;simp only [γ,ε]; omega
theorem kU {f:List Nd} (hc:∀ k,k<f.length->wL (f.getD k nG) k=0):∀ (n:Nat) {i:Nat} {s:CS},i<n->i<f.length->x8 s ->
  x8 (xE f n i s).2/\0<=(xE f n i s).1/\(xE f n i s).1<(xE f n i s).2.out.length/\s.out.length<=(xE f n i s).2.out.length
 | 0,i,s,h,_,_=>by omega
 | n + 1,i,s,h,hi,hs=>by
  cases hu:wM i s.done with
  | some k=>rw [xE,hu]; exact⟨hs,(hs.dn _ _ hu).1,(hs.dn _ _ hu).2,μ _⟩
  | none=>
   rw [jO hu];have hp:=hc i hi;obtain⟨ox,oy⟩:=iQ hp;simp only;generalize f.getD i nG=p at ox oy hp
   have ha:x8 (if (xS p.op).1.x=true then xE f n p.x.toNat s else(p.x,s)).2/\(if (xS p.op).1.x=true then 0<=(if (xS p.op).1.x=true then xE f n p.x.toNat s else(p.x,s)).1/\(if (xS p.op).1.x=true then xE f n p.x.toNat s else(p.x,s)).1<(if (xS p.op).1.x=true then xE f n p.x.toNat s else(p.x,s)).2.out.length else(if (xS p.op).1.x=true then xE f n p.x.toNat s else(p.x,s)).1=p.x)/\ s.out.length<=(if (xS p.op).1.x=true then xE f n p.x.toNat s else(p.x,s)).2.out.length:=by
    by_cases hx:(xS p.op).1.x=true
    ·simp only [if_pos hx];have:=ox hx;obtain⟨b1,b2,b3,b4⟩:=kU hc n (i:=p.x.toNat) (s:=s) (by omega) (by omega) hs;exact⟨b1,⟨b2,b3⟩,b4⟩
    ·simp only [if_neg hx]; exact⟨hs,trivial,μ _⟩
   generalize (if (xS p.op).1.x=true then xE f n p.x.toNat s else(p.x,s))= a at ha;obtain⟨a1,a2,a3⟩:=ha
   have hb:x8 (if (xS p.op).1.y=true then xE f n p.y.toNat a.2 else(p.y,a.2)).2/\(if (xS p.op).1.y=true then 0<=(if (xS p.op).1.y=true then xE f n p.y.toNat a.2 else(p.y,a.2)).1/\(if (xS p.op).1.y=true then xE f n p.y.toNat a.2 else(p.y,a.2)).1<(if (xS p.op).1.y=true then xE f n p.y.toNat a.2 else(p.y,a.2)).2.out.length else(if (xS p.op).1.y=true then xE f n p.y.toNat a.2 else(p.y,a.2)).1=p.y)/\ a.2.out.length<=(if (xS p.op).1.y=true then xE f n p.y.toNat a.2 else(p.y,a.2)).2.out.length:=by
    by_cases hy:(xS p.op).1.y=true
    ·simp only [if_pos hy];have:=oy hy;obtain⟨b1,b2,b3,b4⟩:=kU hc n (i:=p.y.toNat) (s:=a.2) (by omega) (by omega) a1;exact⟨b1,⟨b2,b3⟩,b4⟩
    ·simp only [if_neg hy]; exact⟨a1,trivial,μ _⟩
   generalize (if (xS p.op).1.y=true then xE f n p.y.toNat a.2 else(p.y,a.2))= b at hb;obtain⟨b1,b2,b3⟩:=hb
   have hq:wL ⟨p.op,p.i,p.e,p.g,a.1,b.1⟩ b.2.out.length=0:=by
    refine n6 hp ?_ b2
    split
    ·rename_i hx;rw [if_pos hx] at a2; omega
    ·rename_i hx;rw [if_neg hx] at a2; exact a2
   obtain⟨e1,e2,e3,e4⟩:=SD (i:=i) b1 hq;exact⟨e1,e2,e3,by omega⟩
theorem gV (f:List Nd) (i:Int):∀ k,k<(jM f i).length->wL ((jM f i).getD k nG) k=0:=by
 unfold jM
 by_cases h:wS f≠0\/i<0\/(f.length:Int)<=i
 ·rw [if_pos h]; intro k hk; simp at hk
 ·rw [if_neg h];obtain⟨c1,c2,c3⟩:=rO (f:=f) (by omega);exact(kU c3 (i.toNat+1) (i:=i.toNat) (s:=⟨[],[]⟩) (by omega) (by omega) ⟨λk hk=>by simp at hk,λz k hz=>by cases hz⟩).1.nd
theorem Sn {f:List Nd} {i:Nat} (hc:wS f=0) (hi:i<f.length):0<(jM f i).length:=by obtain⟨c1,c2,c3⟩:=rO hc;unfold jM;rw [if_neg (by omega)];have:=(kU c3 ((i:Int).toNat+1) (i:=(i:Int).toNat) (s:=⟨[],[]⟩) (by omega) (by omega) ⟨λk hk=>by simp at hk,λz k hz=>by cases hz⟩).2;unfold oJ;omega
theorem ff {f:List Nd} (hc:wS f=0):0<(yL f).length:=by
 have h1:=(rO hc).1;have:0<f.length:=List.length_pos_iff.2 h1;have:=Sn (i:=f.length-1) hc (by omega);unfold yL
 rwa [show ((f.length:Int)-1)= ((f.length-1:Nat):Int) by omega]
theorem cO {l:List Nd} (h:∀ k,k<l.length->wL (l.getD k nG) k=0) {p:Nd} (hp:p ∈ l):∃ k:Nat,wL p k=0:=by
 obtain⟨k,hk,rfl⟩:=List.getElem_of_mem hp;refine⟨k,?_⟩;have:=h k hk
 rwa [δ,List.getElem?_eq_getElem hk] at this
theorem vq {p:Nd} {k:Int} (h:wL p k=0) (hf:(xS p.op).1.fa=true):0<=p.i/\p.i<=7:=by have:=(qX.1 h).2.2.2.2;simp only [xA,hf,η,θ,decide_eq_false_iff_not] at this;omega
theorem bH {p:Nd} {k:Int} (h:wL p k=0) (hf:(xS p.op).1.ag=true):0<=p.i/\p.i<=3:=by have:=(qX.1 h).2.2.2.2;simp only [xA,hf,η,θ,decide_eq_false_iff_not] at this;omega
theorem bJ {p:Nd} {k:Int} (h:wL p k=0):0<=p.g/\p.g<=15:=by
 have h1:=(qX.1 h).2.2.2.2;have h2:=(qX.1 h).2.2.2.1
 cases hg:(xS p.op).1.gr
 ·simp only [hg,η,Bool.not_false,θ,decide_eq_false_iff_not] at h2;omega
 ·simp only [xA,hg,η,θ,decide_eq_false_iff_not] at h1;omega
def oX (p:Nd):Nat:=if (xS p.op).1.ag=true then 2 ^ p.i.toNat else p.g.toNat
def yy (p:Nd):Nat:=if (xS p.op).1.fa=true then 2 ^ p.i.toNat else 0
def iU (f:List Nd):Nat:=tZ oX (yL f)
def iu (f:List Nd):Nat:=tZ yy (yL f)
theorem Xa {p:Nd} {k:Int} (h:wL p k=0):oX p<4096:=by
 unfold oX
 split
 ·rename_i hf;have:=bH h hf;have:2 ^ p.i.toNat<=2 ^ 3:=ν (by decide) (by omega);omega
 ·have:=bJ h;omega
theorem Ww {p:Nd} {k:Int} (h:wL p k=0):yy p<4096:=by
 unfold yy
 split
 ·rename_i hf;have:=vq h hf;have:2 ^ p.i.toNat<=2 ^ 7:=ν (by decide) (by omega);omega
 ·omega
def mR (f:List Nd) (a b:Int):Bool:=decide (wS f=0)&& jZ (iU f) a&&jZ (iu f) b
end Fm
theorem Wd (f:List Nd):xK prog 75 [.sl 6 (uS f)] (.int .i64 (iU f)):=by
 refine zJ func75 Mi λhf=>?_;refine yQ ?_
 refine .go (xW.vZ (vy (m:=oX) (λp hp=>?_) (λp hp=>?_) (by have:=eM f ((f.length:Int)-1); unfold yL; omega)) rfl) ?_
 ·obtain⟨k,hk⟩:=cO (gV f _) hp;exact Xa hk
 ·obtain⟨k,hk⟩:=cO (gV f _) hp;have h:=Wf p (xS p.op).1 (λha=>by have:=bH hk ha; omega)
  rw [show ((oX p:Nat):Int)= (if (xS p.op).1.ag=true then((2 ^ p.i.toNat:Nat):Int) else p.g) by
   unfold oX
   split
   ·rfl
   ·have:=bJ hk; omega]
  exact h
 refine yQ ?_;exact .same
theorem UB (f:List Nd):xK prog 76 [.sl 6 (uS f)] (.int .i64 (iu f)):=by
 refine zJ func76 Mj λhf=>?_;refine yQ ?_
 refine .go (xW.vZ (vy (m:=yy) (λp hp=>?_) (λp hp=>?_) (by have:=eM f ((f.length:Int)-1); unfold yL; omega)) rfl) ?_
 ·obtain⟨k,hk⟩:=cO (gV f _) hp;exact Ww hk
 ·obtain⟨k,hk⟩:=cO (gV f _) hp;have h:=UP p (xS p.op).1 (λha=>by have:=vq hk ha; omega)
  rw [show ((yy p:Nat):Int)= (if (xS p.op).1.fa=true then((2 ^ p.i.toNat:Nat):Int) else 0) by unfold yy;split <;> rfl]
  exact h
 refine yQ ?_;exact .same
theorem Rz (f:List Nd) (a b:Int):xK prog 38 [.sl 6 (uS f),.int .i64 a,.int .i64 b] (.bool (mR f a b)):=by
 refine zJ func38 MS λhf=>?_;refine yQ ?_;refine .go (cr (bA f)) ?_;by_cases hc:wS f=0
 case neg=>
  have e:(wS f==0)= false:=by simpa using hc
  refine yF e ?_;exact .drop (by simp) (by simp [vw,mR,hc])
 have e:(wS f==0)= true:=by simpa using hc
 refine yF e ?_;refine .go (cr (Wd f)) ?_;refine yQ ?_;refine .go (xW.vZ (Yc (iU f) a) rfl) ?_
 cases hb:jZ (iU f) a
 ·refine yQ ?_;exact .drop (by simp) (by simp [vw,mR,hb])
 refine yQ ?_;refine .go (cr (UB f)) ?_;refine yQ ?_;refine .go (xW.vZ (Yc (iu f) b) rfl) ?_;refine yQ ?_;exact .drop (by simp) (by simp [vw,mR,hb,hc])
end Go.Pd
