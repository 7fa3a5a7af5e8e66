/- Part F12. -/
import Derived.Test.YtjmfdgonjighpaaZqBA
set_option linter.unusedSectionVars false
set_option linter.unusedVariables false
set_option linter.unusedSimpArgs false
set_option linter.defProp false
set_option maxRecDepth 20000
set_option maxHeartbeats 1000000
open Go.Proofs.Try
open List renaming length_append->γ,getD_eq_getElem?_getD->δ,length_singleton->ε,mem_singleton->ζ
open Bool renaming or_eq_false_iff->η,true_and->θ,and_eq_true->κ
open Nat renaming le_refl->μ,pow_le_pow_right->ν,or_lt_two_pow->ξ
open Int renaming toNat_of_nonneg->ο
open BitVec renaming ofInt_natCast->π,toNat_ofNat->υ
namespace Go.Pd
open Go Go.Proofs
open BitVec renaming isValue -> ZA
open Rs Fm
namespace Fm
def eB (i:Nat) (q:Nd) (s:CS):Int × CS:=match pM q s.out 0 with
 | some k=>(k,⟨s.out,kS i k s.done⟩)
 | none=>(s.out.length,⟨s.out ++ [q],kS i s.out.length s.done⟩)
theorem tZ {xX:List (Nat × Ob)} {k j:Nat} {o:Ob} (h:St.look xX k=none):St.look (wO xX j o) k=none:=by
 rw [xV]; split
 ·rw [h]; rfl
 ·exact h
theorem QD (l:List Nd) (q:Nd):∃ e r,vW (l ++ [q])= e :: r:=by
 cases h:vW (l ++ [q]) with
 | nil=>simp [vW] at h
 | cons e r=>exact⟨e,r,rfl⟩
theorem iy {f:List Nd} {nx nx2:Nat} {objs2:List (Nat × Ob)} {key2:Nat} {s2:CS} {q:Nd} {i:Nat} (hI:mG f nx2 objs2 key2 s2) (h7:7<=nx) (hle:nx+1+1<=nx2) (hke:key2≠nx) (hlen:s2.out.length<=1000) :
  ∃ nx' objs' key',Sz i nx nx2 objs2 key2 s2 q (.int .i64 (eB i q s2).1) ⟨nx',objs'⟩/\ mG f nx' objs' key' (eB i q s2).2/\nx2<=nx'/\(key'=key2\/nx2<=key')/\ ∀ k,7<=k->k<nx2->k≠key2->k≠nx->St.look objs' k=St.look objs2 k:=by
 obtain⟨hn,h0,h1,⟨k1,k2,k3,hkk⟩,aJ,h2,h3,h4,h5,h6⟩:=hI;unfold eB
 cases he:pM q s2.out 0 with
 | some k=>
  refine⟨nx2,_,key2,.inl ⟨k,he,rfl,rfl⟩,⟨hn,?_,?_,⟨k1,k2,k3,?_⟩,?_,?_,?_,?_,?_,?_⟩,μ _,.inl rfl,?_⟩
  ·rw [xV,if_neg (by omega),xV,if_neg (by omega)]; exact h0
  ·rw [xV,if_neg (by omega),xV,if_neg (by omega)]; exact h1
  ·rw [xV,if_neg (by omega),xV,if_neg (λe=>hke e.symm)]; exact hkk
  ·exact λj hj=>tZ (tZ (aJ j hj))
  ·rw [xV,if_neg (by omega),xV,if_neg (by omega)]; exact h2
  ·rw [xV,if_neg (by omega),xV,if_neg (by omega)]; exact h3
  ·rw [xV,if_pos rfl,xV,if_neg (by omega),h4]; rfl
  ·rw [xV,if_neg (by omega),xV,if_neg (by omega)]; exact h5
  ·rw [xV,if_neg (by omega),xV,if_neg (by omega)]; exact h6
  ·intro j a1 a2 a3 a4;rw [xV,if_neg (by omega),xV,if_neg (λe=>a4 e.symm)]
 | none=>
  obtain⟨e,r,hr⟩:=QD s2.out q
  have hlk:∀ j,j≠nx2->∀ (o1 o2 o4 oq:Ob),j≠1->j≠2->j≠4->j≠key2->j≠nx->St.look (yX nx2 6 (vW (s2.out ++ [q]))++ wO (wO (wO (yE (wO objs2 nx oq) key2) 1 o1) 2 o2) 4 o4) j=St.look objs2 j:=λj b1 o1 o2 o4 oq b2 b3 b4 b5 b6=>by rw [xG,if_neg (λe=>b1 e.symm),xV,if_neg (λe=>b4 e.symm),xV,if_neg (λe=>b3 e.symm),xV,if_neg (λe=>b2 e.symm),xK,if_neg (λe=>b5 e.symm),xV,if_neg (λe=>b6 e.symm)]
  refine⟨nx2+1,_,nx2,.inr ⟨he,hlen,rfl,rfl⟩,⟨by omega,?_,?_,⟨by omega,by omega,by omega,?_⟩,?_,?_,?_,?_,?_,?_⟩,by omega,.inr (μ _),?_⟩
  ·rw [hlk 0 (by omega) _ _ _ _ (by omega) (by omega) (by omega) (by omega) (by omega)]; exact h0
  ·rw [xG,if_neg (by omega),xV,if_neg (by omega),xV,if_neg (by omega),xV,if_pos rfl,xK,if_neg (by omega),xV,if_neg (by omega),h1]; rfl
  ·rw [xG,if_pos rfl];show (wW 6 (vW (s2.out ++ [q]))).or _=wW 6 (vW (s2.out ++ [q]));rw [hr]; rfl
  ·intro j hj;rw [xG,if_neg (by omega)];refine tZ (tZ (tZ ?_))
   rw [xK]; split
   ·rfl
   ·exact tZ (aJ j (by omega))
  ·rw [xG,if_neg (by omega),xV,if_neg (by omega),xV,if_pos rfl,xV,if_neg (by omega),xK,if_neg (by omega),xV,if_neg (by omega),h2]; rfl
  ·rw [hlk 3 (by omega) _ _ _ _ (by omega) (by omega) (by omega) (by omega) (by omega)]; exact h3
  ·rw [xG,if_neg (by omega),xV,if_pos rfl,xV,if_neg (by omega),xV,if_neg (by omega),xK,if_neg (by omega),xV,if_neg (by omega),h4]; rfl
  ·rw [hlk 5 (by omega) _ _ _ _ (by omega) (by omega) (by omega) (by omega) (by omega)]; exact h5
  ·rw [hlk 6 (by omega) _ _ _ _ (by omega) (by omega) (by omega) (by omega) (by omega)]; exact h6
  ·intro j a1 a2 a3 a4;exact hlk j (by omega) _ _ _ _ (by omega) (by omega) (by omega) a3 a4
end Fm
open Rs Fm
namespace Fm
theorem uj {x:Int}:∀ {u:List (Int × Int)},zZ x u=none->∀ p ∈ u,p.1≠x
 | [],_,p,hp=>by cases hp
 | (k,y) :: r,h,p,hp=>by
  unfold zZ at h
  by_cases e:x=k
  ·rw [if_pos e] at h; cases h
  ·rw [if_neg e] at h
   rcases List.mem_cons.1 hp with rfl | hp
   ·exact λe'=>e e'.symm
   ·exact uj h p hp
theorem cv {x y:Int}:∀ {u:List (Int × Int)},zZ x u=none->kS x y u=u ++ [(x,y)]
 | [],_=>rfl
 | (k,z) :: r,h=>by
  unfold zZ at h
  by_cases e:x=k
  ·rw [if_pos e] at h; cases h
  ·rw [if_neg e] at h;unfold kS;rw [if_neg e,cv h]; rfl
structure fR (f : List Nd) (s : CS) : Prop where
 le:s.out.length<=s.done.length
 nd:(s.done.map (·.1)).Nodup
 rg:∀ p ∈ s.done,0<=p.1/\p.1<f.length
theorem fR.len {f:List Nd} {s:CS} (h:fR f s):s.out.length<=f.length:=by
 have:=lG f.length (s.done.map λp=>p.1.toNat) ?_ ?_
 ·rw [List.length_map] at this; have:=h.le; omega
 ·have h1:=h.nd;unfold List.Nodup at h1 ⊢;rw [List.pairwise_map] at h1 ⊢;refine h1.imp_of_mem λ{a b} ha hb zL e=>zL ?_;have:=(h.rg a ha).1;have:=(h.rg b hb).1;omega
 ·intro x hx;simp only [List.mem_map] at hx;obtain⟨p,hp,rfl⟩:=hx;have:=h.rg p hp;omega
theorem Q1 {f:List Nd} {s:CS} {i:Nat} {q:Nd} (h:fR f s) (hi:i<f.length) (hno:zZ i s.done=none):fR f (eB i q s).2/\∀ z:Int,z≠i->zZ z (eB i q s).2.done=zZ z s.done:=by
 have hput:∀ y,fR f ⟨s.out,kS i y s.done⟩/\ (kS i y s.done).length=s.done.length+1:=λy=>by
  rw [cv hno]
  refine⟨⟨by simp only [γ]; have:=h.le; omega,?_,?_⟩,by simp⟩
  ·rw [List.map_append];refine List.nodup_append.2 ⟨h.nd,by simp,λa ha b hb=>?_⟩;simp only [List.mem_map] at ha;obtain⟨p,hp,rfl⟩:=ha;simp only [List.map_cons,List.map_nil,ζ] at hb;subst hb;exact uj hno p hp
  ·intro p hp
   rcases List.mem_append.1 hp with hp | hp
   ·exact h.rg p hp
   ·rw [ζ.1 hp]; exact⟨by simp,by simpa using hi⟩
 unfold eB
 cases he:pM q s.out 0 with
 | some k=>exact⟨(hput _).1,λz hz=>by simp only; rw [pV,if_neg hz]⟩
 | none=> refine⟨⟨?_,(hput _).1.nd,(hput _).1.rg⟩,λz hz=>by simp only; rw [pV,if_neg hz]⟩;have:=(hput s.out.length).2;have:=h.le;simp only [γ,ε]; omega
theorem nN {p:Nd} {k:Int} (h:zK p k=0):((xW p.op).1.x=true->0<=p.x/\p.x<k)/\ ((xW p.op).1.y=true->0<=p.y/\p.y<k):=by
 unfold zK at h
 by_cases h1:(xW p.op).2=false
 ·rw [if_pos h1] at h; cases h
 rw [if_neg h1] at h
 by_cases h2:(zM (xW p.op).1.x p.x k&&zM (xW p.op).1.y p.y k)= false
 ·rw [if_pos h2] at h; cases h
 simp only [Bool.not_eq_false,κ] at h2
 refine⟨λhx=>?_,λhy=>?_⟩
 ·have:=h2.1;unfold zM at this;rw [if_pos hx,κ,decide_eq_true_eq,decide_eq_true_eq] at this;exact this
 ·have:=h2.2;unfold zM at this;rw [if_pos hy,κ,decide_eq_true_eq,decide_eq_true_eq] at this;exact this
theorem jY {f:List Nd} {n i:Nat} {s:CS} (hno:zZ i s.done=none):xH f (n+1) i s =
  (let p:=f.getD i yG
   let a:=if (xW p.op).1.x=true then xH f n p.x.toNat s else(p.x,s)
   let b:=if (xW p.op).1.y=true then xH f n p.y.toNat a.2 else(p.y,a.2)
   eB i ⟨p.op,p.i,p.e,p.g,a.1,b.1⟩ b.2):=by
 rw [xH,hno]; rfl
theorem kW {f:List Nd} (hc:∀ k,k<f.length->zK (f.getD k yG) k=0):∀ (n:Nat) {i:Nat} {s:CS},i<n->i<f.length->fR f s->fR f (xH f n i s).2/\∀ z:Int,(i:Int)<z->zZ z (xH f n i s).2.done=zZ z s.done
 | 0,i,s,h,_,_=>by omega
 | n + 1,i,s,h,hi,hs=>by
  cases hu:zZ i s.done with
  | some k=>rw [xH,hu]; exact⟨hs,λ_ _=>rfl⟩
  | none=>
   rw [jY hu];obtain⟨ox,oy⟩:=nN (hc i hi);simp only;generalize f.getD i yG=p at ox oy
   have ha:fR f (if (xW p.op).1.x=true then xH f n p.x.toNat s else(p.x,s)).2/\∀ z:Int,(i:Int)<=z->zZ z (if (xW p.op).1.x=true then xH f n p.x.toNat s else(p.x,s)).2.done=zZ z s.done:=by
    by_cases hx:(xW p.op).1.x=true
    ·rw [if_pos hx];have:=ox hx;obtain⟨b1,b2⟩:=kW hc n (i:=p.x.toNat) (s:=s) (by omega) (by omega) hs;exact⟨b1,λz hz=>b2 z (by omega)⟩
    ·rw [if_neg hx]; exact⟨hs,λ_ _=>rfl⟩
   generalize (if (xW p.op).1.x=true then xH f n p.x.toNat s else(p.x,s))= a at ha;obtain⟨a1,a2⟩:=ha
   have hb:fR f (if (xW p.op).1.y=true then xH f n p.y.toNat a.2 else(p.y,a.2)).2/\∀ z:Int,(i:Int)<=z->zZ z (if (xW p.op).1.y=true then xH f n p.y.toNat a.2 else(p.y,a.2)).2.done=zZ z a.2.done:=by
    by_cases hy:(xW p.op).1.y=true
    ·rw [if_pos hy];have:=oy hy;obtain⟨b1,b2⟩:=kW hc n (i:=p.y.toNat) (s:=a.2) (by omega) (by omega) a1;exact⟨b1,λz hz=>b2 z (by omega)⟩
    ·rw [if_neg hy]; exact⟨a1,λ_ _=>rfl⟩
   generalize (if (xW p.op).1.y=true then xH f n p.y.toNat a.2 else(p.y,a.2))= b at hb;obtain⟨b1,b2⟩:=hb;obtain⟨e1,e2⟩:=Q1 (q:=⟨p.op,p.i,p.e,p.g,a.1,b.1⟩) b1 hi (by rw [b2 i (by omega),a2 i (by omega)]; exact hu);exact⟨e1,λz hz=>by rw [e2 z (by omega),b2 z (by omega),a2 z (by omega)]⟩
end Fm
open Rs Fm
namespace Fm
theorem Sm (op:Int) (h:(xW op).1.y=true):(xW op).1.x=true:=by
 have hc:op=1\/op=2\/op=3\/op=4\/op=5\/op=6\/op=7\/op=8\/op=9\/op=10\/op=11\/op=12\/op=13\/op=14\/op=15\/op=16\/op=17\/op=18\/op=19\/op=20\/op=21\/(op<1\/21<op):=by omega
 rcases hc with rfl | rfl | rfl | rfl | rfl | rfl | rfl | rfl | rfl | rfl | rfl | rfl | rfl | rfl | rfl | rfl | rfl | rfl | rfl | rfl | rfl | hc
 rotate_right
 ·rw [show xW op=(mZ,false) from if_pos hc] at h; cases h
 all_goals simp [xW,mZ] at h ⊢
theorem mG.fc {f:List Nd} {nx:Nat} {xX:List (Nat × Ob)} {key:Nat} {s:CS} (h:mG f nx xX key s):∃ key',mG f nx xX key' s/\((s.out = []/\key'=nx+4)\/(s.out ≠ []/\key'=key/\key'<nx)):=by
 obtain⟨hn,h0,h1,⟨k1,k2,k3,hkk⟩,aJ,h2,h3,h4,h5,h6⟩:=h
 by_cases ho:s.out = []
 ·refine⟨nx+4,⟨hn,h0,?_,⟨by omega,by omega,by omega,?_⟩,aJ,h2,h3,h4,h5,h6⟩,.inl ⟨ho,rfl⟩⟩
  ·rw [h1,ho]; rfl
  ·rw [aJ _ (by omega),ho]; rfl
 ·refine⟨key,⟨hn,h0,h1,⟨k1,k2,k3,hkk⟩,aJ,h2,h3,h4,h5,h6⟩,.inr ⟨ho,rfl,?_⟩⟩
  by_cases hlt:key<nx
  ·exact hlt
  ·rw [aJ key (by omega)] at hkk
   cases hd:vW s.out with
   | nil=>simp [vW] at hd; exact absurd hd ho
   | cons e r=>rw [hd] at hkk; cases hkk
theorem mG.alloc {f:List Nd} {nx:Nat} {xX:List (Nat × Ob)} {key:Nat} {s:CS} (h:mG f nx xX key s) (hk:key<nx\/key=nx+4) (o1 o2:Ob):mG f (nx+1+1) ((nx+1,o1) :: (nx,o2) :: xX) key s:=by
 obtain⟨hn,h0,h1,⟨k1,k2,k3,hkk⟩,aJ,h2,h3,h4,h5,h6⟩:=h
 have hl:∀ k,k≠nx->k≠nx+1->St.look ((nx+1,o1) :: (nx,o2) :: xX) k=St.look xX k:=λk a b=>by rw [xY,if_neg (λe=>b e.symm),xY,if_neg (λe=>a e.symm)]
 refine⟨by omega,?_,?_,⟨k1,by omega,by omega,?_⟩,?_,?_,?_,?_,?_,?_⟩
 ·rw [hl 0 (by omega) (by omega)]; exact h0
 ·rw [hl 1 (by omega) (by omega)]; exact h1
 ·rw [hl key k2 k3]; exact hkk
 ·intro k hk2; rw [hl k (by omega) (by omega)]; exact aJ k (by omega)
 ·rw [hl 2 (by omega) (by omega)]; exact h2
 ·rw [hl 3 (by omega) (by omega)]; exact h3
 ·rw [hl 4 (by omega) (by omega)]; exact h4
 ·rw [hl 5 (by omega) (by omega)]; exact h5
 ·rw [hl 6 (by omega) (by omega)]; exact h6
theorem mG.set {f:List Nd} {nx:Nat} {xX:List (Nat × Ob)} {key:Nat} {s:CS} (h:mG f nx xX key s) {j:Nat} (hj:7<=j) (hk:key≠j) (o:Ob):mG f nx (wO xX j o) key s:=by
 obtain⟨hn,h0,h1,⟨k1,k2,k3,hkk⟩,aJ,h2,h3,h4,h5,h6⟩:=h;have hl:∀ k,k≠j->St.look (wO xX j o) k=St.look xX k:=λk a=>by rw [xV,if_neg (λe=>a e.symm)]
 refine⟨hn,?_,?_,⟨k1,k2,k3,?_⟩,?_,?_,?_,?_,?_,?_⟩
 ·rw [hl 0 (by omega)]; exact h0
 ·rw [hl 1 (by omega)]; exact h1
 ·rw [hl key hk]; exact hkk
 ·exact λk hk2=>tZ (aJ k hk2)
 ·rw [hl 2 (by omega)]; exact h2
 ·rw [hl 3 (by omega)]; exact h3
 ·rw [hl 4 (by omega)]; exact h4
 ·rw [hl 5 (by omega)]; exact h5
 ·rw [hl 6 (by omega)]; exact h6
end Fm
theorem Ut {f:List Nd} {nx:Nat} {xX:List (Nat × Ob)} {key:Nat} {s:CS} {i:Nat} {k:Int} (hI:mG f nx xX key s) (hu:zZ i s.done=some k) :
  xU prog 71 [.int .i64 i,.ref 5 1 0 0,.ref 0 1 0 0,.ref 6 1 0 0,.ref 3 1 0 0,.ref 1 1 0 0] ⟨nx,xX⟩ (.int .i64 k) ⟨nx,xX⟩:=by
 obtain⟨hn,h0,h1,hk,aJ,h2,h3,h4,h5,h6⟩:=hI
 rcases sJ (i:Int) s.done 0 with ⟨q1,q2⟩ | ⟨y,j,q1,q2⟩
 ·rw [hu] at q1; cases q1
 ·rw [hu] at q1; cases q1;refine yS func71 PZ λhf=>?_;refine eG h5 h4 q2 ?_;exact .same
theorem aP {f:List Nd} (hc:∀ k,k<f.length->zK (f.getD k yG) k=0) (hlen:f.length<=900):∀ (n:Nat) {i nx:Nat} {xX:List (Nat × Ob)} {key:Nat} {s:CS},i<n->i<f.length->fR f s->mG f nx xX key s ->
  ∃ nx' objs' key',mG f nx' objs' key' (xH f n i s).2/\nx<=nx'/\(key'=key\/nx<=key')/\ (∀ k,7<=k->k<nx->(k≠key\/s.out = [])->St.look objs' k=St.look xX k)/\
   xU prog 71 [.int .i64 i,.ref 5 1 0 0,.ref 0 1 0 0,.ref 6 1 0 0,.ref 3 1 0 0,.ref 1 1 0 0] ⟨nx,xX⟩ (.int .i64 (xH f n i s).1) ⟨nx',objs'⟩
 | 0,i,nx,xX,key,s,h,_,_,_=>by omega
 | n + 1,i,nx,xX,key,s,h,hi,hs,hI=>by
  cases hu:zZ i s.done with
  | some k=> rw [xH,hu];exact⟨nx,xX,key,hI,μ _,.inl rfl,λ_ _ _ _=>rfl,Ut hI hu⟩
  | none=>
   rw [jY hu];obtain⟨ox,oy⟩:=nN (hc i hi);simp only;generalize hp:f.getD i yG=p at ox oy;obtain⟨ky,hI',hky⟩:=hI.fc;have hn:=hI'.hn;have hkc:ky<nx\/ky=nx+4:=by rcases hky with ⟨_,h⟩ | ⟨_,_,h⟩; exact .inr h; exact .inl h
   have hA:=hI'.alloc hkc (eH (xW p.op).1) (oP p.op p.i p.e p.g p.x p.y)
   have hkk:∀ k,k<nx->(k≠key\/s.out = [])->k≠ky:=λk h1 h2=>by
    rcases hky with ⟨_,e⟩ | ⟨ho,e,_⟩
    ·omega
    ·rcases h2 with h2 | h2
     ·rw [e]; exact h2
     ·exact absurd h2 ho
   have hkey:∀ k',k'=ky\/nx<=k'->k'=key\/nx<=k':=λk' h=>by
    rcases h with h | h
    ·rcases hky with ⟨_,e⟩ | ⟨_,e,_⟩
     ·exact .inr (by omega)
     ·exact .inl (by rw [h,e])
    ·exact .inr h
   have hA0:∀ k,k<nx->St.look ((nx+1,eH (xW p.op).1) :: (nx,oP p.op p.i p.e p.g p.x p.y) :: xX) k=St.look xX k:=λk hk=>by rw [xY,if_neg (by omega),xY,if_neg (by omega)]
   by_cases hx:(xW p.op).1.x=true
   ·obtain⟨hx1,hx2⟩:=ox hx;have hxn:((p.x.toNat:Nat):Int)= p.x:=ο hx1;obtain⟨nx1,objs1,key1,I1,l1,kk1,fr1,c1⟩:=aP hc hlen n (i:=p.x.toNat) (by omega) (by omega) hs hA;have f1:=(kW hc n (i:=p.x.toNat) (s:=s) (by omega) (by omega) hs);rw [if_pos hx];rw [hxn] at c1;generalize xH f n p.x.toNat s=a at I1 c1 f1
    have hN:St.look objs1 nx=some (oP p.op p.i p.e p.g p.x p.y):=by rw [fr1 nx hn (by omega) (.inl (by omega)),xY,if_neg (by omega),xY,if_pos rfl]
    have hU:St.look objs1 (nx+1)= some (eH (xW p.op).1):=by rw [fr1 (nx+1) (by omega) (by omega) (.inl (by omega)),xY,if_pos rfl]
    have hk1:key1≠nx:=by omega
    by_cases hy:(xW p.op).1.y=true
    ·obtain⟨hy1,hy2⟩:=oy hy;have hyn:((p.y.toNat:Nat):Int)= p.y:=ο hy1;obtain⟨nx2,objs2,key2,I2,l2,kk2,fr2,c2⟩:=aP hc hlen n (i:=p.y.toNat) (by omega) (by omega) f1.1 (I1.set (j:=nx) hn hk1 (oP p.op p.i p.e p.g a.1 p.y));have f2:=(kW hc n (i:=p.y.toNat) (s:=a.2) (by omega) (by omega) f1.1);rw [if_pos hy];rw [hyn] at c2;generalize xH f n p.y.toNat a.2=b at I2 c2 f2
     have hN2:St.look objs2 nx=some (oP p.op p.i p.e p.g a.1 p.y):=by rw [fr2 nx hn (by omega) (.inl (by omega)),xV,if_pos rfl,hN]; rfl
     have hk2:key2≠nx:=by omega
     obtain⟨nx',objs',key',e1,e2,e3,e4,e5⟩:=iy (q:=⟨p.op,p.i,p.e,p.g,a.1,b.1⟩) (i:=i) (nx:=nx) I2 (by omega) (by omega) hk2 (by have:=f2.1.len; omega);refine⟨nx',objs',key',e2,by omega,hkey _ (by omega),λk a1 a2 a3=>?_,ZP hI' hi (by omega) hp hu hx hy c1 I1 hN hU c2 I2 hN2 (by omega) hk2 e1⟩;have hk3:=hkk k a2 a3;rw [e5 k a1 (by omega) (by omega) (by omega),fr2 k a1 (by omega) (.inl (by omega)),xV,if_neg (by omega),fr1 k a1 (by omega) (.inl hk3)];exact hA0 k a2
    ·rw [if_neg hy];obtain⟨nx',objs',key',e1,e2,e3,e4,e5⟩:=iy (q:=⟨p.op,p.i,p.e,p.g,a.1,p.y⟩) (i:=i) (nx:=nx) I1 (by omega) (by omega) hk1 (by have:=f1.1.len; omega);refine⟨nx',objs',key',e2,by omega,hkey _ (by omega),λk a1 a2 a3=>?_,Uu hI' hi (by omega) hp hu hx (by simpa using hy) c1 I1 hN hU (by omega) hk1 e1⟩;have hk3:=hkk k a2 a3;rw [e5 k a1 (by omega) (by omega) (by omega),fr1 k a1 (by omega) (.inl hk3)];exact hA0 k a2
   ·have hy:¬ (xW p.op).1.y=true:=λhy=>hx (Sm _ hy);rw [if_neg hx,if_neg hy];obtain⟨nx',objs',key',e1,e2,e3,e4,e5⟩:=iy (q:=p) (i:=i) (nx:=nx) hA (by omega) (by omega) (by omega) (by have:=hs.len; omega)
    refine⟨nx',objs',key',e2,by omega,?_,λk a1 a2 a3=>?_,Sr hI' hi (by omega) hp hu (by simpa using hx) (by simpa using hy) e1⟩
    ·rcases e4 with e4 | e4
     ·exact hkey _ (.inl e4)
     ·exact .inr (by omega)
    ·rw [e5 k a1 (by omega) (hkk k a2 a3) (by omega)];exact hA0 k a2
open Rs Fm
theorem ng {f:List Nd} {i:Nat} (hc:∀ k,k<f.length->zK (f.getD k yG) k=0) (hlen:f.length<=900) (hi:i<f.length):zX prog 53 [.sl 6 (vW f),.int .i64 i] (.sl 6 (vW (tB f i))):=by
 have hI0:mG f 7 [(6,⟨1,[[.fn 71 [.ref 5 1 0 0,.ref 0 1 0 0,.ref 6 1 0 0,.ref 3 1 0 0,.ref 1 1 0 0]]]⟩),(5,⟨1,[[.yV 4]]⟩),(4,⟨0,[]⟩),(3,⟨1,[[.yV 2]]⟩),(2,⟨0,[]⟩),(1,⟨1,[[.xI]]⟩),(0,⟨1,[[.sl 6 (vW f)]]⟩)] 11 ⟨[],[]⟩:=by refine⟨μ _,by simp [St.look],by simp [St.look,vW,xJ],⟨by omega,by omega,by omega,by simp [St.look,vW,wW]⟩,λk hk=>?_,by simp [St.look,mI,vZ],by simp [St.look],by simp [St.look,mo,oX],by simp [St.look],by simp [St.look]⟩;simp only [xY,look_nil];rw [if_neg (by omega),if_neg (by omega),if_neg (by omega),if_neg (by omega),if_neg (by omega),if_neg (by omega),if_neg (by omega)]
 obtain⟨nx',objs',key',I1,_,_,_,c1⟩:=aP hc hlen (i+1) (i:=i) (by omega) hi ⟨μ _,by simp,λp hp=>by cases hp⟩ hI0;have e:(xH f (i+1) i ⟨[],[]⟩).2.out=tB f i:=rfl;have h1:=I1.h1;have hk:=I1.hk.2.2.2;rw [e] at h1 hk;refine yS func53 Lg λhf=>?_;refine j0 ?_;refine .go c1 ?_;refine j4 h1 ?_;exact .drop (by simp) (eN (by simp) (vh _) hk)
namespace Fm
theorem tK {f:List Nd} (h:yQ f=0):f ≠ []/\f.length<=200/\∀ k,k<f.length->zK (f.getD k yG) k=0:=by
 unfold yQ at h
 by_cases h1:f = []
 ·rw [if_pos h1] at h; cases h
 rw [if_neg h1] at h
 by_cases h2:200<f.length
 ·rw [if_pos h2] at h; cases h
 rw [if_neg h2] at h;refine⟨h1,by omega,λk hk=>?_⟩;have:=Wd h k hk
 rwa [Int.zero_add] at this
def fV (f:List Nd) (i:Int):List Nd:=if yQ f≠0\/i<0\/(f.length:Int)<=i then [] else tB f i.toNat
def xQ (f:List Nd):List Nd:=fV f ((f.length:Int)-1)
end Fm
theorem OO (f:List Nd) (i:Int):zX prog 43 [.sl 6 (vW f),.int .i64 i] (.sl 6 (vW (fV f i))):=by
 refine yS func43 LX λhf=>?_;refine xB ?_;refine .go (cr (iG f)) ?_;by_cases hc:yQ f=0
 case neg=> have e:(yQ f != 0)= true:=bne_iff_ne.2 hc;refine yK e ?_;rw [show fV f i = [] from if_pos (.inl hc)];exact .drop (by simp) (by simp [vw,vW])
 have e:(yQ f != 0)= false:=by simpa using hc
 by_cases h1:i<0
 ·refine sC e h1 ?_;rw [show fV f i = [] from if_pos (.inr (.inl h1))];exact .drop (by simp) (by simp [vw,vW])
 by_cases h2:(f.length:Int)<=i
 ·refine se e h1 xF h2 ?_;rw [show fV f i = [] from if_pos (.inr (.inr h2))];exact .drop (by simp) (by simp [vw,vW])
 obtain⟨j,rfl⟩:=Int.eq_ofNat_of_zero_le (show 0<=i by omega);obtain⟨c1,c2,c3⟩:=tK hc;rw [show fV f j=tB f j by rw [fV,if_neg (by omega),Int.toNat_natCast]];refine se e h1 xF h2 ?_;refine .go (xU.yU (ng c3 (by omega) (show j<f.length by omega)) (by simp [D.xT,D.xO])) ?_;refine xB ?_;exact .same
theorem kV (f:List Nd):zX prog 19 [.sl 6 (vW f)] (.sl 6 (vW (xQ f))):=by refine yS func19 LA λhf=>?_;simp only [D.pJ,D.fact,xF] at hf;have hlen:=hf.1.1;have e:IntKind.i64.wrap ((f.length:Int)-1)= (f.length:Int)-1:=wrap_i64 (by omega);refine sC xF e ?_;refine .go (xU.yU (OO f ((f.length:Int)-1)) (by simp [D.xT,D.xO])) ?_;refine xB ?_;exact .same
open Rs Fm
theorem Om {a b:Nat} (ha:a<2 ^ 62) (hb:b<2 ^ 62):mH .or .i64 (a:Int) (b:Int)= ((a ||| b:Nat):Int):=by show IntKind.i64.wrap ((BitVec.ofInt 64 (a:Int) ||| BitVec.ofInt 64 (b:Int)).toNat:Int)= _;rw [π,π,BitVec.toNat_or,υ,υ,Nat.mod_eq_of_lt (by omega),Nat.mod_eq_of_lt (by omega)];have:=ξ ha hb;exact wrap_i64 (by omega)
namespace Fm
def uF (m:Nd->Nat) (l:List Nd):Nat:=l.foldl (λa p=>a ||| m p) 0
theorem xp (m:Nd->Nat) (l:List Nd) (p:Nd):uF m (l ++ [p])= uF m l ||| m p:=by simp [uF]
theorem ZM {m:Nd->Nat} {l:List Nd} (h:∀ p ∈ l,m p<4096):uF m l<2 ^ 12:=by
 have key:∀ (l:List Nd) (a:Nat),a<2 ^ 12->(∀ p ∈ l,m p<4096)->l.foldl (λa p=>a ||| m p) a<2 ^ 12:=by
  intro l
  induction l with
  | nil=>intro a ha _; exact ha
  | cons p r ih=>intro a ha h; exact ih _ (ξ ha (h p (by simp))) λq hq=>h q (by simp [hq])
 exact key l 0 (by decide) h
end Fm
theorem jo {f:List Nd} {g:FuncId} {m:Nd->Nat} (hm:∀ p ∈ xQ f,m p<4096) (h:∀ p ∈ xQ f,zX prog g [.agg p.row,.agg (xW p.op).1.row] (.int .i64 (m p))) (hlen:(xQ f).length<=1000) :
  zX prog 38 [.sl 6 (vW f),.fn g []] (.int .i64 (uF m (xQ f))):=by
 refine yS func38 LS λhf=>?_;refine xB ?_;refine .go (cr (kV f)) ?_;generalize xQ f=l at hm h hlen;refine yK xF ?_
 refine yM (λk:Nat=>[(13,.int .i64 k),(12,.int .i64 l.length),(11,.sl 6 (vW l)),(5,.int .i64 (uF m (l.take k))),(1,.fn g [])]) (λ_=>⟨0,[]⟩) (λk=>k<=l.length) (λk=>l.length-k) 0 (Nat.zero_le _) ?_ ?_
 ·(refine yJ.same ?_; simp [vI,Fr.get,uF])
 intro k hk;refine wH mixed ?_;by_cases hh:k<l.length
 case neg=>
  have hd:¬ ((k:Int)<(l.length:Int)):=by omega
  rw [iN (show k=l.length by omega)];refine yK hd ?_;exact .same
 have hd:((k:Int)<(l.length:Int)):=by omega
 have hs:uF m (l.take (k+1))= uF m (l.take k) ||| m (l.getD k yG):=by rw [qY (d:=yG) hh,xp]
 have hg:=rX l hh;have hmem:=wR (d:=yG) hh;have hlt:uF m (l.take k)<2 ^ 12:=ZM λp hp=>hm p (List.mem_of_mem_take hp);generalize l.getD k yG=p at hs hg hmem;have hmp:=hm p hmem;simp only [simprocAttr,-ZA,↓zU,↓zD,zV,zT,zW,hd,xF,hg,Nd.row]
 (repeat refine sd ?_)
 refine .go (cq (bS p.op)) ?_;simp only [simprocAttr,-ZA,↓zU,↓zD,zV,zT,zW,zn.row]
 (repeat refine sd ?_)
 refine .go (xU.yU (h p hmem) (by simp [D.xT,D.xO,Nd.row,zn.row])) ?_;simp only [simprocAttr,-ZA,↓zU,↓zD,zV,zT,zW,Om (show uF m (l.take k)<2 ^ 62 by omega) (show m p<2 ^ 62 by omega)];refine⟨k+1,by omega,?_,by omega⟩;rw [hs]
 (refine yJ.view (λk=>k) (by simp) (by simp) ?_ (by simp [stays]) (by simp [wQ]); simp [aK,vw,sV,Fr.get])
 exact wrap_i64 (by omega)
open Rs Fm
namespace Fm
theorem YN (op:Int):0<=(xW op).1.fr/\(xW op).1.fr<=256:=by
 have hc:op=1\/op=2\/op=3\/op=4\/op=5\/op=6\/op=7\/op=8\/op=9\/op=10\/op=11\/op=12\/op=13\/op=14\/op=15\/op=16\/op=17\/op=18\/op=19\/op=20\/op=21\/(op<1\/21<op):=by omega
 rcases hc with rfl | rfl | rfl | rfl | rfl | rfl | rfl | rfl | rfl | rfl | rfl | rfl | rfl | rfl | rfl | rfl | rfl | rfl | rfl | rfl | rfl | hc
 rotate_right
 ·rw [show xW op=(mZ,false) from if_pos hc]; exact⟨by decide,by decide⟩
 all_goals simp [xW,mZ]
def qj (p:Nd):Nat:=(xW p.op).1.fr.toNat
def rF (f:List Nd):Nat:=uF qj (xQ f)
theorem tq {f:List Nd} {i:Nat} (hc:∀ k,k<f.length->zK (f.getD k yG) k=0) (hi:i<f.length):(tB f i).length<=f.length:=(kW hc (i+1) (i:=i) (s:=⟨[],[]⟩) (by omega) hi ⟨μ _,by simp,λp hp=>by cases hp⟩).1.len
theorem kI (f:List Nd) (i:Int):(fV f i).length<=200:=by
 unfold fV
 by_cases h:yQ f≠0\/i<0\/(f.length:Int)<=i
 ·rw [if_pos h]; simp
 ·rw [if_neg h];obtain⟨c1,c2,c3⟩:=tK (f:=f) (by omega);have:=tq c3 (i:=i.toNat) (by omega);omega
end Fm
theorem Rg (f:List Nd):zX prog 17 [.sl 6 (vW f)] (.int .i64 (rF f)):=by
 refine yS func17 L8 λhf=>?_;refine xB ?_
 refine .go (xU.yU (jo (m:=qj) (λp _=>by have:=YN p.op; unfold qj; omega) (λp _=>?_) (by have:=kI f ((f.length:Int)-1); unfold xQ; omega)) rfl) ?_
 ·have h:=Ry p (xW p.op).1;have:=YN p.op;rw [show ((qj p:Nat):Int)= (xW p.op).1.fr from ο this.1];exact h
 refine xB ?_;exact .same
open Rs Fm
namespace Fm
def eW (m:Nat) (n:Int):Bool:=decide (31<=n) || decide (m / 2 ^ n.toNat=0)
end Fm
theorem VG (m:Nat) (n:Int):zX prog 40 [.int .i64 m,.int .i64 n] (.bool (eW m n)):=by
 refine yS func40 LW λhf=>?_
 by_cases h1:31<=n
 ·refine yK h1 ?_;exact .drop (by simp) (by simp [vw,eW,h1])
 have e:max n 0=((n.toNat:Nat):Int):=by omega
 have e2:max 0 n=((n.toNat:Nat):Int):=by omega
 have hb:(((m / 2 ^ n.toNat:Nat):Int)== 0)= decide (m / 2 ^ n.toNat=0):=by rw [Bool.eq_iff_iff,beq_iff_eq,decide_eq_true_iff]; omega
 simp only [simprocAttr,-ZA,↓zU,↓zD,zV,zT,zW,h1,QC,e,e2,bP m n.toNat (by omega),hb]
 (repeat refine sd ?_)
 exact .drop (by simp) (by simp [vw,eW,h1])
open Rs Fm
namespace Fm
theorem uQ {p:Nd} {k:Int}:zK p k=0 ↔ (xW p.op).2=true/\zM (xW p.op).1.x p.x k=true/\zM (xW p.op).1.y p.y k=true /\
  ((!((xW p.op).1.fa || (xW p.op).1.ag || (xW p.op).1.ev)&& decide (p.i≠0)) || (!(xW p.op).1.ev&&decide (p.e≠0)) || (!(xW p.op).1.gr&&decide (p.g≠0)))= false /\
  (yW (xW p.op).1.fa p.i 0 7 || yW (xW p.op).1.ag p.i 0 3 || yW (xW p.op).1.ev p.i 0 7 || yW (xW p.op).1.ev p.e 0 7 || yW (xW p.op).1.gr p.g 1 15)= false:=by
 unfold zK
 cases h1:(xW p.op).2
 ·simp
 cases h2:zM (xW p.op).1.x p.x k
 ·simp
 cases h3:zM (xW p.op).1.y p.y k
 ·simp
 generalize ((!((xW p.op).1.fa || (xW p.op).1.ag || (xW p.op).1.ev)&& decide (p.i≠0)) || (!(xW p.op).1.ev&&decide (p.e≠0)) || (!(xW p.op).1.gr&&decide (p.g≠0)))= c;generalize (yW (xW p.op).1.fa p.i 0 7 || yW (xW p.op).1.ag p.i 0 3 || yW (xW p.op).1.ev p.i 0 7 || yW (xW p.op).1.ev p.e 0 7 || yW (xW p.op).1.gr p.g 1 15)= d;cases c <;> cases d <;> simp
theorem lA {p:Nd} {a b k k':Int} (h:zK p k=0) (ha:if (xW p.op).1.x=true then 0<=a/\a<k' else a=p.x) (hb:if (xW p.op).1.y=true then 0<=b/\b<k' else b=p.y):zK ⟨p.op,p.i,p.e,p.g,a,b⟩ k'=0:=by
 rw [uQ] at h ⊢;obtain⟨h1,h2,h3,h4,h5⟩:=h
 refine⟨h1,?_,?_,h4,h5⟩
 ·simp only
  cases hx:(xW p.op).1.x
  ·rw [hx] at ha h2;rw [if_neg (by simp)] at ha;rw [ha]; exact h2
  ·rw [hx,if_pos rfl] at ha;simp [zM,ha]
 ·simp only
  cases hx:(xW p.op).1.y
  ·rw [hx] at hb h3;rw [if_neg (by simp)] at hb;rw [hb]; exact h3
  ·rw [hx,if_pos rfl] at hb;simp [zM,hb]
structure ZW (s : CS) : Prop where
 nd:∀ k,k<s.out.length->zK (s.out.getD k yG) k=0
 dn:∀ z k:Int,zZ z s.done=some k->0<=k/\k<s.out.length
theorem Zy {q:Nd}:∀ {l:List Nd} {k j:Nat},pM q l k=some j->k<=j/\j<k+l.length
 | [],_,_,h=>by cases h
 | p :: r,k,j,h=>by
  unfold pM at h
  by_cases e:q=p
  ·rw [if_pos e] at h; cases h; simp
  ·rw [if_neg e] at h;have:=Zy h;simp only [List.length_cons]; omega
theorem Q0 {s:CS} {i:Nat} {q:Nd} (h:ZW s) (hq:zK q s.out.length=0):ZW (eB i q s).2/\0<=(eB i q s).1/\(eB i q s).1<(eB i q s).2.out.length/\s.out.length<=(eB i q s).2.out.length:=by
 unfold eB
 cases he:pM q s.out 0 with
 | some k=>
  have hk:=Zy he;refine⟨⟨h.nd,λz j hz=>?_⟩,by simp,by simp only; omega,μ _⟩;simp only at hz;rw [pV] at hz
  by_cases e:z=i
  ·rw [if_pos e] at hz; cases hz; simp only; omega
  ·rw [if_neg e] at hz; exact h.dn z j hz
 | none=>
  refine⟨⟨λk hk=>?_,λz j hz=>?_⟩,by simp,by simp; omega,by simp⟩
  ·simp only [γ,ε] at hk
   by_cases hl:k<s.out.length
   ·have:=h.nd k hl;simp only [δ] at this ⊢
    rwa [List.getElem?_append_left hl]
   ·obtain rfl:k=s.out.length:=by omega
    simpa [δ] using hq
  ·simp only at hz;rw [pV] at hz
   by_cases e:z=i
   ·rw [if_pos e] at hz; cases hz; simp; omega
   ·rw [if_neg e] at hz;have:=h.dn z j hz;simp only [γ,ε]; omega
theorem gB {f:List Nd} (hc:∀ k,k<f.length->zK (f.getD k yG) k=0):∀ (n:Nat) {i:Nat} {s:CS},i<n->i<f.length->ZW s ->
  ZW (xH f n i s).2/\0<=(xH f n i s).1/\(xH f n i s).1<(xH f n i s).2.out.length/\s.out.length<=(xH f n i s).2.out.length
 | 0,i,s,h,_,_=>by omega
 | n + 1,i,s,h,hi,hs=>by
  cases hu:zZ i s.done with
  | some k=>rw [xH,hu]; exact⟨hs,(hs.dn _ _ hu).1,(hs.dn _ _ hu).2,μ _⟩
  | none=>
   rw [jY hu];have hp:=hc i hi;obtain⟨ox,oy⟩:=nN hp;simp only;generalize f.getD i yG=p at ox oy hp
   have ha:ZW (if (xW p.op).1.x=true then xH f n p.x.toNat s else(p.x,s)).2/\(if (xW p.op).1.x=true then 0<=(if (xW p.op).1.x=true then xH f n p.x.toNat s else(p.x,s)).1/\(if (xW p.op).1.x=true then xH f n p.x.toNat s else(p.x,s)).1<(if (xW p.op).1.x=true then xH f n p.x.toNat s else(p.x,s)).2.out.length else(if (xW p.op).1.x=true then xH f n p.x.toNat s else(p.x,s)).1=p.x)/\ s.out.length<=(if (xW p.op).1.x=true then xH f n p.x.toNat s else(p.x,s)).2.out.length:=by
    by_cases hx:(xW p.op).1.x=true
    ·simp only [if_pos hx];have:=ox hx;obtain⟨b1,b2,b3,b4⟩:=gB hc n (i:=p.x.toNat) (s:=s) (by omega) (by omega) hs;exact⟨b1,⟨b2,b3⟩,b4⟩
    ·simp only [if_neg hx]; exact⟨hs,trivial,μ _⟩
   generalize (if (xW p.op).1.x=true then xH f n p.x.toNat s else(p.x,s))= a at ha;obtain⟨a1,a2,a3⟩:=ha
   have hb:ZW (if (xW p.op).1.y=true then xH f n p.y.toNat a.2 else(p.y,a.2)).2/\(if (xW p.op).1.y=true then 0<=(if (xW p.op).1.y=true then xH f n p.y.toNat a.2 else(p.y,a.2)).1/\(if (xW p.op).1.y=true then xH f n p.y.toNat a.2 else(p.y,a.2)).1<(if (xW p.op).1.y=true then xH f n p.y.toNat a.2 else(p.y,a.2)).2.out.length else(if (xW p.op).1.y=true then xH f n p.y.toNat a.2 else(p.y,a.2)).1=p.y)/\ a.2.out.length<=(if (xW p.op).1.y=true then xH f n p.y.toNat a.2 else(p.y,a.2)).2.out.length:=by
    by_cases hy:(xW p.op).1.y=true
    ·simp only [if_pos hy];have:=oy hy;obtain⟨b1,b2,b3,b4⟩:=gB hc n (i:=p.y.toNat) (s:=a.2) (by omega) (by omega) a1;exact⟨b1,⟨b2,b3⟩,b4⟩
    ·simp only [if_neg hy]; exact⟨a1,trivial,μ _⟩
   generalize (if (xW p.op).1.y=true then xH f n p.y.toNat a.2 else(p.y,a.2))= b at hb;obtain⟨b1,b2,b3⟩:=hb
   have hq:zK ⟨p.op,p.i,p.e,p.g,a.1,b.1⟩ b.2.out.length=0:=by
    refine lA hp ?_ b2
    split
    ·rename_i hx;rw [if_pos hx] at a2; omega
    ·rename_i hx;rw [if_neg hx] at a2; exact a2
   obtain⟨e1,e2,e3,e4⟩:=Q0 (i:=i) b1 hq;exact⟨e1,e2,e3,by omega⟩
theorem bQ (f:List Nd) (i:Int):∀ k,k<(fV f i).length->zK ((fV f i).getD k yG) k=0:=by
 unfold fV
 by_cases h:yQ f≠0\/i<0\/(f.length:Int)<=i
 ·rw [if_pos h]; intro k hk; simp at hk
 ·rw [if_neg h];obtain⟨c1,c2,c3⟩:=tK (f:=f) (by omega);exact(gB c3 (i.toNat+1) (i:=i.toNat) (s:=⟨[],[]⟩) (by omega) (by omega) ⟨λk hk=>by simp at hk,λz k hz=>by cases hz⟩).1.nd
theorem QO {f:List Nd} {i:Nat} (hc:yQ f=0) (hi:i<f.length):0<(fV f i).length:=by obtain⟨c1,c2,c3⟩:=tK hc;unfold fV;rw [if_neg (by omega)];have:=(gB c3 ((i:Int).toNat+1) (i:=(i:Int).toNat) (s:=⟨[],[]⟩) (by omega) (by omega) ⟨λk hk=>by simp at hk,λz k hz=>by cases hz⟩).2;unfold tB;omega
theorem pP {f:List Nd} (hc:yQ f=0):0<(xQ f).length:=by
 have h1:=(tK hc).1;have:0<f.length:=List.length_pos_iff.2 h1;have:=QO (i:=f.length-1) hc (by omega);unfold xQ
 rwa [show ((f.length:Int)-1)= ((f.length-1:Nat):Int) by omega]
theorem iT {l:List Nd} (h:∀ k,k<l.length->zK (l.getD k yG) k=0) {p:Nd} (hp:p ∈ l):∃ k:Nat,zK p k=0:=by
 obtain⟨k,hk,rfl⟩:=List.getElem_of_mem hp;refine⟨k,?_⟩;have:=h k hk
 rwa [δ,List.getElem?_eq_getElem hk] at this
theorem Y4 {p:Nd} {k:Int} (h:zK p k=0) (hf:(xW p.op).1.fa=true):0<=p.i/\p.i<=7:=by have:=(uQ.1 h).2.2.2.2;simp only [yW,hf,η,θ,decide_eq_false_iff_not] at this;omega
theorem bj {p:Nd} {k:Int} (h:zK p k=0) (hf:(xW p.op).1.ag=true):0<=p.i/\p.i<=3:=by have:=(uQ.1 h).2.2.2.2;simp only [yW,hf,η,θ,decide_eq_false_iff_not] at this;omega
theorem bl {p:Nd} {k:Int} (h:zK p k=0):0<=p.g/\p.g<=15:=by
 have h1:=(uQ.1 h).2.2.2.2;have h2:=(uQ.1 h).2.2.2.1
 cases hg:(xW p.op).1.gr
 ·simp only [hg,η,Bool.not_false,θ,decide_eq_false_iff_not] at h2;omega
 ·simp only [yW,hg,η,θ,decide_eq_false_iff_not] at h1;omega
def iS (p:Nd):Nat:=if (xW p.op).1.ag=true then 2 ^ p.i.toNat else p.g.toNat
def jI (p:Nd):Nat:=if (xW p.op).1.fa=true then 2 ^ p.i.toNat else 0
def gJ (f:List Nd):Nat:=uF iS (xQ f)
def rR (f:List Nd):Nat:=uF jI (xQ f)
theorem WE {p:Nd} {k:Int} (h:zK p k=0):iS p<4096:=by
 unfold iS
 split
 ·rename_i hf;have:=bj h hf;have:2 ^ p.i.toNat<=2 ^ 3:=ν (by decide) (by omega);omega
 ·have:=bl h;omega
theorem Th {p:Nd} {k:Int} (h:zK p k=0):jI p<4096:=by
 unfold jI
 split
 ·rename_i hf;have:=Y4 h hf;have:2 ^ p.i.toNat<=2 ^ 7:=ν (by decide) (by omega);omega
 ·omega
def jJ (f:List Nd) (a b:Int):Bool:=decide (yQ f=0)&& eW (gJ f) a&&eW (rR f) b
end Fm
theorem TP (f:List Nd):zX prog 41 [.sl 6 (vW f)] (.int .i64 (gJ f)):=by
 refine yS func41 LZ λhf=>?_;refine xB ?_
 refine .go (xU.yU (jo (m:=iS) (λp hp=>?_) (λp hp=>?_) (by have:=kI f ((f.length:Int)-1); unfold xQ; omega)) rfl) ?_
 ·obtain⟨k,hk⟩:=iT (bQ f _) hp;exact WE hk
 ·obtain⟨k,hk⟩:=iT (bQ f _) hp;have h:=TS p (xW p.op).1 (λha=>by have:=bj hk ha; omega)
  rw [show ((iS p:Nat):Int)= (if (xW p.op).1.ag=true then((2 ^ p.i.toNat:Nat):Int) else p.g) by
   unfold iS
   split
   ·rfl
   ·have:=bl hk; omega]
  exact h
 refine xB ?_;exact .same
theorem Rf (f:List Nd):zX prog 42 [.sl 6 (vW f)] (.int .i64 (rR f)):=by
 refine yS func42 LY λhf=>?_;refine xB ?_
 refine .go (xU.yU (jo (m:=jI) (λp hp=>?_) (λp hp=>?_) (by have:=kI f ((f.length:Int)-1); unfold xQ; omega)) rfl) ?_
 ·obtain⟨k,hk⟩:=iT (bQ f _) hp;exact Th hk
 ·obtain⟨k,hk⟩:=iT (bQ f _) hp;have h:=Rz p (xW p.op).1 (λha=>by have:=Y4 hk ha; omega)
  rw [show ((jI p:Nat):Int)= (if (xW p.op).1.fa=true then((2 ^ p.i.toNat:Nat):Int) else 0) by unfold jI;split <;> rfl]
  exact h
 refine xB ?_;exact .same
theorem Pq (f:List Nd) (a b:Int):zX prog 18 [.sl 6 (vW f),.int .i64 a,.int .i64 b] (.bool (jJ f a b)):=by
 refine yS func18 L9 λhf=>?_;refine xB ?_;refine .go (cr (iG f)) ?_;by_cases hc:yQ f=0
 case neg=>
  have e:(yQ f==0)= false:=by simpa using hc
  refine yK e ?_;exact .drop (by simp) (by simp [vw,jJ,hc])
 have e:(yQ f==0)= true:=by simpa using hc
 refine yK e ?_;refine .go (cr (TP f)) ?_;refine xB ?_;refine .go (xU.yU (VG (gJ f) a) rfl) ?_
 cases hb:eW (gJ f) a
 ·refine xB ?_;exact .drop (by simp) (by simp [vw,jJ,hb])
 refine xB ?_;refine .go (cr (Rf f)) ?_;refine xB ?_;refine .go (xU.yU (VG (rR f) b) rfl) ?_;refine xB ?_;exact .drop (by simp) (by simp [vw,jJ,hb,hc])
end Go.Pd
