/- Part F12. -/
import Derived.Test.YtjklmijiccabfaaGreatRF8
set_option linter.unusedSectionVars false
set_option linter.unusedVariables false
set_option linter.unusedSimpArgs false
set_option linter.defProp false
set_option maxRecDepth 20000
set_option maxHeartbeats 1000000
namespace Go.Pd
open Go Go.Proofs
open Int renaming reduceToNat -> ZA, reduceLT -> ZB, reduceLE -> ZC, reduceBEq -> ZD, reduceBNe -> ZE
open Nat renaming reduceEqDiff -> ZF, reduceAdd -> ZG, reduceBEq -> ZH, reduceLT -> ZI, reduceLeDiff -> ZJ, reduceMul -> ZK
open Rs Fm
namespace Fm
def endS (i:Nat) (q:Nd) (s:CS):Int × CS:=match idxN q s.out 0 with
 | some k=>(k,⟨s.out,uput i k s.done⟩)
 | none=>(s.out.length,⟨s.out ++ [q],uput i s.out.length s.done⟩)
theorem look_none_set {objs:List (Nat × Ob)} {k j:Nat} {o:Ob} (h:St.look objs k=none):St.look (setL objs j o) k=none:=by
 rw [look_setL]; split
 ·rw [h]; rfl
 ·exact h
theorem ndR_ne (l:List Nd) (q:Nd):∃ e r,ndR (l ++ [q])= e :: r:=by
 cases h:ndR (l ++ [q]) with
 | nil=>simp [ndR] at h
 | cons e r=>exact⟨e,r,rfl⟩
theorem end_inv {f:List Nd} {nx nx2:Nat} {objs2:List (Nat × Ob)} {key2:Nat} {s2:CS} {q:Nd} {i:Nat} (hI:InvC f nx2 objs2 key2 s2) (h7:7<=nx) (hle:nx+1+1<=nx2) (hke:key2≠nx) (hlen:s2.out.length<=1000) :
  ∃ nx' objs' key',EndC i nx nx2 objs2 key2 s2 q (.int .i64 (endS i q s2).1) ⟨nx',objs'⟩/\ InvC f nx' objs' key' (endS i q s2).2/\nx2<=nx'/\(key'=key2\/nx2<=key')/\ ∀ k,7<=k->k<nx2->k≠key2->k≠nx->St.look objs' k=St.look objs2 k:=by
 obtain⟨hn,h0,h1,⟨k1,k2,k3,hkk⟩,hfr,h2,h3,h4,h5,h6⟩:=hI
 unfold endS
 cases he:idxN q s2.out 0 with
 | some k=>
  refine⟨nx2,_,key2,.inl ⟨k,he,rfl,rfl⟩,⟨hn,?_,?_,⟨k1,k2,k3,?_⟩,?_,?_,?_,?_,?_,?_⟩,Nat.le_refl _,.inl rfl,?_⟩
  ·rw [look_setL,if_neg (by omega),look_setL,if_neg (by omega)]; exact h0
  ·rw [look_setL,if_neg (by omega),look_setL,if_neg (by omega)]; exact h1
  ·rw [look_setL,if_neg (by omega),look_setL,if_neg (fun e=>hke e.symm)]; exact hkk
  ·exact fun j hj=>look_none_set (look_none_set (hfr j hj))
  ·rw [look_setL,if_neg (by omega),look_setL,if_neg (by omega)]; exact h2
  ·rw [look_setL,if_neg (by omega),look_setL,if_neg (by omega)]; exact h3
  ·rw [look_setL,if_pos rfl,look_setL,if_neg (by omega),h4]; rfl
  ·rw [look_setL,if_neg (by omega),look_setL,if_neg (by omega)]; exact h5
  ·rw [look_setL,if_neg (by omega),look_setL,if_neg (by omega)]; exact h6
  ·intro j a1 a2 a3 a4
   rw [look_setL,if_neg (by omega),look_setL,if_neg (fun e=>a4 e.symm)]
 | none=>
  obtain⟨e,r,hr⟩:=ndR_ne s2.out q
  have hlk:∀ j,j≠nx2->∀ (o1 o2 o4 oq:Ob),j≠1->j≠2->j≠4->j≠key2->j≠nx->St.look (growO nx2 6 (ndR (s2.out ++ [q]))++ setL (setL (setL (eraseL (setL objs2 nx oq) key2) 1 o1) 2 o2) 4 o4) j=St.look objs2 j:=fun j b1 o1 o2 o4 oq b2 b3 b4 b5 b6=>by
   rw [look_growO,if_neg (fun e=>b1 e.symm),look_setL,if_neg (fun e=>b4 e.symm),look_setL,if_neg (fun e=>b3 e.symm),look_setL,if_neg (fun e=>b2 e.symm),look_eraseL,if_neg (fun e=>b5 e.symm),look_setL,if_neg (fun e=>b6 e.symm)]
  refine⟨nx2+1,_,nx2,.inr ⟨he,hlen,rfl,rfl⟩,⟨by omega,?_,?_,⟨by omega,by omega,by omega,?_⟩,?_,?_,?_,?_,?_,?_⟩,by omega,.inr (Nat.le_refl _),?_⟩
  ·rw [hlk 0 (by omega) _ _ _ _ (by omega) (by omega) (by omega) (by omega) (by omega)]; exact h0
  ·rw [look_growO,if_neg (by omega),look_setL,if_neg (by omega),look_setL,if_neg (by omega),look_setL,if_pos rfl,look_eraseL,if_neg (by omega),look_setL,if_neg (by omega),h1]; rfl
  ·rw [look_growO,if_pos rfl]
   show (growG 6 (ndR (s2.out ++ [q]))).or _=growG 6 (ndR (s2.out ++ [q]))
   rw [hr]; rfl
  ·intro j hj
   rw [look_growO,if_neg (by omega)]
   refine look_none_set (look_none_set (look_none_set ?_))
   rw [look_eraseL]; split
   ·rfl
   ·exact look_none_set (hfr j (by omega))
  ·rw [look_growO,if_neg (by omega),look_setL,if_neg (by omega),look_setL,if_pos rfl,look_setL,if_neg (by omega),look_eraseL,if_neg (by omega),look_setL,if_neg (by omega),h2]; rfl
  ·rw [hlk 3 (by omega) _ _ _ _ (by omega) (by omega) (by omega) (by omega) (by omega)]; exact h3
  ·rw [look_growO,if_neg (by omega),look_setL,if_pos rfl,look_setL,if_neg (by omega),look_setL,if_neg (by omega),look_eraseL,if_neg (by omega),look_setL,if_neg (by omega),h4]; rfl
  ·rw [hlk 5 (by omega) _ _ _ _ (by omega) (by omega) (by omega) (by omega) (by omega)]; exact h5
  ·rw [hlk 6 (by omega) _ _ _ _ (by omega) (by omega) (by omega) (by omega) (by omega)]; exact h6
  ·intro j a1 a2 a3 a4
   exact hlk j (by omega) _ _ _ _ (by omega) (by omega) (by omega) a3 a4
end Fm
open Rs Fm
namespace Fm
theorem ulook_none {x:Int}:∀ {u:List (Int × Int)},ulook x u=none->∀ p ∈ u,p.1≠x
 | [],_,p,hp=>by cases hp
 | (k,y) :: r,h,p,hp=>by
  unfold ulook at h
  by_cases e:x=k
  ·rw [if_pos e] at h; cases h
  ·rw [if_neg e] at h
   rcases List.mem_cons.1 hp with rfl | hp
   ·exact fun e'=>e e'.symm
   ·exact ulook_none h p hp
theorem uput_new {x y:Int}:∀ {u:List (Int × Int)},ulook x u=none->uput x y u=u ++ [(x,y)]
 | [],_=>rfl
 | (k,z) :: r,h=>by
  unfold ulook at h
  by_cases e:x=k
  ·rw [if_pos e] at h; cases h
  ·rw [if_neg e] at h
   unfold uput
   rw [if_neg e,uput_new h]; rfl
structure FinOK (f : List Nd) (s : CS) : Prop where
 le:s.out.length<=s.done.length
 nd:(s.done.map (·.1)).Nodup
 rg:∀ p ∈ s.done,0<=p.1/\p.1<f.length
theorem FinOK.len {f:List Nd} {s:CS} (h:FinOK f s):s.out.length<=f.length:=by
 have:=nodup_le f.length (s.done.map fun p=>p.1.toNat) ?_ ?_
 ·rw [List.length_map] at this; have:=h.le; omega
 ·have h1:=h.nd
  unfold List.Nodup at h1 ⊢
  rw [List.pairwise_map] at h1 ⊢
  refine h1.imp_of_mem fun {a b} ha hb hne e=>hne ?_
  have:=(h.rg a ha).1
  have:=(h.rg b hb).1
  omega
 ·intro x hx
  simp only [List.mem_map] at hx
  obtain⟨p,hp,rfl⟩:=hx
  have:=h.rg p hp
  omega
theorem end_ok {f:List Nd} {s:CS} {i:Nat} {q:Nd} (h:FinOK f s) (hi:i<f.length) (hno:ulook i s.done=none):FinOK f (endS i q s).2/\∀ z:Int,z≠i->ulook z (endS i q s).2.done=ulook z s.done:=by
 have hput:∀ y,FinOK f ⟨s.out,uput i y s.done⟩/\ (uput i y s.done).length=s.done.length+1:=fun y=>by
  rw [uput_new hno]
  refine⟨⟨by simp only [List.length_append]; have:=h.le; omega,?_,?_⟩,by simp⟩
  ·rw [List.map_append]
   refine List.nodup_append.2 ⟨h.nd,by simp,fun a ha b hb=>?_⟩
   simp only [List.mem_map] at ha
   obtain⟨p,hp,rfl⟩:=ha
   simp only [List.map_cons,List.map_nil,List.mem_singleton] at hb
   subst hb
   exact ulook_none hno p hp
  ·intro p hp
   rcases List.mem_append.1 hp with hp | hp
   ·exact h.rg p hp
   ·rw [List.mem_singleton.1 hp]; exact⟨by simp,by simpa using hi⟩
 unfold endS
 cases he:idxN q s.out 0 with
 | some k=>exact⟨(hput _).1,fun z hz=>by simp only; rw [ulook_uput,if_neg hz]⟩
 | none=>
  refine⟨⟨?_,(hput _).1.nd,(hput _).1.rg⟩,fun z hz=>by simp only; rw [ulook_uput,if_neg hz]⟩
  have:=(hput s.out.length).2
  have:=h.le
  simp only [List.length_append,List.length_singleton]; omega
theorem node_ops {p:Nd} {k:Int} (h:nodeE p k=0):((usesA p.op).1.x=true->0<=p.x/\p.x<k)/\ ((usesA p.op).1.y=true->0<=p.y/\p.y<k):=by
 unfold nodeE at h
 by_cases h1:(usesA p.op).2=false
 ·rw [if_pos h1] at h; cases h
 rw [if_neg h1] at h
 by_cases h2:(operandB (usesA p.op).1.x p.x k&&operandB (usesA p.op).1.y p.y k)= false
 ·rw [if_pos h2] at h; cases h
 simp only [Bool.not_eq_false,Bool.and_eq_true] at h2
 refine⟨fun hx=>?_,fun hy=>?_⟩
 ·have:=h2.1
  unfold operandB at this
  rw [if_pos hx,Bool.and_eq_true,decide_eq_true_eq,decide_eq_true_eq] at this
  exact this
 ·have:=h2.2
  unfold operandB at this
  rw [if_pos hy,Bool.and_eq_true,decide_eq_true_eq,decide_eq_true_eq] at this
  exact this
theorem finishS_eq {f:List Nd} {n i:Nat} {s:CS} (hno:ulook i s.done=none):finishS f (n+1) i s =
  (let p:=f.getD i nd0
   let a:=if (usesA p.op).1.x=true then finishS f n p.x.toNat s else(p.x,s)
   let b:=if (usesA p.op).1.y=true then finishS f n p.y.toNat a.2 else(p.y,a.2)
   endS i ⟨p.op,p.i,p.e,p.g,a.1,b.1⟩ b.2):=by
 rw [finishS,hno]; rfl
theorem finish_ok {f:List Nd} (hc:∀ k,k<f.length->nodeE (f.getD k nd0) k=0):∀ (n:Nat) {i:Nat} {s:CS},i<n->i<f.length->FinOK f s->FinOK f (finishS f n i s).2/\∀ z:Int,(i:Int)<z->ulook z (finishS f n i s).2.done=ulook z s.done
 | 0,i,s,h,_,_=>by omega
 | n + 1,i,s,h,hi,hs=>by
  cases hu:ulook i s.done with
  | some k=>rw [finishS,hu]; exact⟨hs,fun _ _=>rfl⟩
  | none=>
   rw [finishS_eq hu]
   obtain⟨ox,oy⟩:=node_ops (hc i hi)
   simp only
   generalize f.getD i nd0=p at ox oy
   have ha:FinOK f (if (usesA p.op).1.x=true then finishS f n p.x.toNat s else(p.x,s)).2/\∀ z:Int,(i:Int)<=z->ulook z (if (usesA p.op).1.x=true then finishS f n p.x.toNat s else(p.x,s)).2.done=ulook z s.done:=by
    by_cases hx:(usesA p.op).1.x=true
    ·rw [if_pos hx]
     have:=ox hx
     obtain⟨b1,b2⟩:=finish_ok hc n (i:=p.x.toNat) (s:=s) (by omega) (by omega) hs
     exact⟨b1,fun z hz=>b2 z (by omega)⟩
    ·rw [if_neg hx]; exact⟨hs,fun _ _=>rfl⟩
   generalize (if (usesA p.op).1.x=true then finishS f n p.x.toNat s else(p.x,s))= a at ha
   obtain⟨a1,a2⟩:=ha
   have hb:FinOK f (if (usesA p.op).1.y=true then finishS f n p.y.toNat a.2 else(p.y,a.2)).2/\∀ z:Int,(i:Int)<=z->ulook z (if (usesA p.op).1.y=true then finishS f n p.y.toNat a.2 else(p.y,a.2)).2.done=ulook z a.2.done:=by
    by_cases hy:(usesA p.op).1.y=true
    ·rw [if_pos hy]
     have:=oy hy
     obtain⟨b1,b2⟩:=finish_ok hc n (i:=p.y.toNat) (s:=a.2) (by omega) (by omega) a1
     exact⟨b1,fun z hz=>b2 z (by omega)⟩
    ·rw [if_neg hy]; exact⟨a1,fun _ _=>rfl⟩
   generalize (if (usesA p.op).1.y=true then finishS f n p.y.toNat a.2 else(p.y,a.2))= b at hb
   obtain⟨b1,b2⟩:=hb
   obtain⟨e1,e2⟩:=end_ok (q:=⟨p.op,p.i,p.e,p.g,a.1,b.1⟩) b1 hi (by rw [b2 i (by omega),a2 i (by omega)]; exact hu)
   exact⟨e1,fun z hz=>by rw [e2 z (by omega),b2 z (by omega),a2 z (by omega)]⟩
end Fm
open Rs Fm
namespace Fm
theorem uses_xy (op:Int) (h:(usesA op).1.y=true):(usesA op).1.x=true:=by
 have hc:op=1\/op=2\/op=3\/op=4\/op=5\/op=6\/op=7\/op=8\/op=9\/op=10\/op=11\/op=12\/op=13\/op=14\/op=15\/op=16\/op=17\/op=18\/op=19\/op=20\/op=21\/(op<1\/21<op):=by omega
 rcases hc with rfl | rfl | rfl | rfl | rfl | rfl | rfl | rfl | rfl | rfl | rfl | rfl | rfl | rfl | rfl | rfl | rfl | rfl | rfl | rfl | rfl | hc
 rotate_right
 ·rw [show usesA op=(none0,false) from if_pos hc] at h; cases h
 all_goals simp [usesA,none0] at h ⊢
theorem InvC.rekey {f:List Nd} {nx:Nat} {objs:List (Nat × Ob)} {key:Nat} {s:CS} (h:InvC f nx objs key s):∃ key',InvC f nx objs key' s/\((s.out = []/\key'=nx+4)\/(s.out ≠ []/\key'=key/\key'<nx)):=by
 obtain⟨hn,h0,h1,⟨k1,k2,k3,hkk⟩,hfr,h2,h3,h4,h5,h6⟩:=h
 by_cases ho:s.out = []
 ·refine⟨nx+4,⟨hn,h0,?_,⟨by omega,by omega,by omega,?_⟩,hfr,h2,h3,h4,h5,h6⟩,.inl ⟨ho,rfl⟩⟩
  ·rw [h1,ho]; rfl
  ·rw [hfr _ (by omega),ho]; rfl
 ·refine⟨key,⟨hn,h0,h1,⟨k1,k2,k3,hkk⟩,hfr,h2,h3,h4,h5,h6⟩,.inr ⟨ho,rfl,?_⟩⟩
  by_cases hlt:key<nx
  ·exact hlt
  ·rw [hfr key (by omega)] at hkk
   cases hd:ndR s.out with
   | nil=>simp [ndR] at hd; exact absurd hd ho
   | cons e r=>rw [hd] at hkk; cases hkk
theorem InvC.alloc {f:List Nd} {nx:Nat} {objs:List (Nat × Ob)} {key:Nat} {s:CS} (h:InvC f nx objs key s) (hk:key<nx\/key=nx+4) (o1 o2:Ob):InvC f (nx+1+1) ((nx+1,o1) :: (nx,o2) :: objs) key s:=by
 obtain⟨hn,h0,h1,⟨k1,k2,k3,hkk⟩,hfr,h2,h3,h4,h5,h6⟩:=h
 have hl:∀ k,k≠nx->k≠nx+1->St.look ((nx+1,o1) :: (nx,o2) :: objs) k=St.look objs k:=fun k a b=>by
  rw [look_cons,if_neg (fun e=>b e.symm),look_cons,if_neg (fun e=>a e.symm)]
 refine⟨by omega,?_,?_,⟨k1,by omega,by omega,?_⟩,?_,?_,?_,?_,?_,?_⟩
 ·rw [hl 0 (by omega) (by omega)]; exact h0
 ·rw [hl 1 (by omega) (by omega)]; exact h1
 ·rw [hl key k2 k3]; exact hkk
 ·intro k hk2; rw [hl k (by omega) (by omega)]; exact hfr k (by omega)
 ·rw [hl 2 (by omega) (by omega)]; exact h2
 ·rw [hl 3 (by omega) (by omega)]; exact h3
 ·rw [hl 4 (by omega) (by omega)]; exact h4
 ·rw [hl 5 (by omega) (by omega)]; exact h5
 ·rw [hl 6 (by omega) (by omega)]; exact h6
theorem InvC.set {f:List Nd} {nx:Nat} {objs:List (Nat × Ob)} {key:Nat} {s:CS} (h:InvC f nx objs key s) {j:Nat} (hj:7<=j) (hk:key≠j) (o:Ob):InvC f nx (setL objs j o) key s:=by
 obtain⟨hn,h0,h1,⟨k1,k2,k3,hkk⟩,hfr,h2,h3,h4,h5,h6⟩:=h
 have hl:∀ k,k≠j->St.look (setL objs j o) k=St.look objs k:=fun k a=>by rw [look_setL,if_neg (fun e=>a e.symm)]
 refine⟨hn,?_,?_,⟨k1,k2,k3,?_⟩,?_,?_,?_,?_,?_,?_⟩
 ·rw [hl 0 (by omega)]; exact h0
 ·rw [hl 1 (by omega)]; exact h1
 ·rw [hl key hk]; exact hkk
 ·exact fun k hk2=>look_none_set (hfr k hk2)
 ·rw [hl 2 (by omega)]; exact h2
 ·rw [hl 3 (by omega)]; exact h3
 ·rw [hl 4 (by omega)]; exact h4
 ·rw [hl 5 (by omega)]; exact h5
 ·rw [hl 6 (by omega)]; exact h6
end Fm
theorem walk102d {f:List Nd} {nx:Nat} {objs:List (Nat × Ob)} {key:Nat} {s:CS} {i:Nat} {k:Int} (hI:InvC f nx objs key s) (hu:ulook i s.done=some k) :
  CallT Tryz.prog 83 [.int .i64 i,.ref 5 1 0 0,.ref 0 1 0 0,.ref 6 1 0 0,.ref 3 1 0 0,.ref 1 1 0 0] ⟨nx,objs⟩ (.int .i64 k) ⟨nx,objs⟩:=by
 obtain⟨hn,h0,h1,hk,hfr,h2,h3,h4,h5,h6⟩:=hI
 rcases afind_mo (i:Int) s.done 0 with ⟨q1,q2⟩ | ⟨y,j,q1,q2⟩
 ·rw [hu] at q1; cases q1
 ·rw [hu] at q1; cases q1
  refine CallT.go_fn mixed Tryz.func83 k83 (by simp) fun hf=>?_
  simp only [ZA,ZB,ZC,ZD,ZE,↓reduceIte,reduceIte,ZF,ZG,ZH,ZI,ZJ,reduceCtorEq,ZK,↓zU,↓zD,zV,zT,zW,h5,h4,q2]
  (repeat refine sd ?_)
  exact .same
theorem finish102 {f:List Nd} (hc:∀ k,k<f.length->nodeE (f.getD k nd0) k=0) (hlen:f.length<=900):∀ (n:Nat) {i nx:Nat} {objs:List (Nat × Ob)} {key:Nat} {s:CS},i<n->i<f.length->FinOK f s->InvC f nx objs key s ->
  ∃ nx' objs' key',InvC f nx' objs' key' (finishS f n i s).2/\nx<=nx'/\(key'=key\/nx<=key')/\ (∀ k,7<=k->k<nx->(k≠key\/s.out = [])->St.look objs' k=St.look objs k)/\
   CallT Tryz.prog 83 [.int .i64 i,.ref 5 1 0 0,.ref 0 1 0 0,.ref 6 1 0 0,.ref 3 1 0 0,.ref 1 1 0 0] ⟨nx,objs⟩ (.int .i64 (finishS f n i s).1) ⟨nx',objs'⟩
 | 0,i,nx,objs,key,s,h,_,_,_=>by omega
 | n + 1,i,nx,objs,key,s,h,hi,hs,hI=>by
  cases hu:ulook i s.done with
  | some k=>
   rw [finishS,hu]
   exact⟨nx,objs,key,hI,Nat.le_refl _,.inl rfl,fun _ _ _ _=>rfl,walk102d hI hu⟩
  | none=>
   rw [finishS_eq hu]
   obtain⟨ox,oy⟩:=node_ops (hc i hi)
   simp only
   generalize hp:f.getD i nd0=p at ox oy
   obtain⟨ky,hI',hky⟩:=hI.rekey
   have hn:=hI'.hn
   have hkc:ky<nx\/ky=nx+4:=by rcases hky with ⟨_,h⟩ | ⟨_,_,h⟩; exact .inr h; exact .inl h
   have hA:=hI'.alloc hkc (usOb (usesA p.op).1) (ndOb p.op p.i p.e p.g p.x p.y)
   have hkk:∀ k,k<nx->(k≠key\/s.out = [])->k≠ky:=fun k h1 h2=>by
    rcases hky with ⟨_,e⟩ | ⟨ho,e,_⟩
    ·omega
    ·rcases h2 with h2 | h2
     ·rw [e]; exact h2
     ·exact absurd h2 ho
   have hkey:∀ k',k'=ky\/nx<=k'->k'=key\/nx<=k':=fun k' h=>by
    rcases h with h | h
    ·rcases hky with ⟨_,e⟩ | ⟨_,e,_⟩
     ·exact .inr (by omega)
     ·exact .inl (by rw [h,e])
    ·exact .inr h
   have hA0:∀ k,k<nx->St.look ((nx+1,usOb (usesA p.op).1) :: (nx,ndOb p.op p.i p.e p.g p.x p.y) :: objs) k=St.look objs k:=fun k hk=>by
    rw [look_cons,if_neg (by omega),look_cons,if_neg (by omega)]
   by_cases hx:(usesA p.op).1.x=true
   ·obtain⟨hx1,hx2⟩:=ox hx
    have hxn:((p.x.toNat:Nat):Int)= p.x:=Int.toNat_of_nonneg hx1
    obtain⟨nx1,objs1,key1,I1,l1,kk1,fr1,c1⟩:=finish102 hc hlen n (i:=p.x.toNat) (by omega) (by omega) hs hA
    have f1:=(finish_ok hc n (i:=p.x.toNat) (s:=s) (by omega) (by omega) hs)
    rw [if_pos hx]
    rw [hxn] at c1
    generalize finishS f n p.x.toNat s=a at I1 c1 f1
    have hN:St.look objs1 nx=some (ndOb p.op p.i p.e p.g p.x p.y):=by
     rw [fr1 nx hn (by omega) (.inl (by omega)),look_cons,if_neg (by omega),look_cons,if_pos rfl]
    have hU:St.look objs1 (nx+1)= some (usOb (usesA p.op).1):=by
     rw [fr1 (nx+1) (by omega) (by omega) (.inl (by omega)),look_cons,if_pos rfl]
    have hk1:key1≠nx:=by omega
    by_cases hy:(usesA p.op).1.y=true
    ·obtain⟨hy1,hy2⟩:=oy hy
     have hyn:((p.y.toNat:Nat):Int)= p.y:=Int.toNat_of_nonneg hy1
     obtain⟨nx2,objs2,key2,I2,l2,kk2,fr2,c2⟩:=finish102 hc hlen n (i:=p.y.toNat) (by omega) (by omega) f1.1 (I1.set (j:=nx) hn hk1 (ndOb p.op p.i p.e p.g a.1 p.y))
     have f2:=(finish_ok hc n (i:=p.y.toNat) (s:=a.2) (by omega) (by omega) f1.1)
     rw [if_pos hy]
     rw [hyn] at c2
     generalize finishS f n p.y.toNat a.2=b at I2 c2 f2
     have hN2:St.look objs2 nx=some (ndOb p.op p.i p.e p.g a.1 p.y):=by
      rw [fr2 nx hn (by omega) (.inl (by omega)),look_setL,if_pos rfl,hN]; rfl
     have hk2:key2≠nx:=by omega
     obtain⟨nx',objs',key',e1,e2,e3,e4,e5⟩:=end_inv (q:=⟨p.op,p.i,p.e,p.g,a.1,b.1⟩) (i:=i) (nx:=nx) I2 (by omega) (by omega) hk2 (by have:=f2.1.len; omega)
     refine⟨nx',objs',key',e2,by omega,hkey _ (by omega),fun k a1 a2 a3=>?_,walk102xy hI' hi (by omega) hp hu hx hy c1 I1 hN hU c2 I2 hN2 (by omega) hk2 e1⟩
     have hk3:=hkk k a2 a3
     rw [e5 k a1 (by omega) (by omega) (by omega),fr2 k a1 (by omega) (.inl (by omega)),look_setL,if_neg (by omega),fr1 k a1 (by omega) (.inl hk3)]
     exact hA0 k a2
    ·rw [if_neg hy]
     obtain⟨nx',objs',key',e1,e2,e3,e4,e5⟩:=end_inv (q:=⟨p.op,p.i,p.e,p.g,a.1,p.y⟩) (i:=i) (nx:=nx) I1 (by omega) (by omega) hk1 (by have:=f1.1.len; omega)
     refine⟨nx',objs',key',e2,by omega,hkey _ (by omega),fun k a1 a2 a3=>?_,walk102x hI' hi (by omega) hp hu hx (by simpa using hy) c1 I1 hN hU (by omega) hk1 e1⟩
     have hk3:=hkk k a2 a3
     rw [e5 k a1 (by omega) (by omega) (by omega),fr1 k a1 (by omega) (.inl hk3)]
     exact hA0 k a2
   ·have hy:¬ (usesA p.op).1.y=true:=fun hy=>hx (uses_xy _ hy)
    rw [if_neg hx,if_neg hy]
    obtain⟨nx',objs',key',e1,e2,e3,e4,e5⟩:=end_inv (q:=p) (i:=i) (nx:=nx) hA (by omega) (by omega) (by omega) (by have:=hs.len; omega)
    refine⟨nx',objs',key',e2,by omega,?_,fun k a1 a2 a3=>?_,walk102 hI' hi (by omega) hp hu (by simpa using hx) (by simpa using hy) e1⟩
    ·rcases e4 with e4 | e4
     ·exact hkey _ (.inl e4)
     ·exact .inr (by omega)
    ·rw [e5 k a1 (by omega) (hkk k a2 a3) (by omega)]
     exact hA0 k a2
open Rs Fm
theorem compact91 {f:List Nd} {i:Nat} (hc:∀ k,k<f.length->nodeE (f.getD k nd0) k=0) (hlen:f.length<=900) (hi:i<f.length):Runs Tryz.prog 57 [.sl 6 (ndR f),.int .i64 i] (.sl 6 (ndR (compactS f i))):=by
 have hI0:InvC f 7 [(6,⟨1,[[.fn 83 [.ref 5 1 0 0,.ref 0 1 0 0,.ref 6 1 0 0,.ref 3 1 0 0,.ref 1 1 0 0]]]⟩),(5,⟨1,[[.mref 4]]⟩),(4,⟨0,[]⟩),(3,⟨1,[[.mref 2]]⟩),(2,⟨0,[]⟩),(1,⟨1,[[.nils]]⟩),(0,⟨1,[[.sl 6 (ndR f)]]⟩)] 11 ⟨[],[]⟩:=by
  refine⟨Nat.le_refl _,by simp [St.look],by simp [St.look,ndR,growD],⟨by omega,by omega,by omega,by simp [St.look,ndR,growG]⟩,fun k hk=>?_,by simp [St.look,numR,arow],by simp [St.look],by simp [St.look,mo,mrow],by simp [St.look],by simp [St.look]⟩
  simp only [look_cons,look_nil]
  rw [if_neg (by omega),if_neg (by omega),if_neg (by omega),if_neg (by omega),if_neg (by omega),if_neg (by omega),if_neg (by omega)]
 obtain⟨nx',objs',key',I1,_,_,_,c1⟩:=finish102 hc hlen (i+1) (i:=i) (by omega) hi ⟨Nat.le_refl _,by simp,fun p hp=>by cases hp⟩ hI0
 have e:(finishS f (i+1) i ⟨[],[]⟩).2.out=compactS f i:=rfl
 have h1:=I1.h1
 have hk:=I1.hk.2.2.2
 rw [e] at h1 hk
 refine CallT.go_fn mixed Tryz.func57 k57 (by simp) fun hf=>?_
 simp only [ZA,ZB,ZC,ZD,ZE,↓reduceIte,reduceIte,ZF,ZG,ZH,ZI,ZJ,reduceCtorEq,ZK,↓zU,↓zD,zV,zT,zW]
 (repeat refine sd ?_)
 refine .go c1 ?_
 simp only [ZA,ZB,ZC,ZD,ZE,↓reduceIte,reduceIte,ZF,ZG,ZH,ZI,ZJ,reduceCtorEq,ZK,↓zU,↓zD,zV,zT,zW,h1]
 (repeat refine sd ?_)
 exact .drop (by simp) (grow_viewL (by simp) (ndR_pure _) hk)
namespace Fm
theorem checkF_zero {f:List Nd} (h:checkF f=0):f ≠ []/\f.length<=200/\∀ k,k<f.length->nodeE (f.getD k nd0) k=0:=by
 unfold checkF at h
 by_cases h1:f = []
 ·rw [if_pos h1] at h; cases h
 rw [if_neg h1] at h
 by_cases h2:200<f.length
 ·rw [if_pos h2] at h; cases h
 rw [if_neg h2] at h
 refine⟨h1,by omega,fun k hk=>?_⟩
 have:=errF_zero h k hk
 rwa [Int.zero_add] at this
def subA (f:List Nd) (i:Int):List Nd:=if checkF f≠0\/i<0\/(f.length:Int)<=i then [] else compactS f i.toNat
def compactA (f:List Nd):List Nd:=subA f ((f.length:Int)-1)
end Fm
theorem Sub80 (f:List Nd) (i:Int):Runs Tryz.prog 80 [.sl 6 (ndR f),.int .i64 i] (.sl 6 (ndR (subA f i))):=by
 refine CallT.go_fn mixed Tryz.func80 k80 (by simp) fun hf=>?_
 simp only [ZA,ZB,ZC,ZD,ZE,↓reduceIte,reduceIte,ZF,ZG,ZH,ZI,ZJ,reduceCtorEq,ZK,↓zU,↓zD,zV,zT,zW]
 refine .go (cr (checkF56 f)) ?_
 by_cases hc:checkF f=0
 case neg=>
  have e:(checkF f != 0)= true:=bne_iff_ne.2 hc
  simp only [ZA,ZB,ZC,ZD,ZE,↓reduceIte,reduceIte,ZF,ZG,ZH,ZI,ZJ,reduceCtorEq,ZK,↓zU,↓zD,zV,zT,zW,e]
  rw [show subA f i = [] from if_pos (.inl hc)]
  exact .drop (by simp) (by simp [vw,ndR])
 have e:(checkF f != 0)= false:=by simpa using hc
 by_cases h1:i<0
 ·simp only [ZA,ZB,ZC,ZD,ZE,↓reduceIte,reduceIte,ZF,ZG,ZH,ZI,ZJ,reduceCtorEq,ZK,↓zU,↓zD,zV,zT,zW,e,h1]
  rw [show subA f i = [] from if_pos (.inr (.inl h1))]
  exact .drop (by simp) (by simp [vw,ndR])
 by_cases h2:(f.length:Int)<=i
 ·simp only [ZA,ZB,ZC,ZD,ZE,↓reduceIte,reduceIte,ZF,ZG,ZH,ZI,ZJ,reduceCtorEq,ZK,↓zU,↓zD,zV,zT,zW,e,h1,ndR_len,h2]
  rw [show subA f i = [] from if_pos (.inr (.inr h2))]
  exact .drop (by simp) (by simp [vw,ndR])
 obtain⟨j,rfl⟩:=Int.eq_ofNat_of_zero_le (show 0<=i by omega)
 obtain⟨c1,c2,c3⟩:=checkF_zero hc
 rw [show subA f j=compactS f j by rw [subA,if_neg (by omega),Int.toNat_natCast]]
 simp only [ZA,ZB,ZC,ZD,ZE,↓reduceIte,reduceIte,ZF,ZG,ZH,ZI,ZJ,reduceCtorEq,ZK,↓zU,↓zD,zV,zT,zW,e,h1,ndR_len,h2]
 refine .go (CallT.of_runs (compact91 c3 (by omega) (show j<f.length by omega)) (by simp [D.isPureL,D.isPure])) ?_
 simp only [ZA,ZB,ZC,ZD,ZE,↓reduceIte,reduceIte,ZF,ZG,ZH,ZI,ZJ,reduceCtorEq,ZK,↓zU,↓zD,zV,zT,zW]
 exact .same
theorem Compact59 (f:List Nd):Runs Tryz.prog 54 [.sl 6 (ndR f)] (.sl 6 (ndR (compactA f))):=by
 refine CallT.go_fn mixed Tryz.func54 k54 (by simp) fun hf=>?_
 simp only [D.factL,D.fact,ndR_len] at hf
 have hlen:=hf.1.1
 have e:IntKind.i64.wrap ((f.length:Int)-1)= (f.length:Int)-1:=wrap_i64 (by omega)
 simp only [ZA,ZB,ZC,ZD,ZE,↓reduceIte,reduceIte,ZF,ZG,ZH,ZI,ZJ,reduceCtorEq,ZK,↓zU,↓zD,zV,zT,zW,ndR_len,e]
 refine .go (CallT.of_runs (Sub80 f ((f.length:Int)-1)) (by simp [D.isPureL,D.isPure])) ?_
 simp only [ZA,ZB,ZC,ZD,ZE,↓reduceIte,reduceIte,ZF,ZG,ZH,ZI,ZJ,reduceCtorEq,ZK,↓zU,↓zD,zV,zT,zW]
 exact .same
end Go.Pd
