/- Part Z1. -/
import Derived.Test.YtjklmijiccabfaaGreatRE8
set_option linter.unusedSectionVars false
set_option linter.unusedVariables false
set_option linter.unusedSimpArgs false
set_option linter.defProp false
set_option maxRecDepth 20000
set_option maxHeartbeats 1000000
namespace Go.Pd
open Go Go.Proofs
open Rs Fm Ru Te
namespace Te
def evT (rs:List RunA) (A T:Nat):Tr->Tab
 | .nil=>fun _=>false
 | .nd op i e g x y=>nodeP rs A T ⟨op,i,e,g,0,0⟩ (evT rs A T x) (evT rs A T y)
theorem nodeP_ops {rs:List RunA} {A T:Nat} {n m:Nd} {x y x' y':Tab} (h1:n.op=m.op) (h2:n.i=m.i) (h3:n.g=m.g) (hx:(usesA n.op).1.x=true->x=x') (hy:(usesA n.op).1.y=true->y=y') :
  nodeP rs A T n x y=nodeP rs A T m x' y':=by
 obtain⟨op,i,e,g,a,b⟩:=n
 obtain⟨op',i',e',g',a',b'⟩:=m
 simp only at h1 h2 h3 hx hy
 subst h1 h2 h3
 rcases op_cases op with rfl | rfl | rfl | rfl | rfl | rfl | rfl | rfl | rfl | rfl | rfl | rfl | rfl | rfl | rfl | rfl | rfl | rfl | rfl | rfl | rfl | h | h
 all_goals first
  | (have hx':=hx rfl; have hy':=hy rfl; subst hx' hy'; rfl)
  | (have hx':=hx rfl; subst hx'; rfl)
  | rfl
  | (unfold nodeP boolP; simp only; funext p; repeat rw [if_neg (by omega)])
theorem tabsP_old {rs:List RunA} {A T:Nat} {c:List Nd} {k:Nat}:∀ (m:Nat) {i:Nat},i<k->(tabsP rs A T c (k+m)).getD i (fun _=>false)= (tabsP rs A T c k).getD i fun _=>false
 | 0,_,_=>rfl
 | m+1,i,h=>by
  rw [show k+(m+1)= (k+m)+ 1 from rfl,tabsP,List.getD,List.getElem?_append_left (by rw [tabsP_len]; omega)]
  exact tabsP_old m h
theorem tabsP_new {rs:List RunA} {A T:Nat} {c:List Nd} {k n:Nat} (h:k<n):(tabsP rs A T c n).getD k (fun _=>false)= nodeP rs A T (c.getD k nd0) ((tabsP rs A T c k).getD (c.getD k nd0).x.toNat fun _=>false) ((tabsP rs A T c k).getD (c.getD k nd0).y.toNat fun _=>false):=by
 obtain⟨m,rfl⟩:=Nat.exists_eq_add_of_le (show k+1<=n by omega)
 rw [tabsP_old m (by omega),tabsP,List.getD,List.getElem?_append_right (by rw [tabsP_len]; omega),tabsP_len,Nat.sub_self]
 rfl
theorem tabsP_tree {rs:List RunA} {A T:Nat} {c:List Nd} (hv:validL c) {n:Nat} (hn:n<=c.length):∀ (i:Nat),i<n->(tabsP rs A T c n).getD i (fun _=>false)= evT rs A T (tree c i):=by
 intro i
 induction i using Nat.strongRecOn with
 | _ i ih=>
  intro hi
  obtain⟨ox,oy,_,_⟩:=node_ops' (hv i (by omega))
  rw [tabsP_new hi,tree_eq hv (by omega)]
  show _=nodeP _ _ _ _ _ _
  refine nodeP_ops rfl rfl rfl (fun hx=>?_) fun hy=>?_
  ·have:=ox hx
   obtain⟨m,hm⟩:=Nat.exists_eq_add_of_le (show i<=n by omega)
   rw [if_pos hx,<- ih _ (by omega) (by omega),hm,tabsP_old m (by omega)]
  ·have:=oy hy
   obtain⟨m,hm⟩:=Nat.exists_eq_add_of_le (show i<=n by omega)
   rw [if_pos hy,<- ih _ (by omega) (by omega),hm,tabsP_old m (by omega)]
theorem lastT_tree {rs:List RunA} {A T:Nat} {f:List Nd} (h:checkF f=0):lastT rs A T f=evT rs A T (treeF f):=by
 unfold lastT
 have:=compact_ne h
 rw [tabsP_tree (validC f) (Nat.le_refl _) _ (by omega),(compact_tree h).1]
theorem valid_iff {s:SysA} {f:List Nd}:validA s f=true ↔ reqE s f=0/\∀ i,i<s.rs.length->∀ t,t<s.ln.toNat->evT s.rs s.ag.toNat s.ln.toNat (treeF f) (i,t)= true:=by
 unfold validA holdsL
 by_cases h:reqE s f=0
 ·rw [if_neg (by simpa using h),lastT_tree (req_zero h).2]
  simp [h]
 ·simp [h]
def okN (A F:Nat) (p:Nd):Bool:=decide (fragN p &&& 3824=0)&& decide (agentN p / 2 ^ A=0)&& decide (factN p / 2 ^ F=0)
theorem unionN_map {m:Nd->Nat} {φ:Nat->Nat} (h0:φ 0=0) (h:∀ a b,φ (a ||| b)= φ a ||| φ b) (l:List Nd):φ (unionN m l)= unionN (fun p=>φ (m p)) l:=by
 have key:∀ (l:List Nd) (a:Nat),φ (l.foldl (fun a p=>a ||| m p) a)= l.foldl (fun a p=>a ||| φ (m p)) (φ a):=by
  intro l
  induction l with
  | nil=>intro a; rfl
  | cons p r ih=>intro a; rw [List.foldl_cons,List.foldl_cons,ih,h]
 unfold unionN
 rw [key,h0]
theorem frag_not {n:Nat} (h:n<4096):(bitI .andNot .i64 (n:Int) 271 != 0)= !decide (n &&& 3824=0):=by
 have:∀ n:Fin 4096,(bitI .andNot .i64 ((n.val:Nat):Int) 271 != 0)= !decide (n.val &&& 3824=0):=by decide +kernel
 exact this ⟨n,h⟩
theorem req_iff {s:SysA} {A F T:Nat} {rs:List RunA} (hs:s=⟨A,F,T,rs⟩) (hz:chk s=0) (ok:OkR rs A F T) {f:List Nd} (hc:checkF f=0):reqE s f=0 ↔ ∀ p ∈ compactA f,okN A F p=true:=by
 have hlt:fragsA f<4096:=by
  refine unionN_lt fun p _=>?_
  have:=uses_fr p.op
  unfold fragN; omega
 have e1:(fragsA f &&& 3824=0) ↔ ∀ p ∈ compactA f,fragN p &&& 3824=0:=by
  unfold fragsA
  rw [unionN_map (φ:=fun n=>n &&& 3824) (by decide) (fun a b=>Nat.and_or_distrib_right a b 3824),unionN_zero]
 have dv:∀ n a b:Nat,(a ||| b)/ 2 ^ n=a / 2 ^ n ||| b / 2 ^ n:=fun n a b=>by
  rw [<- Nat.shiftRight_eq_div_pow,<- Nat.shiftRight_eq_div_pow,<- Nat.shiftRight_eq_div_pow,Nat.shiftRight_or_distrib]
 have e2:agentsA f / 2 ^ A=0 ↔ ∀ p ∈ compactA f,agentN p / 2 ^ A=0:=by
  unfold agentsA
  rw [unionN_map (φ:=fun n=>n / 2 ^ A) (by simp) (dv A),unionN_zero]
 have e3:factsA f / 2 ^ F=0 ↔ ∀ p ∈ compactA f,factN p / 2 ^ F=0:=by
  unfold factsA
  rw [unionN_map (φ:=fun n=>n / 2 ^ F) (by simp) (dv F),unionN_zero]
 have hA:=ok.hA
 have hF:=ok.hF
 have ef:fitsB f s.ag s.fa=true ↔ agentsA f / 2 ^ A=0/\factsA f / 2 ^ F=0:=by
  subst hs
  unfold fitsB belowB
  simp only [Bool.and_eq_true,Bool.or_eq_true,decide_eq_true_eq,Int.toNat_natCast]
  constructor
  ·rintro ⟨⟨_,h1⟩,h2⟩; exact⟨h1.resolve_left (by omega),h2.resolve_left (by omega)⟩
  ·rintro ⟨h1,h2⟩; exact⟨⟨hc,.inr h1⟩,.inr h2⟩
 unfold reqE
 rw [if_neg (by simpa using hz),if_neg (by simpa using hc),frag_not hlt]
 constructor
 ·intro h p hp
  by_cases c:fragsA f &&& 3824=0
  ·rw [if_neg (by simp [c])] at h
   cases h2:fitsB f s.ag s.fa with
   | false=>rw [h2,if_pos rfl] at h; cases h
   | true=>
    have h3:=ef.1 h2
    unfold okN
    simp only [Bool.and_eq_true,decide_eq_true_eq]
    exact⟨⟨e1.1 c p hp,e2.1 h3.1 p hp⟩,e3.1 h3.2 p hp⟩
  ·rw [if_pos (by simp [c])] at h; cases h
 ·intro h
  have h':∀ p ∈ compactA f,(fragN p &&& 3824=0/\agentN p / 2 ^ A=0)/\ factN p / 2 ^ F=0:=fun p hp=>by simpa [okN] using h p hp
  have c:fragsA f &&& 3824=0:=e1.2 fun p hp=>(h' p hp).1.1
  rw [if_neg (by simp [c]),ef.2 ⟨e2.2 fun p hp=>(h' p hp).1.2,e3.2 fun p hp=>(h' p hp).2⟩,if_neg (by decide)]
def okT (A F:Nat):Tr->Prop
 | .nil=>True
 | .nd op i e g x y=>okN A F ⟨op,i,e,g,0,0⟩= true/\okT A F x/\okT A F y
theorem okT_tree {A F:Nat} {c:List Nd} (hv:validL c) (h:∀ p ∈ c,okN A F p=true):∀ i,i<c.length->okT A F (tree c i):=by
 intro i
 induction i using Nat.strongRecOn with
 | _ i ih=>
  intro hi
  obtain⟨ox,oy,_,_⟩:=node_ops' (hv i hi)
  rw [tree_eq hv hi]
  refine⟨?_,?_,?_⟩
  ·have:=h (c.getD i nd0) (by rw [List.getD,List.getElem?_eq_getElem hi]; exact List.getElem_mem hi)
   exact this
  ·split
   ·rename_i hx; have:=ox hx; exact ih _ (by omega) (by omega)
   ·trivial
  ·split
   ·rename_i hy; have:=oy hy; exact ih _ (by omega) (by omega)
   ·trivial
theorem okT_fin {A F:Nat}:∀ (t:Tr) (out:List Nd),okT A F t->(∀ q ∈ out,okN A F q=true)->∀ q ∈ (finT t out).2,okN A F q=true
 | .nil,out,_,h=>h
 | .nd op i e g x y,out,⟨h1,h2,h3⟩,h=>by
  have hx:∀ q ∈ (if (usesA op).1.x=true then finT x out else(0,out)).2,okN A F q=true:=by
   split
   ·exact okT_fin x out h2 h
   ·exact h
  have hy:∀ q ∈ (if (usesA op).1.y=true then finT y (if (usesA op).1.x=true then finT x out else(0,out)).2 else(0,(if (usesA op).1.x=true then finT x out else(0,out)).2)).2,okN A F q=true:=by
   split
   ·exact okT_fin y _ h3 hx
   ·exact hx
  intro q hq
  unfold finT at hq
  simp only at hq
  split at hq
  ·exact hy q hq
  ·simp only [List.mem_append,List.mem_singleton] at hq
   rcases hq with hq | rfl
   ·exact hy q hq
   ·exact h1
end Te
namespace Fm
theorem finish_wf {t:Tr} (h:wfT t) (hl:(canon t).length<=200):checkF (canon t)= 0/\treeF (canon t)= t:=by
 obtain⟨a,_,c,d⟩:=canon_spec h
 exact⟨checkF_ok c hl a,d⟩
def szT (t:Tr):Nat:=(canon t).length
theorem sz_le {f:List Nd} (h:checkF f=0):szT (treeF f)<=f.length:=canon_le h
theorem sz_one {op i e g:Int} {x:Tr} (hx:(usesA op).1.x=true) (hy:(usesA op).1.y=false) (hw:nodeE ⟨op,i,e,g,0,0⟩ 1=0) (h:wfT x):szT (.nd op i e g x .nil)<=szT x+1:=by
 obtain⟨hv,_,hp,ht⟩:=canon_spec h
 unfold szT
 generalize canon x=c at hv hp ht
 have hq:nodeE ⟨op,i,e,g,(c.length:Int)-1,0⟩ c.length=0:=by
  refine nodeE_ops (p:=⟨op,i,e,g,0,0⟩) hw ?_ ?_
  ·simp only [hx,↓reduceIte]; omega
  ·simp only [hy,Bool.false_eq_true,↓reduceIte]
 have hvs:validL (c ++ [⟨op,i,e,g,(c.length:Int)-1,0⟩]):=validL_snoc hv hq
 have htr:tree (c ++ [⟨op,i,e,g,(c.length:Int)-1,0⟩]) c.length = .nd op i e g x .nil:=by
  rw [tree_eq hvs (by simp)]
  have hgl:(c ++ [(⟨op,i,e,g,(c.length:Int)-1,0⟩:Nd)]).getD c.length nd0=⟨op,i,e,g,(c.length:Int)-1,0⟩:=by simp [List.getD]
  rw [hgl]
  simp only [hx,hy,Bool.false_eq_true,↓reduceIte]
  rw [tree_app hvs _ (by omega),show ((c.length:Int)-1).toNat=c.length-1 by omega,ht]
 have:=finish_len hvs (i:=c.length) (by simp)
 rw [compactS_canon hvs (by simp),htr] at this
 simpa using this
theorem sz_two {op i e g:Int} {x y:Tr} (hx:(usesA op).1.x=true) (hy:(usesA op).1.y=true) (hw:nodeE ⟨op,i,e,g,0,0⟩ 1=0) (h:wfT x) (h2:wfT y):szT (.nd op i e g x y)<=szT x+szT y+1:=by
 obtain⟨hv,_,hp,ht⟩:=canon_spec h
 obtain⟨hv2,_,hp2,ht2⟩:=canon_spec h2
 unfold szT
 generalize canon x=a at hv hp ht
 generalize canon y=b at hv2 hp2 ht2
 have hva:validL (binL a b):=validL_app hv hv2
 have hsh:=tree_shift hv hv2 (b.length-1) (by omega)
 have hta:=tree_app hva (a.length-1) (by omega)
 have hll:=binL_len a b
 have hsh':tree (binL a b) (a.length+(b.length-1))= y:=by rw [<- ht2]; exact hsh
 have hta':tree (binL a b) (a.length-1)= x:=by rw [<- ht]; exact hta
 generalize binL a b=l at hva hll hsh' hta'
 have hq:nodeE ⟨op,i,e,g,(a.length:Int)-1,((a.length+b.length:Nat):Int)-1⟩ l.length=0:=by
  refine nodeE_ops (p:=⟨op,i,e,g,0,0⟩) hw ?_ ?_
  ·simp only [hx,↓reduceIte]; omega
  ·simp only [hy,↓reduceIte]; omega
 have hvs:validL (l ++ [⟨op,i,e,g,(a.length:Int)-1,((a.length+b.length:Nat):Int)-1⟩]):=validL_snoc hva hq
 have htr:tree (l ++ [⟨op,i,e,g,(a.length:Int)-1,((a.length+b.length:Nat):Int)-1⟩]) l.length = .nd op i e g x y:=by
  rw [tree_eq hvs (by simp)]
  have hgl:(l ++ [(⟨op,i,e,g,(a.length:Int)-1,((a.length+b.length:Nat):Int)-1⟩:Nd)]).getD l.length nd0=⟨op,i,e,g,(a.length:Int)-1,((a.length+b.length:Nat):Int)-1⟩:=by simp [List.getD]
  rw [hgl]
  simp only [hx,hy,↓reduceIte]
  rw [show ((a.length:Int)-1).toNat=a.length-1 by omega,show (((a.length+b.length:Nat):Int)-1).toNat=a.length+(b.length-1) by omega,tree_app hvs _ (by omega),tree_app hvs _ (by omega),hta',hsh']
 have:=finish_len hvs (i:=l.length) (by simp)
 rw [compactS_canon hvs (by simp),htr] at this
 simp only [List.length_append,List.length_singleton,hll] at this
 exact this
end Fm
namespace Te
structure Is (A F : Nat) (f : List Nd) (t : Tr) : Prop where
 c:checkF f=0
 e:treeF f=t
 o:okT A F t
theorem Is.wf {A F:Nat} {f:List Nd} {t:Tr} (h:Is A F f t):wfT t:=by rw [<- h.e]; exact treeF_wf h.c
theorem Is.start {s:SysA} {A F T:Nat} {rs:List RunA} (hs:s=⟨A,F,T,rs⟩) (hz:chk s=0) (ok:OkR rs A F T) {f:List Nd} (h:reqE s f=0):Is A F f (treeF f):=by
 have hc:=(req_zero h).2
 refine⟨hc,rfl,?_⟩
 have:=compact_ne hc
 rw [<- (compact_tree hc).1]
 exact okT_tree (validC f) ((req_iff hs hz ok hc).1 h) _ (by omega)
theorem Is.req {s:SysA} {A F T:Nat} {rs:List RunA} (hs:s=⟨A,F,T,rs⟩) (hz:chk s=0) (ok:OkR rs A F T) {f:List Nd} {t:Tr} (h:Is A F f t):reqE s f=0:=by
 refine(req_iff hs hz ok h.c).2 ?_
 rw [compactA_eq h.c]
 exact okT_fin _ [] (by have:=h.o; rw [<- h.e] at this; exact this) fun q hq=>by cases hq
theorem Is.un {A F:Nat} {x:Nd} {f:List Nd} {t:Tr} (h:Is A F f t) (hx:(usesA x.op).1.x=true) (hy:(usesA x.op).1.y=false) (hw:nodeE ⟨x.op,x.i,x.e,x.g,0,0⟩ 1=0) (hx0:x.y=0) (ho:okN A F ⟨x.op,x.i,x.e,x.g,0,0⟩= true) (hl:szT t<200) :
  Is A F (buildA x [f]) (.nd x.op x.i x.e x.g t .nil)/\ szT (.nd x.op x.i x.e x.g t .nil)<=szT t+1:=by
 have h1:=sz_one hx hy hw h.wf
 have hwf:wfT (.nd x.op x.i x.e x.g t .nil):=⟨hw,by rw [if_pos hx]; exact h.wf,by rw [if_neg (by rw [hy]; decide)]⟩
 refine⟨?_,h1⟩
 rw [build_one h.c hx hy hw hx0,h.e,if_neg (by unfold szT at h1 hl; omega)]
 obtain⟨a,b⟩:=finish_wf hwf (by unfold szT at h1 hl; omega)
 exact⟨a,b,ho,h.o,trivial⟩
theorem Is.bin {A F:Nat} {x:Nd} {f g:List Nd} {t u:Tr} (h:Is A F f t) (h2:Is A F g u) (hx:(usesA x.op).1.x=true) (hy:(usesA x.op).1.y=true) (hw:nodeE ⟨x.op,x.i,x.e,x.g,0,0⟩ 1=0) (ho:okN A F ⟨x.op,x.i,x.e,x.g,0,0⟩= true) (hl:szT t+szT u<200) :
  Is A F (buildA x [f,g]) (.nd x.op x.i x.e x.g t u)/\ szT (.nd x.op x.i x.e x.g t u)<=szT t+szT u+1:=by
 have h1:=sz_two hx hy hw h.wf h2.wf
 have hwf:wfT (.nd x.op x.i x.e x.g t u):=⟨hw,by rw [if_pos hx]; exact h.wf,by rw [if_pos hy]; exact h2.wf⟩
 refine⟨?_,h1⟩
 rw [build_two h.c h2.c hx hy hw,h.e,h2.e,if_neg (by unfold szT at h1 hl; omega)]
 obtain⟨a,b⟩:=finish_wf hwf (by unfold szT at h1 hl; omega)
 exact⟨a,b,ho,h.o,h2.o⟩
end Te
end Go.Pd
