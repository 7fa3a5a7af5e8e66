/- Part SL. -/
import Derived.Test.YtjklmijiccabfaaGreatRSE
set_option linter.unusedSectionVars false
set_option linter.unusedVariables false
set_option linter.unusedSimpArgs false
set_option linter.defProp false
set_option maxRecDepth 20000
set_option maxHeartbeats 1000000
namespace Go.Pd
open Go Go.Proofs
open Ru
theorem ddTo_mem {l:List (List Int)}:∀ {k:Nat} {x:List Int},x ∈ ddTo l k ↔ ∃ i,i<k/\l.getD i []=x
 | 0,x=>by simp [ddTo]
 | k+1,x=>by
  rw [ddTo]
  by_cases h:0<k/\l.getD k []=l.getD (k-1) []
  ·rw [if_pos h,ddTo_mem]
   refine⟨fun⟨i,hi,e⟩=>⟨i,by omega,e⟩,fun⟨i,hi,e⟩=>?_⟩
   by_cases ei:i=k
   ·exact⟨k-1,by omega,by rw [<- h.2,<- ei]; exact e⟩
   ·exact⟨i,by omega,e⟩
  ·rw [if_neg h,List.mem_append,ddTo_mem,List.mem_singleton]
   refine⟨fun c=>c.elim (fun⟨i,hi,e⟩=>⟨i,by omega,e⟩) (fun e=>⟨k,by omega,e.symm⟩),fun⟨i,hi,e⟩=>?_⟩
   by_cases ei:i=k
   ·exact .inr (by rw [<- e,ei])
   ·exact .inl ⟨i,by omega,e⟩
theorem asc_at {l:List (List Int)} (h:asc l) {i j:Nat} (hij:i<j) (hj:j<l.length):¬ kc (l.getD j []) (l.getD i [])<0:=by
 have:=List.pairwise_iff_getElem.1 h i j (by omega) hj hij
 simpa [List.getD,hj,show i<l.length by omega] using this
theorem ddTo_strict {l:List (List Int)} (h:asc l):∀ {k:Nat},k<=l.length->(ddTo l k).Pairwise fun a b=>kc a b<0
 | 0,_=>List.Pairwise.nil
 | k + 1,hk=>by
  rw [ddTo]
  by_cases c:0<k/\l.getD k []=l.getD (k-1) []
  ·rw [if_pos c]; exact ddTo_strict h (by omega)
  ·rw [if_neg c]
   refine List.pairwise_append.2 ⟨ddTo_strict h (by omega),List.pairwise_singleton _ _,fun x hx y hy=>?_⟩
   rw [List.mem_singleton] at hy
   subst hy
   obtain⟨i,hi,rfl⟩:=ddTo_mem.1 hx
   have h1:=asc_at h hi (show k<l.length by omega)
   by_cases e:kc (l.getD i []) (l.getD k [])<0
   ·exact e
   ·exfalso
    have eq:l.getD i []=l.getD k []:=kc_both h1 e
    by_cases e2:i=k-1
    ·exact c ⟨by omega,by rw [<- eq,e2]⟩
    ·have h2:=asc_at h (show i<k-1 by omega) (show k-1<l.length by omega)
     have h3:=asc_at h (show k-1<k by omega) (show k<l.length by omega)
     rw [eq] at h2
     exact c ⟨by omega,kc_both h3 h2 |>.symm⟩
theorem dedup_asc {l:List (List Int)} (h:asc l):asc (dedup l):=by
 have:=ddTo_strict h (Nat.le_refl l.length)
 exact this.imp fun {a b} h=>by have:=kc_anti a b; omega
theorem dedup_mem {l:List (List Int)} {x:List Int}:x ∈ dedup l ↔ x ∈ l:=by
 unfold dedup
 rw [ddTo_mem]
 constructor
 ·rintro ⟨i,hi,rfl⟩; exact getD_mem hi
 ·intro h
  obtain⟨i,hi,e⟩:=List.mem_iff_getElem.1 h
  exact⟨i,hi,by simp [List.getD,hi,e]⟩
end Go.Pd
