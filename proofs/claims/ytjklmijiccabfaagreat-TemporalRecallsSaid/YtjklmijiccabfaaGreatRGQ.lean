/- Part GQ. -/
import Derived.Test.YtjklmijiccabfaaGreatRGR
import Derived.Test.YtjklmijiccabfaaGreatRPQ
import Derived.Test.YtjklmijiccabfaaGreatRP8
set_option linter.unusedSectionVars false
set_option linter.unusedVariables false
set_option linter.unusedSimpArgs false
set_option linter.defProp false
set_option maxRecDepth 20000
set_option maxHeartbeats 1000000
namespace Go.Pd
open Go Go.Proofs
section
open Rs Fm
namespace Fm
end Fm
end
section
open Rs Fm
namespace Fm
def treeF (f:List Nd):Tr:=tree f (f.length-1)
theorem treeF_wf {f:List Nd} (h:checkF f=0):wfT (treeF f):=by
 obtain⟨h1,h2,h3⟩:=checkF_zero h
 have hl:0<f.length:=by cases f with | nil=>exact absurd rfl h1 | cons a b=>simp
 exact tree_wf h3 _ (by omega)
theorem compact_tree {f:List Nd} (h:checkF f=0):tree (compactA f) ((compactA f).length-1)= treeF f/\(compactA f).Nodup:=by
 rw [compactA_eq h]
 obtain⟨_,b,_,d⟩:=canon_spec (treeF_wf h)
 exact⟨d,b⟩
theorem shiftN_zero (p:Nd):shiftN 0 p=p:=by
 obtain⟨op,i,e,g,x,y⟩:=p
 simp [shiftN]
theorem map_shift0 (c:List Nd):c.map (shiftN 0)= c:=by
 rw [show shiftN 0=id from funext shiftN_zero,List.map_id]
theorem build_one {x:Nd} {f:List Nd} (hc:checkF f=0) (hx:(usesA x.op).1.x=true) (hy:(usesA x.op).1.y=false) (hw:nodeE ⟨x.op,x.i,x.e,x.g,0,0⟩ 1=0) (hx0:x.y=0) :
  buildA x [f]=if 200<(canon (.nd x.op x.i x.e x.g (treeF f) .nil)).length then [] else canon (.nd x.op x.i x.e x.g (treeF f) .nil):=by
 have hv:=validC f
 have hn:=compact_ne hc
 have ht:=(compact_tree hc).1
 generalize hcd:compactA f=c at hv hn ht
 have hq:nodeE ⟨x.op,x.i,x.e,x.g,(c.length:Int)-1,x.y⟩ c.length=0:=by
  refine nodeE_ops (p:=⟨x.op,x.i,x.e,x.g,0,0⟩) hw ?_ ?_
  ·simp only [hx,↓reduceIte]; omega
  ·simp only [hy,Bool.false_eq_true,↓reduceIte]; exact hx0
 have hva:validL (c ++ [⟨x.op,x.i,x.e,x.g,(c.length:Int)-1,x.y⟩]):=validL_snoc hv hq
 have hb:buildL 0 [f] [] x=some (c,⟨x.op,x.i,x.e,x.g,(c.length:Int)-1,x.y⟩):=by
  unfold buildL
  rw [if_neg (by simpa using hc),hcd]
  simp only [List.nil_append,List.length_nil,map_shift0]
  unfold buildL setOp
  rw [if_pos rfl]
 have htr:tree (c ++ [⟨x.op,x.i,x.e,x.g,(c.length:Int)-1,x.y⟩]) c.length = .nd x.op x.i x.e x.g (treeF f) .nil:=by
  rw [tree_eq hva (by simp)]
  have hgl:(c ++ [(⟨x.op,x.i,x.e,x.g,(c.length:Int)-1,x.y⟩:Nd)]).getD c.length nd0=⟨x.op,x.i,x.e,x.g,(c.length:Int)-1,x.y⟩:=by simp [List.getD]
  rw [hgl]
  simp only [hx,hy,Bool.false_eq_true,↓reduceIte]
  rw [tree_app hva _ (by omega),show ((c.length:Int)-1).toNat=c.length-1 by omega,ht]
 unfold buildA
 rw [hb]
 simp only
 rw [if_neg (by simpa using hq),compactS_canon hva (by simp),htr]
theorem tree_shift {l c:List Nd} (hl:validL l) (hc:validL c):∀ k,k<c.length->tree (l++c.map (shiftN l.length)) (l.length+k)= tree c k:=by
 have hv:=validL_app hl hc
 intro k
 induction k using Nat.strongRecOn with
 | _ k ih=>
  intro hk
  obtain⟨ox,oy,_,_⟩:=node_ops' (hc k hk)
  have hg:(l++c.map (shiftN l.length)).getD (l.length+k) nd0=shiftN l.length (c.getD k nd0):=by
   simp [List.getD,hk]
  rw [tree_eq hv (by simp; omega),tree_eq hc hk,hg]
  generalize c.getD k nd0=p at ox oy
  unfold shiftN
  simp only
  congr 1
  ·by_cases hx:(usesA p.op).1.x=true
   ·have:=ox hx
    rw [if_pos hx,if_pos hx,if_pos hx,show (p.x+(l.length:Int)).toNat=l.length+p.x.toNat by omega]
    exact ih _ (by omega) (by omega)
   ·rw [if_neg hx,if_neg hx]
  ·by_cases hy:(usesA p.op).1.y=true
   ·have:=oy hy
    rw [if_pos hy,if_pos hy,if_pos hy,show (p.y+(l.length:Int)).toNat=l.length+p.y.toNat by omega]
    exact ih _ (by omega) (by omega)
   ·rw [if_neg hy,if_neg hy]
theorem build_two {x:Nd} {f g:List Nd} (hf:checkF f=0) (hg:checkF g=0) (hx:(usesA x.op).1.x=true) (hy:(usesA x.op).1.y=true) (hw:nodeE ⟨x.op,x.i,x.e,x.g,0,0⟩ 1=0) :
  buildA x [f,g]=if 200<(canon (.nd x.op x.i x.e x.g (treeF f) (treeF g))).length then [] else canon (.nd x.op x.i x.e x.g (treeF f) (treeF g)):=by
 have hv:=validC f
 have hn:=compact_ne hf
 have ht:=(compact_tree hf).1
 have hv2:=validC g
 have hn2:=compact_ne hg
 have ht2:=(compact_tree hg).1
 generalize hcd:compactA f=c at hv hn ht
 generalize hce:compactA g=d at hv2 hn2 ht2
 have hva:=validL_app hv hv2
 have hsh:=tree_shift hv hv2 (d.length-1) (by omega)
 have hlen:(c++d.map (shiftN c.length)).length=c.length+d.length:=by simp
 have hb:buildL 0 [f,g] [] x=some (c++d.map (shiftN c.length),⟨x.op,x.i,x.e,x.g,(c.length:Int)-1,((c.length+d.length:Nat):Int)-1⟩):=by
  unfold buildL
  rw [if_neg (by simpa using hf),hcd]
  simp only [List.nil_append,List.length_nil,map_shift0]
  unfold buildL
  rw [if_neg (by simpa using hg),hce]
  unfold buildL setOp
  rw [if_pos rfl,if_neg (by omega),hlen]
 have htl:tree (c++d.map (shiftN c.length)) (c.length-1)= treeF f:=by rw [tree_app hva _ (by omega),ht]
 generalize hcd2:c++d.map (shiftN c.length)= cc at hva hsh hlen hb htl
 have hq:nodeE ⟨x.op,x.i,x.e,x.g,(c.length:Int)-1,((c.length+d.length:Nat):Int)-1⟩ cc.length=0:=by
  refine nodeE_ops (p:=⟨x.op,x.i,x.e,x.g,0,0⟩) hw ?_ ?_
  ·simp only [hx,↓reduceIte]; omega
  ·simp only [hy,↓reduceIte]; omega
 have hvs:validL (cc ++ [⟨x.op,x.i,x.e,x.g,(c.length:Int)-1,((c.length+d.length:Nat):Int)-1⟩]):=validL_snoc hva hq
 have htr:tree (cc ++ [⟨x.op,x.i,x.e,x.g,(c.length:Int)-1,((c.length+d.length:Nat):Int)-1⟩]) cc.length = .nd x.op x.i x.e x.g (treeF f) (treeF g):=by
  rw [tree_eq hvs (by simp)]
  have hgl:(cc ++ [(⟨x.op,x.i,x.e,x.g,(c.length:Int)-1,((c.length+d.length:Nat):Int)-1⟩:Nd)]).getD cc.length nd0=⟨x.op,x.i,x.e,x.g,(c.length:Int)-1,((c.length+d.length:Nat):Int)-1⟩:=by simp [List.getD]
  rw [hgl]
  simp only [hx,hy,↓reduceIte]
  rw [tree_app hvs _ (by omega),tree_app hvs _ (by omega),show ((c.length:Int)-1).toNat=c.length-1 by omega,show (((c.length+d.length:Nat):Int)-1).toNat=c.length+(d.length-1) by omega,htl,hsh,ht2]
 unfold buildA
 rw [hb]
 simp only
 rw [if_neg (by simpa using hq),compactS_canon hvs (by simp),htr]
theorem canon_le {f:List Nd} (h:checkF f=0):(canon (treeF f)).length<=f.length:=by
 obtain⟨h1,h2,h3⟩:=checkF_zero h
 have hl:0<f.length:=by cases f with | nil=>exact absurd rfl h1 | cons a b=>simp
 have:=finish_len h3 (i:=f.length-1) (by omega)
 rwa [compactS_canon h3 (by omega)] at this
end Fm
end
section
open Rs Fm
namespace Fm
end Fm
end
section
open Rs Fm
namespace Fm
def binL (a b:List Nd):List Nd:=a++b.map (shiftN a.length)
theorem binL_len (a b:List Nd):(binL a b).length=a.length+b.length:=by simp [binL]
end Fm
end
section
open Rs Fm
namespace Fm
end Fm
end
end Go.Pd
