/- Part BK. -/
import Derived.Test.YtjmfdgonjighpaaZqD3
import Derived.Test.YtjmfdgonjighpaaZqXN
import Derived.Test.YtjmfdgonjighpaaZqX9
set_option linter.unusedSectionVars false
set_option linter.unusedVariables false
set_option linter.unusedSimpArgs false
set_option linter.defProp false
set_option maxRecDepth 20000
set_option maxHeartbeats 1000000
open Go.Proofs.Try
open Nat renaming zero_le->γ,pow_le_pow_right->δ,le_refl->ε
open List renaming mem_singleton->ζ,mem_map->η,getD_cons_zero->θ,length_append->κ
namespace Go.Pd
open Go Go.Proofs
open Rs Bd Fm
namespace Bd
theorem Zq {n:Nat} {E:List yH} {r:Nat} (D:eI n E r) (hn:n<=9):E.length<=1000:=by have hp:2 ^ n<=2 ^ 9:=δ (by decide) hn;have hp':(2:Nat)^ 9=512:=rfl;have:=D.len;omega
theorem round {n kb ks km kk kn r nx0:Nat} {E:List yH} {objs0:List (Nat × Ob)} (D:eI n E r) (hn:n<=9) (hS:fJ ks km kk kn [] [] nx0 objs0) (hb:St.look objs0 kb=some ⟨3,[xD n E r]⟩) (hk:kb<nx0/\kb≠ks/\kb≠km/\kb≠kk/\kb≠kn) :
  ∃ nx1 objs1,nx0<=nx1/\St.look objs1 kb=some ⟨3,[xD n E r]⟩/\ (∀ k,k<nx0->k≠ks->k≠km->k≠kk->k≠kn->St.look objs1 k=St.look objs0 k)/\ (∀ k,nx0<=k->True)/\ fJ ks km kk kn [] [] nx0 objs0 /\
   xU prog 62 [.ref ks 3 0 0,yA n E r] ⟨nx0,objs0⟩ (.int .i64 (r:Int)) ⟨nx1,objs1⟩/\ (∃ kn',fJ ks km kk kn' E [] nx1 objs1/\(kn'=kn\/nx0<=kn'))/\
   ∀ nx xX kn',fJ ks km kk kn' E [] nx xX->xU prog 61 [.ref ks 3 0 0,.int .i64 (n:Int),.int .i64 (r:Int)] ⟨nx,xX⟩ (.yD [yA n E r,.int .i64 0]) ⟨nx,xX⟩:=by
 have hl:=Zq D hn;obtain⟨nx1,objs1,kn1,call,St1,F⟩:=VL (r:=r) D.inv (jd n) hS D.lt hl (by simp);rw [om D.inv _ (ε _)] at call St1;simp only [List.take_length] at call St1;have hg:(List.range (E.length+2)).getD r 0=r:=by simp [List.getD,D.lt]
 rw [hg] at call;refine⟨nx1,objs1,F.le,by rw [F.xC kb hk.1 hk.2.1 hk.2.2.1 hk.2.2.2.1 hk.2.2.2.2]; exact hb,F.xC,λ_ _=>trivial,hS,call,⟨kn1,St1,F.new⟩,λnx xX kn' St=>?_⟩;have:=af (i:=r) D.inv St (by omega) D.lt (by omega);rw [D.self.1,show kP n E r=E from D.self.2] at this;exact this
def R0 : List xN:=[⟨some 64,none,.mv (.t 8)⟩,⟨some 65,none,.fv 0 (.t 1)⟩,⟨some 66,none,.load 1 false (.t 65)⟩,⟨some 67,none,.mv (.t 8)⟩,⟨some 68,none,.load 3 true (.t 1)⟩,⟨some 69,none,.call (.c (.fn 62 [])) [.t 67,.t 68]⟩,⟨some 70,none,.call (.c (.fn 61 [])) [.t 64,.t 66,.t 69]⟩,⟨some 63,none,.mv (.t 70)⟩,⟨some 71,none,.lV (.t 63) 0⟩,⟨some 72,none,.lV (.t 63) 1⟩,⟨some 9,none,.alloc [.int .i64 0,.xI,.int .i64 0]⟩,⟨none,none,.store 3 (.t 9) (.t 71)⟩,⟨some 10,none,.mv (.t 72)⟩]
def O6 : List Nat:=[0,0,2,0,0,24,63,127,255,255,0,1535,4095]
def mc (ks kb:Nat):Fr:=[(8,.ref ks 3 0 0),(1,.ref kb 3 0 0)]
def mB : Ob:=⟨3,[[.int .i64 0,.xI,.int .i64 0]]⟩
def jD (ks kb n r:Nat) (E:List yH) (a:Nat) (σ0 σ1 σ2 σ3 σ4:St):List (D × St):=[(.ref ks 3 0 0,σ0),(.ref kb 3 0 0,σ0),(.int .i64 (n:Int),σ0),(.ref ks 3 0 0,σ0),(yA n E r,σ0),(.int .i64 (r:Int),σ1),(.yD [yA n E r,.int .i64 0],σ2),(.yD [yA n E r,.int .i64 0],σ2),(yA n E r,σ2),(.int .i64 0,σ2),(.ref a 3 0 0,σ3),(.uO,σ4),(.int .i64 0,σ4)]
end Bd
theorem Tc {C:Cx} (hP:C.P=prog) {ks kb n r nx0 nx1 nx2:Nat} {E:List yH} {objs0 objs1:List (Nat × Ob)} (hb:St.look objs0 kb=some ⟨3,[xD n E r]⟩) (c1:xU prog 62 [.ref ks 3 0 0,yA n E r] ⟨nx0,objs0⟩ (.int .i64 (r:Int)) ⟨nx1,objs1⟩)
  (c2:xU prog 61 [.ref ks 3 0 0,.int .i64 (n:Int),.int .i64 (r:Int)] ⟨nx1,objs1⟩ (.yD [yA n E r,.int .i64 0]) ⟨nx2,[(kb,⟨3,[xD n E r]⟩)]⟩) :
  Trace C [⟨some 64,none,.mv (.t 8)⟩,⟨some 65,none,.fv 0 (.t 1)⟩,⟨some 66,none,.load 1 false (.t 65)⟩,⟨some 67,none,.mv (.t 8)⟩,⟨some 68,none,.load 3 true (.t 1)⟩,⟨some 69,none,.call (.c (.fn 62 [])) [.t 67,.t 68]⟩,⟨some 70,none,.call (.c (.fn 61 [])) [.t 64,.t 66,.t 69]⟩,⟨some 63,none,.mv (.t 70)⟩,⟨some 71,none,.lV (.t 63) 0⟩,⟨some 72,none,.lV (.t 63) 1⟩,⟨some 9,none,.alloc [.int .i64 0,.xI,.int .i64 0]⟩,⟨none,none,.store 3 (.t 9) (.t 71)⟩,⟨some 10,none,.mv (.t 72)⟩] (mc ks kb) ⟨nx0,objs0⟩ (jD ks kb n r E nx2 ⟨nx0,objs0⟩ ⟨nx1,objs1⟩ ⟨nx2,[(kb,⟨3,[xD n E r]⟩)]⟩ ⟨nx2+1,[(nx2,mB),(kb,⟨3,[xD n E r]⟩)]⟩ ⟨nx2+1,[(nx2,⟨3,[xD n E r]⟩),(kb,⟨3,[xD n E r]⟩)]⟩):=by
 unfold jD mc;refine .cons (by simp [xR,zC,pW,wP,Fr.get,Fr.put]) ?_;refine .cons (by simp [xR,zC,pW,wP,Fr.get,Fr.put]) ?_;refine .cons (by simp [xR,zC,pW,wP,Fr.get,Fr.put,St.get,xD,vR,hb]) ?_;refine .cons (by simp [xR,zC,pW,wP,Fr.get,Fr.put]) ?_;refine .cons (by simp [xR,zC,pW,wP,Fr.get,Fr.put,St.get,xD,yA,vR,hb]) ?_
 refine .cons (by simp only [xR,zC,pW,wP,Fr.get,Fr.put,hP];exact jH.go c1 ⟨rfl,rfl⟩) ?_
 refine .cons (by simp only [xR,zC,pW,wP,Fr.get,Fr.put,hP];exact jH.go c2 ⟨rfl,rfl⟩) ?_
 refine .cons (by simp [xR,zC,pW,wP,Fr.get,Fr.put]) ?_;refine .cons (by simp [xR,zC,pW,wP,Fr.get,Fr.put]) ?_;refine .cons (by simp [xR,zC,pW,wP,Fr.get,Fr.put]) ?_;refine .cons (by simp [xR,zC,pW,wP,Fr.get,Fr.put,St.new,mB,zN,D.one]) ?_;refine .cons (by simp [xR,zC,pW,wP,Fr.get,Fr.put,St.new,mB,zN,D.one,yA,xD,St.get,St.set,St.look,wO,oR,D.cells]) ?_;exact .cons (by simp [xR,zC,pW,wP,Fr.get,Fr.put]) .nil
theorem WW {C:Cx} (hP:C.P=prog) {ks kb n r nx0 nx1 nx2:Nat} {E:List yH} {objs0 objs1:List (Nat × Ob)} (hb:St.look objs0 kb=some ⟨3,[xD n E r]⟩) (hk:kb<nx0) (c1:xU prog 62 [.ref ks 3 0 0,yA n E r] ⟨nx0+1,(nx0,mB) :: objs0⟩ (.int .i64 (r:Int)) ⟨nx1,objs1⟩)
  (c2:xU prog 61 [.ref ks 3 0 0,.int .i64 (n:Int),.int .i64 (r:Int)] ⟨nx1,objs1⟩ (.yD [yA n E r,.int .i64 0]) ⟨nx2,[(nx0,mB),(kb,⟨3,[xD n E r]⟩)]⟩) :
  Trace C [⟨some 64,none,.mv (.t 8)⟩,⟨some 65,none,.fv 0 (.t 1)⟩,⟨some 66,none,.load 1 false (.t 65)⟩,⟨some 67,none,.mv (.t 8)⟩,⟨some 68,none,.load 3 true (.t 1)⟩,⟨some 69,none,.call (.c (.fn 62 [])) [.t 67,.t 68]⟩,⟨some 70,none,.call (.c (.fn 61 [])) [.t 64,.t 66,.t 69]⟩,⟨some 63,none,.mv (.t 70)⟩,⟨some 71,none,.lV (.t 63) 0⟩,⟨some 72,none,.lV (.t 63) 1⟩,⟨some 9,none,.mv (.c (.ref nx0 3 0 0))⟩,⟨none,none,.store 3 (.t 9) (.t 71)⟩,⟨some 10,none,.mv (.t 72)⟩] (mc ks kb) ⟨nx0+1,(nx0,mB) :: objs0⟩ (jD ks kb n r E nx0 ⟨nx0+1,(nx0,mB) :: objs0⟩ ⟨nx1,objs1⟩ ⟨nx2,[(nx0,mB),(kb,⟨3,[xD n E r]⟩)]⟩ ⟨nx2,[(nx0,mB),(kb,⟨3,[xD n E r]⟩)]⟩ ⟨nx2,[(nx0,⟨3,[xD n E r]⟩),(kb,⟨3,[xD n E r]⟩)]⟩):=by
 unfold jD mc;refine .cons (by simp [xR,zC,pW,wP,Fr.get,Fr.put]) ?_;refine .cons (by simp [xR,zC,pW,wP,Fr.get,Fr.put]) ?_;refine .cons (by simp [xR,zC,pW,wP,Fr.get,Fr.put,St.get,xD,vR,St.look,show ¬ nx0=kb by omega,hb]) ?_;refine .cons (by simp [xR,zC,pW,wP,Fr.get,Fr.put]) ?_;refine .cons (by simp [xR,zC,pW,wP,Fr.get,Fr.put,St.get,xD,yA,vR,St.look,show ¬ nx0=kb by omega,hb]) ?_
 refine .cons (by simp only [xR,zC,pW,wP,Fr.get,Fr.put,hP];exact jH.go c1 ⟨rfl,rfl⟩) ?_
 refine .cons (by simp only [xR,zC,pW,wP,Fr.get,Fr.put,hP];exact jH.go c2 ⟨rfl,rfl⟩) ?_
 refine .cons (by simp [xR,zC,pW,wP,Fr.get,Fr.put]) ?_;refine .cons (by simp [xR,zC,pW,wP,Fr.get,Fr.put]) ?_;refine .cons (by simp [xR,zC,pW,wP,Fr.get,Fr.put]) ?_;refine .cons (by simp [xR,zC,pW,wP,Fr.get,Fr.put]) ?_;refine .cons (by simp [xR,zC,pW,wP,Fr.get,Fr.put,St.new,mB,zN,D.one,yA,xD,St.get,St.set,St.look,wO,oR,D.cells]) ?_;exact .cons (by simp [xR,zC,pW,wP,Fr.get,Fr.put]) .nil
theorem WZ {C:Cx} (hP:C.P=prog) {ks kb n r nx0 nx1 nx2:Nat} {E:List yH} {objs0 objs1:List (Nat × Ob)} (hb:St.look objs0 kb=some ⟨3,[xD n E r]⟩) (hk:kb<nx1) (hb1:St.look objs1 kb=some ⟨3,[xD n E r]⟩)
  (c2:xU prog 61 [.ref ks 3 0 0,.int .i64 (n:Int),.int .i64 (r:Int)] ⟨nx1+1,(nx1,mB) :: objs1⟩ (.yD [yA n E r,.int .i64 0]) ⟨nx2,[(nx1,mB),(kb,⟨3,[xD n E r]⟩)]⟩) :
  Trace C [⟨some 64,none,.mv (.t 8)⟩,⟨some 65,none,.fv 0 (.t 1)⟩,⟨some 66,none,.load 1 false (.t 65)⟩,⟨some 67,none,.mv (.t 8)⟩,⟨some 68,none,.load 3 true (.t 1)⟩,⟨some 69,none,.mv (.c (.int .i64 (r:Int)))⟩,⟨some 70,none,.call (.c (.fn 61 [])) [.t 64,.t 66,.t 69]⟩,⟨some 63,none,.mv (.t 70)⟩,⟨some 71,none,.lV (.t 63) 0⟩,⟨some 72,none,.lV (.t 63) 1⟩,⟨some 9,none,.mv (.c (.ref nx1 3 0 0))⟩,⟨none,none,.store 3 (.t 9) (.t 71)⟩,⟨some 10,none,.mv (.t 72)⟩] (mc ks kb) ⟨nx1+1,(nx1,mB) :: objs1⟩ (jD ks kb n r E nx1 ⟨nx1+1,(nx1,mB) :: objs1⟩ ⟨nx1+1,(nx1,mB) :: objs1⟩ ⟨nx2,[(nx1,mB),(kb,⟨3,[xD n E r]⟩)]⟩ ⟨nx2,[(nx1,mB),(kb,⟨3,[xD n E r]⟩)]⟩ ⟨nx2,[(nx1,⟨3,[xD n E r]⟩),(kb,⟨3,[xD n E r]⟩)]⟩):=by
 unfold jD mc;refine .cons (by simp [xR,zC,pW,wP,Fr.get,Fr.put]) ?_;refine .cons (by simp [xR,zC,pW,wP,Fr.get,Fr.put]) ?_;refine .cons (by simp [xR,zC,pW,wP,Fr.get,Fr.put,St.get,xD,vR,St.look,show ¬ nx1=kb by omega,hb1]) ?_;refine .cons (by simp [xR,zC,pW,wP,Fr.get,Fr.put]) ?_;refine .cons (by simp [xR,zC,pW,wP,Fr.get,Fr.put,St.get,xD,yA,vR,St.look,show ¬ nx1=kb by omega,hb1]) ?_;refine .cons (by simp [xR,zC,pW,wP,Fr.get,Fr.put]) ?_
 refine .cons (by simp only [xR,zC,pW,wP,Fr.get,Fr.put,hP];exact jH.go c2 ⟨rfl,rfl⟩) ?_
 refine .cons (by simp [xR,zC,pW,wP,Fr.get,Fr.put]) ?_;refine .cons (by simp [xR,zC,pW,wP,Fr.get,Fr.put]) ?_;refine .cons (by simp [xR,zC,pW,wP,Fr.get,Fr.put]) ?_;refine .cons (by simp [xR,zC,pW,wP,Fr.get,Fr.put]) ?_;refine .cons (by simp [xR,zC,pW,wP,Fr.get,Fr.put,St.new,mB,zN,D.one,yA,xD,St.get,St.set,St.look,wO,oR,D.cells]) ?_;exact .cons (by simp [xR,zC,pW,wP,Fr.get,Fr.put]) .nil
namespace Bd
theorem Pz {ks kb n r a:Nat} {E:List yH} {σ σ0 σ1 σ2 σ3 σ4:St} (p:Nat) (hp:p<=13):zB ((jD ks kb n r E a σ0 σ1 σ2 σ3 σ4).take p) σ=σ\/zB ((jD ks kb n r E a σ0 σ1 σ2 σ3 σ4).take p) σ=σ0\/zB ((jD ks kb n r E a σ0 σ1 σ2 σ3 σ4).take p) σ=σ1 \/
  zB ((jD ks kb n r E a σ0 σ1 σ2 σ3 σ4).take p) σ=σ2\/zB ((jD ks kb n r E a σ0 σ1 σ2 σ3 σ4).take p) σ=σ3\/zB ((jD ks kb n r E a σ0 σ1 σ2 σ3 σ4).take p) σ=σ4:=by
 rcases(show p=0\/p=1\/p=2\/p=3\/p=4\/p=5\/p=6\/p=7\/p=8\/p=9\/p=10\/p=11\/p=12\/p=13 by omega) with rfl | rfl | rfl | rfl | rfl | rfl | rfl | rfl | rfl | rfl | rfl | rfl | rfl | rfl <;> simp [jD,zB]
def PD : xN:=⟨some 66,none,.load 1 false (.t 65)⟩
def PE : xN:=⟨some 68,none,.load 3 true (.t 1)⟩
theorem iu {C:Cx} {ms jE:List Nat} {L:List xN} {ks kb n r a:Nat} {E:List yH} {σ σ0 σ1 σ2 σ3 σ4:St}
  (hL:∀ i o,i<11->jE.contains i=false->L[i]?=some o->o.k.zH=false->(i=2/\o=PD)\/(i=4/\o=PE))
  (h2:(wM (L.take 2) ((jD ks kb n r E a σ0 σ1 σ2 σ3 σ4).take 2) (mc ks kb)).get 65 = .ref kb 3 0 0) (h4:(wM (L.take 4) ((jD ks kb n r E a σ0 σ1 σ2 σ3 σ4).take 4) (mc ks kb)).get 1 = .ref kb 3 0 0)
  (hs:∀ τ,τ=σ\/τ=σ0\/τ=σ1\/τ=σ2\/τ=σ3\/τ=σ4->St.look τ.xX kb=some ⟨3,[xD n E r]⟩):jw C ms L 11 jE (jD ks kb n r E a σ0 σ1 σ2 σ3 σ4) (mc ks kb) σ:=by
 intro i dop p hi hm hp hd hsil _;have hg:=hs _ (Pz (ks:=ks) (kb:=kb) (n:=n) (r:=r) (a:=a) (E:=E) (σ:=σ) (σ0:=σ0) (σ1:=σ1) (σ2:=σ2) (σ3:=σ3) (σ4:=σ4) p (by omega));generalize zB ((jD ks kb n r E a σ0 σ1 σ2 σ3 σ4).take p) σ=τ at hg
 rcases hL i dop hi hm hd hsil with ⟨rfl,rfl⟩ | ⟨rfl,rfl⟩
 ·generalize wM (L.take 2) ((jD ks kb n r E a σ0 σ1 σ2 σ3 σ4).take 2) (mc ks kb)= F at h2 ⊢;simp [xR,PD,zC,pW,wP,h2,St.get,hg,xD,vR,wK,jD]
 ·generalize wM (L.take 4) ((jD ks kb n r E a σ0 σ1 σ2 σ3 σ4).take 4) (mc ks kb)= F at h4 ⊢;simp [xR,PE,zC,pW,wP,h4,St.get,hg,xD,yA,vR,wK,jD]
def PB (a:Nat):List xN:=[⟨some 64,none,.mv (.t 8)⟩,⟨some 65,none,.fv 0 (.t 1)⟩,⟨some 66,none,.load 1 false (.t 65)⟩,⟨some 67,none,.mv (.t 8)⟩,⟨some 68,none,.load 3 true (.t 1)⟩,⟨some 69,none,.call (.c (.fn 62 [])) [.t 67,.t 68]⟩,⟨some 70,none,.call (.c (.fn 61 [])) [.t 64,.t 66,.t 69]⟩,⟨some 63,none,.mv (.t 70)⟩,⟨some 71,none,.lV (.t 63) 0⟩,⟨some 72,none,.lV (.t 63) 1⟩,⟨some 9,none,.mv (.c (.ref a 3 0 0))⟩,⟨none,none,.store 3 (.t 9) (.t 71)⟩,⟨some 10,none,.mv (.t 72)⟩]
def PC (a r:Nat):List xN:=[⟨some 64,none,.mv (.t 8)⟩,⟨some 65,none,.fv 0 (.t 1)⟩,⟨some 66,none,.load 1 false (.t 65)⟩,⟨some 67,none,.mv (.t 8)⟩,⟨some 68,none,.load 3 true (.t 1)⟩,⟨some 69,none,.mv (.c (.int .i64 (r:Int)))⟩,⟨some 70,none,.call (.c (.fn 61 [])) [.t 64,.t 66,.t 69]⟩,⟨some 63,none,.mv (.t 70)⟩,⟨some 71,none,.lV (.t 63) 0⟩,⟨some 72,none,.lV (.t 63) 1⟩,⟨some 9,none,.mv (.c (.ref a 3 0 0))⟩,⟨none,none,.store 3 (.t 9) (.t 71)⟩,⟨some 10,none,.mv (.t 72)⟩]
def Vu (ks kb n r:Nat) (E:List yH) (a:Nat):Fr:=[(10,.int .i64 0),(9,.ref a 3 0 0),(72,.int .i64 0),(71,yA n E r),(63,.yD [yA n E r,.int .i64 0]),(70,.yD [yA n E r,.int .i64 0]),(69,.int .i64 (r:Int)),(68,yA n E r),(67,.ref ks 3 0 0),(66,.int .i64 (n:Int)),(65,.ref kb 3 0 0),(64,.ref ks 3 0 0),(8,.ref ks 3 0 0),(1,.ref kb 3 0 0)]
section
variable {ks kb n r a b : Nat} {E : List yH} {σ0 σ1 σ2 σ3 σ4 : St}
theorem jx : wM R0 (jD ks kb n r E a σ0 σ1 σ2 σ3 σ4) (mc ks kb)= Vu ks kb n r E a:=rfl
theorem VB : wM (PB b) (jD ks kb n r E a σ0 σ1 σ2 σ3 σ4) (mc ks kb)= Vu ks kb n r E a:=rfl
theorem VC : wM (PC b r) (jD ks kb n r E a σ0 σ1 σ2 σ3 σ4) (mc ks kb)= Vu ks kb n r E a:=rfl
theorem zq : fA R0 (jD ks kb n r E a σ0 σ1 σ2 σ3 σ4) [5,6] 5 10 (.ref b 3 0 0)= PB b:=rfl
theorem zr : fA R0 (jD ks kb n r E a σ0 σ1 σ2 σ3 σ4) [5,6] 6 10 (.ref b 3 0 0)= PC b r:=rfl
theorem M4 {σ:St}:zB (jD ks kb n r E a σ0 σ1 σ2 σ3 σ4) σ=σ4:=rfl
theorem KZ : zB (jD ks kb n r E a σ0 σ1 σ2 σ3 σ4) σ0=σ4:=rfl
end
end Bd
set_option maxHeartbeats 2000000 in
theorem Ro {C:Cx} (hP:C.P=prog) (hn0:C.n0=0) {n kb ks r nx0 nx1 nx2:Nat} {E:List yH} {objs0 objs1 objs2:List (Nat × Ob)} (x0:kb<nx0) (x1:nx0<=nx1) (j6:ks<nx0) (hb:St.look objs0 kb=some ⟨3,[xD n E r]⟩) (hb2:St.look objs2 kb=some ⟨3,[xD n E r]⟩)
  (c3:xU prog 62 [.ref ks 3 0 0,yA n E r] ⟨nx0+1,(nx0,mB) :: objs0⟩ (.int .i64 (r:Int)) ⟨nx2,objs2⟩) (c4:xU prog 61 [.ref ks 3 0 0,.int .i64 (n:Int),.int .i64 (r:Int)] ⟨nx2,objs2⟩ (.yD [yA n E r,.int .i64 0]) ⟨nx2,[(nx0,mB),(kb,⟨3,[xD n E r]⟩)]⟩) :
  Sw C O6 R0 11 [5,6] 10 (mc ks kb) ⟨nx0,objs0⟩ (jD ks kb n r E nx1 ⟨nx0,objs0⟩ ⟨nx1,objs1⟩ ⟨nx1,[(kb,⟨3,[xD n E r]⟩)]⟩ ⟨nx1+1,[(nx1,mB),(kb,⟨3,[xD n E r]⟩)]⟩ ⟨nx1+1,[(nx1,⟨3,[xD n E r]⟩),(kb,⟨3,[xD n E r]⟩)]⟩) 5 (.ref nx0 3 0 0) ⟨nx0+1,(nx0,mB) :: objs0⟩ (jD ks kb n r E nx0 ⟨nx0+1,(nx0,mB) :: objs0⟩ ⟨nx2,objs2⟩ ⟨nx2,[(nx0,mB),(kb,⟨3,[xD n E r]⟩)]⟩ ⟨nx2,[(nx0,mB),(kb,⟨3,[xD n E r]⟩)]⟩ ⟨nx2,[(nx0,⟨3,[xD n E r]⟩),(kb,⟨3,[xD n E r]⟩)]⟩):=by
 have y0:¬ nx0=kb:=by omega
 have y1:¬ nx1=kb:=by omega
 have y2:¬ kb=nx1:=by omega
 refine⟨λm2 hm2=>?_,by rw [zq]; exact WW hP hb x0 c3 c4,rfl,λi hi hm=>?_,?_,?_,?_⟩
 ·cases hm2;simp [zC,jD,zB,St.new,mB,zN,D.one]
 ·rcases(show i=0\/i=1\/i=2\/i=3\/i=4\/i=5\/i=6\/i=7\/i=8\/i=9\/i=10 by omega) with rfl | rfl | rfl | rfl | rfl | rfl | rfl | rfl | rfl | rfl | rfl <;> first | rfl | (exact absurd hm (by decide))
 ·rw [zq]
  refine iu (λi o hi hm ho hs=>?_) rfl rfl λτ hτ=>?_
  ·rcases(show i=0\/i=1\/i=2\/i=3\/i=4\/i=5\/i=6\/i=7\/i=8\/i=9\/i=10 by omega) with rfl | rfl | rfl | rfl | rfl | rfl | rfl | rfl | rfl | rfl | rfl <;> first | (exact absurd hm (by decide)) | (cases ho; first | (exact .inl ⟨rfl,rfl⟩) | (exact .inr ⟨rfl,rfl⟩) | (cases hs))
  ·rcases hτ with rfl | rfl | rfl | rfl | rfl | rfl
   ·show St.look (_ :: _) _=_;rw [xY,if_neg y0]; exact hb
   ·show St.look (_ :: _) _=_;rw [xY,if_neg y0]; exact hb
   ·exact hb2
   ·simp [St.look,y0]
   ·simp [St.look,y0]
   ·simp [St.look,y0]
 ·intro t ht;have hf:∀ t ∈ dw O6 R0 [5,6] 5 10,¬ 9=t:=by decide
  have h9:=hf t ht;rw [zq,VB,jx];unfold Vu;simp only [Fr.get,h9,↓reduceIte,if_false]
 ·rw [zq,VB,jx,KZ,M4]
  refine yJ.view (λk=>if k=nx1 then nx0 else k) (by rw [hn0]; exact γ _) (λk hk=>by omega) ?_ ?_ ?_
  ·have z1:¬ ks=nx1:=by omega
   have z3:ks<nx1+1:=by omega
   have z4:kb<nx1+1:=by omega
   simp [Vu,aK,vw,sV,Fr.get,yA,xD,z1,z3,z4,y2]
  ·have hp:∀ e ∈ [[D.int .i64 (n:Int),.sl 3 (vJ E),.int .i64 (r:Int)]],D.xT e=true:=λe he=>by rw [ζ.1 he]; rfl
   have z4:kb<nx1+1:=by omega
   simp [stays,St.get,St.look,y0,y1,y2,xD,z4];exact .same hp
  ·simp [wQ,y1,y2];omega
set_option maxHeartbeats 2000000 in
theorem Rq {C:Cx} (hP:C.P=prog) {n kb ks r nx0 nx1:Nat} {E:List yH} {objs0 objs1:List (Nat × Ob)} (x1:kb<nx1) (hb:St.look objs0 kb=some ⟨3,[xD n E r]⟩) (hb1:St.look objs1 kb=some ⟨3,[xD n E r]⟩)
  (c5:xU prog 61 [.ref ks 3 0 0,.int .i64 (n:Int),.int .i64 (r:Int)] ⟨nx1+1,(nx1,mB) :: objs1⟩ (.yD [yA n E r,.int .i64 0]) ⟨nx1+1,[(nx1,mB),(kb,⟨3,[xD n E r]⟩)]⟩) :
  Sw C O6 R0 11 [5,6] 10 (mc ks kb) ⟨nx0,objs0⟩ (jD ks kb n r E nx1 ⟨nx0,objs0⟩ ⟨nx1,objs1⟩ ⟨nx1,[(kb,⟨3,[xD n E r]⟩)]⟩ ⟨nx1+1,[(nx1,mB),(kb,⟨3,[xD n E r]⟩)]⟩ ⟨nx1+1,[(nx1,⟨3,[xD n E r]⟩),(kb,⟨3,[xD n E r]⟩)]⟩) 6 (.ref nx1 3 0 0) ⟨nx1+1,(nx1,mB) :: objs1⟩ (jD ks kb n r E nx1 ⟨nx1+1,(nx1,mB) :: objs1⟩ ⟨nx1+1,(nx1,mB) :: objs1⟩ ⟨nx1+1,[(nx1,mB),(kb,⟨3,[xD n E r]⟩)]⟩ ⟨nx1+1,[(nx1,mB),(kb,⟨3,[xD n E r]⟩)]⟩ ⟨nx1+1,[(nx1,⟨3,[xD n E r]⟩),(kb,⟨3,[xD n E r]⟩)]⟩):=by
 have y1:¬ nx1=kb:=by omega
 refine⟨λm2 hm2=>?_,by rw [zr]; exact WZ (nx0:=nx0) hP hb x1 hb1 c5,rfl,λi hi hm=>?_,?_,?_,by rw [zr,VC,jx]; exact yJ.refl⟩
 ·cases hm2;simp [zC,jD,zB,St.new,mB,zN,D.one]
 ·rcases(show i=0\/i=1\/i=2\/i=3\/i=4\/i=5\/i=6\/i=7\/i=8\/i=9\/i=10 by omega) with rfl | rfl | rfl | rfl | rfl | rfl | rfl | rfl | rfl | rfl | rfl <;> first | rfl | (exact absurd hm (by decide))
 ·rw [zr]
  refine iu (λi o hi hm ho hs=>?_) rfl rfl λτ hτ=>?_
  ·rcases(show i=0\/i=1\/i=2\/i=3\/i=4\/i=5\/i=6\/i=7\/i=8\/i=9\/i=10 by omega) with rfl | rfl | rfl | rfl | rfl | rfl | rfl | rfl | rfl | rfl | rfl <;> first | (exact absurd hm (by decide)) | (cases ho; first | (exact .inl ⟨rfl,rfl⟩) | (exact .inr ⟨rfl,rfl⟩) | (cases hs))
  ·rcases hτ with rfl | rfl | rfl | rfl | rfl | rfl
   ·show St.look (_ :: _) _=_;rw [xY,if_neg y1]; exact hb1
   ·show St.look (_ :: _) _=_;rw [xY,if_neg y1]; exact hb1
   ·show St.look (_ :: _) _=_;rw [xY,if_neg y1]; exact hb1
   ·simp [St.look,y1]
   ·simp [St.look,y1]
   ·simp [St.look,y1]
 ·intro t ht;rw [zr,VC,jx]
theorem Py {C:Cx} (hP:C.P=prog) (hn0:C.n0=0) {n kb ks km kk kn r nx0:Nat} {E:List yH} {objs0:List (Nat × Ob)} (hD:eI n E r) (hn:n<=9) (hS:fJ ks km kk kn [] [] nx0 objs0) (hb:St.look objs0 kb=some ⟨3,[xD n E r]⟩) (hk:kb<nx0/\kb≠ks/\kb≠km/\kb≠kk/\kb≠kn) {Q:Exit->Fr->St->Prop}
  (hQ:∀ a,kb<a->Q .normal [(10,.int .i64 0),(9,.ref a 3 0 0),(72,.int .i64 0),(71,yA n E r),(63,.yD [yA n E r,.int .i64 0]),(70,.yD [yA n E r,.int .i64 0]),(69,.int .i64 (r:Int)),(68,yA n E r),(67,.ref ks 3 0 0),(66,.int .i64 (n:Int)),(65,.ref kb 3 0 0),(64,.ref ks 3 0 0),(8,.ref ks 3 0 0),(1,.ref kb 3 0 0)] ⟨a+1,[(a,⟨3,[xD n E r]⟩),(kb,⟨3,[xD n E r]⟩)]⟩) :
  wpS C (.mK O6 R0 11 [5,6] 10) (mc ks kb) ⟨nx0,objs0⟩ Q:=by
 obtain⟨nx1,objs1,le1,hb1,keep1,_,_,c1,⟨kn1,St1,_⟩,ex⟩:=round hD hn hS hb hk
 have hkb:∀ {nx:Nat} {xX:List (Nat × Ob)} {l:List (Nat × Ob)},(∀ k o,St.look l k=some o->St.get ⟨nx,xX⟩ k=some o)->xU prog 61 [.ref ks 3 0 0,.int .i64 (n:Int),.int .i64 (r:Int)] ⟨nx,xX⟩ (.yD [yA n E r,.int .i64 0]) ⟨nx,xX⟩ ->
   xU prog 61 [.ref ks 3 0 0,.int .i64 (n:Int),.int .i64 (r:Int)] ⟨nx,xX⟩ (.yD [yA n E r,.int .i64 0]) ⟨nx,l⟩:=λhl h=>xU.gc h hl
 have c2:=hkb (l:=[(kb,⟨3,[xD n E r]⟩)]) (λk o hk'=>by
  rw [xY] at hk'
  split at hk'
  ·rename_i e; subst e; rw [<- hk']; exact hb1
  ·cases hk') (ex nx1 objs1 kn1 St1)
 have T:=Tc hP hb c1 c2
 refine vy (hP ▸ mixed) (tr:=jD ks kb n r E nx1 ⟨nx0,objs0⟩ ⟨nx1,objs1⟩ ⟨nx1,[(kb,⟨3,[xD n E r]⟩)]⟩ ⟨nx1+1,[(nx1,mB),(kb,⟨3,[xD n E r]⟩)]⟩ ⟨nx1+1,[(nx1,⟨3,[xD n E r]⟩),(kb,⟨3,[xD n E r]⟩)]⟩) ⟨T,rfl,?_,?_,?_⟩ (hQ nx1 (by omega))
 ·intro i hi hm;rcases(show i=0\/i=1\/i=2\/i=3\/i=4\/i=5\/i=6\/i=7\/i=8\/i=9\/i=10 by omega) with rfl | rfl | rfl | rfl | rfl | rfl | rfl | rfl | rfl | rfl | rfl <;> first | rfl | (exact absurd hm (by decide))
 ·refine iu (λi o hi hm ho hs=>?_) rfl rfl λτ hτ=>?_
  ·rcases(show i=0\/i=1\/i=2\/i=3\/i=4\/i=5\/i=6\/i=7\/i=8\/i=9\/i=10 by omega) with rfl | rfl | rfl | rfl | rfl | rfl | rfl | rfl | rfl | rfl | rfl <;> first | (exact absurd hm (by decide)) | (cases ho; first | (exact .inl ⟨rfl,rfl⟩) | (exact .inr ⟨rfl,rfl⟩) | (cases hs))
  ·have x1:¬ nx1=kb:=by omega
   rcases hτ with rfl | rfl | rfl | rfl | rfl | rfl
   ·exact hb
   ·exact hb
   ·exact hb1
   ·simp [St.look]
   ·simp [St.look,x1]
   ·simp [St.look,x1]
 ·intro _ x hx;have x0:¬ nx0=kb:=by omega
  have x1:¬ nx1=kb:=by omega
  rcases List.mem_cons.1 hx with rfl | hx
  ·have hS':fJ ks km kk kn [] [] (nx0+1) ((nx0,mB) :: objs0):=hS.mono (by omega) λk hk=>by have:=hS.lt;rw [xY,if_neg (by omega)]
   obtain⟨nx2,objs2,le2,hb2,keep2,_,_,c3,⟨kn2,St2,_⟩,ex2⟩:=round hD hn hS' (by rw [xY,if_neg x0]; exact hb) ⟨by omega,hk.2⟩
   have hz2:St.look objs2 nx0=some mB:=by have:=hS.lt;rw [keep2 nx0 (by omega) (by omega) (by omega) (by omega) (by omega),xY,if_pos rfl]
   have c4:=hkb (l:=[(nx0,mB),(kb,⟨3,[xD n E r]⟩)]) (λk o hk'=>by
    rw [xY] at hk'
    split at hk'
    ·rename_i e; subst e; rw [<- hk']; exact hz2
    ·rw [xY] at hk'
     split at hk'
     ·rename_i e; subst e; rw [<- hk']; exact hb2
     ·cases hk') (ex2 nx2 objs2 kn2 St2)
   exact⟨_,_,_,Ro hP hn0 hk.1 le1 hS.lt.1 hb hb2 c3 c4⟩
  ·obtain rfl:=ζ.1 hx
   have St2:fJ ks km kk kn1 E [] (nx1+1) ((nx1,mB) :: objs1):=St1.mono (by omega) λk hk=>by have:=St1.lt;rw [xY,if_neg (by omega)]
   have c5:=hkb (l:=[(nx1,mB),(kb,⟨3,[xD n E r]⟩)]) (λk o hk'=>by
    rw [xY] at hk';show St.look (_ :: _) _=_;rw [xY]
    split at hk'
    ·rename_i e; rw [if_pos e]; exact hk'
    ·rename_i e;rw [if_neg e];rw [xY] at hk'
     split at hk'
     ·rename_i e; subst e; rw [<- hk']; exact hb1
     ·cases hk') (ex (nx1+1) ((nx1,mB) :: objs1) kn1 St2)
   exact⟨_,_,_,Rq hP (by omega) hb hb1 c5⟩
end Go.Pd

/- Part BL. -/
namespace Go.Pd
open Go Go.Proofs
open BitVec renaming isValue -> ZA
open Rs Bd Fm
theorem Uj {n r k:Nat} {E:List yH} (hI:sU n E) (hn:n<=24) (hk:k<E.length) (hl:E.length<=1000):zX prog 59 [yA n E r,.int .i64 (k:Int)] (.int .i64 0):=by
 obtain⟨a1,a2,a3,a4,a5,a6⟩:=hI.lo k hk;have hg:=pI E hk
 have hlv:∀ j,2<=j->j<k+2->(yP E k).1<uR E j->¬ ((yP E (j-2)).1:Int)<=((yP E k).1:Int):=λj h1 h2 h3=>by rw [rG h1] at h3; omega
 have hgj:∀ j,2<=j->j<k+2->(vJ E).getD (j-2) [] = [.int .i64 ((yP E (j-2)).1:Int),.int .i64 ((yP E (j-2)).2.1:Int),.int .i64 ((yP E (j-2)).2.2:Int)]:=λj h1 h2=>pI E (by omega);generalize hv:yP E k=t at a1 a2 a3 a4 a5 a6 hg hlv;obtain⟨v,lo,hi⟩:=t;simp only at a1 a2 a3 a4 a5 a6 hg hlv;have c1:¬ (v:Int)<0:=by omega
 have c2:¬ (n:Int)<=(v:Int):=by omega
 have c3:¬ (lo:Int)<0:=by omega
 have c4:¬ ((k+1:Nat):Int)<(lo:Int):=by omega
 have c5:¬ (hi:Int)<0:=by omega
 have c6:¬ ((k+1:Nat):Int)<(hi:Int):=by omega
 have c7:((lo:Int)== (hi:Int))= false:=by rw [beq_eq_false_iff_ne]; omega
 have e1:IntKind.i64.wrap ((k:Int)+ 1)= ((k+1:Nat):Int):=vX (by omega);refine yS func59 Ll λhf=>?_;simp only [simprocAttr,-ZA,↓zU,↓zD,zV,zT,zW,yA,xD,vP,hg,c1,c2,c3,c4,c5,c6,c7,e1]
 (repeat refine sd ?_)
 refine yM (λi:Nat=>[(60,.int .i64 i),(59,.int .i64 2),(58,.sl 1 (tY [lo,hi])),(5,.ref 1 3 0 0),(2,.ref 0 3 0 0)]) (λ_=>⟨2,[(1,⟨3,[[.int .i64 (v:Int),.int .i64 (lo:Int),.int .i64 (hi:Int)]]⟩),(0,⟨3,[[.int .i64 (n:Int),.sl 3 (vJ E),.int .i64 (r:Int)]]⟩)]⟩) (λi=>i<=2) (λi=>2-i) 0 (γ _) ?_ ?_
 ·(refine yJ.same ?_; simp [vI,Fr.get,tY,List.map_cons,List.map_nil])
 intro i hi2;refine wH mixed ?_;by_cases h2:i<2
 case neg=>
  have hd:¬ ((i:Int)<2):=by omega
  refine yK hd ?_;exact .dv
 have hd:((i:Int)<2):=by omega
 have hgi:=qO [lo,hi] (i:=i) (by simpa using h2);have hnl:(tY [lo,hi]).length=2:=rfl
 have hx:[lo,hi].getD i 0<k+2/\v<uR E ([lo,hi].getD i 0):=by
  rcases(show i=0\/i=1 by omega) with rfl | rfl
  ·exact⟨a2,a5⟩
  ·exact⟨a3,a6⟩
 generalize [lo,hi].getD i 0=x at hgi hx;by_cases c:2<=x
 case neg=>
  have d1:¬ (1:Int)<(x:Int):=by omega
  refine Qw hd hgi hnl d1 ?_;refine⟨i+1,by omega,?_,by omega⟩;exact jG
 have d1:(1:Int)<(x:Int):=by omega
 have d2:IntKind.i64.wrap ((x:Int)-2)= ((x-2:Nat):Int):=by rw [wrap_i64 (by omega)]; omega
 have d3:=hgj x c hx.1;have d4:=hlv x c hx.1 hx.2;refine PR hd hgi hnl d1 d2 d3 d4 vP ?_;refine⟨i+1,by omega,?_,by omega⟩;exact jG
theorem Rw (E:List yH):zX prog 63 [.sl 3 (vJ E),.sl 3 (vJ E)] (.bool true):=by
 refine yS func63 Lq λhf=>?_;simp only [D.pJ,D.fact,vP] at hf;have hmx:maxLen=9223372036854775807:=rfl;have q:((E.length:Int) != (E.length:Int))= false:=by simp
 refine sC vP q ?_
 refine yM (λi:Nat=>[(13,.int .i64 i),(12,.int .i64 E.length),(1,.sl 3 (vJ E)),(0,.sl 3 (vJ E))]) (λ_=>⟨0,[]⟩) (λi=>i<=E.length) (λi=>E.length-i) 0 (γ _) ?_ ?_
 ·exact lQ
 intro i hi;refine wH mixed ?_;by_cases h:i<E.length
 case neg=>
  have hd:¬ ((i:Int)<(E.length:Int)):=by omega
  refine yK hd ?_;exact .same
 have hd:((i:Int)<(E.length:Int)):=by omega
 have hg:=pI E h;refine eG hd vP hg ?_;rw [if_neg (by simp)];refine⟨i+1,by omega,?_,by omega⟩;exact jG
namespace Bd
def lR (l:List yH):List (List Int × D):=l.map λt=>(rV t,.bool true)
theorem pr (l:List yH):∀ p ∈ lR l,p.1.length=3:=by intro p hp;obtain⟨t,_,rfl⟩:=η.1 hp;rfl
theorem uf {t:yH}:∀ {l:List yH} {i:Nat},t ∉ l->uJ (rV t) (lR l) i=none
 | [],_,_=>rfl
 | s :: r,i,h=>by show (if rV t=rV s then _ else uJ (rV t) (lR r) (i+1))= none;rw [if_neg λe=>h (by rw [ve e]; simp)];exact uf λhm=>h (List.mem_cons_of_mem _ hm)
theorem XZ (l:List yH):∀ e ∈ vZ (lR l),D.xT e=true:=by intro e he;obtain⟨p,hp,rfl⟩:=η.1 he;obtain⟨t,_,rfl⟩:=η.1 hp;rfl
theorem at_mem {l:List yH} {t:yH} (h:t ∈ l):∃ j,j<l.length/\yP l j=t:=by obtain⟨j,hj,e⟩:=List.getElem_of_mem h;exact⟨j,hj,by rw [<- e]; simp [yP,List.getD,hj]⟩
end Bd
theorem dh {C:Cx} {ms:List Nat} {l:List xN} {s:Nat} {xs:List Nat} {y:Nat} {f:Fr} {σ:St} {Q:Exit->Fr->St->Prop}:si C (.mK ms l s xs y) Q f σ=wpS C (.mK ms l s xs y) f σ Q:=by rw [rI]; rfl
theorem Re {n r:Nat} {E:List yH} (hD:eI n E r) (hn:n<=9):zX prog 35 [yA n E r] (.int .i64 0):=by
 have hl:=Zq hD hn;have hI:=hD.inv;have hr:=hD.lt;have c1:¬ (n:Int)<0:=by omega
 have c2:¬ (24:Int)<(n:Int):=by omega
 have c3:¬ (4096:Int)<(E.length:Int):=by omega
 refine yS func35 LP λhf=>?_;simp only [simprocAttr,-ZA,↓zU,↓zD,zV,zT,zW,yA,xD,vP,c1,c2,c3]
 (repeat refine sd ?_)
 refine yM (λi:Nat=>[(26,.int .i64 i),(25,.int .i64 E.length),(1,.ref 0 3 0 0)]) (λ_=>⟨1,[(0,⟨3,[xD n E r]⟩)]⟩) (λi=>i<=E.length) (λi=>E.length-i) 0 (γ _) ?_ ?_
 ·(refine yJ.same ?_; simp [vI,Fr.get,xD])
 intro i hi;refine wH mixed ?_
 by_cases h:i<E.length
 ·have hd:((i:Int)<(E.length:Int)):=by omega
  have hs:=Uj (r:=r) hI (by omega) h hl;unfold yA xD at hs;simp only [simprocAttr,-ZA,↓zU,↓zD,zV,zT,zW,hd,xD];refine .go (cq hs) ?_;refine xB ?_;refine⟨i+1,by omega,?_,by omega⟩;exact jG
 have hd:¬ ((i:Int)<(E.length:Int)):=by omega
 simp only [simprocAttr,-ZA,↓zU,↓zD,zV,zT,zW,hd,xD,vP]
 (repeat refine sd ?_)
 refine yM (λi:Nat=>[(40,.int .i64 i),(39,.int .i64 E.length),(38,.sl 3 (vJ E)),(5,.yV 1),(1,.ref 0 3 0 0)]) (λi=>⟨2+i,[(1,⟨0,vZ (lR (E.take i))⟩),(0,⟨3,[xD n E r]⟩)]⟩) (λi=>i<=E.length) (λi=>E.length-i) 0 (γ _) ?_ ?_
 ·(refine yJ.same ?_; simp [vI,Fr.get,xD])
 intro i hi;refine wH mixed ?_
 by_cases h:i<E.length
 ·have hd:((i:Int)<(E.length:Int)):=by omega
  have hg:=pI E h
  have hno:yP E i ∉ E.take i:=λhm=>by
   obtain⟨j,hj,e⟩:=at_mem hm;rw [List.length_take] at hj
   have:yP (E.take i) j=yP E j:=by unfold yP;rw [List.getD,List.getElem?_take_of_lt (by omega)]; rfl
   exact hI.nd j i (by omega) h (by rw [<- this]; exact e)
  have hf0:=uf (i:=0) hno;have x0:¬ 2+i=0:=by omega
  have x1:¬ 2+i=1:=by omega
  have hmg:∀ {nx':Nat} {objs':List (Nat × Ob)} {zero:D} {ok:Bool} {L:D->Prop},St.look objs' 1=some ⟨0,vZ (lR (E.take i))⟩->nU ⟨nx',objs'⟩ 3 zero ok (.yV 1) (.agg [.int .i64 ((yP E i).1:Int),.int .i64 ((yP E i).2.1:Int),.int .i64 ((yP E i).2.2:Int)]) L=L (qV ok zero none):=λ{nx' objs' zero ok L} hlk=>by rw [<- hf0];exact oE hlk (x:=rV (yP E i)) rfl rfl (pr _)
  have hms:∀ {nx':Nat} {objs':List (Nat × Ob)} {x:D} {L:D->St->Prop},St.look objs' 1=some ⟨0,vZ (lR (E.take i))⟩->oZ ⟨nx',objs'⟩ 3 (.yV 1) (.agg [.int .i64 ((yP E i).1:Int),.int .i64 ((yP E i).2.1:Int),.int .i64 ((yP E i).2.2:Int)]) x L=L .uO ⟨nx',wO objs' 1 ⟨0,vZ (lR (E.take i)++ [(rV (yP E i),x)])⟩⟩:=λ{nx' objs' x L} hlk=> kX hlk (y:=rV (yP E i)) rfl rfl (pr _) hf0
  simp only [simprocAttr,-ZA,↓zU,↓zD,zV,zT,zW,hd,vP,hg,x0,x1,hmg,hms,Option.map_none]
  (repeat refine sd ?_)
  refine⟨i+1,by omega,?_,by omega⟩;rw [show lR (E.take i)++ [(rV (yP E i),.bool true)]=lR (E.take (i+1)) by rw [YI h]; simp [lR],show 2+(i+1)= 2+i+1 by omega]
  refine yJ.view (λk=>k) (by simp) (by simp) ?_ ?_ ?_
  ·simp [aK,vw,Fr.get];exact⟨wrap_i64 (by omega),by omega⟩
  ·have hp1:∀ e ∈ vZ (lR (E.take (i+1))),D.xT e=true:=XZ _
   have hp0:∀ e ∈ [xD n E r],D.xT e=true:=λe he=>by rw [ζ.1 he]; rfl
   simp [stays,St.get,St.look,x0,x1];exact⟨⟨by omega,.same hp1⟩,.same hp0⟩
  ·simp [wQ]
 have hd:¬ ((i:Int)<(E.length:Int)):=by omega
 have c4:¬ (r:Int)<0:=by omega
 have c5:¬ ((E.length+1:Nat):Int)<(r:Int):=by omega
 have c6:IntKind.i64.wrap ((E.length:Int)+ 1)= ((E.length+1:Nat):Int):=vX (by omega);simp only [simprocAttr,-ZA,↓zU,↓zD,zV,zT,zW,hd,xD,vP,c4,c6,c5]
 (repeat refine sd ?_)
 refine .go ud ?_;refine xB ?_;rw [dh]
 have hsto:fJ (2+i+1+1) (2+i) (2+i+1) (2+i+3) [] [] (2+i+3+1) (yi (2+i) [(1,⟨0,vZ (lR (E.take i))⟩),(0,⟨3,[xD n E r]⟩)]):=Y6 λk o hk=>by
  simp only [St.look] at hk
  split at hk
  ·omega
  ·split at hk
   ·omega
   ·cases hk
 refine Uz (f':=mc (2+i+1+1) 0) (yJ.same (by simp [vI,mc,Fr.get])) ?_;refine Py (r:=r) (n:=n) (E:=E) rfl rfl hD hn hsto (by simp [yi,St.look,show ¬ 2+i=0 by omega]) ⟨by omega,by omega,by omega,by omega,by omega⟩ λa ha=>?_;have x1:¬ a=0:=by omega
 have x2:((r:Int) != (r:Int))= false:=by simp
 simp only [simprocAttr,-ZA,↓zU,↓zD,zV,zT,zW,xD,x1,x2];refine .go (cq (Rw E)) ?_;refine xB ?_;exact .dv
open Rs Bd Fm
namespace Bd
def PT (g:FuncId) (len:Nat) (F:(Nat->Bool)->Bool):Prop:=
 ∀ {n ks km kk kn kx nx:Nat} {S:List yH} {xX:List (Nat × Ob)} {xs:List Nat},n<=8->sU n S->fJ ks km kk kn S [] nx xX->St.look xX kx=some ⟨1,tY xs⟩->xs.length=len->(∀ j,j<len->xs.getD j 0<S.length+2) ->
  (kx<nx/\kx≠ks/\kx≠km/\kx≠kk/\kx≠kn)->S.length<=1000 ->
  ∃ (nx':Nat) (objs':List (Nat × Ob)) (kn' r:Nat) (S':List yH) (K':Mem),xU prog g [.ref ks 3 0 0,.wZ kx 1 len] ⟨nx,xX⟩ (.int .i64 (r:Int)) ⟨nx',objs'⟩/\ fJ ks km kk kn' S' K' nx' objs'/\TL ks km kk kn kn' nx nx' xX objs' /\
   sU n S'/\r<S'.length+2/\S'.length<=3000/\∀ w,den S' n r w=F λj=>den S n (xs.getD j 0) w
theorem cZ {n a b c:Nat}:n<=yv a b c+n:=Nat.le_add_left _ _
theorem Vx {n:Nat} (h:n<=8):2 ^ n<=256:=δ (by decide) h
end Bd
theorem Ol : PT 47 1 λv=>!v 0:=by
 intro n ks km kk kn kx nx S xX xs hn hI hS hx hl hlt hk hlS;have hp:=Vx hn;have x0:=hlt 0 (by omega);obtain⟨nx',objs',kn',r,S',K',call,St',F',I',L',_⟩:=ef (n:=n) (by omega) n hI .nil hS x0 (show 0<S.length+2 by omega) (show 1<S.length+2 by omega) cZ (by omega) (by simp; omega)
 refine⟨nx',objs',kn',r,S',K',?_,St',F',I'.inv,I'.lt,by omega,λw=>?_⟩
 ·have hg:=qO xs (i:=0) (by omega);refine yS func47 Lc λhf=>?_;refine Qw hx hg nM hl ?_;refine .go call ?_;refine xB ?_;exact .same
 ·rw [I'.den w,xA (i:=0) (by omega),xA (i:=1) (by omega)];show _=!den S n (xs.getD 0 0) w;unfold fj;cases den S n (xs.getD 0 0) w <;> rfl
theorem OU : PT 49 2 λv=>v 0&&v 1:=by
 intro n ks km kk kn kx nx S xX xs hn hI hS hx hl hlt hk hlS;have hp:=Vx hn;have x0:=hlt 0 (by omega);have x1:=hlt 1 (by omega);obtain⟨nx',objs',kn',r,S',K',call,St',F',I',L',_⟩:=ef (n:=n) (by omega) n hI .nil hS x0 x1 (show 0<S.length+2 by omega) cZ (by omega) (by simp; omega)
 refine⟨nx',objs',kn',r,S',K',?_,St',F',I'.inv,I'.lt,by omega,λw=>?_⟩
 ·have hg:=qO xs (i:=0) (by omega);have hg1:=qO xs (i:=1) (by omega);have hx':St.look objs' kx=some ⟨1,tY xs⟩:=(F'.xC kx hk.1 hk.2.1 hk.2.2.1 hk.2.2.2.1 hk.2.2.2.2).trans hx;refine yS func49 Ld λhf=>?_;refine TD hx hg hg1 nM hl ?_;refine .go call ?_;refine TD hx' hg hg1 nM hl ?_;exact .same
 ·rw [I'.den w,xA (i:=0) (by omega)];show _=(den S n (xs.getD 0 0) w&&den S n (xs.getD 1 0) w);unfold fj;cases den S n (xs.getD 0 0) w <;> rfl
theorem MF : PT 50 2 λv=>v 0 || v 1:=by
 intro n ks km kk kn kx nx S xX xs hn hI hS hx hl hlt hk hlS;have hp:=Vx hn;have x0:=hlt 0 (by omega);have x1:=hlt 1 (by omega);obtain⟨nx',objs',kn',r,S',K',call,St',F',I',L',_⟩:=ef (n:=n) (by omega) n hI .nil hS x0 (show 1<S.length+2 by omega) x1 cZ (by omega) (by simp; omega)
 refine⟨nx',objs',kn',r,S',K',?_,St',F',I'.inv,I'.lt,by omega,λw=>?_⟩
 ·have hg:=qO xs (i:=0) (by omega);have hg1:=qO xs (i:=1) (by omega);have hx':St.look objs' kx=some ⟨1,tY xs⟩:=(F'.xC kx hk.1 hk.2.1 hk.2.2.1 hk.2.2.2.1 hk.2.2.2.2).trans hx;refine yS func50 Le λhf=>?_;refine TD hx hg hg1 nM hl ?_;refine .go call ?_;refine TD hx' hg hg1 nM hl ?_;exact .same
 ·rw [I'.den w,xA (i:=1) (by omega)];show _=(den S n (xs.getD 0 0) w || den S n (xs.getD 1 0) w);unfold fj;cases den S n (xs.getD 0 0) w <;> rfl
open Rs Bd Fm
namespace Bd
def TI : List xN:=[⟨some 5,none,.mv (.t 0)⟩,⟨some 6,none,.mv (.t 1)⟩,⟨some 7,none,.idx 1 (.t 6) (.c (.int .i64 0))⟩,⟨some 8,none,.load 1 false (.t 7)⟩,⟨some 9,none,.mv (.t 0)⟩,⟨some 10,none,.mv (.t 1)⟩,⟨some 11,none,.idx 1 (.t 10) (.c (.int .i64 1))⟩,⟨some 12,none,.load 1 false (.t 11)⟩,⟨some 13,none,.call (.c (.fn 48 [])) [.t 9,.t 12,.c (.int .i64 0),.c (.int .i64 1)]⟩,⟨some 14,none,.mv (.t 1)⟩,⟨some 15,none,.idx 1 (.t 14) (.c (.int .i64 1))⟩,⟨some 16,none,.load 1 false (.t 15)⟩,⟨some 17,none,.call (.c (.fn 48 [])) [.t 5,.t 8,.t 13,.t 16]⟩,⟨some 4,none,.mv (.t 17)⟩]
def Kx : List Nat:=[0,0,2,6,0,0,32,96,240,0,512,1536,4095,8191]
def TH (ks kx:Nat):Fr:=[(4,.int .i64 0),(0,.ref ks 3 0 0),(1,.wZ kx 1 2)]
def fy (ks kx x0 x1 r1 r2:Nat) (σ0 σ1 σ2:St):List (D × St):=[(.ref ks 3 0 0,σ0),(.wZ kx 1 2,σ0),(.ref kx 1 0 0,σ0),(.int .i64 (x0:Int),σ0),(.ref ks 3 0 0,σ0),(.wZ kx 1 2,σ0),(.ref kx 1 1 0,σ0),(.int .i64 (x1:Int),σ0),(.int .i64 (r1:Int),σ1),(.wZ kx 1 2,σ1),(.ref kx 1 1 0,σ1),(.int .i64 (x1:Int),σ1),(.int .i64 (r2:Int),σ2),(.int .i64 (r2:Int),σ2)]
theorem Qh {ks kx x0 x1 r1 r2:Nat} {σ0 σ1 σ2:St} (p:Nat) (hp:p<=14):zB ((fy ks kx x0 x1 r1 r2 σ0 σ1 σ2).take p) σ0=σ0\/zB ((fy ks kx x0 x1 r1 r2 σ0 σ1 σ2).take p) σ0=σ1\/zB ((fy ks kx x0 x1 r1 r2 σ0 σ1 σ2).take p) σ0=σ2:=by rcases(show p=0\/p=1\/p=2\/p=3\/p=4\/p=5\/p=6\/p=7\/p=8\/p=9\/p=10\/p=11\/p=12\/p=13\/p=14 by omega) with rfl | rfl | rfl | rfl | rfl | rfl | rfl | rfl | rfl | rfl | rfl | rfl | rfl | rfl | rfl <;> simp [fy,zB]
def Lx : xN:=⟨some 8,none,.load 1 false (.t 7)⟩
def M3 : xN:=⟨some 12,none,.load 1 false (.t 11)⟩
def PS : xN:=⟨some 16,none,.load 1 false (.t 15)⟩
end Bd
theorem Qi {C:Cx} (hP:C.P=prog) {ks kx x0 x1 r1 r2:Nat} {σ0 σ1 σ2:St} {xs:List Nat} (hx:xs = [x0,x1]) (h0:St.look σ0.xX kx=some ⟨1,tY xs⟩) (h1:St.look σ1.xX kx=some ⟨1,tY xs⟩) (h2:St.look σ2.xX kx=some ⟨1,tY xs⟩)
  (c1:xU prog 48 [.ref ks 3 0 0,.int .i64 (x1:Int),.int .i64 0,.int .i64 1] σ0 (.int .i64 (r1:Int)) σ1) (c2:xU prog 48 [.ref ks 3 0 0,.int .i64 (x0:Int),.int .i64 (r1:Int),.int .i64 (x1:Int)] σ1 (.int .i64 (r2:Int)) σ2) {Q:Exit->Fr->St->Prop}
  (hQ:Q .normal (wM TI (fy ks kx x0 x1 r1 r2 σ0 σ1 σ2) (TH ks kx)) σ2):wpS C (.mK Kx TI 14 [8,12] 14) (TH ks kx) σ0 Q:=by
 subst hx
 refine vy (hP ▸ mixed) (tr:=fy ks kx x0 x1 r1 r2 σ0 σ1 σ2) ⟨?_,rfl,λi hi hm=>?_,?_,λh=>by omega⟩ hQ
 ·unfold TI fy TH;refine .cons (by simp [xR,zC,pW,wP,Fr.get,Fr.put]) ?_;refine .cons (by simp [xR,zC,pW,wP,Fr.get,Fr.put]) ?_;refine .cons (by simp [xR,zC,pW,wP,Fr.get,Fr.put]) ?_;refine .cons (by simp [xR,zC,pW,wP,Fr.get,Fr.put,St.get,h0,tY,vR]) ?_;refine .cons (by simp [xR,zC,pW,wP,Fr.get,Fr.put]) ?_;refine .cons (by simp [xR,zC,pW,wP,Fr.get,Fr.put]) ?_;refine .cons (by simp [xR,zC,pW,wP,Fr.get,Fr.put]) ?_;refine .cons (by simp [xR,zC,pW,wP,Fr.get,Fr.put,St.get,h0,tY,vR]) ?_
  refine .cons (by simp only [xR,zC,pW,wP,Fr.get,Fr.put,hP];exact jH.go c1 ⟨rfl,rfl⟩) ?_
  refine .cons (by simp [xR,zC,pW,wP,Fr.get,Fr.put]) ?_;refine .cons (by simp [xR,zC,pW,wP,Fr.get,Fr.put]) ?_;refine .cons (by simp [xR,zC,pW,wP,Fr.get,Fr.put,St.get,h1,tY,vR]) ?_
  refine .cons (by simp only [xR,zC,pW,wP,Fr.get,Fr.put,hP];exact jH.go c2 ⟨rfl,rfl⟩) ?_
  exact .cons (by simp [xR,zC,pW,wP,Fr.get,Fr.put]) .nil
 ·rcases(show i=0\/i=1\/i=2\/i=3\/i=4\/i=5\/i=6\/i=7\/i=8\/i=9\/i=10\/i=11\/i=12\/i=13 by omega) with rfl | rfl | rfl | rfl | rfl | rfl | rfl | rfl | rfl | rfl | rfl | rfl | rfl | rfl <;> first | rfl | (exact absurd hm (by decide))
 ·intro i dop p hi hm hp hd hsil _
  have hg:St.look (zB ((fy ks kx x0 x1 r1 r2 σ0 σ1 σ2).take p) σ0).xX kx=some ⟨1,tY [x0,x1]⟩:=by
   rcases Qh (ks:=ks) (kx:=kx) (x0:=x0) (x1:=x1) (r1:=r1) (r2:=r2) (σ0:=σ0) (σ1:=σ1) (σ2:=σ2) p (by omega) with h | h | h <;> rw [h]
   ·exact h0
   ·exact h1
   ·exact h2
  generalize zB ((fy ks kx x0 x1 r1 r2 σ0 σ1 σ2).take p) σ0=τ at hg
  have hcase:(i=3/\dop=Lx)\/(i=7/\dop=M3)\/(i=11/\dop=PS):=by rcases(show i=0\/i=1\/i=2\/i=3\/i=4\/i=5\/i=6\/i=7\/i=8\/i=9\/i=10\/i=11\/i=12\/i=13 by omega) with rfl | rfl | rfl | rfl | rfl | rfl | rfl | rfl | rfl | rfl | rfl | rfl | rfl | rfl <;> first | (exact absurd hm (by decide)) | (cases hd; first | (exact .inl ⟨rfl,rfl⟩) | (exact .inr (.inl ⟨rfl,rfl⟩)) | (exact .inr (.inr ⟨rfl,rfl⟩)) | (cases hsil))
  rcases hcase with ⟨rfl,rfl⟩ | ⟨rfl,rfl⟩ | ⟨rfl,rfl⟩
  ·have h3:(wM (TI.take 3) ((fy ks kx x0 x1 r1 r2 σ0 σ1 σ2).take 3) (TH ks kx)).get 7 = .ref kx 1 0 0:=rfl;generalize wM (TI.take 3) ((fy ks kx x0 x1 r1 r2 σ0 σ1 σ2).take 3) (TH ks kx)= F at h3 ⊢;simp [xR,Lx,zC,pW,wP,h3,St.get,hg,tY,vR,wK,fy]
  ·have h3:(wM (TI.take 7) ((fy ks kx x0 x1 r1 r2 σ0 σ1 σ2).take 7) (TH ks kx)).get 11 = .ref kx 1 1 0:=rfl;generalize wM (TI.take 7) ((fy ks kx x0 x1 r1 r2 σ0 σ1 σ2).take 7) (TH ks kx)= F at h3 ⊢;simp [xR,M3,zC,pW,wP,h3,St.get,hg,tY,vR,wK,fy]
  ·have h3:(wM (TI.take 11) ((fy ks kx x0 x1 r1 r2 σ0 σ1 σ2).take 11) (TH ks kx)).get 15 = .ref kx 1 1 0:=rfl;generalize wM (TI.take 11) ((fy ks kx x0 x1 r1 r2 σ0 σ1 σ2).take 11) (TH ks kx)= F at h3 ⊢;simp [xR,PS,zC,pW,wP,h3,St.get,hg,tY,vR,wK,fy]
theorem Ov : PT 51 2 λv=>v 0 != v 1:=by
 intro n ks km kk kn kx nx S xX xs hn hI hS hx hl hlt hk hlS;have hp:=Vx hn;have b0:=hlt 0 (by omega);have b1:=hlt 1 (by omega);obtain⟨nx1,objs1,kn1,r1,S1,K1,call1,St1,F1,I1,L1,M1⟩:=ef (n:=n) (by omega) n hI .nil hS b1 (show 0<S.length+2 by omega) (show 1<S.length+2 by omega) cZ (by omega) (by simp; omega);obtain⟨T,rfl⟩:=I1.pre;have hTl:(S++T).length=S.length+T.length:=κ;obtain⟨nx2,objs2,kn2,r2,S2,K2,call2,St2,F2,I2,L2,M2⟩:=ef (n:=n) (by omega) n I1.inv I1.mem St1 (show xs.getD 0 0<(S++T).length+2 by omega) I1.lt (show xs.getD 1 0<(S++T).length+2 by omega) cZ (by omega) (by simp at M1; omega);have hx1:St.look objs1 kx=some ⟨1,tY xs⟩:=(F1.xC kx hk.1 hk.2.1 hk.2.2.1 hk.2.2.2.1 hk.2.2.2.2).trans hx;have q1:=F1.le;have q2:=F1.new;have hx2:St.look objs2 kx=some ⟨1,tY xs⟩:=(F2.xC kx (by omega) hk.2.1 hk.2.2.1 hk.2.2.2.1 (by omega)).trans hx1
 have hxs:xs = [xs.getD 0 0,xs.getD 1 0]:=by
  match xs,hl with
  | [a,b],_=>rfl
 refine⟨nx2,objs2,kn2,r2,S2,K2,?_,St2,F1.trans F2,I2.inv,I2.lt,by omega,λw=>?_⟩
 ·refine yS func51 Lf λhf=>?_;refine xB ?_;rw [dh];refine Qi (r1:=r1) (r2:=r2) rfl hxs hx hx1 hx2 call1 call2 ?_;refine xB ?_;exact .same
 ·rw [I2.den w,uB hI _ _ _ b0,uB hI _ _ _ b1,I1.den w,xA (i:=0) (by omega),xA (i:=1) (by omega)];show _=(den S n (xs.getD 0 0) w != den S n (xs.getD 1 0) w);unfold fj;cases den S n (xs.getD 0 0) w <;> cases den S n (xs.getD 1 0) w <;> rfl
open Rs Bd Fm
namespace Bd
abbrev kO :=List (List yH × Nat)
def vH (n:Nat) (ds:kO):List (List D):=ds.map λp=>xD n p.1 p.2
def mA (ds:kO) (j:Nat):List yH × Nat:=ds.getD j ([],0)
theorem yB (n:Nat) (ds:kO):(vH n ds).length=ds.length:=by simp [vH]
theorem qC (n:Nat) (ds:kO) {j:Nat} (h:j<ds.length):(vH n ds).getD j []=xD n (mA ds j).1 (mA ds j).2:=by simp [vH,mA,List.getD,h]
def zf (n:Nat) (ds:kO) (w:Nat->Bool) (j:Nat):Bool:=den (mA ds j).1 n (mA ds j).2 w
def Yb : Ob:=⟨3,[[.int .i64 0,.xI,.int .i64 0]]⟩
structure MQ where
 nx:Nat
 xX:List (Nat × Ob)
 kn:Nat
 kx:Nat
 S:List yH
 xs:List Nat
structure Qp (n ks km kk : Nat) (ds : kO) (i : Nat) (a : MQ) : Prop where
 WB:fJ ks km kk a.kn a.S [] a.nx a.xX
 inv:sU n a.S
 len:a.S.length<=256*i
 xl:a.xs.length=i
 num:∀ j,j<i->a.xs.getD j 0<a.S.length+2/\∀ w,den a.S n (a.xs.getD j 0) w=zf n ds w j
 z:St.look a.xX 0=some Yb
 x:St.look a.xX a.kx=wW 1 (tY a.xs)
 kx:0<a.kx/\a.kx<a.nx/\a.kx≠ks/\a.kx≠km/\a.kx≠kk/\a.kx≠a.kn
 KV:0<ks/\0<km/\0<kk/\0<a.kn
def OM (n ks:Nat) (ds:kO) (i:Nat) (a b:MQ):Prop:=∃ nx' objs' r,xU prog 62 [.ref ks 3 0 0,yA n (mA ds i).1 (mA ds i).2] ⟨a.nx+1,(a.nx,⟨3,[xD n (mA ds i).1 (mA ds i).2]⟩) :: a.xX⟩ (.int .i64 ((r:Nat):Int)) ⟨nx',objs'⟩/\
 b.nx=nx'+1/\b.xs=a.xs ++ [r]/\b.xX=yX nx' 1 (tY (a.xs ++ [r]))++ yE objs' a.kx/\b.kx=nx'/\St.look objs' a.kx=wW 1 (tY a.xs)
theorem PM {l:List Nat} (h:0<l.length):wW 1 (tY l)= some ⟨1,tY l⟩:=by
 cases l with
 | nil=>simp at h
 | cons a r=>simp [tY,wW]
theorem ME {k:Nat} {l:List Nat} (h:0<l.length):xJ k 1 (tY l)= .wZ k 1 l.length:=by
 cases l with
 | nil=>simp at h
 | cons a r=>simp [tY,xJ]
theorem QH {n ks km kk:Nat} {ds:kO} (hn:n<=8) (hds:∀ j,j<ds.length->eI n (mA ds j).1 (mA ds j).2) (hl:ds.length<=3) (i:Nat) (hi:i<ds.length) (a:MQ) (h:Qp n ks km kk ds i a):∃ b,OM n ks ds i a b/\Qp n ks km kk ds (i+1) b:=by
 obtain⟨WB,inv,len,xl,num,z,x,⟨k1,k2,k3,k4,k5,k6⟩,⟨s1,s2,s3,s4⟩⟩:=h;have hD:=hds i hi;have hp:=Vx hn;have hlE:=hD.len;have slt:=WB.lt
 have s0:fJ ks km kk a.kn a.S [] (a.nx+1) ((a.nx,⟨3,[xD n (mA ds i).1 (mA ds i).2]⟩) :: a.xX):=WB.mono (by omega) λk hk=>by rw [xY,if_neg (by omega)]
 obtain⟨nx',objs',kn',call,St',F⟩:=VL (r:=(mA ds i).2) hD.inv inv s0 hD.lt (by omega) (by omega);have L:=ja hD.inv inv (mA ds i).1.length (ε _);have q1:=F.le;have q2:=F.new;generalize wN (mA ds i).1 a.S (mA ds i).1.length=p at call St' L;obtain⟨to,S'⟩:=p;simp only at call St' L;obtain⟨tl,⟨T,rfl,hT⟩,inv',hto⟩:=L;obtain⟨t1,t2,t3⟩:=hto _ hD.lt;have hlt:=St'.lt
 have kp:∀ k,k<a.nx->k≠ks->k≠km->k≠kk->k≠a.kn->St.look objs' k=St.look a.xX k:=λk g1 g2 g3 g4 g5=>by rw [F.xC k (by omega) g2 g3 g4 g5,xY,if_neg (by omega)]
 have hTl:(a.S++T).length=a.S.length+T.length:=κ
 refine⟨⟨nx'+1,yX nx' 1 (tY (a.xs ++ [to.getD (mA ds i).2 0]))++ yE objs' a.kx,kn',nx',a.S++T,a.xs ++ [to.getD (mA ds i).2 0]⟩,⟨nx',objs',to.getD (mA ds i).2 0,call,rfl,rfl,rfl,rfl,(kp _ k2 k3 k4 k5 k6).trans x⟩,⟨?_,inv',by simp only; omega,by simp [xl],λj hj=>?_,?_,?_,⟨by simp only; omega,by simp only; omega,by simp only; omega,by simp only; omega,by simp only; omega,by simp only; omega⟩,⟨s1,s2,s3,by simp only; omega⟩⟩⟩
 ·refine St'.mono (by simp only; omega) λk hk=>?_;simp only;rw [xG,if_neg (by omega),xK,if_neg (by omega)]
 ·simp only
  by_cases c:j<i
  ·obtain⟨g1,g2⟩:=num j c;rw [zJ (by omega)];exact⟨by omega,λw=>by rw [uB inv _ _ _ g1]; exact g2 w⟩
  ·obtain rfl:j=a.xs.length:=by omega
   rw [uP];exact⟨t1,λw=>by rw [t3 w,xl]; rfl⟩
 ·simp only;rw [xG,if_neg (by omega),xK,if_neg (by omega),kp 0 (by omega) (by omega) (by omega) (by omega) (by omega)]; exact z
 ·simp only;rw [xG,if_pos rfl,PM (by simp)]; rfl
end Bd
theorem gF {g:FuncId} {F:(Nat->Bool)->Bool} {n:Nat} {ds:kO} (hn:n<=8) (hop:PT g ds.length F) (hds:∀ j,j<ds.length->eI n (mA ds j).1 (mA ds j).2) (hl:ds.length<=3) (h1:1<=ds.length) :
  ∃ E r,eI n E r/\(∀ w,den E n r w=F (zf n ds w))/\ zX prog 46 [.fn g [],.sl 3 (vH n ds)] (.yD [yA n E r,.int .i64 0]):=by
 have hsto:fJ (1+ds.length+1+1) (1+ds.length) (1+ds.length+1) (1+ds.length+3) [] [] (1+ds.length+3+1) (yi (1+ds.length) [(0,Yb)]):=Y6 λk o hk=>by
  simp only [St.look] at hk
  split at hk
  ·omega
  ·cases hk
 have h0:Qp n (1+ds.length+1+1) (1+ds.length) (1+ds.length+1) ds 0 ⟨1+ds.length+3+1,yi (1+ds.length) [(0,Yb)],1+ds.length+3,1,[],[]⟩:=by
  refine⟨hsto,jd n,by simp,rfl,λj hj=>by omega,?_,?_,⟨by simp,by simp only; omega,by simp only; omega,by simp only; omega,by simp only; omega,by simp only; omega⟩,⟨by omega,by omega,by omega,by simp only; omega⟩⟩
  ·simp [yi,St.look,show ¬ 1+ds.length=0 by omega]
  ·have:ds ≠ []:=λe=>by rw [e] at h1; simp at h1
   simp [yi,St.look,tY,wW,this,show ¬ 1+ds.length+1=1 by omega]
 obtain⟨f,f0,fr,fp⟩:=chain h0 ds.length (QH hn hds hl);obtain⟨WB,inv,len,xl,num,z,x,⟨k1,k2,k3,k4,k5,k6⟩,⟨s1,s2,s3,s4⟩⟩:=fp ds.length (ε _);rw [PM (by omega)] at x;obtain⟨nx',objs',kn',r,S',K',call,St',F',I',lt',len',den'⟩:=hop hn inv WB x xl (λj hj=>(num j hj).1) ⟨k2,k3,k4,k5,k6⟩ (by omega);have ex:=af (i:=r) I' St' (by omega) lt' (by omega);obtain⟨V1,V2⟩:=Zv I' lt'
 refine⟨kP n S' r,(zP S' n r []).1,V1,λw=>?_,?_⟩
 ·rw [V2 w,den' w];congr 1;funext j
  by_cases c:j<ds.length
  ·exact(num j c).2 w
  ·have e1:(f ds.length).xs.getD j 0=0:=by simp [List.getD,show (f ds.length).xs.length<=j by omega]
   have e2:mA ds j=([],0):=by simp [mA,List.getD,show ds.length<=j by omega]
   rw [e1];unfold zf;rw [e2,xA (by omega),xA (by omega)]
 refine yS func46 Lb λhf=>?_;refine yK yB ?_
 refine yM (λi:Nat=>[(15,.int .i64 i),(14,.int .i64 ds.length),(13,.sl 3 (vH n ds)),(4,.ref 0 3 0 0),(1,.sl 3 (vH n ds)),(0,.fn g [])]) (λi=>⟨1+i,[(0,Yb)]⟩) (λi=>i<=ds.length) (λi=>ds.length-i) 0 (γ _) ?_ ?_
 ·(refine yJ.same ?_; simp [vI,Fr.get,Yb])
 intro i hi;refine wH mixed ?_
 by_cases h:i<ds.length
 ·have hd:((i:Int)<(ds.length:Int)):=by omega
  have hg:=qC n ds h;have hck:=Re (hds i h) (by omega);unfold yA xD at hck;have y0:¬ 1+i=0:=by omega
  simp only [simprocAttr,-ZA,↓zU,↓zD,zV,zT,zW,hd,yB,hg,xD,y0]
  (repeat refine sd ?_)
  refine .go (cq hck) ?_;refine xB ?_;refine⟨i+1,by omega,?_,by omega⟩;rw [show 1+(i+1)= 1+i+1 by omega]
  refine yJ.view (λk=>k) (by simp) (by simp) ?_ ?_ (by simp [wQ])
  ·simp [aK,vw,Fr.get];exact⟨wrap_i64 (by omega),by simp [sV]⟩
  ·have hp0:∀ e ∈ Yb.xZ,D.xT e=true:=λe he=>by rw [ζ.1 he]; rfl
   simp [stays,St.get,St.look,y0];exact .same hp0
 have hd:¬ ((i:Int)<(ds.length:Int)):=by omega
 obtain rfl:i=ds.length:=by omega
 refine sC hd yB ?_;refine .go ud ?_;refine yK yB ?_
 refine yM (λi:Nat=>[(29,.int .i64 i),(28,.int .i64 ds.length),(27,.sl 3 (vH n ds)),(10,xJ (f i).kx 1 (tY (f i).xs)),(9,.ref (1+ds.length+1+1) 3 0 0),(4,.ref 0 3 0 0),(1,.sl 3 (vH n ds)),(0,.fn g [])]) (λi=>⟨(f i).nx,(f i).xX⟩) (λi=>i<=ds.length) (λi=>ds.length-i) 0 (γ _) ?_ ?_
 ·rw [f0]
  (refine yJ.same ?_; simp [vI,Fr.get,tY,List.map_nil,xJ])
 intro i hi;refine wH mixed ?_
 by_cases h:i<ds.length
 ·have hd:((i:Int)<(ds.length:Int)):=by omega
  have hg:=qC n ds h;have hg0:=qC n ds (show 0<ds.length by omega);obtain⟨nx1,objs1,rr,call1,e1,e2,e3,e4,e5⟩:=fr i h;have hxl:=(fp i hi).xl;have q:((n:Int) != (n:Int))= false:=by simp
  unfold yA xD at call1;simp only [simprocAttr,-ZA,↓zU,↓zD,zV,zT,zW,hd,yB,hg,hg0,xD,q]
  (repeat refine sd ?_)
  refine .go call1 ?_;refine eG e5 nM hxl ?_;refine⟨i+1,by omega,?_,by omega⟩;rw [e1,e2,e3,e4,<- ov];exact jG
 have hd:¬ ((i:Int)<(ds.length:Int)):=by omega
 obtain rfl:i=ds.length:=by omega
 rw [ME (by omega),xl];have hg0:=qC n ds (show 0<ds.length by omega);simp only [simprocAttr,-ZA,↓zU,↓zD,zV,zT,zW,hd,yB,hg0,xD,↓vx,↓qo,↓qp]
 (repeat refine sd ?_)
 refine .go call ?_;simp only [simprocAttr,-ZA,↓zU,↓zD,zV,zT,zW,yB,hg0,xD,↓vx,↓qo,↓qp]
 (repeat refine sd ?_)
 refine .go ex ?_;have hz:St.look objs' 0=some ⟨3,[[.int .i64 0,.xI,.int .i64 0]]⟩:=(F'.xC 0 (by omega) (by omega) (by omega) (by omega) (by omega)).trans z;simp only [simprocAttr,-ZA,↓zU,↓zD,zV,zT,zW,yB,hg0,xD,yA,hz,xV,↓vx,↓qo,↓qp]
 (repeat refine sd ?_)
 exact .drop (by simp) (by simp [vw,sV])
open Rs Bd Fm
namespace Bd
theorem ni {n:Nat} {b:Bool}:eI n [] (if b=true then 1 else 0):=by
 have h2:(if b=true then 1 else 0:Nat)<2:=by split <;> omega
 refine⟨jd n,h2,?_,Nat.one_le_two_pow⟩
 cases n with
 | zero=>exact⟨rfl,rfl⟩
 | succ m=> unfold zP;rw [if_pos h2]; exact⟨rfl,rfl⟩
theorem Zr {n i:Nat} (h:i<n) (hn:n<=24):eI n [(i,0,1)] 2:=by
 refine⟨⟨λk hk=>?_,λa b hab hb=>?_⟩,by simp,?_,?_⟩
 ·obtain rfl:k=0:=by simpa using hk
  simp only [yP,θ];rw [sL (by omega),sL (by omega)];exact⟨h,by omega,by omega,by omega,by omega,by omega⟩
 ·simp at hb; omega
 ·obtain⟨m,rfl⟩:∃ m,n=m+1:=⟨n-1,by omega⟩
  have e:∀ (x:Nat) (O:List (Nat × yH)),x<2->zP [(i,0,1)] m x O=(x,O):=λx O hx=>by
   cases m with
   | zero=>rfl
   | succ m=>unfold zP; rw [if_pos hx]
  unfold zP;rw [if_neg (by omega)];simp [lY,yP,e,qF]
 ·have:2 ^ 1<=2 ^ n:=δ (by decide) (by omega);simpa using this
theorem Rv {n i:Nat} (h:i<n) (hn:n<=24) (w:Nat->Bool):den [(i,0,1)] n 2 w=w i:=by
 have hI:=(Zr h hn).inv;rw [sK hI (by omega) (by simp),rG (by omega)];simp only [yP,Nat.sub_self,θ]
 cases hw:w i
 ·rw [if_neg (by decide),xA (by omega)]; rfl
 ·rw [if_pos rfl,xA (by omega)]; rfl
end Bd
theorem Zh {n:Nat} (hn:n<=24) (b:Bool):zX prog 24 [.int .i64 (n:Int),.bool b] (.yD [yA n [] (if b=true then 1 else 0),.int .i64 0]):=by
 have c1:¬ (n:Int)<0:=by omega
 have c2:¬ (24:Int)<(n:Int):=by omega
 cases b
 ·refine yS func24 MU λhf=>?_;refine sC c1 c2 ?_;exact .drop (by simp) (by simp [vw,sV,yA,xD,vJ])
 ·refine yS func24 MU λhf=>?_;refine sC c1 c2 ?_;exact .drop (by simp) (by simp [vw,sV,yA,xD,vJ])
theorem OR {n i:Nat} (hn:n<=24) (hi:i<n):zX prog 25 [.int .i64 (n:Int),.int .i64 (i:Int)] (.yD [yA n [(i,0,1)] 2,.int .i64 0]):=by
 have c1:¬ (n:Int)<0:=by omega
 have c2:¬ (24:Int)<(n:Int):=by omega
 have c3:¬ (i:Int)<0:=by omega
 have c4:¬ (n:Int)<=(i:Int):=by omega
 refine yS func25 LF λhf=>?_;refine se c1 c2 c3 c4 ?_;refine⟨rfl,?_⟩;exact .drop (by simp) (by simp [vw,sV,yA,xD,vJ,ku])
theorem VW {n r:Nat} {E:List yH} (hn:n<=8) (h:eI n E r):∃ E' r',eI n E' r'/\(∀ w,den E' n r' w=!den E n r w)/\ zX prog 26 [yA n E r] (.yD [yA n E' r',.int .i64 0]):=by
 obtain⟨E',r',D,hd,hr⟩:=gF (ds:=[(E,r)]) hn @Ol (λj hj=>by
  obtain rfl:j=0:=by simpa using hj
  exact h) (by simp) (by simp)
 refine⟨E',r',D,λw=>hd w,?_⟩;have e:vH n [(E,r)] = [[.int .i64 (n:Int),.sl 3 (vJ E),.int .i64 (r:Int)]]:=rfl;rw [e] at hr;unfold yA xD at hr ⊢;refine yS func26 LG λhf=>?_;refine xB ?_;refine⟨rfl,?_⟩;refine .go (cq hr) ?_;refine xB ?_;exact .drop (by simp) (by simp [vw,sV])
theorem iz {n r s:Nat} {E G:List yH} (h:eI n E r) (h':eI n G s):∀ j,j < [(E,r),(G,s)].length->eI n (mA [(E,r),(G,s)] j).1 (mA [(E,r),(G,s)] j).2:=λj hj=>by
 rcases(show j=0\/j=1 by simp at hj; omega) with rfl | rfl
 ·exact h
 ·exact h'
theorem OH {n r s:Nat} {E G:List yH} (hn:n<=8) (h:eI n E r) (h':eI n G s):∃ E' r',eI n E' r'/\(∀ w,den E' n r' w=(den E n r w&&den G n s w))/\ zX prog 27 [yA n E r,yA n G s] (.yD [yA n E' r',.int .i64 0]):=by obtain⟨E',r',D,hd,hr⟩:=gF (ds:=[(E,r),(G,s)]) hn @OU (iz h h') (by simp) (by simp);refine⟨E',r',D,λw=>hd w,?_⟩;have e:vH n [(E,r),(G,s)] = [[.int .i64 (n:Int),.sl 3 (vJ E),.int .i64 (r:Int)],[.int .i64 (n:Int),.sl 3 (vJ G),.int .i64 (s:Int)]]:=rfl;rw [e] at hr;unfold yA xD at hr ⊢;refine yS func27 LH λhf=>?_;refine xB ?_;refine⟨rfl,?_⟩;refine .go (cq hr) ?_;refine xB ?_;exact .drop (by simp) (by simp [vw,sV])
theorem P6 {n r s:Nat} {E G:List yH} (hn:n<=8) (h:eI n E r) (h':eI n G s):∃ E' r',eI n E' r'/\(∀ w,den E' n r' w=(den E n r w || den G n s w))/\ zX prog 28 [yA n E r,yA n G s] (.yD [yA n E' r',.int .i64 0]):=by obtain⟨E',r',D,hd,hr⟩:=gF (ds:=[(E,r),(G,s)]) hn @MF (iz h h') (by simp) (by simp);refine⟨E',r',D,λw=>hd w,?_⟩;have e:vH n [(E,r),(G,s)] = [[.int .i64 (n:Int),.sl 3 (vJ E),.int .i64 (r:Int)],[.int .i64 (n:Int),.sl 3 (vJ G),.int .i64 (s:Int)]]:=rfl;rw [e] at hr;unfold yA xD at hr ⊢;refine yS func28 LI λhf=>?_;refine xB ?_;refine⟨rfl,?_⟩;refine .go (cq hr) ?_;refine xB ?_;exact .drop (by simp) (by simp [vw,sV])
theorem OT {n r s:Nat} {E G:List yH} (hn:n<=8) (h:eI n E r) (h':eI n G s):∃ E' r',eI n E' r'/\(∀ w,den E' n r' w=(den E n r w != den G n s w))/\ zX prog 29 [yA n E r,yA n G s] (.yD [yA n E' r',.int .i64 0]):=by obtain⟨E',r',D,hd,hr⟩:=gF (ds:=[(E,r),(G,s)]) hn @Ov (iz h h') (by simp) (by simp);refine⟨E',r',D,λw=>hd w,?_⟩;have e:vH n [(E,r),(G,s)] = [[.int .i64 (n:Int),.sl 3 (vJ E),.int .i64 (r:Int)],[.int .i64 (n:Int),.sl 3 (vJ G),.int .i64 (s:Int)]]:=rfl;rw [e] at hr;unfold yA xD at hr ⊢;refine yS func29 LJ λhf=>?_;refine xB ?_;refine⟨rfl,?_⟩;refine .go (cq hr) ?_;refine xB ?_;exact .drop (by simp) (by simp [vw,sV])
end Go.Pd
