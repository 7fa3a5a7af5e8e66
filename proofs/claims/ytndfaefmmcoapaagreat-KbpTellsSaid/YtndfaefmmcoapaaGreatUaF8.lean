/- Part F8. -/
import Derived.Test.YtndfaefmmcoapaaGreatUaX9
set_option linter.unusedSectionVars false
set_option linter.unusedVariables false
set_option linter.unusedSimpArgs false
set_option linter.defProp false
set_option maxRecDepth 20000
set_option maxHeartbeats 1000000
namespace Go.Pd
open Go Go.Proofs
open BitVec renaming isValue -> ZA
open Rs Fm
namespace Fm
def Nd.key (p:Nd):List Int:=[p.op,p.i,p.e,p.g,p.x,p.y]
theorem key_inj {p q:Nd} (h:p.key=q.key):p=q:=by cases p; cases q;simp only [Nd.key,List.cons.injEq,and_true] at h;simp only [Nd.mk.injEq];exact h
def cP : List Nd->Nat->List (List Int × D)
 | [],_=>[]
 | q :: r,k=>(q.key,.int .i64 k) :: cP r (k+1)
def pD (q:Nd):List Nd->Nat->Option Nat
 | [],_=>none
 | p :: r,k=>if q=p then some k else pD q r (k+1)
theorem sF (q:Nd):∀ (l:List Nd) (k:Nat),oV q.key (cP l k) k=(pD q l k).map fun(j:Nat)=>(j,D.int .i64 (j:Int))
 | [],k=>rfl
 | p :: r,k=>by
  unfold cP oV pD
  by_cases h:q=p
  ·rw [if_pos (by rw [h]),if_pos h]; rfl
  ·rw [if_neg (fun e=>h (key_inj e)),if_neg h]; exact sF q r (k+1)
theorem kZ (q:Nd):∀ (l:List Nd) (k:Nat),cP (l ++ [q]) k=cP l k ++ [(q.key,.int .i64 (k+l.length:Nat))]
 | [],k=>rfl
 | p :: r,k=>by show _ :: cP (r ++ [q]) (k+1)= _;rw [kZ q r (k+1)];simp [cP,Nat.add_assoc,Nat.add_comm 1]
theorem oD (l:List Nd):∀ (k:Nat),∀ p ∈ cP l k,p.1.length=6:=by
 induction l with
 | nil=>intro k p hp; cases hp
 | cons q r ih=>
  intro k p hp
  rcases List.mem_cons.1 hp with rfl | hp
  ·rfl
  ·exact ih _ p hp
def gH (x y:Int):List (Int × Int)->List (Int × Int)
 | []=>[(x,y)]
 | (k,z) :: r=>if x=k then(x,y) :: r else(k,z) :: gH x y r
theorem tU (x:Int) (l:List (Int × D)):∀ i,uC x l (i+1)= (uC x l i).map fun p=>(p.1+1,p.2):=by
 induction l with
 | nil=>intro i; rfl
 | cons p r ih=>
  intro i;obtain⟨k,d⟩:=p;unfold uC
  by_cases h:x=k
  ·rw [if_pos h,if_pos h]; rfl
  ·rw [if_neg h,if_neg h]; exact ih (i+1)
theorem pT (x y:Int):∀ (u:List (Int × Int)),aEt (mo u) x (.int .i64 y)= mo (gH x y u)
 | []=>rfl
 | (k,z) :: r=>by
  have ih:=pT x y r;unfold aEt at ih ⊢
  show (match uC x ((k,D.int .i64 z) :: mo r) 0 with
   | some (i,_)=>((k,D.int .i64 z) :: mo r).set i (x,D.int .i64 y)
   | none=>((k,D.int .i64 z) :: mo r)++ [(x,D.int .i64 y)])= _
  unfold uC gH
  by_cases h:x=k
  ·rw [if_pos h,if_pos h]; rfl
  ·rw [if_neg h,if_neg h,tU]
   cases ha:uC x (mo r) 0 with
   | none=>rw [ha] at ih; simp only [Option.map_none]; show _=(k,D.int .i64 z) :: mo (gH x y r); rw [<- ih]; rfl
   | some p=>rw [ha] at ih; obtain⟨i,d⟩:=p; simp only [Option.map_some]; show _=(k,D.int .i64 z) :: mo (gH x y r); rw [<- ih]; rfl
theorem uU (x y z:Int):∀ (u:List (Int × Int)),wP z (gH x y u)= if z=x then some y else wP z u
 | []=>by simp [gH,wP]
 | (k,w) :: r=>by
  unfold gH
  by_cases h:x=k
  ·rw [if_pos h];subst h;unfold wP
   by_cases e:z=x
   ·rw [if_pos e,if_pos e]
   ·rw [if_neg e,if_neg e,if_neg e]
  ·rw [if_neg h];unfold wP;rw [uU x y z r]
   by_cases e:z=k
   ·rw [if_pos e,if_neg (by omega),if_pos e]
   ·rw [if_neg e,if_neg e]
structure CS where
 out:List Nd
 done:List (Int × Int)
def xJ (f:List Nd):Nat->Nat->CS->Int × CS
 | 0,_,s=>(0,s)
 | n+1,i,s=>match wP i s.done with
  | some k=>(k,s)
  | none=>
   let p:=f.getD i nd0
   let a:=if (xZ p.op).1.x=true then xJ f n p.x.toNat s else(p.x,s)
   let b:=if (xZ p.op).1.y=true then xJ f n p.y.toNat a.2 else(p.y,a.2)
   let q:Nd:=⟨p.op,p.i,p.e,p.g,a.1,b.1⟩
   match pD q b.2.out 0 with
   | some k=>(k,⟨b.2.out,gH i k b.2.done⟩)
   | none=>(b.2.out.length,⟨b.2.out ++ [q],gH i b.2.out.length b.2.done⟩)
def vO (f:List Nd) (i:Nat):List Nd:=(xJ f (i+1) i ⟨[],[]⟩).2.out
end Fm
open Rs Fm
namespace Fm
structure cL (f : List Nd) (nx : Nat) (xS : List (Nat × Ob)) (key : Nat) (s : CS) : Prop where
 hn:7<=nx
 h0:St.look xS 0=some ⟨1,[[.sl 6 (ndR f)]]⟩
 h1:St.look xS 1=some ⟨1,[[xA key 6 (ndR s.out)]]⟩
 hk:7<=key/\key≠nx/\key≠nx+1/\St.look xS key=vL 6 (ndR s.out)
 fr:∀ k,nx<=k->St.look xS k=none
 h2:St.look xS 2=some ⟨0,pC (cP s.out 0)⟩
 h3:St.look xS 3=some ⟨1,[[.vC 2]]⟩
 h4:St.look xS 4=some ⟨0,cR .i64 (mo s.done)⟩
 h5:St.look xS 5=some ⟨1,[[.vC 4]]⟩
 h6:St.look xS 6=some ⟨1,[[.fn 202 [.ref 5 1 0 0,.ref 0 1 0 0,.ref 6 1 0 0,.ref 3 1 0 0,.ref 1 1 0 0]]]⟩
def vD (op i e g x y:Int):Ob:=⟨6,[[.int .i64 op,.int .i64 i,.int .i64 e,.int .i64 g,.int .i64 x,.int .i64 y]]⟩
def aTu (u:Use):Ob:=⟨7,[[.bool u.x,.bool u.y,.bool u.fa,.bool u.ag,.bool u.gr,.bool u.ev,.int .i64 u.fr]]⟩
def bW4 (i:Nat) (nx nx2:Nat) (objs2:List (Nat × Ob)) (key2:Nat) (s2:CS) (q:Nd) (d:D) (σ':St):Prop:=
 (∃ k,pD q s2.out 0=some k/\d = .int .i64 k/\σ'=⟨nx2,vH (vH objs2 nx (vD q.op q.i q.e q.g q.x q.y)) 4 ⟨0,cR .i64 (mo (gH i k s2.done))⟩⟩) \/
 (pD q s2.out 0=none/\s2.out.length<=1000/\d = .int .i64 s2.out.length/\σ'=⟨nx2+1,yY nx2 6 (ndR (s2.out ++ [q]))++ vH (vH (vH (yF (vH objs2 nx (vD q.op q.i q.e q.g q.x q.y)) key2) 1 ⟨1,[[xA nx2 6 (ndR (s2.out ++ [q]))]]⟩) 2 ⟨0,pC (cP (s2.out ++ [q]) 0)⟩) 4 ⟨0,cR .i64 (mo (gH i s2.out.length s2.done))⟩⟩)
end Fm
theorem aCg {f:List Nd} {nx:Nat} {xS:List (Nat × Ob)} {key:Nat} {s:CS} {i:Nat} {d:D} {σ':St} (hI:cL f nx xS key s) (hi:i<f.length) (hlen:f.length<=1000) {p:Nd} (hp:f.getD i nd0=p) (hno:wP i s.done=none) (hux:(xZ p.op).1.x=false) (huy:(xZ p.op).1.y=false)
  (h:bW4 i nx (nx+1+1) ((nx+1,aTu (xZ p.op).1) :: (nx,vD p.op p.i p.e p.g p.x p.y) :: xS) key s p d σ') :
  xX Tryz.prog 202 [.int .i64 i,.ref 5 1 0 0,.ref 0 1 0 0,.ref 6 1 0 0,.ref 3 1 0 0,.ref 1 1 0 0] ⟨nx,xS⟩ d σ':=by
 obtain⟨hn,h0,h1,⟨k1,k2,k3,hkk⟩,hfr,h2,h3,h4,h5,h6⟩:=hI;rcases lD (i:Int) s.done 0 with ⟨q1,q2⟩ | ⟨y,j,q1,q2⟩
 rotate_left
 ·rw [hno] at q1; cases q1
 have hg:=uB f hi;rw [hp] at hg;have hx1:∀ k:Nat,k<7->¬ nx=k:=fun k h=>by omega
 have hx2:∀ k:Nat,k<7->¬ nx+1=k:=fun k h=>by omega
 have hx3:¬ nx+1=nx:=by omega
 have hmg:∀ {nx':Nat} {objs':List (Nat × Ob)} {zero:D} {ok:Bool} {K:D->Prop},St.look objs' 2=some ⟨0,pC (cP s.out 0)⟩->iM ⟨nx',objs'⟩ 6 zero ok (.vC 2) (.agg [.int .i64 p.op,.int .i64 p.i,.int .i64 p.e,.int .i64 p.g,.int .i64 p.x,.int .i64 p.y]) K=K (iE ok zero ((pD p s.out 0).map fun(j:Nat)=>(j,D.int .i64 (j:Int)))):=fun {nx' objs' zero ok K} hl=>by rw [<- sF p s.out 0];exact eP hl (x:=p.key) rfl rfl (oD _ _)
 refine xX.xQ mixed Tryz.func202 bWv (by simp) fun hf=>?_;simp only [simprocAttr,-ZA,↓zU,↓zD,zV,zT,zW,h5,h4,q2,h0,xI,hg,Nd.row]
 (repeat refine sd ?_)
 refine .go (cq (cB p.op)) ?_
 have hl2:St.look ((nx+1,aTu (xZ p.op).1) :: (nx,vD p.op p.i p.e p.g p.x p.y) :: xS) 2=some ⟨0,pC (cP s.out 0)⟩:=by rw [xY,if_neg (by omega),xY,if_neg (by omega)]; exact h2
 simp only [aTu,vD,hux,huy] at hl2
 rcases h with ⟨k,e1,rfl,rfl⟩ | ⟨e1,e2,rfl,rfl⟩
 ·have hmg2:=@hmg;rw [e1] at hmg2;simp only [simprocAttr,-ZA,↓zU,↓zD,zV,zT,zW,Use.row,hux,huy,h3,hx1 3 (by omega),hx2 3 (by omega),hx1 5 (by omega),hx2 5 (by omega),hx1 4 (by omega),hx2 4 (by omega),hx1 2 (by omega),hx2 2 (by omega),hx3,h2,hmg2,Option.map_some,h5,h4]
  (repeat refine sd ?_)
  rw [pT];simp only [aTu,vD,hux,huy];exact .same
 ·have hmg2:=@hmg;rw [e1] at hmg2;have hx4:¬ nx=key:=by omega
  have hx5:¬ nx+1=key:=by omega
  have hx6:∀ k:Nat,k<7->¬ nx+1+1=k:=fun k h=>by omega
  have hx7:¬ nx+1+1=nx:=by omega
  have hx8:¬ nx+1+1=nx+1:=by omega
  have he:∀ k:Nat,k<7->St.look (yF xS key) k=St.look xS k:=fun k h=>by rw [xF,if_neg (by omega)]
  have he1:=he 1 (by omega);have he2:=he 2 (by omega);have he3:=he 3 (by omega);have he4:=he 4 (by omega);have he5:=he 5 (by omega);rw [h1] at he1;rw [h2] at he2;rw [h3] at he3;rw [h4] at he4;rw [h5] at he5;have hpz:D.xV [.int .i64 p.op,.int .i64 p.i,.int .i64 p.e,.int .i64 p.g,.int .i64 p.x,.int .i64 p.y]=true:=by simp [D.xV,D.xG]
  have hms:∀ {nx':Nat} {objs':List (Nat × Ob)} {x:D} {K:D->St->Prop},St.look objs' 2=some ⟨0,pC (cP s.out 0)⟩->lV ⟨nx',objs'⟩ 6 (.vC 2) (.agg [.int .i64 p.op,.int .i64 p.i,.int .i64 p.e,.int .i64 p.g,.int .i64 p.x,.int .i64 p.y]) x K=K .und ⟨nx',vH objs' 2 ⟨0,pC (cP s.out 0 ++ [(p.key,x)])⟩⟩:=fun {nx' objs' x K} hl=> eT hl (y:=p.key) rfl rfl (oD _ _) (by rw [sF,e1]; rfl)
  simp only [simprocAttr,-ZA,↓zU,↓zD,zV,zT,zW,Use.row,hux,huy,h3,hx1 3 (by omega),hx2 3 (by omega),hx1 5 (by omega),hx2 5 (by omega),hx1 4 (by omega),hx2 4 (by omega),hx1 2 (by omega),hx2 2 (by omega),hx1 1 (by omega),hx2 1 (by omega),hx6 1 (by omega),hx6 2 (by omega),hx6 3 (by omega),hx6 4 (by omega),hx6 5 (by omega),he1,he2,he3,he4,he5,hx3,hx7,hx8,h1,h2,hmg2,hms,hpz,xU,Option.map_none,h5,h4,hkk,xI,hx4,hx5]
  (repeat refine sd ?_)
  have er:ndR (s.out ++ [p])= ndR s.out ++ [[.int .i64 p.op,.int .i64 p.i,.int .i64 p.e,.int .i64 p.g,.int .i64 p.x,.int .i64 p.y]]:=by simp [ndR,Nd.row]
  rw [pT,er,kZ,Nat.zero_add];simp only [aTu,vD,hux,huy];exact .same
open Rs Fm
theorem aI9 {f:List Nd} {nx:Nat} {xS:List (Nat × Ob)} {key:Nat} {s:CS} {i:Nat} {d:D} {σ':St} (hI:cL f nx xS key s) (hi:i<f.length) (hlen:f.length<=1000) {p:Nd} (hp:f.getD i nd0=p) (hno:wP i s.done=none) (hux:(xZ p.op).1.x=true) (huy:(xZ p.op).1.y=false)
  {a:Int} {nx1:Nat} {objs1:List (Nat × Ob)} {key1:Nat} {s1:CS}
  (hcall:xX Tryz.prog 202 [.int .i64 p.x,.ref 5 1 0 0,.ref 0 1 0 0,.ref 6 1 0 0,.ref 3 1 0 0,.ref 1 1 0 0] ⟨nx+1+1,(nx+1,aTu (xZ p.op).1) :: (nx,vD p.op p.i p.e p.g p.x p.y) :: xS⟩ (.int .i64 a) ⟨nx1,objs1⟩)
  (hI1:cL f nx1 objs1 key1 s1) (hN:St.look objs1 nx=some (vD p.op p.i p.e p.g p.x p.y)) (hU:St.look objs1 (nx+1)= some (aTu (xZ p.op).1)) (hle:nx+1+1<=nx1) (hke:key1≠nx)
  (h:bW4 i nx nx1 objs1 key1 s1 ⟨p.op,p.i,p.e,p.g,a,p.y⟩ d σ') :
  xX Tryz.prog 202 [.int .i64 i,.ref 5 1 0 0,.ref 0 1 0 0,.ref 6 1 0 0,.ref 3 1 0 0,.ref 1 1 0 0] ⟨nx,xS⟩ d σ':=by
 obtain⟨hn,h0,h1,⟨k1,k2,k3,hkk⟩,hfr,h2,h3,h4,h5,h6⟩:=hI;obtain⟨hn',h0',h1',⟨k1',k2',k3',hkk'⟩,hfr',h2',h3',h4',h5',h6'⟩:=hI1;rcases lD (i:Int) s.done 0 with ⟨q1,q2⟩ | ⟨y,j,q1,q2⟩
 rotate_left
 ·rw [hno] at q1; cases q1
 have hg:=uB f hi;rw [hp] at hg;have hx1:∀ k:Nat,k<7->¬ nx=k:=fun k h=>by omega
 have hx2:∀ k:Nat,k<7->¬ nx+1=k:=fun k h=>by omega
 have hx3:¬ nx+1=nx:=by omega
 have hx9:¬ nx=nx+1:=by omega
 have hmg:∀ {nx':Nat} {objs':List (Nat × Ob)} {zero:D} {ok:Bool} {K:D->Prop},St.look objs' 2=some ⟨0,pC (cP s1.out 0)⟩->iM ⟨nx',objs'⟩ 6 zero ok (.vC 2) (.agg [.int .i64 p.op,.int .i64 p.i,.int .i64 p.e,.int .i64 p.g,.int .i64 a,.int .i64 p.y]) K=K (iE ok zero ((pD ⟨p.op,p.i,p.e,p.g,a,p.y⟩ s1.out 0).map fun(j:Nat)=>(j,D.int .i64 (j:Int)))):=fun {nx' objs' zero ok K} hl=>by rw [<- sF ⟨p.op,p.i,p.e,p.g,a,p.y⟩ s1.out 0];exact eP hl (x:=Nd.key ⟨p.op,p.i,p.e,p.g,a,p.y⟩) rfl rfl (oD _ _)
 simp only [vD] at hN hcall;simp only [aTu] at hU hcall;rw [hux,huy] at hU hcall;refine xX.xQ mixed Tryz.func202 bWv (by simp) fun hf=>?_;simp only [simprocAttr,-ZA,↓zU,↓zD,zV,zT,zW,h5,h4,q2,h0,xI,hg,Nd.row]
 (repeat refine sd ?_)
 refine .go (cq (cB p.op)) ?_;simp only [simprocAttr,-ZA,↓zU,↓zD,zV,zT,zW,Use.row,hux,huy,h6,hx1 6 (by omega),hx2 6 (by omega),hx3]
 (repeat refine sd ?_)
 refine .go hcall ?_
 rcases h with ⟨k,e1,rfl,rfl⟩ | ⟨e1,e2,rfl,rfl⟩
 ·have hmg2:=@hmg;rw [e1] at hmg2;simp only [simprocAttr,-ZA,↓zU,↓zD,zV,zT,zW,hN,hU,h3',h2',hmg2,Option.map_some,h5',h4',xU,hx1 3 (by omega),hx1 5 (by omega),hx1 4 (by omega),hx1 2 (by omega),hx1 1 (by omega),hx3,hx9]
  (repeat refine sd ?_)
  rw [pT];simp only [vD];exact .same
 ·have hmg2:=@hmg;rw [e1] at hmg2;have y1:∀ k:Nat,k<7->¬ key1=k:=fun k h=>by omega
  have y2:¬ nx=key1:=fun e=>hke e.symm;have y3:∀ k:Nat,k<7->¬ nx1=k:=fun k h=>by omega
  have y4:¬ nx1=nx:=by omega
  have z1:∀ k:Nat,k<7->¬ k=nx:=fun k h=>by omega
  have z2:∀ k:Nat,k<7->¬ k=nx1:=fun k h=>by omega
  have hpz:D.xV [.int .i64 p.op,.int .i64 p.i,.int .i64 p.e,.int .i64 p.g,.int .i64 a,.int .i64 p.y]=true:=by simp [D.xV,D.xG]
  have hms:∀ {nx':Nat} {objs':List (Nat × Ob)} {x:D} {K:D->St->Prop},St.look objs' 2=some ⟨0,pC (cP s1.out 0)⟩->lV ⟨nx',objs'⟩ 6 (.vC 2) (.agg [.int .i64 p.op,.int .i64 p.i,.int .i64 p.e,.int .i64 p.g,.int .i64 a,.int .i64 p.y]) x K=K .und ⟨nx',vH objs' 2 ⟨0,pC (cP s1.out 0 ++ [(Nd.key ⟨p.op,p.i,p.e,p.g,a,p.y⟩,x)])⟩⟩:=fun {nx' objs' x K} hl=> eT hl (y:=Nd.key ⟨p.op,p.i,p.e,p.g,a,p.y⟩) rfl rfl (oD _ _) (by rw [sF,e1]; rfl)
  simp only [simprocAttr,-ZA,↓zU,↓zD,zV,zT,zW,hN,hU,h1',h3',h2',hmg2,hms,hpz,Option.map_none,Option.map_some,h5',h4',hkk',xI,xU,xF,hx1 3 (by omega),hx1 5 (by omega),hx1 4 (by omega),hx1 2 (by omega),hx1 1 (by omega),hx3,hx9,y1 1 (by omega),y1 2 (by omega),y1 3 (by omega),y1 4 (by omega),y1 5 (by omega),y2,hke,y3 1 (by omega),y3 2 (by omega),y3 3 (by omega),y3 4 (by omega),y3 5 (by omega),y4,z1 1 (by omega),z1 2 (by omega),z1 4 (by omega),z2 1 (by omega),z2 2 (by omega),z2 4 (by omega)]
  (repeat refine sd ?_)
  have er:ndR (s1.out ++ [⟨p.op,p.i,p.e,p.g,a,p.y⟩])= ndR s1.out ++ [[.int .i64 p.op,.int .i64 p.i,.int .i64 p.e,.int .i64 p.g,.int .i64 a,.int .i64 p.y]]:=by simp [ndR,Nd.row]
  rw [pT,er,kZ,Nat.zero_add];simp only [vD];exact .same
open Rs Fm
theorem aLo {f:List Nd} {nx:Nat} {xS:List (Nat × Ob)} {key:Nat} {s:CS} {i:Nat} {d:D} {σ':St} (hI:cL f nx xS key s) (hi:i<f.length) (hlen:f.length<=1000) {p:Nd} (hp:f.getD i nd0=p) (hno:wP i s.done=none) (hux:(xZ p.op).1.x=true) (huy:(xZ p.op).1.y=true)
  {a:Int} {nx1:Nat} {objs1:List (Nat × Ob)} {key1:Nat} {s1:CS}
  (hcall:xX Tryz.prog 202 [.int .i64 p.x,.ref 5 1 0 0,.ref 0 1 0 0,.ref 6 1 0 0,.ref 3 1 0 0,.ref 1 1 0 0] ⟨nx+1+1,(nx+1,aTu (xZ p.op).1) :: (nx,vD p.op p.i p.e p.g p.x p.y) :: xS⟩ (.int .i64 a) ⟨nx1,objs1⟩)
  (hI1:cL f nx1 objs1 key1 s1) (hN:St.look objs1 nx=some (vD p.op p.i p.e p.g p.x p.y)) (hU:St.look objs1 (nx+1)= some (aTu (xZ p.op).1))
  {b:Int} {nx2:Nat} {objs2:List (Nat × Ob)} {key2:Nat} {s2:CS}
  (hcall2:xX Tryz.prog 202 [.int .i64 p.y,.ref 5 1 0 0,.ref 0 1 0 0,.ref 6 1 0 0,.ref 3 1 0 0,.ref 1 1 0 0] ⟨nx1,vH objs1 nx (vD p.op p.i p.e p.g a p.y)⟩ (.int .i64 b) ⟨nx2,objs2⟩)
  (hI2:cL f nx2 objs2 key2 s2) (hN2:St.look objs2 nx=some (vD p.op p.i p.e p.g a p.y)) (hle:nx+1+1<=nx2) (hke:key2≠nx)
  (h:bW4 i nx nx2 objs2 key2 s2 ⟨p.op,p.i,p.e,p.g,a,b⟩ d σ') :
  xX Tryz.prog 202 [.int .i64 i,.ref 5 1 0 0,.ref 0 1 0 0,.ref 6 1 0 0,.ref 3 1 0 0,.ref 1 1 0 0] ⟨nx,xS⟩ d σ':=by
 obtain⟨hn,h0,h1,⟨k1,k2,k3,hkk⟩,hfr,h2,h3,h4,h5,h6⟩:=hI;have h61:=hI1.h6;obtain⟨hn',h0',h1',⟨k1',k2',k3',hkk'⟩,hfr',h2',h3',h4',h5',h6'⟩:=hI2;rcases lD (i:Int) s.done 0 with ⟨q1,q2⟩ | ⟨y,j,q1,q2⟩
 rotate_left
 ·rw [hno] at q1; cases q1
 have hg:=uB f hi;rw [hp] at hg;have hx1:∀ k:Nat,k<7->¬ nx=k:=fun k h=>by omega
 have hx2:∀ k:Nat,k<7->¬ nx+1=k:=fun k h=>by omega
 have hx3:¬ nx+1=nx:=by omega
 have hx9:¬ nx=nx+1:=by omega
 have hmg:∀ {nx':Nat} {objs':List (Nat × Ob)} {zero:D} {ok:Bool} {K:D->Prop},St.look objs' 2=some ⟨0,pC (cP s2.out 0)⟩->iM ⟨nx',objs'⟩ 6 zero ok (.vC 2) (.agg [.int .i64 p.op,.int .i64 p.i,.int .i64 p.e,.int .i64 p.g,.int .i64 a,.int .i64 b]) K=K (iE ok zero ((pD ⟨p.op,p.i,p.e,p.g,a,b⟩ s2.out 0).map fun(j:Nat)=>(j,D.int .i64 (j:Int)))):=fun {nx' objs' zero ok K} hl=>by rw [<- sF ⟨p.op,p.i,p.e,p.g,a,b⟩ s2.out 0];exact eP hl (x:=Nd.key ⟨p.op,p.i,p.e,p.g,a,b⟩) rfl rfl (oD _ _)
 simp only [vD] at hN hcall hcall2 hN2;simp only [aTu] at hU hcall;rw [hux,huy] at hU hcall;refine xX.xQ mixed Tryz.func202 bWv (by simp) fun hf=>?_;simp only [simprocAttr,-ZA,↓zU,↓zD,zV,zT,zW,h5,h4,q2,h0,xI,hg,Nd.row]
 (repeat refine sd ?_)
 refine .go (cq (cB p.op)) ?_;simp only [simprocAttr,-ZA,↓zU,↓zD,zV,zT,zW,Use.row,hux,huy,h6,hx1 6 (by omega),hx2 6 (by omega),hx3]
 (repeat refine sd ?_)
 refine .go hcall ?_;simp only [simprocAttr,-ZA,↓zU,↓zD,zV,zT,zW,hN,hU,h61,xU,hx1 6 (by omega),hx3,hx9,Option.map_some]
 (repeat refine sd ?_)
 refine .go hcall2 ?_
 rcases h with ⟨k,e1,rfl,rfl⟩ | ⟨e1,e2,rfl,rfl⟩
 ·have hmg2:=@hmg;rw [e1] at hmg2;simp only [simprocAttr,-ZA,↓zU,↓zD,zV,zT,zW,hN2,h3',h2',hmg2,Option.map_some,h5',h4',xU,hx1 3 (by omega),hx1 5 (by omega),hx1 4 (by omega),hx1 2 (by omega),hx1 1 (by omega),hx3,hx9]
  (repeat refine sd ?_)
  rw [pT];simp only [vD];exact .same
 ·have hmg2:=@hmg;rw [e1] at hmg2;have y1:∀ k:Nat,k<7->¬ key2=k:=fun k h=>by omega
  have y2:¬ nx=key2:=fun e=>hke e.symm;have y3:∀ k:Nat,k<7->¬ nx2=k:=fun k h=>by omega
  have y4:¬ nx2=nx:=by omega
  have z1:∀ k:Nat,k<7->¬ k=nx:=fun k h=>by omega
  have z2:∀ k:Nat,k<7->¬ k=nx2:=fun k h=>by omega
  have hpz:D.xV [.int .i64 p.op,.int .i64 p.i,.int .i64 p.e,.int .i64 p.g,.int .i64 a,.int .i64 b]=true:=by simp [D.xV,D.xG]
  have hms:∀ {nx':Nat} {objs':List (Nat × Ob)} {x:D} {K:D->St->Prop},St.look objs' 2=some ⟨0,pC (cP s2.out 0)⟩->lV ⟨nx',objs'⟩ 6 (.vC 2) (.agg [.int .i64 p.op,.int .i64 p.i,.int .i64 p.e,.int .i64 p.g,.int .i64 a,.int .i64 b]) x K=K .und ⟨nx',vH objs' 2 ⟨0,pC (cP s2.out 0 ++ [(Nd.key ⟨p.op,p.i,p.e,p.g,a,b⟩,x)])⟩⟩:=fun {nx' objs' x K} hl=> eT hl (y:=Nd.key ⟨p.op,p.i,p.e,p.g,a,b⟩) rfl rfl (oD _ _) (by rw [sF,e1]; rfl)
  simp only [simprocAttr,-ZA,↓zU,↓zD,zV,zT,zW,hN2,h1',h3',h2',hmg2,hms,hpz,Option.map_none,Option.map_some,h5',h4',hkk',xI,xU,xF,hx1 3 (by omega),hx1 5 (by omega),hx1 4 (by omega),hx1 2 (by omega),hx1 1 (by omega),hx3,hx9,y1 1 (by omega),y1 2 (by omega),y1 3 (by omega),y1 4 (by omega),y1 5 (by omega),y2,hke,y3 1 (by omega),y3 2 (by omega),y3 3 (by omega),y3 4 (by omega),y3 5 (by omega),y4,z1 1 (by omega),z1 2 (by omega),z1 4 (by omega),z2 1 (by omega),z2 2 (by omega),z2 4 (by omega)]
  (repeat refine sd ?_)
  have er:ndR (s2.out ++ [⟨p.op,p.i,p.e,p.g,a,b⟩])= ndR s2.out ++ [[.int .i64 p.op,.int .i64 p.i,.int .i64 p.e,.int .i64 p.g,.int .i64 a,.int .i64 b]]:=by simp [ndR,Nd.row]
  rw [pT,er,kZ,Nat.zero_add];simp only [vD];exact .same
open Rs Fm
namespace Fm
def cD (i:Nat) (q:Nd) (s:CS):Int × CS:=match pD q s.out 0 with
 | some k=>(k,⟨s.out,gH i k s.done⟩)
 | none=>(s.out.length,⟨s.out ++ [q],gH i s.out.length s.done⟩)
theorem zJ {xS:List (Nat × Ob)} {k j:Nat} {o:Ob} (h:St.look xS k=none):St.look (vH xS j o) k=none:=by
 rw [xU]; split
 ·rw [h]; rfl
 ·exact h
theorem aE3 (l:List Nd) (q:Nd):∃ e r,ndR (l ++ [q])= e :: r:=by
 cases h:ndR (l ++ [q]) with
 | nil=>simp [ndR] at h
 | cons e r=>exact⟨e,r,rfl⟩
theorem aUq {f:List Nd} {nx nx2:Nat} {objs2:List (Nat × Ob)} {key2:Nat} {s2:CS} {q:Nd} {i:Nat} (hI:cL f nx2 objs2 key2 s2) (h7:7<=nx) (hle:nx+1+1<=nx2) (hke:key2≠nx) (hlen:s2.out.length<=1000) :
  ∃ nx' objs' key',bW4 i nx nx2 objs2 key2 s2 q (.int .i64 (cD i q s2).1) ⟨nx',objs'⟩/\ cL f nx' objs' key' (cD i q s2).2/\nx2<=nx'/\(key'=key2\/nx2<=key')/\ ∀ k,7<=k->k<nx2->k≠key2->k≠nx->St.look objs' k=St.look objs2 k:=by
 obtain⟨hn,h0,h1,⟨k1,k2,k3,hkk⟩,hfr,h2,h3,h4,h5,h6⟩:=hI;unfold cD
 cases he:pD q s2.out 0 with
 | some k=>
  refine⟨nx2,_,key2,.inl ⟨k,he,rfl,rfl⟩,⟨hn,?_,?_,⟨k1,k2,k3,?_⟩,?_,?_,?_,?_,?_,?_⟩,Nat.le_refl _,.inl rfl,?_⟩
  ·rw [xU,if_neg (by omega),xU,if_neg (by omega)]; exact h0
  ·rw [xU,if_neg (by omega),xU,if_neg (by omega)]; exact h1
  ·rw [xU,if_neg (by omega),xU,if_neg (fun e=>hke e.symm)]; exact hkk
  ·exact fun j hj=>zJ (zJ (hfr j hj))
  ·rw [xU,if_neg (by omega),xU,if_neg (by omega)]; exact h2
  ·rw [xU,if_neg (by omega),xU,if_neg (by omega)]; exact h3
  ·rw [xU,if_pos rfl,xU,if_neg (by omega),h4]; rfl
  ·rw [xU,if_neg (by omega),xU,if_neg (by omega)]; exact h5
  ·rw [xU,if_neg (by omega),xU,if_neg (by omega)]; exact h6
  ·intro j a1 a2 a3 a4;rw [xU,if_neg (by omega),xU,if_neg (fun e=>a4 e.symm)]
 | none=>
  obtain⟨e,r,hr⟩:=aE3 s2.out q
  have hlk:∀ j,j≠nx2->∀ (o1 o2 o4 oq:Ob),j≠1->j≠2->j≠4->j≠key2->j≠nx->St.look (yY nx2 6 (ndR (s2.out ++ [q]))++ vH (vH (vH (yF (vH objs2 nx oq) key2) 1 o1) 2 o2) 4 o4) j=St.look objs2 j:=fun j b1 o1 o2 o4 oq b2 b3 b4 b5 b6=>by rw [yG,if_neg (fun e=>b1 e.symm),xU,if_neg (fun e=>b4 e.symm),xU,if_neg (fun e=>b3 e.symm),xU,if_neg (fun e=>b2 e.symm),xF,if_neg (fun e=>b5 e.symm),xU,if_neg (fun e=>b6 e.symm)]
  refine⟨nx2+1,_,nx2,.inr ⟨he,hlen,rfl,rfl⟩,⟨by omega,?_,?_,⟨by omega,by omega,by omega,?_⟩,?_,?_,?_,?_,?_,?_⟩,by omega,.inr (Nat.le_refl _),?_⟩
  ·rw [hlk 0 (by omega) _ _ _ _ (by omega) (by omega) (by omega) (by omega) (by omega)]; exact h0
  ·rw [yG,if_neg (by omega),xU,if_neg (by omega),xU,if_neg (by omega),xU,if_pos rfl,xF,if_neg (by omega),xU,if_neg (by omega),h1]; rfl
  ·rw [yG,if_pos rfl];show (vL 6 (ndR (s2.out ++ [q]))).or _=vL 6 (ndR (s2.out ++ [q]));rw [hr]; rfl
  ·intro j hj;rw [yG,if_neg (by omega)];refine zJ (zJ (zJ ?_))
   rw [xF]; split
   ·rfl
   ·exact zJ (hfr j (by omega))
  ·rw [yG,if_neg (by omega),xU,if_neg (by omega),xU,if_pos rfl,xU,if_neg (by omega),xF,if_neg (by omega),xU,if_neg (by omega),h2]; rfl
  ·rw [hlk 3 (by omega) _ _ _ _ (by omega) (by omega) (by omega) (by omega) (by omega)]; exact h3
  ·rw [yG,if_neg (by omega),xU,if_pos rfl,xU,if_neg (by omega),xU,if_neg (by omega),xF,if_neg (by omega),xU,if_neg (by omega),h4]; rfl
  ·rw [hlk 5 (by omega) _ _ _ _ (by omega) (by omega) (by omega) (by omega) (by omega)]; exact h5
  ·rw [hlk 6 (by omega) _ _ _ _ (by omega) (by omega) (by omega) (by omega) (by omega)]; exact h6
  ·intro j a1 a2 a3 a4;exact hlk j (by omega) _ _ _ _ (by omega) (by omega) (by omega) a3 a4
end Fm
open Rs Fm
namespace Fm
theorem bV {x:Int}:∀ {u:List (Int × Int)},wP x u=none->∀ p ∈ u,p.1≠x
 | [],_,p,hp=>by cases hp
 | (k,y) :: r,h,p,hp=>by
  unfold wP at h
  by_cases e:x=k
  ·rw [if_pos e] at h; cases h
  ·rw [if_neg e] at h
   rcases List.mem_cons.1 hp with rfl | hp
   ·exact fun e'=>e e'.symm
   ·exact bV h p hp
theorem aSg {x y:Int}:∀ {u:List (Int × Int)},wP x u=none->gH x y u=u ++ [(x,y)]
 | [],_=>rfl
 | (k,z) :: r,h=>by
  unfold wP at h
  by_cases e:x=k
  ·rw [if_pos e] at h; cases h
  ·rw [if_neg e] at h;unfold gH;rw [if_neg e,aSg h]; rfl
structure jW (f : List Nd) (s : CS) : Prop where
 le:s.out.length<=s.done.length
 nd:(s.done.map (·.1)).Nodup
 rg:∀ p ∈ s.done,0<=p.1/\p.1<f.length
theorem jW.len {f:List Nd} {s:CS} (h:jW f s):s.out.length<=f.length:=by
 have:=aSz f.length (s.done.map fun p=>p.1.toNat) ?_ ?_
 ·rw [List.length_map] at this; have:=h.le; omega
 ·have h1:=h.nd;unfold List.Nodup at h1 ⊢;rw [List.pairwise_map] at h1 ⊢;refine h1.imp_of_mem fun {a b} ha hb hne e=>hne ?_;have:=(h.rg a ha).1;have:=(h.rg b hb).1;omega
 ·intro x hx;simp only [List.mem_map] at hx;obtain⟨p,hp,rfl⟩:=hx;have:=h.rg p hp;omega
theorem bZ8 {f:List Nd} {s:CS} {i:Nat} {q:Nd} (h:jW f s) (hi:i<f.length) (hno:wP i s.done=none):jW f (cD i q s).2/\∀ z:Int,z≠i->wP z (cD i q s).2.done=wP z s.done:=by
 have hput:∀ y,jW f ⟨s.out,gH i y s.done⟩/\ (gH i y s.done).length=s.done.length+1:=fun y=>by
  rw [aSg hno]
  refine⟨⟨by simp only [List.length_append]; have:=h.le; omega,?_,?_⟩,by simp⟩
  ·rw [List.map_append];refine List.nodup_append.2 ⟨h.nd,by simp,fun a ha b hb=>?_⟩;simp only [List.mem_map] at ha;obtain⟨p,hp,rfl⟩:=ha;simp only [List.map_cons,List.map_nil,List.mem_singleton] at hb;subst hb;exact bV hno p hp
  ·intro p hp
   rcases List.mem_append.1 hp with hp | hp
   ·exact h.rg p hp
   ·rw [List.mem_singleton.1 hp]; exact⟨by simp,by simpa using hi⟩
 unfold cD
 cases he:pD q s.out 0 with
 | some k=>exact⟨(hput _).1,fun z hz=>by simp only; rw [uU,if_neg hz]⟩
 | none=> refine⟨⟨?_,(hput _).1.nd,(hput _).1.rg⟩,fun z hz=>by simp only; rw [uU,if_neg hz]⟩;have:=(hput s.out.length).2;have:=h.le;simp only [List.length_append,List.length_singleton]; omega
theorem pV {p:Nd} {k:Int} (h:yK p k=0):((xZ p.op).1.x=true->0<=p.x/\p.x<k)/\ ((xZ p.op).1.y=true->0<=p.y/\p.y<k):=by
 unfold yK at h
 by_cases h1:(xZ p.op).2=false
 ·rw [if_pos h1] at h; cases h
 rw [if_neg h1] at h
 by_cases h2:(xD (xZ p.op).1.x p.x k&&xD (xZ p.op).1.y p.y k)= false
 ·rw [if_pos h2] at h; cases h
 simp only [Bool.not_eq_false,Bool.and_eq_true] at h2
 refine⟨fun hx=>?_,fun hy=>?_⟩
 ·have:=h2.1;unfold xD at this;rw [if_pos hx,Bool.and_eq_true,decide_eq_true_eq,decide_eq_true_eq] at this;exact this
 ·have:=h2.2;unfold xD at this;rw [if_pos hy,Bool.and_eq_true,decide_eq_true_eq,decide_eq_true_eq] at this;exact this
theorem qP {f:List Nd} {n i:Nat} {s:CS} (hno:wP i s.done=none):xJ f (n+1) i s =
  (let p:=f.getD i nd0
   let a:=if (xZ p.op).1.x=true then xJ f n p.x.toNat s else(p.x,s)
   let b:=if (xZ p.op).1.y=true then xJ f n p.y.toNat a.2 else(p.y,a.2)
   cD i ⟨p.op,p.i,p.e,p.g,a.1,b.1⟩ b.2):=by
 rw [xJ,hno]; rfl
theorem sE {f:List Nd} (hc:∀ k,k<f.length->yK (f.getD k nd0) k=0):∀ (n:Nat) {i:Nat} {s:CS},i<n->i<f.length->jW f s->jW f (xJ f n i s).2/\∀ z:Int,(i:Int)<z->wP z (xJ f n i s).2.done=wP z s.done
 | 0,i,s,h,_,_=>by omega
 | n + 1,i,s,h,hi,hs=>by
  cases hu:wP i s.done with
  | some k=>rw [xJ,hu]; exact⟨hs,fun _ _=>rfl⟩
  | none=>
   rw [qP hu];obtain⟨ox,oy⟩:=pV (hc i hi);simp only;generalize f.getD i nd0=p at ox oy
   have ha:jW f (if (xZ p.op).1.x=true then xJ f n p.x.toNat s else(p.x,s)).2/\∀ z:Int,(i:Int)<=z->wP z (if (xZ p.op).1.x=true then xJ f n p.x.toNat s else(p.x,s)).2.done=wP z s.done:=by
    by_cases hx:(xZ p.op).1.x=true
    ·rw [if_pos hx];have:=ox hx;obtain⟨b1,b2⟩:=sE hc n (i:=p.x.toNat) (s:=s) (by omega) (by omega) hs;exact⟨b1,fun z hz=>b2 z (by omega)⟩
    ·rw [if_neg hx]; exact⟨hs,fun _ _=>rfl⟩
   generalize (if (xZ p.op).1.x=true then xJ f n p.x.toNat s else(p.x,s))= a at ha;obtain⟨a1,a2⟩:=ha
   have hb:jW f (if (xZ p.op).1.y=true then xJ f n p.y.toNat a.2 else(p.y,a.2)).2/\∀ z:Int,(i:Int)<=z->wP z (if (xZ p.op).1.y=true then xJ f n p.y.toNat a.2 else(p.y,a.2)).2.done=wP z a.2.done:=by
    by_cases hy:(xZ p.op).1.y=true
    ·rw [if_pos hy];have:=oy hy;obtain⟨b1,b2⟩:=sE hc n (i:=p.y.toNat) (s:=a.2) (by omega) (by omega) a1;exact⟨b1,fun z hz=>b2 z (by omega)⟩
    ·rw [if_neg hy]; exact⟨a1,fun _ _=>rfl⟩
   generalize (if (xZ p.op).1.y=true then xJ f n p.y.toNat a.2 else(p.y,a.2))= b at hb;obtain⟨b1,b2⟩:=hb;obtain⟨e1,e2⟩:=bZ8 (q:=⟨p.op,p.i,p.e,p.g,a.1,b.1⟩) b1 hi (by rw [b2 i (by omega),a2 i (by omega)]; exact hu);exact⟨e1,fun z hz=>by rw [e2 z (by omega),b2 z (by omega),a2 z (by omega)]⟩
end Fm
open Rs Fm
namespace Fm
theorem aCm (op:Int) (h:(xZ op).1.y=true):(xZ op).1.x=true:=by
 have hc:op=1\/op=2\/op=3\/op=4\/op=5\/op=6\/op=7\/op=8\/op=9\/op=10\/op=11\/op=12\/op=13\/op=14\/op=15\/op=16\/op=17\/op=18\/op=19\/op=20\/op=21\/(op<1\/21<op):=by omega
 rcases hc with rfl | rfl | rfl | rfl | rfl | rfl | rfl | rfl | rfl | rfl | rfl | rfl | rfl | rfl | rfl | rfl | rfl | rfl | rfl | rfl | rfl | hc
 rotate_right
 ·rw [show xZ op=(sP,false) from if_pos hc] at h; cases h
 all_goals simp [xZ,sP] at h ⊢
theorem cL.bVs {f:List Nd} {nx:Nat} {xS:List (Nat × Ob)} {key:Nat} {s:CS} (h:cL f nx xS key s):∃ key',cL f nx xS key' s/\((s.out = []/\key'=nx+4)\/(s.out ≠ []/\key'=key/\key'<nx)):=by
 obtain⟨hn,h0,h1,⟨k1,k2,k3,hkk⟩,hfr,h2,h3,h4,h5,h6⟩:=h
 by_cases ho:s.out = []
 ·refine⟨nx+4,⟨hn,h0,?_,⟨by omega,by omega,by omega,?_⟩,hfr,h2,h3,h4,h5,h6⟩,.inl ⟨ho,rfl⟩⟩
  ·rw [h1,ho]; rfl
  ·rw [hfr _ (by omega),ho]; rfl
 ·refine⟨key,⟨hn,h0,h1,⟨k1,k2,k3,hkk⟩,hfr,h2,h3,h4,h5,h6⟩,.inr ⟨ho,rfl,?_⟩⟩
  by_cases hlt:key<nx
  ·exact hlt
  ·rw [hfr key (by omega)] at hkk
   cases hd:ndR s.out with
   | nil=>simp [ndR] at hd; exact absurd hd ho
   | cons e r=>rw [hd] at hkk; cases hkk
theorem cL.alloc {f:List Nd} {nx:Nat} {xS:List (Nat × Ob)} {key:Nat} {s:CS} (h:cL f nx xS key s) (hk:key<nx\/key=nx+4) (o1 o2:Ob):cL f (nx+1+1) ((nx+1,o1) :: (nx,o2) :: xS) key s:=by
 obtain⟨hn,h0,h1,⟨k1,k2,k3,hkk⟩,hfr,h2,h3,h4,h5,h6⟩:=h
 have hl:∀ k,k≠nx->k≠nx+1->St.look ((nx+1,o1) :: (nx,o2) :: xS) k=St.look xS k:=fun k a b=>by rw [xY,if_neg (fun e=>b e.symm),xY,if_neg (fun e=>a e.symm)]
 refine⟨by omega,?_,?_,⟨k1,by omega,by omega,?_⟩,?_,?_,?_,?_,?_,?_⟩
 ·rw [hl 0 (by omega) (by omega)]; exact h0
 ·rw [hl 1 (by omega) (by omega)]; exact h1
 ·rw [hl key k2 k3]; exact hkk
 ·intro k hk2; rw [hl k (by omega) (by omega)]; exact hfr k (by omega)
 ·rw [hl 2 (by omega) (by omega)]; exact h2
 ·rw [hl 3 (by omega) (by omega)]; exact h3
 ·rw [hl 4 (by omega) (by omega)]; exact h4
 ·rw [hl 5 (by omega) (by omega)]; exact h5
 ·rw [hl 6 (by omega) (by omega)]; exact h6
theorem cL.set {f:List Nd} {nx:Nat} {xS:List (Nat × Ob)} {key:Nat} {s:CS} (h:cL f nx xS key s) {j:Nat} (hj:7<=j) (hk:key≠j) (o:Ob):cL f nx (vH xS j o) key s:=by
 obtain⟨hn,h0,h1,⟨k1,k2,k3,hkk⟩,hfr,h2,h3,h4,h5,h6⟩:=h;have hl:∀ k,k≠j->St.look (vH xS j o) k=St.look xS k:=fun k a=>by rw [xU,if_neg (fun e=>a e.symm)]
 refine⟨hn,?_,?_,⟨k1,k2,k3,?_⟩,?_,?_,?_,?_,?_,?_⟩
 ·rw [hl 0 (by omega)]; exact h0
 ·rw [hl 1 (by omega)]; exact h1
 ·rw [hl key hk]; exact hkk
 ·exact fun k hk2=>zJ (hfr k hk2)
 ·rw [hl 2 (by omega)]; exact h2
 ·rw [hl 3 (by omega)]; exact h3
 ·rw [hl 4 (by omega)]; exact h4
 ·rw [hl 5 (by omega)]; exact h5
 ·rw [hl 6 (by omega)]; exact h6
end Fm
theorem aHa {f:List Nd} {nx:Nat} {xS:List (Nat × Ob)} {key:Nat} {s:CS} {i:Nat} {k:Int} (hI:cL f nx xS key s) (hu:wP i s.done=some k) :
  xX Tryz.prog 202 [.int .i64 i,.ref 5 1 0 0,.ref 0 1 0 0,.ref 6 1 0 0,.ref 3 1 0 0,.ref 1 1 0 0] ⟨nx,xS⟩ (.int .i64 k) ⟨nx,xS⟩:=by
 obtain⟨hn,h0,h1,hk,hfr,h2,h3,h4,h5,h6⟩:=hI
 rcases lD (i:Int) s.done 0 with ⟨q1,q2⟩ | ⟨y,j,q1,q2⟩
 ·rw [hu] at q1; cases q1
 ·rw [hu] at q1; cases q1;refine xX.xQ mixed Tryz.func202 bWv (by simp) fun hf=>?_;simp only [simprocAttr,-ZA,↓zU,↓zD,zV,zT,zW,h5,h4,q2]
  (repeat refine sd ?_)
  exact .same
theorem eJ {f:List Nd} (hc:∀ k,k<f.length->yK (f.getD k nd0) k=0) (hlen:f.length<=900):∀ (n:Nat) {i nx:Nat} {xS:List (Nat × Ob)} {key:Nat} {s:CS},i<n->i<f.length->jW f s->cL f nx xS key s ->
  ∃ nx' objs' key',cL f nx' objs' key' (xJ f n i s).2/\nx<=nx'/\(key'=key\/nx<=key')/\ (∀ k,7<=k->k<nx->(k≠key\/s.out = [])->St.look objs' k=St.look xS k)/\
   xX Tryz.prog 202 [.int .i64 i,.ref 5 1 0 0,.ref 0 1 0 0,.ref 6 1 0 0,.ref 3 1 0 0,.ref 1 1 0 0] ⟨nx,xS⟩ (.int .i64 (xJ f n i s).1) ⟨nx',objs'⟩
 | 0,i,nx,xS,key,s,h,_,_,_=>by omega
 | n + 1,i,nx,xS,key,s,h,hi,hs,hI=>by
  cases hu:wP i s.done with
  | some k=> rw [xJ,hu];exact⟨nx,xS,key,hI,Nat.le_refl _,.inl rfl,fun _ _ _ _=>rfl,aHa hI hu⟩
  | none=>
   rw [qP hu];obtain⟨ox,oy⟩:=pV (hc i hi);simp only;generalize hp:f.getD i nd0=p at ox oy;obtain⟨ky,hI',hky⟩:=hI.bVs;have hn:=hI'.hn;have hkc:ky<nx\/ky=nx+4:=by rcases hky with ⟨_,h⟩ | ⟨_,_,h⟩; exact .inr h; exact .inl h
   have hA:=hI'.alloc hkc (aTu (xZ p.op).1) (vD p.op p.i p.e p.g p.x p.y)
   have hkk:∀ k,k<nx->(k≠key\/s.out = [])->k≠ky:=fun k h1 h2=>by
    rcases hky with ⟨_,e⟩ | ⟨ho,e,_⟩
    ·omega
    ·rcases h2 with h2 | h2
     ·rw [e]; exact h2
     ·exact absurd h2 ho
   have hkey:∀ k',k'=ky\/nx<=k'->k'=key\/nx<=k':=fun k' h=>by
    rcases h with h | h
    ·rcases hky with ⟨_,e⟩ | ⟨_,e,_⟩
     ·exact .inr (by omega)
     ·exact .inl (by rw [h,e])
    ·exact .inr h
   have hA0:∀ k,k<nx->St.look ((nx+1,aTu (xZ p.op).1) :: (nx,vD p.op p.i p.e p.g p.x p.y) :: xS) k=St.look xS k:=fun k hk=>by rw [xY,if_neg (by omega),xY,if_neg (by omega)]
   by_cases hx:(xZ p.op).1.x=true
   ·obtain⟨hx1,hx2⟩:=ox hx;have hxn:((p.x.toNat:Nat):Int)= p.x:=Int.toNat_of_nonneg hx1;obtain⟨nx1,objs1,key1,I1,l1,kk1,fr1,c1⟩:=eJ hc hlen n (i:=p.x.toNat) (by omega) (by omega) hs hA;have f1:=(sE hc n (i:=p.x.toNat) (s:=s) (by omega) (by omega) hs);rw [if_pos hx];rw [hxn] at c1;generalize xJ f n p.x.toNat s=a at I1 c1 f1
    have hN:St.look objs1 nx=some (vD p.op p.i p.e p.g p.x p.y):=by rw [fr1 nx hn (by omega) (.inl (by omega)),xY,if_neg (by omega),xY,if_pos rfl]
    have hU:St.look objs1 (nx+1)= some (aTu (xZ p.op).1):=by rw [fr1 (nx+1) (by omega) (by omega) (.inl (by omega)),xY,if_pos rfl]
    have hk1:key1≠nx:=by omega
    by_cases hy:(xZ p.op).1.y=true
    ·obtain⟨hy1,hy2⟩:=oy hy;have hyn:((p.y.toNat:Nat):Int)= p.y:=Int.toNat_of_nonneg hy1;obtain⟨nx2,objs2,key2,I2,l2,kk2,fr2,c2⟩:=eJ hc hlen n (i:=p.y.toNat) (by omega) (by omega) f1.1 (I1.set (j:=nx) hn hk1 (vD p.op p.i p.e p.g a.1 p.y));have f2:=(sE hc n (i:=p.y.toNat) (s:=a.2) (by omega) (by omega) f1.1);rw [if_pos hy];rw [hyn] at c2;generalize xJ f n p.y.toNat a.2=b at I2 c2 f2
     have hN2:St.look objs2 nx=some (vD p.op p.i p.e p.g a.1 p.y):=by rw [fr2 nx hn (by omega) (.inl (by omega)),xU,if_pos rfl,hN]; rfl
     have hk2:key2≠nx:=by omega
     obtain⟨nx',objs',key',e1,e2,e3,e4,e5⟩:=aUq (q:=⟨p.op,p.i,p.e,p.g,a.1,b.1⟩) (i:=i) (nx:=nx) I2 (by omega) (by omega) hk2 (by have:=f2.1.len; omega);refine⟨nx',objs',key',e2,by omega,hkey _ (by omega),fun k a1 a2 a3=>?_,aLo hI' hi (by omega) hp hu hx hy c1 I1 hN hU c2 I2 hN2 (by omega) hk2 e1⟩;have hk3:=hkk k a2 a3;rw [e5 k a1 (by omega) (by omega) (by omega),fr2 k a1 (by omega) (.inl (by omega)),xU,if_neg (by omega),fr1 k a1 (by omega) (.inl hk3)];exact hA0 k a2
    ·rw [if_neg hy];obtain⟨nx',objs',key',e1,e2,e3,e4,e5⟩:=aUq (q:=⟨p.op,p.i,p.e,p.g,a.1,p.y⟩) (i:=i) (nx:=nx) I1 (by omega) (by omega) hk1 (by have:=f1.1.len; omega);refine⟨nx',objs',key',e2,by omega,hkey _ (by omega),fun k a1 a2 a3=>?_,aI9 hI' hi (by omega) hp hu hx (by simpa using hy) c1 I1 hN hU (by omega) hk1 e1⟩;have hk3:=hkk k a2 a3;rw [e5 k a1 (by omega) (by omega) (by omega),fr1 k a1 (by omega) (.inl hk3)];exact hA0 k a2
   ·have hy:¬ (xZ p.op).1.y=true:=fun hy=>hx (aCm _ hy);rw [if_neg hx,if_neg hy];obtain⟨nx',objs',key',e1,e2,e3,e4,e5⟩:=aUq (q:=p) (i:=i) (nx:=nx) hA (by omega) (by omega) (by omega) (by have:=hs.len; omega)
    refine⟨nx',objs',key',e2,by omega,?_,fun k a1 a2 a3=>?_,aCg hI' hi (by omega) hp hu (by simpa using hx) (by simpa using hy) e1⟩
    ·rcases e4 with e4 | e4
     ·exact hkey _ (.inl e4)
     ·exact .inr (by omega)
    ·rw [e5 k a1 (by omega) (hkk k a2 a3) (by omega)];exact hA0 k a2
open Rs Fm
theorem aWn {f:List Nd} {i:Nat} (hc:∀ k,k<f.length->yK (f.getD k nd0) k=0) (hlen:f.length<=900) (hi:i<f.length):yU Tryz.prog 143 [.sl 6 (ndR f),.int .i64 i] (.sl 6 (ndR (vO f i))):=by
 have hI0:cL f 7 [(6,⟨1,[[.fn 202 [.ref 5 1 0 0,.ref 0 1 0 0,.ref 6 1 0 0,.ref 3 1 0 0,.ref 1 1 0 0]]]⟩),(5,⟨1,[[.vC 4]]⟩),(4,⟨0,[]⟩),(3,⟨1,[[.vC 2]]⟩),(2,⟨0,[]⟩),(1,⟨1,[[.xL]]⟩),(0,⟨1,[[.sl 6 (ndR f)]]⟩)] 11 ⟨[],[]⟩:=by refine⟨Nat.le_refl _,by simp [St.look],by simp [St.look,ndR,xA],⟨by omega,by omega,by omega,by simp [St.look,ndR,vL]⟩,fun k hk=>?_,by simp [St.look,cP,pC],by simp [St.look],by simp [St.look,mo,cR],by simp [St.look],by simp [St.look]⟩;simp only [xY,look_nil];rw [if_neg (by omega),if_neg (by omega),if_neg (by omega),if_neg (by omega),if_neg (by omega),if_neg (by omega),if_neg (by omega)]
 obtain⟨nx',objs',key',I1,_,_,_,c1⟩:=eJ hc hlen (i+1) (i:=i) (by omega) hi ⟨Nat.le_refl _,by simp,fun p hp=>by cases hp⟩ hI0;have e:(xJ f (i+1) i ⟨[],[]⟩).2.out=vO f i:=rfl;have h1:=I1.h1;have hk:=I1.hk.2.2.2;rw [e] at h1 hk;refine xX.xQ mixed Tryz.func143 bSj (by simp) fun hf=>?_;simp only [simprocAttr,-ZA,↓zU,↓zD,zV,zT,zW]
 (repeat refine sd ?_)
 refine .go c1 ?_;simp only [simprocAttr,-ZA,↓zU,↓zD,zV,zT,zW,h1]
 (repeat refine sd ?_)
 exact .drop (by simp) (iX (by simp) (gP _) hk)
namespace Fm
theorem wN {f:List Nd} (h:xC f=0):f ≠ []/\f.length<=200/\∀ k,k<f.length->yK (f.getD k nd0) k=0:=by
 unfold xC at h
 by_cases h1:f = []
 ·rw [if_pos h1] at h; cases h
 rw [if_neg h1] at h
 by_cases h2:200<f.length
 ·rw [if_pos h2] at h; cases h
 rw [if_neg h2] at h;refine⟨h1,by omega,fun k hk=>?_⟩;have:=aJk h k hk
 rwa [Int.zero_add] at this
def gX (f:List Nd) (i:Int):List Nd:=if xC f≠0\/i<0\/(f.length:Int)<=i then [] else vO f i.toNat
def xE (f:List Nd):List Nd:=gX f ((f.length:Int)-1)
end Fm
theorem bUf (f:List Nd) (i:Int):yU Tryz.prog 149 [.sl 6 (ndR f),.int .i64 i] (.sl 6 (ndR (gX f i))):=by
 refine xX.xQ mixed Tryz.func149 bSe (by simp) fun hf=>?_;simp only [simprocAttr,-ZA,↓zU,↓zD,zV,zT,zW];refine .go (cr (lH f)) ?_;by_cases hc:xC f=0
 case neg=> have e:(xC f != 0)= true:=bne_iff_ne.2 hc;simp only [simprocAttr,-ZA,↓zU,↓zD,zV,zT,zW,e];rw [show gX f i = [] from if_pos (.inl hc)];exact .drop (by simp) (by simp [vw,ndR])
 have e:(xC f != 0)= false:=by simpa using hc
 by_cases h1:i<0
 ·simp only [simprocAttr,-ZA,↓zU,↓zD,zV,zT,zW,e,h1];rw [show gX f i = [] from if_pos (.inr (.inl h1))];exact .drop (by simp) (by simp [vw,ndR])
 by_cases h2:(f.length:Int)<=i
 ·simp only [simprocAttr,-ZA,↓zU,↓zD,zV,zT,zW,e,h1,xI,h2];rw [show gX f i = [] from if_pos (.inr (.inr h2))];exact .drop (by simp) (by simp [vw,ndR])
 obtain⟨j,rfl⟩:=Int.eq_ofNat_of_zero_le (show 0<=i by omega);obtain⟨c1,c2,c3⟩:=wN hc;rw [show gX f j=vO f j by rw [gX,if_neg (by omega),Int.toNat_natCast]];simp only [simprocAttr,-ZA,↓zU,↓zD,zV,zT,zW,e,h1,xI,h2];refine .go (xX.yT (aWn c3 (by omega) (show j<f.length by omega)) (by simp [D.xV,D.xG])) ?_;simp only [simprocAttr,-ZA,↓zU,↓zD,zV,zT,zW];exact .same
theorem aW1 (f:List Nd):yU Tryz.prog 103 [.sl 6 (ndR f)] (.sl 6 (ndR (xE f))):=by refine xX.xQ mixed Tryz.func103 bS9 (by simp) fun hf=>?_;simp only [D.sO,D.fact,xI] at hf;have hlen:=hf.1.1;have e:IntKind.i64.wrap ((f.length:Int)-1)= (f.length:Int)-1:=wrap_i64 (by omega);simp only [simprocAttr,-ZA,↓zU,↓zD,zV,zT,zW,xI,e];refine .go (xX.yT (bUf f ((f.length:Int)-1)) (by simp [D.xV,D.xG])) ?_;simp only [simprocAttr,-ZA,↓zU,↓zD,zV,zT,zW];exact .same
end Go.Pd
