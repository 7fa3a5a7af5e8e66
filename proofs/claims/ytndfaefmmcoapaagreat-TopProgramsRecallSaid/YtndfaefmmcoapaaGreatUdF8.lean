/- Part F8. -/
import Derived.Test.YtndfaefmmcoapaaGreatUdX9
set_option linter.unusedSectionVars false
set_option linter.unusedVariables false
set_option linter.unusedSimpArgs false
set_option linter.defProp false
set_option maxRecDepth 20000
set_option maxHeartbeats 1000000
namespace Go.Pd
open Go Go.Proofs
open BitVec renaming isValue -> ZA
open Rs Fm
namespace Fm
def Nd.key (p:Nd):List Int:=[p.op,p.i,p.e,p.g,p.x,p.y]
theorem key_inj {p q:Nd} (h:p.key=q.key):p=q:=by cases p; cases q;simp only [Nd.key,List.cons.injEq,and_true] at h;simp only [Nd.mk.injEq];exact h
def cO : List Nd->Nat->List (List Int × D)
 | [],_=>[]
 | q :: r,k=>(q.key,.int .i64 k) :: cO r (k+1)
def iW (q:Nd):List Nd->Nat->Option Nat
 | [],_=>none
 | p :: r,k=>if q=p then some k else iW q r (k+1)
theorem sL (q:Nd):∀ (l:List Nd) (k:Nat),pI q.key (cO l k) k=(iW q l k).map fun(j:Nat)=>(j,D.int .i64 (j:Int))
 | [],k=>rfl
 | p :: r,k=>by
  unfold cO pI iW
  by_cases h:q=p
  ·rw [if_pos (by rw [h]),if_pos h]; rfl
  ·rw [if_neg (fun e=>h (key_inj e)),if_neg h]; exact sL q r (k+1)
theorem kY (q:Nd):∀ (l:List Nd) (k:Nat),cO (l ++ [q]) k=cO l k ++ [(q.key,.int .i64 (k+l.length:Nat))]
 | [],k=>rfl
 | p :: r,k=>by show _ :: cO (r ++ [q]) (k+1)= _;rw [kY q r (k+1)];simp [cO,Nat.add_assoc,Nat.add_comm 1]
theorem oF (l:List Nd):∀ (k:Nat),∀ p ∈ cO l k,p.1.length=6:=by
 induction l with
 | nil=>intro k p hp; cases hp
 | cons q r ih=>
  intro k p hp
  rcases List.mem_cons.1 hp with rfl | hp
  ·rfl
  ·exact ih _ p hp
def aG (x y:Int):List (Int × Int)->List (Int × Int)
 | []=>[(x,y)]
 | (k,z) :: r=>if x=k then(x,y) :: r else(k,z) :: aG x y r
theorem wD (x:Int) (l:List (Int × D)):∀ i,wL x l (i+1)= (wL x l i).map fun p=>(p.1+1,p.2):=by
 induction l with
 | nil=>intro i; rfl
 | cons p r ih=>
  intro i;obtain⟨k,d⟩:=p;unfold wL
  by_cases h:x=k
  ·rw [if_pos h,if_pos h]; rfl
  ·rw [if_neg h,if_neg h]; exact ih (i+1)
theorem qE (x y:Int):∀ (u:List (Int × Int)),aVx (mo u) x (.int .i64 y)= mo (aG x y u)
 | []=>rfl
 | (k,z) :: r=>by
  have ih:=qE x y r;unfold aVx at ih ⊢
  show (match wL x ((k,D.int .i64 z) :: mo r) 0 with
   | some (i,_)=>((k,D.int .i64 z) :: mo r).set i (x,D.int .i64 y)
   | none=>((k,D.int .i64 z) :: mo r)++ [(x,D.int .i64 y)])= _
  unfold wL aG
  by_cases h:x=k
  ·rw [if_pos h,if_pos h]; rfl
  ·rw [if_neg h,if_neg h,wD]
   cases ha:wL x (mo r) 0 with
   | none=>rw [ha] at ih; simp only [Option.map_none]; show _=(k,D.int .i64 z) :: mo (aG x y r); rw [<- ih]; rfl
   | some p=>rw [ha] at ih; obtain⟨i,d⟩:=p; simp only [Option.map_some]; show _=(k,D.int .i64 z) :: mo (aG x y r); rw [<- ih]; rfl
theorem sX (x y z:Int):∀ (u:List (Int × Int)),vS z (aG x y u)= if z=x then some y else vS z u
 | []=>by simp [aG,vS]
 | (k,w) :: r=>by
  unfold aG
  by_cases h:x=k
  ·rw [if_pos h];subst h;unfold vS
   by_cases e:z=x
   ·rw [if_pos e,if_pos e]
   ·rw [if_neg e,if_neg e,if_neg e]
  ·rw [if_neg h];unfold vS;rw [sX x y z r]
   by_cases e:z=k
   ·rw [if_pos e,if_neg (by omega),if_pos e]
   ·rw [if_neg e,if_neg e]
structure CS where
 out:List Nd
 done:List (Int × Int)
def xJ (f:List Nd):Nat->Nat->CS->Int × CS
 | 0,_,s=>(0,s)
 | n+1,i,s=>match vS i s.done with
  | some k=>(k,s)
  | none=>
   let p:=f.getD i nd0
   let a:=if (xW p.op).1.x=true then xJ f n p.x.toNat s else(p.x,s)
   let b:=if (xW p.op).1.y=true then xJ f n p.y.toNat a.2 else(p.y,a.2)
   let q:Nd:=⟨p.op,p.i,p.e,p.g,a.1,b.1⟩
   match iW q b.2.out 0 with
   | some k=>(k,⟨b.2.out,aG i k b.2.done⟩)
   | none=>(b.2.out.length,⟨b.2.out ++ [q],aG i b.2.out.length b.2.done⟩)
def vB (f:List Nd) (i:Nat):List Nd:=(xJ f (i+1) i ⟨[],[]⟩).2.out
end Fm
open Rs Fm
namespace Fm
structure cM (f : List Nd) (nx : Nat) (xZ : List (Nat × Ob)) (key : Nat) (s : CS) : Prop where
 hn:7<=nx
 h0:St.look xZ 0=some ⟨1,[[.sl 6 (ndR f)]]⟩
 h1:St.look xZ 1=some ⟨1,[[xA key 6 (ndR s.out)]]⟩
 hk:7<=key/\key≠nx/\key≠nx+1/\St.look xZ key=uP 6 (ndR s.out)
 fr:∀ k,nx<=k->St.look xZ k=none
 h2:St.look xZ 2=some ⟨0,pP (cO s.out 0)⟩
 h3:St.look xZ 3=some ⟨1,[[.zJ 2]]⟩
 h4:St.look xZ 4=some ⟨0,qS .i64 (mo s.done)⟩
 h5:St.look xZ 5=some ⟨1,[[.zJ 4]]⟩
 h6:St.look xZ 6=some ⟨1,[[.fn 202 [.ref 5 1 0 0,.ref 0 1 0 0,.ref 6 1 0 0,.ref 3 1 0 0,.ref 1 1 0 0]]]⟩
def iA (op i e g x y:Int):Ob:=⟨6,[[.int .i64 op,.int .i64 i,.int .i64 e,.int .i64 g,.int .i64 x,.int .i64 y]]⟩
def aSb (u:Use):Ob:=⟨7,[[.bool u.x,.bool u.y,.bool u.fa,.bool u.ag,.bool u.gr,.bool u.ev,.int .i64 u.fr]]⟩
def bVt (i:Nat) (nx nx2:Nat) (objs2:List (Nat × Ob)) (key2:Nat) (s2:CS) (q:Nd) (d:D) (σ':St):Prop:=
 (∃ k,iW q s2.out 0=some k/\d = .int .i64 k/\σ'=⟨nx2,uR (uR objs2 nx (iA q.op q.i q.e q.g q.x q.y)) 4 ⟨0,qS .i64 (mo (aG i k s2.done))⟩⟩) \/
 (iW q s2.out 0=none/\s2.out.length<=1000/\d = .int .i64 s2.out.length/\σ'=⟨nx2+1,yY nx2 6 (ndR (s2.out ++ [q]))++ uR (uR (uR (yF (uR objs2 nx (iA q.op q.i q.e q.g q.x q.y)) key2) 1 ⟨1,[[xA nx2 6 (ndR (s2.out ++ [q]))]]⟩) 2 ⟨0,pP (cO (s2.out ++ [q]) 0)⟩) 4 ⟨0,qS .i64 (mo (aG i s2.out.length s2.done))⟩⟩)
end Fm
theorem aBd {f:List Nd} {nx:Nat} {xZ:List (Nat × Ob)} {key:Nat} {s:CS} {i:Nat} {d:D} {σ':St} (hI:cM f nx xZ key s) (hi:i<f.length) (hlen:f.length<=1000) {p:Nd} (hp:f.getD i nd0=p) (hno:vS i s.done=none) (hux:(xW p.op).1.x=false) (huy:(xW p.op).1.y=false)
  (h:bVt i nx (nx+1+1) ((nx+1,aSb (xW p.op).1) :: (nx,iA p.op p.i p.e p.g p.x p.y) :: xZ) key s p d σ') :
  xY Tryz.prog 202 [.int .i64 i,.ref 5 1 0 0,.ref 0 1 0 0,.ref 6 1 0 0,.ref 3 1 0 0,.ref 1 1 0 0] ⟨nx,xZ⟩ d σ':=by
 obtain⟨hn,h0,h1,⟨k1,k2,k3,hkk⟩,hfr,h2,h3,h4,h5,h6⟩:=hI;rcases lF (i:Int) s.done 0 with ⟨q1,q2⟩ | ⟨y,j,q1,q2⟩
 rotate_left
 ·rw [hno] at q1; cases q1
 have hg:=pC f hi;rw [hp] at hg;have hx1:∀ k:Nat,k<7->¬ nx=k:=fun k h=>by omega
 have hx2:∀ k:Nat,k<7->¬ nx+1=k:=fun k h=>by omega
 have hx3:¬ nx+1=nx:=by omega
 have hmg:∀ {nx':Nat} {objs':List (Nat × Ob)} {zero:D} {ok:Bool} {K:D->Prop},St.look objs' 2=some ⟨0,pP (cO s.out 0)⟩->iQ ⟨nx',objs'⟩ 6 zero ok (.zJ 2) (.agg [.int .i64 p.op,.int .i64 p.i,.int .i64 p.e,.int .i64 p.g,.int .i64 p.x,.int .i64 p.y]) K=K (kA ok zero ((iW p s.out 0).map fun(j:Nat)=>(j,D.int .i64 (j:Int)))):=fun {nx' objs' zero ok K} hl=>by rw [<- sL p s.out 0];exact eM hl (x:=p.key) rfl rfl (oF _ _)
 refine xY.xR mixed Tryz.func202 bVp (by simp) fun hf=>?_;simp only [simprocAttr,-ZA,↓zU,↓zD,zV,zT,zW,h5,h4,q2,h0,xI,hg,Nd.row]
 (repeat refine sd ?_)
 refine .go (cq (cB p.op)) ?_
 have hl2:St.look ((nx+1,aSb (xW p.op).1) :: (nx,iA p.op p.i p.e p.g p.x p.y) :: xZ) 2=some ⟨0,pP (cO s.out 0)⟩:=by rw [xX,if_neg (by omega),xX,if_neg (by omega)]; exact h2
 simp only [aSb,iA,hux,huy] at hl2
 rcases h with ⟨k,e1,rfl,rfl⟩ | ⟨e1,e2,rfl,rfl⟩
 ·have hmg2:=@hmg;rw [e1] at hmg2;simp only [simprocAttr,-ZA,↓zU,↓zD,zV,zT,zW,Use.row,hux,huy,h3,hx1 3 (by omega),hx2 3 (by omega),hx1 5 (by omega),hx2 5 (by omega),hx1 4 (by omega),hx2 4 (by omega),hx1 2 (by omega),hx2 2 (by omega),hx3,h2,hmg2,Option.map_some,h5,h4]
  (repeat refine sd ?_)
  rw [qE];simp only [aSb,iA,hux,huy];exact .same
 ·have hmg2:=@hmg;rw [e1] at hmg2;have hx4:¬ nx=key:=by omega
  have hx5:¬ nx+1=key:=by omega
  have hx6:∀ k:Nat,k<7->¬ nx+1+1=k:=fun k h=>by omega
  have hx7:¬ nx+1+1=nx:=by omega
  have hx8:¬ nx+1+1=nx+1:=by omega
  have he:∀ k:Nat,k<7->St.look (yF xZ key) k=St.look xZ k:=fun k h=>by rw [xG,if_neg (by omega)]
  have he1:=he 1 (by omega);have he2:=he 2 (by omega);have he3:=he 3 (by omega);have he4:=he 4 (by omega);have he5:=he 5 (by omega);rw [h1] at he1;rw [h2] at he2;rw [h3] at he3;rw [h4] at he4;rw [h5] at he5;have hpz:D.xU [.int .i64 p.op,.int .i64 p.i,.int .i64 p.e,.int .i64 p.g,.int .i64 p.x,.int .i64 p.y]=true:=by simp [D.xU,D.xL]
  have hms:∀ {nx':Nat} {objs':List (Nat × Ob)} {x:D} {K:D->St->Prop},St.look objs' 2=some ⟨0,pP (cO s.out 0)⟩->lT ⟨nx',objs'⟩ 6 (.zJ 2) (.agg [.int .i64 p.op,.int .i64 p.i,.int .i64 p.e,.int .i64 p.g,.int .i64 p.x,.int .i64 p.y]) x K=K .und ⟨nx',uR objs' 2 ⟨0,pP (cO s.out 0 ++ [(p.key,x)])⟩⟩:=fun {nx' objs' x K} hl=> eO hl (y:=p.key) rfl rfl (oF _ _) (by rw [sL,e1]; rfl)
  simp only [simprocAttr,-ZA,↓zU,↓zD,zV,zT,zW,Use.row,hux,huy,h3,hx1 3 (by omega),hx2 3 (by omega),hx1 5 (by omega),hx2 5 (by omega),hx1 4 (by omega),hx2 4 (by omega),hx1 2 (by omega),hx2 2 (by omega),hx1 1 (by omega),hx2 1 (by omega),hx6 1 (by omega),hx6 2 (by omega),hx6 3 (by omega),hx6 4 (by omega),hx6 5 (by omega),he1,he2,he3,he4,he5,hx3,hx7,hx8,h1,h2,hmg2,hms,hpz,xV,Option.map_none,h5,h4,hkk,xI,hx4,hx5]
  (repeat refine sd ?_)
  have er:ndR (s.out ++ [p])= ndR s.out ++ [[.int .i64 p.op,.int .i64 p.i,.int .i64 p.e,.int .i64 p.g,.int .i64 p.x,.int .i64 p.y]]:=by simp [ndR,Nd.row]
  rw [qE,er,kY,Nat.zero_add];simp only [aSb,iA,hux,huy];exact .same
open Rs Fm
theorem aHt {f:List Nd} {nx:Nat} {xZ:List (Nat × Ob)} {key:Nat} {s:CS} {i:Nat} {d:D} {σ':St} (hI:cM f nx xZ key s) (hi:i<f.length) (hlen:f.length<=1000) {p:Nd} (hp:f.getD i nd0=p) (hno:vS i s.done=none) (hux:(xW p.op).1.x=true) (huy:(xW p.op).1.y=false)
  {a:Int} {nx1:Nat} {objs1:List (Nat × Ob)} {key1:Nat} {s1:CS}
  (hcall:xY Tryz.prog 202 [.int .i64 p.x,.ref 5 1 0 0,.ref 0 1 0 0,.ref 6 1 0 0,.ref 3 1 0 0,.ref 1 1 0 0] ⟨nx+1+1,(nx+1,aSb (xW p.op).1) :: (nx,iA p.op p.i p.e p.g p.x p.y) :: xZ⟩ (.int .i64 a) ⟨nx1,objs1⟩)
  (hI1:cM f nx1 objs1 key1 s1) (hN:St.look objs1 nx=some (iA p.op p.i p.e p.g p.x p.y)) (hU:St.look objs1 (nx+1)= some (aSb (xW p.op).1)) (hle:nx+1+1<=nx1) (hke:key1≠nx)
  (h:bVt i nx nx1 objs1 key1 s1 ⟨p.op,p.i,p.e,p.g,a,p.y⟩ d σ') :
  xY Tryz.prog 202 [.int .i64 i,.ref 5 1 0 0,.ref 0 1 0 0,.ref 6 1 0 0,.ref 3 1 0 0,.ref 1 1 0 0] ⟨nx,xZ⟩ d σ':=by
 obtain⟨hn,h0,h1,⟨k1,k2,k3,hkk⟩,hfr,h2,h3,h4,h5,h6⟩:=hI;obtain⟨hn',h0',h1',⟨k1',k2',k3',hkk'⟩,hfr',h2',h3',h4',h5',h6'⟩:=hI1;rcases lF (i:Int) s.done 0 with ⟨q1,q2⟩ | ⟨y,j,q1,q2⟩
 rotate_left
 ·rw [hno] at q1; cases q1
 have hg:=pC f hi;rw [hp] at hg;have hx1:∀ k:Nat,k<7->¬ nx=k:=fun k h=>by omega
 have hx2:∀ k:Nat,k<7->¬ nx+1=k:=fun k h=>by omega
 have hx3:¬ nx+1=nx:=by omega
 have hx9:¬ nx=nx+1:=by omega
 have hmg:∀ {nx':Nat} {objs':List (Nat × Ob)} {zero:D} {ok:Bool} {K:D->Prop},St.look objs' 2=some ⟨0,pP (cO s1.out 0)⟩->iQ ⟨nx',objs'⟩ 6 zero ok (.zJ 2) (.agg [.int .i64 p.op,.int .i64 p.i,.int .i64 p.e,.int .i64 p.g,.int .i64 a,.int .i64 p.y]) K=K (kA ok zero ((iW ⟨p.op,p.i,p.e,p.g,a,p.y⟩ s1.out 0).map fun(j:Nat)=>(j,D.int .i64 (j:Int)))):=fun {nx' objs' zero ok K} hl=>by rw [<- sL ⟨p.op,p.i,p.e,p.g,a,p.y⟩ s1.out 0];exact eM hl (x:=Nd.key ⟨p.op,p.i,p.e,p.g,a,p.y⟩) rfl rfl (oF _ _)
 simp only [iA] at hN hcall;simp only [aSb] at hU hcall;rw [hux,huy] at hU hcall;refine xY.xR mixed Tryz.func202 bVp (by simp) fun hf=>?_;simp only [simprocAttr,-ZA,↓zU,↓zD,zV,zT,zW,h5,h4,q2,h0,xI,hg,Nd.row]
 (repeat refine sd ?_)
 refine .go (cq (cB p.op)) ?_;simp only [simprocAttr,-ZA,↓zU,↓zD,zV,zT,zW,Use.row,hux,huy,h6,hx1 6 (by omega),hx2 6 (by omega),hx3]
 (repeat refine sd ?_)
 refine .go hcall ?_
 rcases h with ⟨k,e1,rfl,rfl⟩ | ⟨e1,e2,rfl,rfl⟩
 ·have hmg2:=@hmg;rw [e1] at hmg2;simp only [simprocAttr,-ZA,↓zU,↓zD,zV,zT,zW,hN,hU,h3',h2',hmg2,Option.map_some,h5',h4',xV,hx1 3 (by omega),hx1 5 (by omega),hx1 4 (by omega),hx1 2 (by omega),hx1 1 (by omega),hx3,hx9]
  (repeat refine sd ?_)
  rw [qE];simp only [iA];exact .same
 ·have hmg2:=@hmg;rw [e1] at hmg2;have y1:∀ k:Nat,k<7->¬ key1=k:=fun k h=>by omega
  have y2:¬ nx=key1:=fun e=>hke e.symm;have y3:∀ k:Nat,k<7->¬ nx1=k:=fun k h=>by omega
  have y4:¬ nx1=nx:=by omega
  have z1:∀ k:Nat,k<7->¬ k=nx:=fun k h=>by omega
  have z2:∀ k:Nat,k<7->¬ k=nx1:=fun k h=>by omega
  have hpz:D.xU [.int .i64 p.op,.int .i64 p.i,.int .i64 p.e,.int .i64 p.g,.int .i64 a,.int .i64 p.y]=true:=by simp [D.xU,D.xL]
  have hms:∀ {nx':Nat} {objs':List (Nat × Ob)} {x:D} {K:D->St->Prop},St.look objs' 2=some ⟨0,pP (cO s1.out 0)⟩->lT ⟨nx',objs'⟩ 6 (.zJ 2) (.agg [.int .i64 p.op,.int .i64 p.i,.int .i64 p.e,.int .i64 p.g,.int .i64 a,.int .i64 p.y]) x K=K .und ⟨nx',uR objs' 2 ⟨0,pP (cO s1.out 0 ++ [(Nd.key ⟨p.op,p.i,p.e,p.g,a,p.y⟩,x)])⟩⟩:=fun {nx' objs' x K} hl=> eO hl (y:=Nd.key ⟨p.op,p.i,p.e,p.g,a,p.y⟩) rfl rfl (oF _ _) (by rw [sL,e1]; rfl)
  simp only [simprocAttr,-ZA,↓zU,↓zD,zV,zT,zW,hN,hU,h1',h3',h2',hmg2,hms,hpz,Option.map_none,Option.map_some,h5',h4',hkk',xI,xV,xG,hx1 3 (by omega),hx1 5 (by omega),hx1 4 (by omega),hx1 2 (by omega),hx1 1 (by omega),hx3,hx9,y1 1 (by omega),y1 2 (by omega),y1 3 (by omega),y1 4 (by omega),y1 5 (by omega),y2,hke,y3 1 (by omega),y3 2 (by omega),y3 3 (by omega),y3 4 (by omega),y3 5 (by omega),y4,z1 1 (by omega),z1 2 (by omega),z1 4 (by omega),z2 1 (by omega),z2 2 (by omega),z2 4 (by omega)]
  (repeat refine sd ?_)
  have er:ndR (s1.out ++ [⟨p.op,p.i,p.e,p.g,a,p.y⟩])= ndR s1.out ++ [[.int .i64 p.op,.int .i64 p.i,.int .i64 p.e,.int .i64 p.g,.int .i64 a,.int .i64 p.y]]:=by simp [ndR,Nd.row]
  rw [qE,er,kY,Nat.zero_add];simp only [iA];exact .same
open Rs Fm
theorem aL3 {f:List Nd} {nx:Nat} {xZ:List (Nat × Ob)} {key:Nat} {s:CS} {i:Nat} {d:D} {σ':St} (hI:cM f nx xZ key s) (hi:i<f.length) (hlen:f.length<=1000) {p:Nd} (hp:f.getD i nd0=p) (hno:vS i s.done=none) (hux:(xW p.op).1.x=true) (huy:(xW p.op).1.y=true)
  {a:Int} {nx1:Nat} {objs1:List (Nat × Ob)} {key1:Nat} {s1:CS}
  (hcall:xY Tryz.prog 202 [.int .i64 p.x,.ref 5 1 0 0,.ref 0 1 0 0,.ref 6 1 0 0,.ref 3 1 0 0,.ref 1 1 0 0] ⟨nx+1+1,(nx+1,aSb (xW p.op).1) :: (nx,iA p.op p.i p.e p.g p.x p.y) :: xZ⟩ (.int .i64 a) ⟨nx1,objs1⟩)
  (hI1:cM f nx1 objs1 key1 s1) (hN:St.look objs1 nx=some (iA p.op p.i p.e p.g p.x p.y)) (hU:St.look objs1 (nx+1)= some (aSb (xW p.op).1))
  {b:Int} {nx2:Nat} {objs2:List (Nat × Ob)} {key2:Nat} {s2:CS}
  (hcall2:xY Tryz.prog 202 [.int .i64 p.y,.ref 5 1 0 0,.ref 0 1 0 0,.ref 6 1 0 0,.ref 3 1 0 0,.ref 1 1 0 0] ⟨nx1,uR objs1 nx (iA p.op p.i p.e p.g a p.y)⟩ (.int .i64 b) ⟨nx2,objs2⟩)
  (hI2:cM f nx2 objs2 key2 s2) (hN2:St.look objs2 nx=some (iA p.op p.i p.e p.g a p.y)) (hle:nx+1+1<=nx2) (hke:key2≠nx)
  (h:bVt i nx nx2 objs2 key2 s2 ⟨p.op,p.i,p.e,p.g,a,b⟩ d σ') :
  xY Tryz.prog 202 [.int .i64 i,.ref 5 1 0 0,.ref 0 1 0 0,.ref 6 1 0 0,.ref 3 1 0 0,.ref 1 1 0 0] ⟨nx,xZ⟩ d σ':=by
 obtain⟨hn,h0,h1,⟨k1,k2,k3,hkk⟩,hfr,h2,h3,h4,h5,h6⟩:=hI;have h61:=hI1.h6;obtain⟨hn',h0',h1',⟨k1',k2',k3',hkk'⟩,hfr',h2',h3',h4',h5',h6'⟩:=hI2;rcases lF (i:Int) s.done 0 with ⟨q1,q2⟩ | ⟨y,j,q1,q2⟩
 rotate_left
 ·rw [hno] at q1; cases q1
 have hg:=pC f hi;rw [hp] at hg;have hx1:∀ k:Nat,k<7->¬ nx=k:=fun k h=>by omega
 have hx2:∀ k:Nat,k<7->¬ nx+1=k:=fun k h=>by omega
 have hx3:¬ nx+1=nx:=by omega
 have hx9:¬ nx=nx+1:=by omega
 have hmg:∀ {nx':Nat} {objs':List (Nat × Ob)} {zero:D} {ok:Bool} {K:D->Prop},St.look objs' 2=some ⟨0,pP (cO s2.out 0)⟩->iQ ⟨nx',objs'⟩ 6 zero ok (.zJ 2) (.agg [.int .i64 p.op,.int .i64 p.i,.int .i64 p.e,.int .i64 p.g,.int .i64 a,.int .i64 b]) K=K (kA ok zero ((iW ⟨p.op,p.i,p.e,p.g,a,b⟩ s2.out 0).map fun(j:Nat)=>(j,D.int .i64 (j:Int)))):=fun {nx' objs' zero ok K} hl=>by rw [<- sL ⟨p.op,p.i,p.e,p.g,a,b⟩ s2.out 0];exact eM hl (x:=Nd.key ⟨p.op,p.i,p.e,p.g,a,b⟩) rfl rfl (oF _ _)
 simp only [iA] at hN hcall hcall2 hN2;simp only [aSb] at hU hcall;rw [hux,huy] at hU hcall;refine xY.xR mixed Tryz.func202 bVp (by simp) fun hf=>?_;simp only [simprocAttr,-ZA,↓zU,↓zD,zV,zT,zW,h5,h4,q2,h0,xI,hg,Nd.row]
 (repeat refine sd ?_)
 refine .go (cq (cB p.op)) ?_;simp only [simprocAttr,-ZA,↓zU,↓zD,zV,zT,zW,Use.row,hux,huy,h6,hx1 6 (by omega),hx2 6 (by omega),hx3]
 (repeat refine sd ?_)
 refine .go hcall ?_;simp only [simprocAttr,-ZA,↓zU,↓zD,zV,zT,zW,hN,hU,h61,xV,hx1 6 (by omega),hx3,hx9,Option.map_some]
 (repeat refine sd ?_)
 refine .go hcall2 ?_
 rcases h with ⟨k,e1,rfl,rfl⟩ | ⟨e1,e2,rfl,rfl⟩
 ·have hmg2:=@hmg;rw [e1] at hmg2;simp only [simprocAttr,-ZA,↓zU,↓zD,zV,zT,zW,hN2,h3',h2',hmg2,Option.map_some,h5',h4',xV,hx1 3 (by omega),hx1 5 (by omega),hx1 4 (by omega),hx1 2 (by omega),hx1 1 (by omega),hx3,hx9]
  (repeat refine sd ?_)
  rw [qE];simp only [iA];exact .same
 ·have hmg2:=@hmg;rw [e1] at hmg2;have y1:∀ k:Nat,k<7->¬ key2=k:=fun k h=>by omega
  have y2:¬ nx=key2:=fun e=>hke e.symm;have y3:∀ k:Nat,k<7->¬ nx2=k:=fun k h=>by omega
  have y4:¬ nx2=nx:=by omega
  have z1:∀ k:Nat,k<7->¬ k=nx:=fun k h=>by omega
  have z2:∀ k:Nat,k<7->¬ k=nx2:=fun k h=>by omega
  have hpz:D.xU [.int .i64 p.op,.int .i64 p.i,.int .i64 p.e,.int .i64 p.g,.int .i64 a,.int .i64 b]=true:=by simp [D.xU,D.xL]
  have hms:∀ {nx':Nat} {objs':List (Nat × Ob)} {x:D} {K:D->St->Prop},St.look objs' 2=some ⟨0,pP (cO s2.out 0)⟩->lT ⟨nx',objs'⟩ 6 (.zJ 2) (.agg [.int .i64 p.op,.int .i64 p.i,.int .i64 p.e,.int .i64 p.g,.int .i64 a,.int .i64 b]) x K=K .und ⟨nx',uR objs' 2 ⟨0,pP (cO s2.out 0 ++ [(Nd.key ⟨p.op,p.i,p.e,p.g,a,b⟩,x)])⟩⟩:=fun {nx' objs' x K} hl=> eO hl (y:=Nd.key ⟨p.op,p.i,p.e,p.g,a,b⟩) rfl rfl (oF _ _) (by rw [sL,e1]; rfl)
  simp only [simprocAttr,-ZA,↓zU,↓zD,zV,zT,zW,hN2,h1',h3',h2',hmg2,hms,hpz,Option.map_none,Option.map_some,h5',h4',hkk',xI,xV,xG,hx1 3 (by omega),hx1 5 (by omega),hx1 4 (by omega),hx1 2 (by omega),hx1 1 (by omega),hx3,hx9,y1 1 (by omega),y1 2 (by omega),y1 3 (by omega),y1 4 (by omega),y1 5 (by omega),y2,hke,y3 1 (by omega),y3 2 (by omega),y3 3 (by omega),y3 4 (by omega),y3 5 (by omega),y4,z1 1 (by omega),z1 2 (by omega),z1 4 (by omega),z2 1 (by omega),z2 2 (by omega),z2 4 (by omega)]
  (repeat refine sd ?_)
  have er:ndR (s2.out ++ [⟨p.op,p.i,p.e,p.g,a,b⟩])= ndR s2.out ++ [[.int .i64 p.op,.int .i64 p.i,.int .i64 p.e,.int .i64 p.g,.int .i64 a,.int .i64 b]]:=by simp [ndR,Nd.row]
  rw [qE,er,kY,Nat.zero_add];simp only [iA];exact .same
end Go.Pd
