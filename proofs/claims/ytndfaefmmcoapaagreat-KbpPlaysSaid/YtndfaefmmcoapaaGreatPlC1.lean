/- Part C1. -/
import Derived.Test.YtndfaefmmcoapaaGreatPlSC
import Derived.Test.YtndfaefmmcoapaaGreatPlP7
set_option linter.unusedSectionVars false
set_option linter.unusedVariables false
set_option linter.unusedSimpArgs false
set_option linter.defProp false
set_option maxRecDepth 20000
set_option maxHeartbeats 1000000
open Go.Proofs.Tryz
open List renaming mem_range->γ,countP_cons->δ,all_eq_true->ε,mem_cons_of_mem->ζ,isEmpty_nil->η,nil_append->θ,all_cons->κ,ext_getElem->μ,cons_append->ν,any_eq_true->ξ
open Bool renaming and_eq_true->ο,or_eq_true->π,false_eq_true->τ
open Nat renaming zero_le->υ,pow_le_pow_right->χ,lt_of_lt_of_le->ψ
namespace Go.Pd
open Go Go.Proofs
open BitVec renaming isValue -> ZA
open Ru
theorem M4 (s:BitVec 64):tB .xor .u64 (if IntKind.u64.signed=true then -1 else IntKind.u64.max) (ui s)= ui (~~~s):=by rw [if_neg (by decide),show IntKind.u64.max=ui (BitVec.allOnes 64) by decide +kernel,Sh];congr 1
theorem Vm (n:Nat):xA prog 251 [.int .i64 n] (.int .u64 (ui (wO n))):=by
 refine xI func251 Jc λhf=>?_;unfold wO
 by_cases h:64<=n
 ·have e:(64:Int)<=(n:Int):=by omega
  rw [if_pos h];refine xG e ?_;exact .same
 ·have e:¬ (64:Int)<=(n:Int):=by omega
  rw [if_neg h];refine wA e ?_;exact .same
namespace Ru
structure aA (r : List (BitVec 64)) : Prop where
 len:r.length<=64
 ins:∀ x ∈ r,iM r.length x=false
def lX (r:List (BitVec 64)) (s:BitVec 64):Nat->BitVec 64
 | 0=>0#64
 | w+1=>if (r.getD w 0 &&& ~~~s==0#64)= true then lX r s w ||| 1#64 <<< w else lX r s w
def oF (r:List (BitVec 64)) (s:BitVec 64):BitVec 64:=lX r s r.length
def au (r:List (BitVec 64)) (s:BitVec 64):BitVec 64:=wO r.length &&& ~~~(oF r (~~~s))
end Ru
theorem uw {r:List (BitVec 64)} (ok:aA r):xA prog 250 [.int .i64 r.length,.sl 1 (us r)] (.int .i64 0):=by
 have h1:¬ ((r.length:Int)<0):=by omega
 have h2:¬ ((64:Int)<(r.length:Int)):=by have:=ok.len; omega
 have h3:((r.length:Int) != (r.length:Int))= false:=by simp
 have ha:=Vm r.length;refine xI func250 Jb λhf=>?_;refine cI xT h1 h2 h3 ?_
 refine xU (λk:Nat=>[(19,.int .i64 k),(18,.int .i64 r.length),(17,.sl 1 (us r)),(0,.int .i64 r.length)]) (λ_=>⟨0,[]⟩) (λk=>k<=r.length) (λk=>r.length-k) 0 (υ _) ?_ ?_
 ·exact wE
 intro k hk;refine xN mixed ?_
 by_cases h:k<r.length
 ·have hd:((k:Int)<(r.length:Int)):=by omega
  have hx:=ok.ins _ (xK (d:=0) h)
  have e:(r.getD k 0 &&& ~~~(wO r.length) != 0#64)= false:=by have:=hx;unfold iM at this;rw [bne];simpa using this
  have hg:=zX r h;refine sT hd xT hg ?_;refine .go (cq ha) ?_;refine wA e ?_;refine⟨k+1,by omega,?_,by omega⟩;exact yH
 ·have hd:¬ ((k:Int)<(r.length:Int)):=by omega
  refine xG hd ?_;exact .same
theorem qf {r:List (BitVec 64)} (ok:aA r) (s:BitVec 64):xA prog 214 [.sl 1 (us r),.int .u64 (ui s)] (.int .u64 (ui (oF r s))):=by
 have hc:=uw ok;have hl:=ok.len;refine xI func214 JM λhf=>?_;refine xG xT ?_;refine .go (cr hc) ?_;refine xG xT ?_
 refine xU (λk:Nat=>[(14,.int .i64 k),(13,.int .i64 r.length),(5,.int .u64 (ui (lX r s k))),(1,.int .u64 (ui s)),(0,.sl 1 (us r))]) (λ_=>⟨0,[]⟩) (λk=>k<=r.length) (λk=>r.length-k) 0 (υ _) ?_ ?_
 ·(refine yR.same ?_; simp [yS,Fr.get])
  rfl
 intro k hk;refine xN mixed ?_
 by_cases h:k<r.length
 ·have hd:((k:Int)<(r.length:Int)):=by omega
  have hg:=zX r h;have hs:lX r s (k+1)= if (r.getD k 0 &&& ~~~s==0#64)= true then lX r s k ||| 1#64 <<< k else lX r s k:=rfl
  cases e:(r.getD k 0 &&& ~~~s==0#64) with
  | true=> rw [e,if_pos rfl] at hs;refine uC hd xT hg e ?_;refine⟨k+1,by omega,?_,by omega⟩;rw [hs];exact yH
  | false=> rw [e,if_neg (by simp)] at hs;refine uC hd xT hg e ?_;refine⟨k+1,by omega,?_,by omega⟩;rw [hs];exact yH
 ·have hd:¬ ((k:Int)<(r.length:Int)):=by omega
  have hk':k=r.length:=by omega
  subst hk';refine xG hd ?_;exact .same
theorem W8 {r:List (BitVec 64)} (ok:aA r) (s:BitVec 64):xA prog 215 [.sl 1 (us r),.int .u64 (ui s)] (.int .u64 (ui (au r s))):=by have hc:=uw ok;have ha:=Vm r.length;have hb:=qf ok (~~~s);refine xI func215 JN λhf=>?_;refine xG xT ?_;refine .go (cr hc) ?_;refine xG xT ?_;refine .go (cq ha) ?_;refine xG M4 ?_;refine .go (cr hb) ?_;refine xJ ?_;exact .drop (by simp) (by simp [vw,au])
section
open Rs Fm Ru
namespace Te
end Te
end
section
open Rs Fm Ru Te
namespace Te
end Te
end
section
open Rs Fm Ru Te
end
section
open Rs Fm Ru Te
namespace Te
end Te
end
section
open Rs Fm Ru Te
namespace Te
def GM (T:Nat) (s:Int) (φ:Nat × Nat->Bool) (p:Nat × Nat):Bool:=decide (0<=(p.2:Int)+ s)&& (decide ((p.2:Int)+ s<T)&& φ (p.1,((p.2:Int)+ s).toNat))
end Te
end
section
open Rs Fm Ru Te
end
end Go.Pd

/- Part JA. -/
namespace Go.Pd
open Go Go.Proofs
section
open Rs Fm Ru
namespace Te
abbrev gF :=Nat × Nat->Bool
section
variable (rs : List zB) (A T : Nat)
def rU : List (Nat × Nat):=iO T (rs.length*T)
def bW (a:Nat) (x:gF) (p:Nat × Nat):Bool:=(rU rs T).all λq=>!decide (vL rs a q=vL rs a p) || x q
def lU (g:Nat) (x:gF) (p:Nat × Nat):Bool:=(List.range A).all λa=>!g.testBit a || bW rs T a x p
def Pk (g:Nat) (p q:Nat × Nat):Bool:=(List.range A).all λa=>!g.testBit a || decide (vL rs a p=vL rs a q)
def NO (g:Nat) (x:gF) (p:Nat × Nat):Bool:=(rU rs T).all λq=>!Pk rs A g p q || x q
def T4 (g:Nat) (x y now:gF):gF:=lU rs A T g λq=>!x q || (y q&&now q)
def lC (g:Nat) (x y:gF):Nat->gF
 | 0=>λ_=>true
 | n+1=>T4 rs A T g x y (lC g x y n)
def r7 (g:Nat) (x y:gF):gF:=lC rs A T g x y (rs.length*T)
end
def GN (T:Nat) (s:Int) (k:Nat):Nat:=if 0<s then T-1-k else k
def LI (T:Nat) (s:Int) (x y:gF) (i:Nat):Nat->Bool
 | 0=>false
 | k+1=>y (i,GN T s k) || (x (i,GN T s k)&& LI T s x y i k)
def LM (T:Nat) (s:Int) (x y:gF) (p:Nat × Nat):Bool:=LI T s x y p.1 (if 0<s then T-p.2 else p.2+1)
def Sn (rs:List zB) (n:Nd) (x y:gF) (p:Nat × Nat):Bool:=
 if n.op=1 then true else if n.op=3 then(aw rs p).getLsbD n.i.toNat else if n.op=4 then !x p else if n.op=5 then x p&&y p else if n.op=6 then x p || y p
 else if n.op=7 then !x p || y p else if n.op=8 then x p==y p else false
def gA (rs:List zB) (A T:Nat) (n:Nd) (x y:gF):gF:=
 if n.op=9 then bW rs T n.i.toNat x else if n.op=10 then λp=>!bW rs T n.i.toNat (λq=>!x q) p else if n.op=11 then lU rs A T n.g.toNat x
 else if n.op=12 then NO rs A T n.g.toNat x else if n.op=13 then r7 rs A T n.g.toNat x y else if n.op=18 then GM T 1 x else if n.op=20 then GM T (-1) x
 else if n.op=19 then LM T 1 x y else if n.op=21 then LM T (-1) x y else Sn rs n x y
def sY (rs:List zB) (A T:Nat) (f:List Nd):Nat->List gF
 | 0=>[]
 | k+1=>sY rs A T f k ++ [gA rs A T (f.getD k vW) ((sY rs A T f k).getD (f.getD k vW).x.toNat λ_=>false) ((sY rs A T f k).getD (f.getD k vW).y.toNat λ_=>false)]
theorem cV (rs:List zB) (A T:Nat) (f:List Nd):∀ k,(sY rs A T f k).length=k
 | 0=>rfl
 | k+1=>by simp [sY,cV rs A T f k]
section
variable {rs : List zB} {A T : Nat}
theorem p9 {α:Type} {l:List α} {f g:α->Bool} (h:∀ q ∈ l,f q=g q):l.all f=l.all g:=by
 induction l with
 | nil=>rfl
 | cons a r ih=>rw [κ,κ,h a (by simp),ih λq hq=>h q (ζ _ hq)]
theorem Y6 {a:Nat} {x y:gF} {p:Nat × Nat} (h:∀ q ∈ rU rs T,x q=y q):bW rs T a x p=bW rs T a y p:=p9 λq hq=>by rw [h q hq]
theorem l8 {g:Nat} {x y:gF} {p:Nat × Nat} (h:∀ q ∈ rU rs T,x q=y q):lU rs A T g x p=lU rs A T g y p:=p9 λa _=>by rw [Y6 h]
theorem YK {g:Nat} {x y n m:gF} {p:Nat × Nat} (h:∀ q ∈ rU rs T,n q=m q):T4 rs A T g x y n p=T4 rs A T g x y m p:=l8 λq hq=>by rw [h q hq]
theorem Y1 {g:Nat} {x y:gF} {p:Nat × Nat} (h:∀ q ∈ rU rs T,x q=true->y q=true) (hp:lU rs A T g x p=true):lU rs A T g y p=true:=by
 unfold lU bW at hp ⊢;simp only [ε,π] at hp ⊢;intro a ha
 rcases hp a ha with h1 | h1
 ·exact .inl h1
 ·refine .inr λq hq=>?_
  rcases h1 q hq with h2 | h2
  ·exact .inl h2
  ·exact .inr (h q hq h2)
theorem cn (g:Nat) (x y:gF):∀ (n:Nat) (p:Nat × Nat),lC rs A T g x y (n+1) p=true->lC rs A T g x y n p=true
 | 0,_,_=>rfl
 | n+1,p,h=>Y1 (λq _ hq=>by
   simp only [π,ο] at hq ⊢
   rcases hq with h1 | ⟨h1,h2⟩
   ·exact .inl h1
   ·exact .inr ⟨h1,cn g x y n q h2⟩) h
theorem vt {g:Nat} {x y:gF} {n:Nat} (h:∀ p ∈ rU rs T,lC rs A T g x y (n+1) p=lC rs A T g x y n p):∀ (m:Nat) (p:Nat × Nat),p ∈ rU rs T->lC rs A T g x y (n+m) p=lC rs A T g x y n p
 | 0,_,_=>rfl
 | m+1,p,hp=>by rw [<- h p hp];exact YK λq hq=>vt h m q hq
theorem countP_le {α:Type} {f g:α->Bool}:∀ {l:List α},(∀ q ∈ l,f q=true->g q=true)->l.countP f<=l.countP g
 | [],_=>by simp
 | a :: r,h=>by
  have ih:=countP_le (l:=r) λq hq=>h q (ζ _ hq);rw [δ,δ];have:=h a (by simp)
  by_cases e:f a=true
  ·rw [if_pos e,if_pos (this e)]; omega
  ·rw [if_neg e]; omega
theorem uf {α:Type} {f g:α->Bool}:∀ {l:List α},(∀ q ∈ l,f q=true->g q=true)->(∃ q ∈ l,f q≠g q)->l.countP f<l.countP g
 | [],_,h=>by obtain⟨q,hq,_⟩:=h; cases hq
 | a :: r,h,⟨q,hq,hne⟩=>by
  have h':∀ q ∈ r,f q=true->g q=true:=λq hq=>h q (ζ _ hq);have ih:=countP_le h';rw [δ,δ];have ha:=h a (by simp)
  by_cases e2:f a=g a
  ·have hr:∃ q ∈ r,f q≠g q:=by
    rcases List.mem_cons.1 hq with e | e
    ·subst e; exact absurd e2 hne
    ·exact⟨q,e,hne⟩
   have:=uf h' hr;rw [e2]; omega
  ·have h1:f a=false:=by cases e3:f a with
    | false=>rfl
    | true=>exact absurd (e3.trans (ha e3).symm) e2
   have h2:g a=true:=by cases e3:g a with
    | true=>rfl
    | false=>exact absurd (h1.trans e3.symm) e2
   rw [h1,h2];simp only [τ,if_false,if_true];omega
def Uv (rs:List zB) (A T g:Nat) (x y:gF) (n:Nat):Nat:=(rU rs T).countP (lC rs A T g x y n)
theorem Td (g:Nat) (x y:gF):Uv rs A T g x y 0=rs.length*T:=by unfold Uv rU;rw [show lC rs A T g x y 0=λ_=>true from rfl,List.countP_true,nT]
theorem cm {g:Nat} {x y:gF} {n:Nat} (h:∃ p ∈ rU rs T,lC rs A T g x y (n+1) p≠lC rs A T g x y n p):Uv rs A T g x y (n+1)<Uv rs A T g x y n:= uf (λq _ hq=>cn g x y n q hq) h
def ZX (rs:List zB) (A g:Nat) (p q:Nat × Nat):Bool:=(List.range A).any λa=>g.testBit a&&decide (vL rs a p=vL rs a q)
theorem WV {g:Nat} {x:gF} {p:Nat × Nat}:lU rs A T g x p=true ↔ ∀ q ∈ rU rs T,ZX rs A g p q=true->x q=true:=by
 unfold lU bW ZX;simp only [ε,ξ,π,ο,Bool.not_eq_true',decide_eq_true_eq,decide_eq_false_iff_not]
 constructor
 ·rintro h q hq ⟨a,ha,h1,h2⟩
  rcases h a ha with h3 | h3
  ·rw [h1] at h3; cases h3
  ·rcases h3 q hq with h4 | h4
   ·exact absurd h2.symm h4
   ·exact h4
 ·intro h a ha
  cases e:g.testBit a with
  | false=>exact .inl rfl
  | true=>
   refine .inr λq hq=>?_
   by_cases e2:vL rs a q=vL rs a p
   ·exact .inr (h q hq ⟨a,ha,e,e2.symm⟩)
   ·exact .inl e2
theorem QC (g:Nat) (x y:gF):∃ n,n<=rs.length*T/\∀ p ∈ rU rs T,lC rs A T g x y (n+1) p=lC rs A T g x y n p:=by
 have key:∀ (m n:Nat),Uv rs A T g x y n<=m->n+Uv rs A T g x y n<=rs.length*T->∃ n,n<=rs.length*T/\∀ p ∈ rU rs T,lC rs A T g x y (n+1) p=lC rs A T g x y n p:=by
  intro m
  induction m with
  | zero=> intro n h1 h2;refine⟨n,by omega,λp hp=>Decidable.byContradiction λh=>?_⟩;have:=cm (rs:=rs) (A:=A) (T:=T) ⟨p,hp,h⟩;omega
  | succ m ih=>
   intro n h1 h2
   by_cases h:∃ p ∈ rU rs T,lC rs A T g x y (n+1) p≠lC rs A T g x y n p
   ·have:=cm h;exact ih (n+1) (by omega) (by omega)
   ·exact⟨n,by omega,λp hp=>Decidable.byContradiction λh'=>h ⟨p,hp,h'⟩⟩
 exact key _ 0 (Nat.le_refl _) (by rw [Td]; omega)
end
end Te
end
section
open Rs Fm Ru Te
namespace Te
end Te
end
section
open Rs Fm Ru Te
namespace Te
end Te
end
section
open Rs Fm Ru Te
namespace Te
def fP (x:Int):List (Int × Bool)->Bool
 | []=>false
 | (k,v) :: r=>if x=k then v else fP x r
end Te
end
section
open Rs Fm Ru Te
namespace Te
end Te
end
section
open Rs Fm Ru Te
namespace Te
theorem ME {g a:Nat} (hg:g<2 ^ 60) (ha:a<=60):tB .and .i64 (bc .i64 (g:Int) (a:Int)) 1=if g.testBit a then 1 else 0:=by
 have h2:g / 2 ^ a<=g:=Nat.div_le_self _ _;rw [jU _ _ ha,No (by omega),Nat.testBit_eq_decide_div_mod_eq];have:=Nat.mod_two_eq_zero_or_one (g / 2 ^ a)
 rcases this with h | h
 ·rw [h]; rfl
 ·rw [h]; rfl
end Te
end
section
open Rs Fm Ru Te
namespace Te
end Te
end
section
open Rs Fm Ru Te
end
section
open Rs Fm Ru Te
namespace Te
end Te
end
section
open Rs Fm Ru Te
namespace Te
end Te
end
end Go.Pd

/- Part C2. -/
namespace Go.Pd
open Go Go.Proofs
open BitVec renaming isValue -> ZA
open Rs Fm Ru Te
theorem QB (s:BitVec 64) (l:List (BitVec 64)) (hl:l.length<=1000):xP prog 122 [.sl 1 (us (s :: l))] jN (.yD 0 1 (l.length+1)) ⟨1,[(0,⟨1,us (s :: l)⟩)]⟩:=by
 refine xI func122 L7 λhf=>?_;have hln:(us (s :: l)).length=l.length+1:=by simp [us]
 have h1:=ZR (s :: l);have e:us (s :: l)= [.int .u64 (ui s)] :: us l:=rfl;rw [e] at hln h1 ⊢;refine xJ ?_;have hp:=vD (s :: l);rw [e] at hp;exact⟨by simp,h1,by omega,by omega,sJ.name (n:=0) (by simp) hp (by simp [vw])⟩
theorem Wa {k sz:Nat} {a b:List (List D)} (h:a.length=b.length):xD k sz a=xD k sz b:=by
 cases a with
 | nil=>cases b with
  | nil=>rfl
  | cons e r=>simp at h
 | cons e r=>cases b with
  | nil=>simp at h
  | cons e' r'=>simp only [List.length_cons] at h; simp [xD,h]
theorem Ud (c:Nat) (l:List (BitVec 64)):(us l).map (D.vO c)= us l:=kR c (vD l)
theorem Zv {n:Nat} {xZ:List (Nat × Ob)} (l:List (BitVec 64)) (h:l ≠ []) (hl:l.length<=1000):xP prog 122 [.sl 1 (us l)] ⟨n,xZ⟩ (xD n 1 (us l)) ⟨n+1,yX n 1 (us l)++ xZ⟩:=by
 cases l with
 | nil=>exact absurd rfl h
 | cons s l=> have:=xP.own (σ:=⟨n,xZ⟩) (QB s l (by simp at hl; omega)) (by simp [D.xR,D.xF]);simp only [D.shift,yG,Ob.shift,Ud,ν,θ,Nat.add_zero] at this;simp only [y8,lz,mc,xT,ν,θ];exact this
namespace Ru
def Ps (meet:Bool) (a b:BitVec 64):BitVec 64:=if meet=true then a &&& b else a ||| b
def jw (meet:Bool) (acc r:List (BitVec 64)):List (BitVec 64):=(List.range acc.length).map λi=>Ps meet (acc.getD i 0) (r.getD i 0)
def lY (R:List (List (BitVec 64))) (G:Nat) (meet:Bool):Nat->List (BitVec 64)
 | 0=>[]
 | k+1=>if G.testBit k then(if (lY R G meet k).isEmpty then R.getD k [] else jw meet (lY R G meet k) (R.getD k [])) else lY R G meet k
def zZ (m:vY) (G:Nat) (meet:Bool):List (BitVec 64):=lY m.R G meet m.R.length
def cF (meet:Bool) (acc r:List (BitVec 64)) (w:Nat):List (BitVec 64):=(List.range acc.length).map λi=>if i<w then Ps meet (acc.getD i 0) (r.getD i 0) else acc.getD i 0
theorem U5 (meet:Bool) (acc r:List (BitVec 64)):cF meet acc r 0=acc:=by refine μ (by simp [cF]) λi h1 h2=>?_;simp [cF,List.getD,h2]
theorem Qd (meet:Bool) (acc r:List (BitVec 64)):cF meet acc r acc.length=jw meet acc r:=by unfold cF jw;refine List.map_congr_left λi hi=>?_;rw [γ] at hi;rw [if_pos hi]
theorem Yz (meet:Bool) (acc r:List (BitVec 64)) (w:Nat):(cF meet acc r w).length=acc.length:=by simp [cF]
theorem OS {meet:Bool} {acc r:List (BitVec 64)} {w:Nat} (h:w<acc.length):(cF meet acc r w).getD w 0=acc.getD w 0:=by simp [cF,List.getD,h]
theorem Qe {meet:Bool} {acc r:List (BitVec 64)} {w:Nat} (h:w<acc.length):(cF meet acc r w).set w (Ps meet (acc.getD w 0) (r.getD w 0))= cF meet acc r (w+1):=by
 refine μ (by simp [cF]) λi h1 h2=>?_;simp only [List.getElem_set,cF,List.getElem_map,List.getElem_range]
 by_cases e:w=i
 ·subst e; simp
 ·rw [if_neg e]
  by_cases e2:i<w
  ·rw [if_pos e2,if_pos (by omega)]
  ·rw [if_neg e2,if_neg (by omega)]
theorem ns {m:vY} {W:Nat} (ok:qJ m W) (G:Nat) (meet:Bool):∀ k,k<=m.R.length->lY m.R G meet k = []\/(lY m.R G meet k).length=W
 | 0,_=>.inl rfl
 | k+1,hk=>by
  have hr:=ok.row _ (xK (d:=[]) (show k<m.R.length by omega));rw [lY]
  split
  ·split
   ·exact .inr hr
   ·rcases ns ok G meet k (by omega) with h | h
    ·rename_i hn; rw [h] at hn; exact absurd rfl hn
    ·exact .inr (by simp [jw,h])
  ·exact ns ok G meet k (by omega)
theorem bt (R:List (List (BitVec 64))) (G:Nat) (meet:Bool) (k:Nat):lY R G meet (k+1)= if G.testBit k then(if (lY R G meet k).isEmpty then R.getD k [] else jw meet (lY R G meet k) (R.getD k [])) else lY R G meet k:=rfl
end Ru
theorem dw {m:vY} {W:Nat} (ok:qJ m W) {g:Nat} (hg:1<=g/\g<2 ^ m.R.length) (meet:Bool) (f:FuncId) (hop:∀ a b,xA prog f [.int .u64 (ui a),.int .u64 (ui b)] (.int .u64 (ui (Ps meet a b)))):xA prog 252 [m.d,.int .i64 (g:Int),.fn f []] (.sl 1 (us (zZ m g meet))):=by
 have hc:=mq ok;have h4:=ok.hR;obtain⟨W1,W64⟩:=ok.hW;have hsh:=ti (k:=m.R.length) (by omega);have h2:¬ (g:Int)<1:=by omega
 have h3:¬ ((2 ^ m.R.length:Nat):Int)<=(g:Int):=by omega
 have hg60:g<2 ^ 60:=ψ hg.2 (χ (by decide) (by omega));have hall:lY m.R g meet m.R.length=zZ m g meet:=rfl;unfold vY.d at hc ⊢;refine xI func252 Jd λhf=>?_;refine zC ?_;refine .go (cr hc) ?_;refine uC h2 h3 hsh yZ ?_
 refine xU (λk:Nat=>[(29,.int .i64 k),(28,.int .i64 m.R.length),(27,.sl 1 (rr m.R)),(7,xD 1 1 (us (lY m.R g meet k))),(2,.fn f []),(1,.int .i64 g)])
  (λk=>⟨2,yX 1 1 (us (lY m.R g meet k))⟩) (λk=>k<=m.R.length) (λk=>m.R.length-k) 0 (υ _) ?_ ?_
 ·(refine sS [] [1,0] ?_; simp only [wY,zQ,simprocAttr,-ZA,exists_eq_left',ne_eq,zR,lY,yB,yA,θ,uK])
 intro k hk;refine xN mixed ?_
 by_cases h:k<m.R.length
 ·have hd:((k:Int)<(m.R.length:Int)):=by omega
  have hu:=vX (k:=k) (by omega);have hrl:=ok.row _ (xK (d:=[]) h);have hbr:=ME hg60 (show k<=60 by omega);have hs:=bt m.R g meet k;have hL:=ns ok g meet k hk;have hrg:=tY m.R h;generalize lY m.R g meet k=acc at hs hL ⊢;generalize m.R.getD k []=r at hrl hs hrg
  cases hb:g.testBit k with
  | false=> rw [hb] at hbr hs;refine qP hd hbr hu hrg yZ ?_;refine⟨k+1,by omega,?_,by omega⟩;rw [hs,if_neg (by simp)];exact yH
  | true=>
   rw [hb] at hbr hs;rw [if_pos rfl] at hs hbr
   by_cases he:acc = []
   ·subst he;rw [η,if_pos rfl] at hs;simp only [simprocAttr,-ZA,↓zU,↓zD,zV,zT,zW,hd,hbr,hu,hrg,yZ,η]
    (repeat refine sd ?_)
    have hrne:r ≠ []:=by rintro rfl; simp at hrl; omega
    refine .go (Zv r hrne (by omega)) ?_;refine xG hu ?_;refine⟨k+1,by omega,?_,by omega⟩;rw [hs];exact kC [(1,2)] [1]
   ·have hie:acc.isEmpty=false:=by simpa using he
    have hiu:(us acc).isEmpty=false:=by cases acc with | nil=>exact absurd rfl he | cons a l=>rfl
    rw [hie,if_neg (by simp)] at hs;have hL1:acc.length=W:=hL.resolve_left he;refine oH hd hbr hu hrg yZ hiu ?_
    refine xU (λw:Nat=>[(45,.int .i64 w),(44,.int .i64 acc.length),(29,.int .i64 k),(28,.int .i64 m.R.length),(27,.sl 1 (rr m.R)),(9,.sl 1 (us r)),(7,xD 1 1 (us acc)),(2,.fn f []),(1,.int .i64 g)])
     (λw=>⟨2,yX 1 1 (us (cF meet acc r w))⟩) (λw=>w<=acc.length) (λw=>acc.length-w) 0 (υ _) ?_ ?_
    ·rw [U5];exact wE
    intro w hw;refine xN mixed ?_
    by_cases h4:w<acc.length
    ·have hd4:((w:Int)<(acc.length:Int)):=by omega
     have hw4:=vX (k:=w) (by omega);have hx:w<r.length:=by omega
     have hx':(w:Int)<(r.length:Int):=by omega
     have hma:=OS (meet:=meet) (r:=r) h4;have hms:=Qe (meet:=meet) (r:=r) h4;have hml:=Yz meet acc r w;have hmw:w<(cF meet acc r w).length:=by omega
     generalize cF meet acc r w=z at *;simp only [simprocAttr,-ZA,↓zU,↓zD,zV,zT,zW,hd4,hw4,zX _ hmw,zX _ hx,hma,hml,xT]
     (repeat refine sd ?_)
     refine .go (xP.yP (hop (acc.getD w 0) (r.getD w 0)) rfl) ?_;simp only [simprocAttr,-ZA,↓zU,↓zD,zV,zT,zW,hd4,hw4,zX _ hmw,iK,hma,hml,hms,xT]
     (repeat refine sd ?_)
     refine⟨w+1,by omega,?_,by omega⟩;rw [ni (by rw [xT,xT,Yz,hml])];exact yH
    ·have hd4:¬ ((w:Int)<(acc.length:Int)):=by omega
     have hw':w=acc.length:=by omega
     subst hw';rw [Qd];refine yM hd4 hu ?_;refine⟨k+1,by omega,?_,by omega⟩;rw [hs,Wa (show (us acc).length=(us (jw meet acc r)).length by simp [us,jw])];exact yH
 ·have hd:¬ ((k:Int)<(m.R.length:Int)):=by omega
  have hk':k=m.R.length:=by omega
  subst hk';rw [hall];refine wA hd ?_;refine .drop (by simp) ?_;simp only [wY,zQ,simprocAttr,-ZA,exists_eq_left',ne_eq,zR]
theorem ON (a b:BitVec 64):xA prog 254 [.int .u64 (ui a),.int .u64 (ui b)] (.int .u64 (ui (Ps false a b))):=by refine xI func254 Jf λhf=>?_;refine xJ ?_;exact .same
theorem OM (a b:BitVec 64):xA prog 253 [.int .u64 (ui a),.int .u64 (ui b)] (.int .u64 (ui (Ps true a b))):=by refine xI func253 Je λhf=>?_;refine xJ ?_;exact .same
theorem YP {m:vY} {W:Nat} (ok:qJ m W) {g:Nat} (hg:1<=g/\g<2 ^ m.R.length):xA prog 217 [m.d,.int .i64 (g:Int)] (.sl 1 (us (zZ m g false))):=by have h:=dw ok hg false 254 ON;unfold vY.d at h ⊢;refine xI func217 JP λhf=>?_;refine zC ?_;refine .go (cr h) ?_;refine xJ ?_;exact .dv
theorem Nm {m:vY} {W:Nat} (ok:qJ m W) {g:Nat} (hg:1<=g/\g<2 ^ m.R.length):xA prog 216 [m.d,.int .i64 (g:Int)] (.sl 1 (us (zZ m g true))):=by have h:=dw ok hg true 253 OM;unfold vY.d at h ⊢;refine xI func216 JO λhf=>?_;refine zC ?_;refine .go (cr h) ?_;refine xJ ?_;exact .dv
open Rs Fm Ru Te
namespace Ru
def tA (r:List (BitVec 64)) (a c s:BitVec 64):Nat->BitVec 64
 | 0=>a
 | n+1=>oF r (a &&& ~~~c ||| s &&& tA r a c s n)
theorem cp {r:List (BitVec 64)} {a c s:BitVec 64} {n:Nat} (h:tA r a c s (n+1)= tA r a c s n):∀ m,tA r a c s (n+m)= tA r a c s n
 | 0=>rfl
 | m+1=>by show oF r (a &&& ~~~c ||| s &&& tA r a c s (n+m))= _;rw [cp h m];exact h
theorem iB {n:Nat} (hn:n<=64) {x:BitVec 64} (h:iM n x=false) {i:Nat} (hi:x.getLsbD i=true):i<n:=by
 unfold iM at h;rw [Bool.not_eq_false',decide_eq_true_iff] at h;have h64:i<64:=Decidable.byContradiction λhh=>by rw [BitVec.getLsbD_of_ge _ _ (by omega)] at hi; cases hi
 have:=congrArg (·.getLsbD i) h;simp only [BitVec.getLsbD_and,BitVec.getLsbD_not,uL hn h64,hi,h64,BitVec.getLsbD_zero] at this;simpa using this
def cA (R:List (List (BitVec 64))) (G:Nat) (meet:Bool) (k w v:Nat):Bool:= if meet=true then(List.range k).all λa=>!G.testBit a || ((R.getD a []).getD w 0).getLsbD v else(List.range k).any λa=>G.testBit a&&((R.getD a []).getD w 0).getLsbD v
theorem Ve (meet:Bool) (a b:BitVec 64) (v:Nat):(Ps meet a b).getLsbD v=if meet=true then(a.getLsbD v&&b.getLsbD v) else(a.getLsbD v || b.getLsbD v):=by unfold Ps;cases meet <;> simp
theorem cJ (R:List (List (BitVec 64))) (G:Nat) (meet:Bool) (k w v:Nat):cA R G meet (k+1) w v=if G.testBit k=true then(if meet=true then(cA R G meet k w v&&((R.getD k []).getD w 0).getLsbD v) else(cA R G meet k w v || ((R.getD k []).getD w 0).getLsbD v)) else cA R G meet k w v:=by unfold cA;simp only [List.range_succ,List.any_append,List.all_append,List.any_cons,List.any_nil,κ,List.all_nil,Bool.or_false,Bool.and_true];cases meet <;> cases hG:G.testBit k <;> simp
theorem br {m:vY} {W:Nat} (ok:qJ m W) (G:Nat) (meet:Bool):∀ k,k<=m.R.length->((∀ a,a<k->G.testBit a=false)/\ lY m.R G meet k = [])\/((∃ a,a<k/\G.testBit a=true)/\ (lY m.R G meet k).length=W/\∀ w,w<W->∀ v,((lY m.R G meet k).getD w 0).getLsbD v=cA m.R G meet k w v)
 | 0,_=>.inl ⟨λa h=>by omega,rfl⟩
 | k + 1,hk=>by
  have hr:=ok.row _ (xK (d:=[]) (show k<m.R.length by omega));rw [bt];have ih:=br ok G meet k (by omega)
  cases hb:G.testBit k with
  | false=>
   rw [if_neg (by simp)]
   rcases ih with ⟨h1,h2⟩ | ⟨⟨a,h1,h2⟩,h3,h4⟩
   ·refine .inl ⟨λa ha=>?_,h2⟩
    by_cases e:a=k
    ·rw [e]; exact hb
    ·exact h1 a (by omega)
   ·refine .inr ⟨⟨a,by omega,h2⟩,h3,λw hw v=>?_⟩;rw [cJ,hb,h4 w hw v]; rfl
  | true=>
   rw [if_pos rfl];refine .inr ⟨⟨k,by omega,hb⟩,?_⟩
   rcases ih with ⟨h1,h2⟩ | ⟨_,h3,h4⟩
   ·rw [h2,η,if_pos rfl];refine⟨hr,λw hw v=>?_⟩;rw [cJ,hb,if_pos rfl]
    have hz:cA m.R G meet k w v=meet:=by
     unfold cA
     cases meet
     ·simp only [τ,↓reduceIte,List.any_eq_false,γ];intro a ha;rw [h1 a ha]; simp
     ·simp only [↓reduceIte,ε,γ];intro a ha;rw [h1 a ha]; simp
    rw [hz];cases meet <;> simp
   ·have hne:(lY m.R G meet k).isEmpty=false:=by
     cases hc:lY m.R G meet k with
     | nil=>rw [hc] at h3; have:=ok.hW; simp at h3; omega
     | cons a b=>rfl
    rw [hne,if_neg (by simp)];refine⟨by simp [jw,h3],λw hw v=>?_⟩;rw [cJ,hb,if_pos rfl,<- h4 w hw v]
    have:(jw meet (lY m.R G meet k) (m.R.getD k [])).getD w 0=Ps meet ((lY m.R G meet k).getD w 0) ((m.R.getD k []).getD w 0):=by simp [jw,List.getD,h3,hw]
    rw [this,Ve]
theorem qY {m:vY} {W:Nat} (ok:qJ m W) {g:Nat} (hg:1<=g/\g<2 ^ m.R.length) (meet:Bool):(∃ a,a<m.R.length/\g.testBit a=true)/\ (zZ m g meet).length=W/\∀ w,w<W->∀ v,((zZ m g meet).getD w 0).getLsbD v=cA m.R g meet m.R.length w v:=by
 rcases br ok g meet m.R.length (Nat.le_refl _) with ⟨h1,_⟩ | h
 ·exfalso
  have:g=0:=by
   refine Nat.eq_of_testBit_eq λi=>?_;rw [Nat.zero_testBit]
   by_cases hi:i<m.R.length
   ·exact h1 i hi
   ·exact Nat.testBit_lt_two_pow (ψ hg.2 (χ (by decide) (by omega)))
  omega
 ·exact h
theorem ah {m:vY} {W:Nat} (ok:qJ m W) {a:Nat} (ha:a<m.R.length):aA (m.R.getD a []):=by have hm:=xK (d:=[]) ha;have:=ok.hW;refine⟨by rw [ok.row _ hm]; omega,λx hx=>?_⟩;rw [ok.row _ hm];exact ok.rel _ hm x hx
theorem jA {m:vY} {W:Nat} (ok:qJ m W) {g:Nat} (hg:1<=g/\g<2 ^ m.R.length) (meet:Bool):aA (zZ m g meet):=by
 obtain⟨⟨a,ha,hb⟩,hl,hv⟩:=qY ok hg meet;have hW:=ok.hW;refine⟨by rw [hl]; omega,λx hx=>?_⟩;rw [hl];obtain⟨w,hw,rfl⟩:=List.mem_iff_getElem.1 hx;refine v7 hW.2 λv h=>?_;have hw':w<W:=by omega
 have e:(zZ m g meet)[w]=(zZ m g meet).getD w 0:=by simp [List.getD,hw]
 rw [e,hv w hw' v] at h
 have key:∀ b,b<m.R.length->((m.R.getD b []).getD w 0).getLsbD v=true->v<W:=λb hb' h'=>by have hm:=xK (d:=[]) hb';exact iB hW.2 (ok.rel _ hm _ (xK (d:=0) (by rw [ok.row _ hm]; exact hw'))) h'
 unfold cA at h
 split at h
 ·rw [ε] at h;have:=h a (γ.2 ha);rw [hb] at this;exact key a ha (by simpa using this)
 ·rw [ξ] at h;obtain⟨b,hb1,hb2⟩:=h;rw [ο] at hb2;exact key b (γ.1 hb1) hb2.2
end Ru
theorem Tf {r:List (BitVec 64)} (ok:aA r) {a c s:BitVec 64} {N:Nat} (hN:tA r a c s (N+1)= tA r a c s N):xA prog 218 [.sl 1 (us r),.int .u64 (ui a),.int .u64 (ui c),.int .u64 (ui s)] (.int .u64 (ui (tA r a c s N))):=by
 have hb:=λx=>qf ok x;refine xI func218 JQ λhf=>?_;refine xJ ?_
 refine xU (λn:Nat=>[(9,.int .u64 (ui (tA r a c s n))),(3,.int .u64 (ui s)),(2,.int .u64 (ui c)),(1,.int .u64 (ui a)),(0,.sl 1 (us r))]) (λ_=>⟨0,[]⟩) (λn=>n<=N) (λn=>N-n) 0 (υ _) ?_ ?_
 ·(refine yR.same ?_; simp [yS,Fr.get])
  rfl
 intro n hn;refine xN mixed ?_;have hs:tA r a c s (n+1)= oF r (a &&& ~~~c ||| s &&& tA r a c s n):=rfl;refine xJ ?_;refine .go (xP.yP (hb (a &&& ~~~c ||| s &&& tA r a c s n)) (by simp [D.xR,D.xF])) ?_;rw [<- hs]
 by_cases e:tA r a c s (n+1)= tA r a c s n
 ·obtain⟨k,hk⟩:=Nat.exists_eq_add_of_le hn;have hst:=cp e k;rw [hk,hst];have e':(tA r a c s (n+1)== tA r a c s n)= true:=by rw [e]; simp
  refine xG e' ?_;exact .same
 ·have e':(tA r a c s (n+1)== tA r a c s n)= false:=by rw [beq_eq_false_iff_ne]; exact e
  have hlt:n<N:=Decidable.byContradiction λh=>e (by rw [show n=N by omega]; exact hN);refine xG e' ?_;refine⟨n+1,by omega,?_,by omega⟩;exact yH
end Go.Pd
