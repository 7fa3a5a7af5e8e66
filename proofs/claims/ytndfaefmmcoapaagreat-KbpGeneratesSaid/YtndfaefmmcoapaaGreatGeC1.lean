/- Part C1. -/
import Derived.Test.YtndfaefmmcoapaaGreatGeSC
import Derived.Test.YtndfaefmmcoapaaGreatGeP7
set_option linter.unusedSectionVars false
set_option linter.unusedVariables false
set_option linter.unusedSimpArgs false
set_option linter.defProp false
set_option maxRecDepth 20000
set_option maxHeartbeats 1000000
open Go.Proofs.Tryz
open List renaming mem_range->γ,countP_cons->δ,all_eq_true->ε,mem_cons_of_mem->ζ,isEmpty_nil->η,nil_append->θ,all_cons->κ,ext_getElem->μ,cons_append->ν,any_eq_true->ξ
open Bool renaming and_eq_true->ο,or_eq_true->π,false_eq_true->τ
open Nat renaming zero_le->υ,pow_le_pow_right->χ,lt_of_lt_of_le->ψ
namespace Go.Pd
open Go Go.Proofs
open BitVec renaming isValue -> ZA
open Ru
theorem Lw (s:BitVec 64):sW .xor .u64 (if IntKind.u64.signed=true then -1 else IntKind.u64.max) (ui s)= ui (~~~s):=by rw [if_neg (by decide),show IntKind.u64.max=ui (BitVec.allOnes 64) by decide +kernel,Sh];congr 1
theorem Vl (n:Nat):xA prog 251 [.int .i64 n] (.int .u64 (ui (wM n))):=by
 refine xI func251 JZ λhf=>?_;unfold wM
 by_cases h:64<=n
 ·have e:(64:Int)<=(n:Int):=by omega
  rw [if_pos h];refine xH e ?_;exact .same
 ·have e:¬ (64:Int)<=(n:Int):=by omega
  rw [if_neg h];refine vR e ?_;exact .same
namespace Ru
structure aA (r : List (BitVec 64)) : Prop where
 len:r.length<=64
 ins:∀ x ∈ r,iQ r.length x=false
def lX (r:List (BitVec 64)) (s:BitVec 64):Nat->BitVec 64
 | 0=>0#64
 | w+1=>if (r.getD w 0 &&& ~~~s==0#64)= true then lX r s w ||| 1#64 <<< w else lX r s w
def oG (r:List (BitVec 64)) (s:BitVec 64):BitVec 64:=lX r s r.length
def bd (r:List (BitVec 64)) (s:BitVec 64):BitVec 64:=wM r.length &&& ~~~(oG r (~~~s))
end Ru
theorem uz {r:List (BitVec 64)} (ok:aA r):xA prog 250 [.int .i64 r.length,.sl 1 (us r)] (.int .i64 0):=by
 have h1:¬ ((r.length:Int)<0):=by omega
 have h2:¬ ((64:Int)<(r.length:Int)):=by have:=ok.len; omega
 have h3:((r.length:Int) != (r.length:Int))= false:=by simp
 have ha:=Vl r.length;refine xI func250 JW λhf=>?_;refine cE xT h1 h2 h3 ?_
 refine xU (λk:Nat=>[(19,.int .i64 k),(18,.int .i64 r.length),(17,.sl 1 (us r)),(0,.int .i64 r.length)]) (λ_=>⟨0,[]⟩) (λk=>k<=r.length) (λk=>r.length-k) 0 (υ _) ?_ ?_
 ·exact wO
 intro k hk;refine xN mixed ?_
 by_cases h:k<r.length
 ·have hd:((k:Int)<(r.length:Int)):=by omega
  have hx:=ok.ins _ (xK (d:=0) h)
  have e:(r.getD k 0 &&& ~~~(wM r.length) != 0#64)= false:=by have:=hx;unfold iQ at this;rw [bne];simpa using this
  have hg:=yF r h;refine rF hd xT hg ?_;refine .go (cq ha) ?_;refine vR e ?_;refine⟨k+1,by omega,?_,by omega⟩;exact yL
 ·have hd:¬ ((k:Int)<(r.length:Int)):=by omega
  refine xH hd ?_;exact .same
theorem qh {r:List (BitVec 64)} (ok:aA r) (s:BitVec 64):xA prog 214 [.sl 1 (us r),.int .u64 (ui s)] (.int .u64 (ui (oG r s))):=by
 have hc:=uz ok;have hl:=ok.len;refine xI func214 JH λhf=>?_;refine xH xT ?_;refine .go (cr hc) ?_;refine xH xT ?_
 refine xU (λk:Nat=>[(14,.int .i64 k),(13,.int .i64 r.length),(5,.int .u64 (ui (lX r s k))),(1,.int .u64 (ui s)),(0,.sl 1 (us r))]) (λ_=>⟨0,[]⟩) (λk=>k<=r.length) (λk=>r.length-k) 0 (υ _) ?_ ?_
 ·(refine yR.same ?_; simp [yS,Fr.get])
  rfl
 intro k hk;refine xN mixed ?_
 by_cases h:k<r.length
 ·have hd:((k:Int)<(r.length:Int)):=by omega
  have hg:=yF r h;have hs:lX r s (k+1)= if (r.getD k 0 &&& ~~~s==0#64)= true then lX r s k ||| 1#64 <<< k else lX r s k:=rfl
  cases e:(r.getD k 0 &&& ~~~s==0#64) with
  | true=> rw [e,if_pos rfl] at hs;refine uC hd xT hg e ?_;refine⟨k+1,by omega,?_,by omega⟩;rw [hs];exact yL
  | false=> rw [e,if_neg (by simp)] at hs;refine uC hd xT hg e ?_;refine⟨k+1,by omega,?_,by omega⟩;rw [hs];exact yL
 ·have hd:¬ ((k:Int)<(r.length:Int)):=by omega
  have hk':k=r.length:=by omega
  subst hk';refine xH hd ?_;exact .same
theorem W6 {r:List (BitVec 64)} (ok:aA r) (s:BitVec 64):xA prog 215 [.sl 1 (us r),.int .u64 (ui s)] (.int .u64 (ui (bd r s))):=by have hc:=uz ok;have ha:=Vl r.length;have hb:=qh ok (~~~s);refine xI func215 JI λhf=>?_;refine xH xT ?_;refine .go (cr hc) ?_;refine xH xT ?_;refine .go (cq ha) ?_;refine xH Lw ?_;refine .go (cr hb) ?_;refine xJ ?_;exact .drop (by simp) (by simp [vw,bd])
section
open Rs Fm Ru
namespace Te
end Te
end
section
open Rs Fm Ru Te
namespace Te
end Te
end
section
open Rs Fm Ru Te
end
section
open Rs Fm Ru Te
namespace Te
end Te
end
section
open Rs Fm Ru Te
namespace Te
def GF (T:Nat) (s:Int) (φ:Nat × Nat->Bool) (p:Nat × Nat):Bool:=decide (0<=(p.2:Int)+ s)&& (decide ((p.2:Int)+ s<T)&& φ (p.1,((p.2:Int)+ s).toNat))
end Te
end
section
open Rs Fm Ru Te
end
end Go.Pd

/- Part JA. -/
namespace Go.Pd
open Go Go.Proofs
section
open Rs Fm Ru
namespace Te
abbrev gF :=Nat × Nat->Bool
section
variable (rs : List wX) (A T : Nat)
def rR : List (Nat × Nat):=iS T (rs.length*T)
def bR (a:Nat) (x:gF) (p:Nat × Nat):Bool:=(rR rs T).all λq=>!decide (vJ rs a q=vJ rs a p) || x q
def lU (g:Nat) (x:gF) (p:Nat × Nat):Bool:=(List.range A).all λa=>!g.testBit a || bR rs T a x p
def Pg (g:Nat) (p q:Nat × Nat):Bool:=(List.range A).all λa=>!g.testBit a || decide (vJ rs a p=vJ rs a q)
def NL (g:Nat) (x:gF) (p:Nat × Nat):Bool:=(rR rs T).all λq=>!Pg rs A g p q || x q
def Sy (g:Nat) (x y now:gF):gF:=lU rs A T g λq=>!x q || (y q&&now q)
def lC (g:Nat) (x y:gF):Nat->gF
 | 0=>λ_=>true
 | n+1=>Sy rs A T g x y (lC g x y n)
def s8 (g:Nat) (x y:gF):gF:=lC rs A T g x y (rs.length*T)
end
def GG (T:Nat) (s:Int) (k:Nat):Nat:=if 0<s then T-1-k else k
def LA (T:Nat) (s:Int) (x y:gF) (i:Nat):Nat->Bool
 | 0=>false
 | k+1=>y (i,GG T s k) || (x (i,GG T s k)&& LA T s x y i k)
def LG (T:Nat) (s:Int) (x y:gF) (p:Nat × Nat):Bool:=LA T s x y p.1 (if 0<s then T-p.2 else p.2+1)
def Sl (rs:List wX) (n:Nd) (x y:gF) (p:Nat × Nat):Bool:=
 if n.op=1 then true else if n.op=3 then(bf rs p).getLsbD n.i.toNat else if n.op=4 then !x p else if n.op=5 then x p&&y p else if n.op=6 then x p || y p
 else if n.op=7 then !x p || y p else if n.op=8 then x p==y p else false
def gB (rs:List wX) (A T:Nat) (n:Nd) (x y:gF):gF:=
 if n.op=9 then bR rs T n.i.toNat x else if n.op=10 then λp=>!bR rs T n.i.toNat (λq=>!x q) p else if n.op=11 then lU rs A T n.g.toNat x
 else if n.op=12 then NL rs A T n.g.toNat x else if n.op=13 then s8 rs A T n.g.toNat x y else if n.op=18 then GF T 1 x else if n.op=20 then GF T (-1) x
 else if n.op=19 then LG T 1 x y else if n.op=21 then LG T (-1) x y else Sl rs n x y
def sS (rs:List wX) (A T:Nat) (f:List Nd):Nat->List gF
 | 0=>[]
 | k+1=>sS rs A T f k ++ [gB rs A T (f.getD k vV) ((sS rs A T f k).getD (f.getD k vV).x.toNat λ_=>false) ((sS rs A T f k).getD (f.getD k vV).y.toNat λ_=>false)]
theorem cT (rs:List wX) (A T:Nat) (f:List Nd):∀ k,(sS rs A T f k).length=k
 | 0=>rfl
 | k+1=>by simp [sS,cT rs A T f k]
section
variable {rs : List wX} {A T : Nat}
theorem s7 {α:Type} {l:List α} {f g:α->Bool} (h:∀ q ∈ l,f q=g q):l.all f=l.all g:=by
 induction l with
 | nil=>rfl
 | cons a r ih=>rw [κ,κ,h a (by simp),ih λq hq=>h q (ζ _ hq)]
theorem Y7 {a:Nat} {x y:gF} {p:Nat × Nat} (h:∀ q ∈ rR rs T,x q=y q):bR rs T a x p=bR rs T a y p:=s7 λq hq=>by rw [h q hq]
theorem o6 {g:Nat} {x y:gF} {p:Nat × Nat} (h:∀ q ∈ rR rs T,x q=y q):lU rs A T g x p=lU rs A T g y p:=s7 λa _=>by rw [Y7 h]
theorem YM {g:Nat} {x y n m:gF} {p:Nat × Nat} (h:∀ q ∈ rR rs T,n q=m q):Sy rs A T g x y n p=Sy rs A T g x y m p:=o6 λq hq=>by rw [h q hq]
theorem Y2 {g:Nat} {x y:gF} {p:Nat × Nat} (h:∀ q ∈ rR rs T,x q=true->y q=true) (hp:lU rs A T g x p=true):lU rs A T g y p=true:=by
 unfold lU bR at hp ⊢;simp only [ε,π] at hp ⊢;intro a ha
 rcases hp a ha with h1 | h1
 ·exact .inl h1
 ·refine .inr λq hq=>?_
  rcases h1 q hq with h2 | h2
  ·exact .inl h2
  ·exact .inr (h q hq h2)
theorem cw (g:Nat) (x y:gF):∀ (n:Nat) (p:Nat × Nat),lC rs A T g x y (n+1) p=true->lC rs A T g x y n p=true
 | 0,_,_=>rfl
 | n+1,p,h=>Y2 (λq _ hq=>by
   simp only [π,ο] at hq ⊢
   rcases hq with h1 | ⟨h1,h2⟩
   ·exact .inl h1
   ·exact .inr ⟨h1,cw g x y n q h2⟩) h
theorem vt {g:Nat} {x y:gF} {n:Nat} (h:∀ p ∈ rR rs T,lC rs A T g x y (n+1) p=lC rs A T g x y n p):∀ (m:Nat) (p:Nat × Nat),p ∈ rR rs T->lC rs A T g x y (n+m) p=lC rs A T g x y n p
 | 0,_,_=>rfl
 | m+1,p,hp=>by rw [<- h p hp];exact YM λq hq=>vt h m q hq
theorem countP_le {α:Type} {f g:α->Bool}:∀ {l:List α},(∀ q ∈ l,f q=true->g q=true)->l.countP f<=l.countP g
 | [],_=>by simp
 | a :: r,h=>by
  have ih:=countP_le (l:=r) λq hq=>h q (ζ _ hq);rw [δ,δ];have:=h a (by simp)
  by_cases e:f a=true
  ·rw [if_pos e,if_pos (this e)]; omega
  ·rw [if_neg e]; omega
theorem uf {α:Type} {f g:α->Bool}:∀ {l:List α},(∀ q ∈ l,f q=true->g q=true)->(∃ q ∈ l,f q≠g q)->l.countP f<l.countP g
 | [],_,h=>by obtain⟨q,hq,_⟩:=h; cases hq
 | a :: r,h,⟨q,hq,hne⟩=>by
  have h':∀ q ∈ r,f q=true->g q=true:=λq hq=>h q (ζ _ hq);have ih:=countP_le h';rw [δ,δ];have ha:=h a (by simp)
  by_cases e2:f a=g a
  ·have hr:∃ q ∈ r,f q≠g q:=by
    rcases List.mem_cons.1 hq with e | e
    ·subst e; exact absurd e2 hne
    ·exact⟨q,e,hne⟩
   have:=uf h' hr;rw [e2]; omega
  ·have h1:f a=false:=by cases e3:f a with
    | false=>rfl
    | true=>exact absurd (e3.trans (ha e3).symm) e2
   have h2:g a=true:=by cases e3:g a with
    | true=>rfl
    | false=>exact absurd (h1.trans e3.symm) e2
   rw [h1,h2];simp only [τ,if_false,if_true];omega
def Uw (rs:List wX) (A T g:Nat) (x y:gF) (n:Nat):Nat:=(rR rs T).countP (lC rs A T g x y n)
theorem Td (g:Nat) (x y:gF):Uw rs A T g x y 0=rs.length*T:=by unfold Uw rR;rw [show lC rs A T g x y 0=λ_=>true from rfl,List.countP_true,nT]
theorem cv {g:Nat} {x y:gF} {n:Nat} (h:∃ p ∈ rR rs T,lC rs A T g x y (n+1) p≠lC rs A T g x y n p):Uw rs A T g x y (n+1)<Uw rs A T g x y n:= uf (λq _ hq=>cw g x y n q hq) h
def ZX (rs:List wX) (A g:Nat) (p q:Nat × Nat):Bool:=(List.range A).any λa=>g.testBit a&&decide (vJ rs a p=vJ rs a q)
theorem WT {g:Nat} {x:gF} {p:Nat × Nat}:lU rs A T g x p=true ↔ ∀ q ∈ rR rs T,ZX rs A g p q=true->x q=true:=by
 unfold lU bR ZX;simp only [ε,ξ,π,ο,Bool.not_eq_true',decide_eq_true_eq,decide_eq_false_iff_not]
 constructor
 ·rintro h q hq ⟨a,ha,h1,h2⟩
  rcases h a ha with h3 | h3
  ·rw [h1] at h3; cases h3
  ·rcases h3 q hq with h4 | h4
   ·exact absurd h2.symm h4
   ·exact h4
 ·intro h a ha
  cases e:g.testBit a with
  | false=>exact .inl rfl
  | true=>
   refine .inr λq hq=>?_
   by_cases e2:vJ rs a q=vJ rs a p
   ·exact .inr (h q hq ⟨a,ha,e,e2.symm⟩)
   ·exact .inl e2
theorem QB (g:Nat) (x y:gF):∃ n,n<=rs.length*T/\∀ p ∈ rR rs T,lC rs A T g x y (n+1) p=lC rs A T g x y n p:=by
 have key:∀ (m n:Nat),Uw rs A T g x y n<=m->n+Uw rs A T g x y n<=rs.length*T->∃ n,n<=rs.length*T/\∀ p ∈ rR rs T,lC rs A T g x y (n+1) p=lC rs A T g x y n p:=by
  intro m
  induction m with
  | zero=> intro n h1 h2;refine⟨n,by omega,λp hp=>Decidable.byContradiction λh=>?_⟩;have:=cv (rs:=rs) (A:=A) (T:=T) ⟨p,hp,h⟩;omega
  | succ m ih=>
   intro n h1 h2
   by_cases h:∃ p ∈ rR rs T,lC rs A T g x y (n+1) p≠lC rs A T g x y n p
   ·have:=cv h;exact ih (n+1) (by omega) (by omega)
   ·exact⟨n,by omega,λp hp=>Decidable.byContradiction λh'=>h ⟨p,hp,h'⟩⟩
 exact key _ 0 (Nat.le_refl _) (by rw [Td]; omega)
end
end Te
end
section
open Rs Fm Ru Te
namespace Te
end Te
end
section
open Rs Fm Ru Te
namespace Te
end Te
end
section
open Rs Fm Ru Te
namespace Te
def fO (x:Int):List (Int × Bool)->Bool
 | []=>false
 | (k,v) :: r=>if x=k then v else fO x r
end Te
end
section
open Rs Fm Ru Te
namespace Te
end Te
end
section
open Rs Fm Ru Te
namespace Te
theorem M9 {g a:Nat} (hg:g<2 ^ 60) (ha:a<=60):sW .and .i64 (bl .i64 (g:Int) (a:Int)) 1=if g.testBit a then 1 else 0:=by
 have h2:g / 2 ^ a<=g:=Nat.div_le_self _ _;rw [kA _ _ ha,Nj (by omega),Nat.testBit_eq_decide_div_mod_eq];have:=Nat.mod_two_eq_zero_or_one (g / 2 ^ a)
 rcases this with h | h
 ·rw [h]; rfl
 ·rw [h]; rfl
end Te
end
section
open Rs Fm Ru Te
namespace Te
end Te
end
section
open Rs Fm Ru Te
end
section
open Rs Fm Ru Te
namespace Te
end Te
end
section
open Rs Fm Ru Te
namespace Te
end Te
end
end Go.Pd

/- Part C2. -/
namespace Go.Pd
open Go Go.Proofs
open BitVec renaming isValue -> ZA
open Rs Fm Ru Te
theorem QA (s:BitVec 64) (l:List (BitVec 64)) (hl:l.length<=1000):xQ prog 122 [.sl 1 (us (s :: l))] jR (.yD 0 1 (l.length+1)) ⟨1,[(0,⟨1,us (s :: l)⟩)]⟩:=by
 refine xI func122 L2 λhf=>?_;have hln:(us (s :: l)).length=l.length+1:=by simp [us]
 have h1:=ZS (s :: l);have e:us (s :: l)= [.int .u64 (ui s)] :: us l:=rfl;rw [e] at hln h1 ⊢;refine xJ ?_;have hp:=vT (s :: l);rw [e] at hp;exact⟨by simp,h1,by omega,by omega,sH.name (n:=0) (by simp) hp (by simp [vw])⟩
theorem Wb {k sz:Nat} {a b:List (List D)} (h:a.length=b.length):xB k sz a=xB k sz b:=by
 cases a with
 | nil=>cases b with
  | nil=>rfl
  | cons e r=>simp at h
 | cons e r=>cases b with
  | nil=>simp at h
  | cons e' r'=>simp only [List.length_cons] at h; simp [xB,h]
theorem Ue (c:Nat) (l:List (BitVec 64)):(us l).map (D.vN c)= us l:=nF c (vT l)
theorem Zw {n:Nat} {xZ:List (Nat × Ob)} (l:List (BitVec 64)) (h:l ≠ []) (hl:l.length<=1000):xQ prog 122 [.sl 1 (us l)] ⟨n,xZ⟩ (xB n 1 (us l)) ⟨n+1,yX n 1 (us l)++ xZ⟩:=by
 cases l with
 | nil=>exact absurd rfl h
 | cons s l=> have:=xQ.own (σ:=⟨n,xZ⟩) (QA s l (by simp at hl; omega)) (by simp [D.xR,D.xF]);simp only [D.shift,yH,Ob.shift,Ue,ν,θ,Nat.add_zero] at this;simp only [x9,mq,mr,xT,ν,θ];exact this
namespace Ru
def Pn (meet:Bool) (a b:BitVec 64):BitVec 64:=if meet=true then a &&& b else a ||| b
def ki (meet:Bool) (acc r:List (BitVec 64)):List (BitVec 64):=(List.range acc.length).map λi=>Pn meet (acc.getD i 0) (r.getD i 0)
def lY (R:List (List (BitVec 64))) (G:Nat) (meet:Bool):Nat->List (BitVec 64)
 | 0=>[]
 | k+1=>if G.testBit k then(if (lY R G meet k).isEmpty then R.getD k [] else ki meet (lY R G meet k) (R.getD k [])) else lY R G meet k
def yA (m:vZ) (G:Nat) (meet:Bool):List (BitVec 64):=lY m.R G meet m.R.length
def cB (meet:Bool) (acc r:List (BitVec 64)) (w:Nat):List (BitVec 64):=(List.range acc.length).map λi=>if i<w then Pn meet (acc.getD i 0) (r.getD i 0) else acc.getD i 0
theorem U6 (meet:Bool) (acc r:List (BitVec 64)):cB meet acc r 0=acc:=by refine μ (by simp [cB]) λi h1 h2=>?_;simp [cB,List.getD,h2]
theorem Qc (meet:Bool) (acc r:List (BitVec 64)):cB meet acc r acc.length=ki meet acc r:=by unfold cB ki;refine List.map_congr_left λi hi=>?_;rw [γ] at hi;rw [if_pos hi]
theorem X0 (meet:Bool) (acc r:List (BitVec 64)) (w:Nat):(cB meet acc r w).length=acc.length:=by simp [cB]
theorem OO {meet:Bool} {acc r:List (BitVec 64)} {w:Nat} (h:w<acc.length):(cB meet acc r w).getD w 0=acc.getD w 0:=by simp [cB,List.getD,h]
theorem Qd {meet:Bool} {acc r:List (BitVec 64)} {w:Nat} (h:w<acc.length):(cB meet acc r w).set w (Pn meet (acc.getD w 0) (r.getD w 0))= cB meet acc r (w+1):=by
 refine μ (by simp [cB]) λi h1 h2=>?_;simp only [List.getElem_set,cB,List.getElem_map,List.getElem_range]
 by_cases e:w=i
 ·subst e; simp
 ·rw [if_neg e]
  by_cases e2:i<w
  ·rw [if_pos e2,if_pos (by omega)]
  ·rw [if_neg e2,if_neg (by omega)]
theorem od {m:vZ} {W:Nat} (ok:qG m W) (G:Nat) (meet:Bool):∀ k,k<=m.R.length->lY m.R G meet k = []\/(lY m.R G meet k).length=W
 | 0,_=>.inl rfl
 | k+1,hk=>by
  have hr:=ok.row _ (xK (d:=[]) (show k<m.R.length by omega));rw [lY]
  split
  ·split
   ·exact .inr hr
   ·rcases od ok G meet k (by omega) with h | h
    ·rename_i hn; rw [h] at hn; exact absurd rfl hn
    ·exact .inr (by simp [ki,h])
  ·exact od ok G meet k (by omega)
theorem cg (R:List (List (BitVec 64))) (G:Nat) (meet:Bool) (k:Nat):lY R G meet (k+1)= if G.testBit k then(if (lY R G meet k).isEmpty then R.getD k [] else ki meet (lY R G meet k) (R.getD k [])) else lY R G meet k:=rfl
end Ru
theorem ez {m:vZ} {W:Nat} (ok:qG m W) {g:Nat} (hg:1<=g/\g<2 ^ m.R.length) (meet:Bool) (f:FuncId) (hop:∀ a b,xA prog f [.int .u64 (ui a),.int .u64 (ui b)] (.int .u64 (ui (Pn meet a b)))):xA prog 252 [m.d,.int .i64 (g:Int),.fn f []] (.sl 1 (us (yA m g meet))):=by
 have hc:=ni ok;have h4:=ok.hR;obtain⟨W1,W64⟩:=ok.hW;have hsh:=tj (k:=m.R.length) (by omega);have h2:¬ (g:Int)<1:=by omega
 have h3:¬ ((2 ^ m.R.length:Nat):Int)<=(g:Int):=by omega
 have hg60:g<2 ^ 60:=ψ hg.2 (χ (by decide) (by omega));have hall:lY m.R g meet m.R.length=yA m g meet:=rfl;unfold vZ.d at hc ⊢;refine xI func252 JY λhf=>?_;refine zI ?_;refine .go (cr hc) ?_;refine uC h2 h3 hsh yZ ?_
 refine xU (λk:Nat=>[(29,.int .i64 k),(28,.int .i64 m.R.length),(27,.sl 1 (rr m.R)),(7,xB 1 1 (us (lY m.R g meet k))),(2,.fn f []),(1,.int .i64 g)])
  (λk=>⟨2,yX 1 1 (us (lY m.R g meet k))⟩) (λk=>k<=m.R.length) (λk=>m.R.length-k) 0 (υ _) ?_ ?_
 ·(refine rZ [] [1,0] ?_; simp only [wR,zQ,simprocAttr,-ZA,exists_eq_left',ne_eq,zR,lY,zL,zK,θ,vC])
 intro k hk;refine xN mixed ?_
 by_cases h:k<m.R.length
 ·have hd:((k:Int)<(m.R.length:Int)):=by omega
  have hu:=wK (k:=k) (by omega);have hrl:=ok.row _ (xK (d:=[]) h);have hbr:=M9 hg60 (show k<=60 by omega);have hs:=cg m.R g meet k;have hL:=od ok g meet k hk;have hrg:=tZ m.R h;generalize lY m.R g meet k=acc at hs hL ⊢;generalize m.R.getD k []=r at hrl hs hrg
  cases hb:g.testBit k with
  | false=> rw [hb] at hbr hs;refine rI hd hbr hu hrg yZ ?_;refine⟨k+1,by omega,?_,by omega⟩;rw [hs,if_neg (by simp)];exact yL
  | true=>
   rw [hb] at hbr hs;rw [if_pos rfl] at hs hbr
   by_cases he:acc = []
   ·subst he;rw [η,if_pos rfl] at hs;simp only [simprocAttr,-ZA,↓zU,↓zD,zV,zT,zW,hd,hbr,hu,hrg,yZ,η]
    (repeat refine sd ?_)
    have hrne:r ≠ []:=by rintro rfl; simp at hrl; omega
    refine .go (Zw r hrne (by omega)) ?_;refine xH hu ?_;refine⟨k+1,by omega,?_,by omega⟩;rw [hs];exact mD [(1,2)] [1]
   ·have hie:acc.isEmpty=false:=by simpa using he
    have hiu:(us acc).isEmpty=false:=by cases acc with | nil=>exact absurd rfl he | cons a l=>rfl
    rw [hie,if_neg (by simp)] at hs;have hL1:acc.length=W:=hL.resolve_left he;refine pH hd hbr hu hrg yZ hiu ?_
    refine xU (λw:Nat=>[(45,.int .i64 w),(44,.int .i64 acc.length),(29,.int .i64 k),(28,.int .i64 m.R.length),(27,.sl 1 (rr m.R)),(9,.sl 1 (us r)),(7,xB 1 1 (us acc)),(2,.fn f []),(1,.int .i64 g)])
     (λw=>⟨2,yX 1 1 (us (cB meet acc r w))⟩) (λw=>w<=acc.length) (λw=>acc.length-w) 0 (υ _) ?_ ?_
    ·rw [U6];exact wO
    intro w hw;refine xN mixed ?_
    by_cases h4:w<acc.length
    ·have hd4:((w:Int)<(acc.length:Int)):=by omega
     have hw4:=wK (k:=w) (by omega);have hx:w<r.length:=by omega
     have hx':(w:Int)<(r.length:Int):=by omega
     have hma:=OO (meet:=meet) (r:=r) h4;have hms:=Qd (meet:=meet) (r:=r) h4;have hml:=X0 meet acc r w;have hmw:w<(cB meet acc r w).length:=by omega
     generalize cB meet acc r w=z at *;simp only [simprocAttr,-ZA,↓zU,↓zD,zV,zT,zW,hd4,hw4,yF _ hmw,yF _ hx,hma,hml,xT]
     (repeat refine sd ?_)
     refine .go (xQ.yP (hop (acc.getD w 0) (r.getD w 0)) rfl) ?_;simp only [simprocAttr,-ZA,↓zU,↓zD,zV,zT,zW,hd4,hw4,yF _ hmw,iO,hma,hml,hms,xT]
     (repeat refine sd ?_)
     refine⟨w+1,by omega,?_,by omega⟩;rw [nu (by rw [xT,xT,X0,hml])];exact yL
    ·have hd4:¬ ((w:Int)<(acc.length:Int)):=by omega
     have hw':w=acc.length:=by omega
     subst hw';rw [Qc];refine yO hd4 hu ?_;refine⟨k+1,by omega,?_,by omega⟩;rw [hs,Wb (show (us acc).length=(us (ki meet acc r)).length by simp [us,ki])];exact yL
 ·have hd:¬ ((k:Int)<(m.R.length:Int)):=by omega
  have hk':k=m.R.length:=by omega
  subst hk';rw [hall];refine vR hd ?_;refine .drop (by simp) ?_;simp only [wR,zQ,simprocAttr,-ZA,exists_eq_left',ne_eq,zR]
theorem OK (a b:BitVec 64):xA prog 254 [.int .u64 (ui a),.int .u64 (ui b)] (.int .u64 (ui (Pn false a b))):=by refine xI func254 Ja λhf=>?_;refine xJ ?_;exact .same
theorem OJ (a b:BitVec 64):xA prog 253 [.int .u64 (ui a),.int .u64 (ui b)] (.int .u64 (ui (Pn true a b))):=by refine xI func253 JX λhf=>?_;refine xJ ?_;exact .same
theorem YR {m:vZ} {W:Nat} (ok:qG m W) {g:Nat} (hg:1<=g/\g<2 ^ m.R.length):xA prog 217 [m.d,.int .i64 (g:Int)] (.sl 1 (us (yA m g false))):=by have h:=ez ok hg false 254 OK;unfold vZ.d at h ⊢;refine xI func217 JK λhf=>?_;refine zI ?_;refine .go (cr h) ?_;refine xJ ?_;exact .dv
theorem Nh {m:vZ} {W:Nat} (ok:qG m W) {g:Nat} (hg:1<=g/\g<2 ^ m.R.length):xA prog 216 [m.d,.int .i64 (g:Int)] (.sl 1 (us (yA m g true))):=by have h:=ez ok hg true 253 OJ;unfold vZ.d at h ⊢;refine xI func216 JJ λhf=>?_;refine zI ?_;refine .go (cr h) ?_;refine xJ ?_;exact .dv
open Rs Fm Ru Te
namespace Ru
def sU (r:List (BitVec 64)) (a c s:BitVec 64):Nat->BitVec 64
 | 0=>a
 | n+1=>oG r (a &&& ~~~c ||| s &&& sU r a c s n)
theorem de {r:List (BitVec 64)} {a c s:BitVec 64} {n:Nat} (h:sU r a c s (n+1)= sU r a c s n):∀ m,sU r a c s (n+m)= sU r a c s n
 | 0=>rfl
 | m+1=>by show oG r (a &&& ~~~c ||| s &&& sU r a c s (n+m))= _;rw [de h m];exact h
theorem iB {n:Nat} (hn:n<=64) {x:BitVec 64} (h:iQ n x=false) {i:Nat} (hi:x.getLsbD i=true):i<n:=by
 unfold iQ at h;rw [Bool.not_eq_false',decide_eq_true_iff] at h;have h64:i<64:=Decidable.byContradiction λhh=>by rw [BitVec.getLsbD_of_ge _ _ (by omega)] at hi; cases hi
 have:=congrArg (·.getLsbD i) h;simp only [BitVec.getLsbD_and,BitVec.getLsbD_not,uL hn h64,hi,h64,BitVec.getLsbD_zero] at this;simpa using this
def bZ (R:List (List (BitVec 64))) (G:Nat) (meet:Bool) (k w v:Nat):Bool:= if meet=true then(List.range k).all λa=>!G.testBit a || ((R.getD a []).getD w 0).getLsbD v else(List.range k).any λa=>G.testBit a&&((R.getD a []).getD w 0).getLsbD v
theorem Vh (meet:Bool) (a b:BitVec 64) (v:Nat):(Pn meet a b).getLsbD v=if meet=true then(a.getLsbD v&&b.getLsbD v) else(a.getLsbD v || b.getLsbD v):=by unfold Pn;cases meet <;> simp
theorem cG (R:List (List (BitVec 64))) (G:Nat) (meet:Bool) (k w v:Nat):bZ R G meet (k+1) w v=if G.testBit k=true then(if meet=true then(bZ R G meet k w v&&((R.getD k []).getD w 0).getLsbD v) else(bZ R G meet k w v || ((R.getD k []).getD w 0).getLsbD v)) else bZ R G meet k w v:=by unfold bZ;simp only [List.range_succ,List.any_append,List.all_append,List.any_cons,List.any_nil,κ,List.all_nil,Bool.or_false,Bool.and_true];cases meet <;> cases hG:G.testBit k <;> simp
theorem cd {m:vZ} {W:Nat} (ok:qG m W) (G:Nat) (meet:Bool):∀ k,k<=m.R.length->((∀ a,a<k->G.testBit a=false)/\ lY m.R G meet k = [])\/((∃ a,a<k/\G.testBit a=true)/\ (lY m.R G meet k).length=W/\∀ w,w<W->∀ v,((lY m.R G meet k).getD w 0).getLsbD v=bZ m.R G meet k w v)
 | 0,_=>.inl ⟨λa h=>by omega,rfl⟩
 | k + 1,hk=>by
  have hr:=ok.row _ (xK (d:=[]) (show k<m.R.length by omega));rw [cg];have ih:=cd ok G meet k (by omega)
  cases hb:G.testBit k with
  | false=>
   rw [if_neg (by simp)]
   rcases ih with ⟨h1,h2⟩ | ⟨⟨a,h1,h2⟩,h3,h4⟩
   ·refine .inl ⟨λa ha=>?_,h2⟩
    by_cases e:a=k
    ·rw [e]; exact hb
    ·exact h1 a (by omega)
   ·refine .inr ⟨⟨a,by omega,h2⟩,h3,λw hw v=>?_⟩;rw [cG,hb,h4 w hw v]; rfl
  | true=>
   rw [if_pos rfl];refine .inr ⟨⟨k,by omega,hb⟩,?_⟩
   rcases ih with ⟨h1,h2⟩ | ⟨_,h3,h4⟩
   ·rw [h2,η,if_pos rfl];refine⟨hr,λw hw v=>?_⟩;rw [cG,hb,if_pos rfl]
    have hz:bZ m.R G meet k w v=meet:=by
     unfold bZ
     cases meet
     ·simp only [τ,↓reduceIte,List.any_eq_false,γ];intro a ha;rw [h1 a ha]; simp
     ·simp only [↓reduceIte,ε,γ];intro a ha;rw [h1 a ha]; simp
    rw [hz];cases meet <;> simp
   ·have hne:(lY m.R G meet k).isEmpty=false:=by
     cases hc:lY m.R G meet k with
     | nil=>rw [hc] at h3; have:=ok.hW; simp at h3; omega
     | cons a b=>rfl
    rw [hne,if_neg (by simp)];refine⟨by simp [ki,h3],λw hw v=>?_⟩;rw [cG,hb,if_pos rfl,<- h4 w hw v]
    have:(ki meet (lY m.R G meet k) (m.R.getD k [])).getD w 0=Pn meet ((lY m.R G meet k).getD w 0) ((m.R.getD k []).getD w 0):=by simp [ki,List.getD,h3,hw]
    rw [this,Vh]
theorem qZ {m:vZ} {W:Nat} (ok:qG m W) {g:Nat} (hg:1<=g/\g<2 ^ m.R.length) (meet:Bool):(∃ a,a<m.R.length/\g.testBit a=true)/\ (yA m g meet).length=W/\∀ w,w<W->∀ v,((yA m g meet).getD w 0).getLsbD v=bZ m.R g meet m.R.length w v:=by
 rcases cd ok g meet m.R.length (Nat.le_refl _) with ⟨h1,_⟩ | h
 ·exfalso
  have:g=0:=by
   refine Nat.eq_of_testBit_eq λi=>?_;rw [Nat.zero_testBit]
   by_cases hi:i<m.R.length
   ·exact h1 i hi
   ·exact Nat.testBit_lt_two_pow (ψ hg.2 (χ (by decide) (by omega)))
  omega
 ·exact h
theorem aq {m:vZ} {W:Nat} (ok:qG m W) {a:Nat} (ha:a<m.R.length):aA (m.R.getD a []):=by have hm:=xK (d:=[]) ha;have:=ok.hW;refine⟨by rw [ok.row _ hm]; omega,λx hx=>?_⟩;rw [ok.row _ hm];exact ok.rel _ hm x hx
theorem jD {m:vZ} {W:Nat} (ok:qG m W) {g:Nat} (hg:1<=g/\g<2 ^ m.R.length) (meet:Bool):aA (yA m g meet):=by
 obtain⟨⟨a,ha,hb⟩,hl,hv⟩:=qZ ok hg meet;have hW:=ok.hW;refine⟨by rw [hl]; omega,λx hx=>?_⟩;rw [hl];obtain⟨w,hw,rfl⟩:=List.mem_iff_getElem.1 hx;refine w8 hW.2 λv h=>?_;have hw':w<W:=by omega
 have e:(yA m g meet)[w]=(yA m g meet).getD w 0:=by simp [List.getD,hw]
 rw [e,hv w hw' v] at h
 have key:∀ b,b<m.R.length->((m.R.getD b []).getD w 0).getLsbD v=true->v<W:=λb hb' h'=>by have hm:=xK (d:=[]) hb';exact iB hW.2 (ok.rel _ hm _ (xK (d:=0) (by rw [ok.row _ hm]; exact hw'))) h'
 unfold bZ at h
 split at h
 ·rw [ε] at h;have:=h a (γ.2 ha);rw [hb] at this;exact key a ha (by simpa using this)
 ·rw [ξ] at h;obtain⟨b,hb1,hb2⟩:=h;rw [ο] at hb2;exact key b (γ.1 hb1) hb2.2
end Ru
theorem Tf {r:List (BitVec 64)} (ok:aA r) {a c s:BitVec 64} {N:Nat} (hN:sU r a c s (N+1)= sU r a c s N):xA prog 218 [.sl 1 (us r),.int .u64 (ui a),.int .u64 (ui c),.int .u64 (ui s)] (.int .u64 (ui (sU r a c s N))):=by
 have hb:=λx=>qh ok x;refine xI func218 JL λhf=>?_;refine xJ ?_
 refine xU (λn:Nat=>[(9,.int .u64 (ui (sU r a c s n))),(3,.int .u64 (ui s)),(2,.int .u64 (ui c)),(1,.int .u64 (ui a)),(0,.sl 1 (us r))]) (λ_=>⟨0,[]⟩) (λn=>n<=N) (λn=>N-n) 0 (υ _) ?_ ?_
 ·(refine yR.same ?_; simp [yS,Fr.get])
  rfl
 intro n hn;refine xN mixed ?_;have hs:sU r a c s (n+1)= oG r (a &&& ~~~c ||| s &&& sU r a c s n):=rfl;refine xJ ?_;refine .go (xQ.yP (hb (a &&& ~~~c ||| s &&& sU r a c s n)) (by simp [D.xR,D.xF])) ?_;rw [<- hs]
 by_cases e:sU r a c s (n+1)= sU r a c s n
 ·obtain⟨k,hk⟩:=Nat.exists_eq_add_of_le hn;have hst:=de e k;rw [hk,hst];have e':(sU r a c s (n+1)== sU r a c s n)= true:=by rw [e]; simp
  refine xH e' ?_;exact .same
 ·have e':(sU r a c s (n+1)== sU r a c s n)= false:=by rw [beq_eq_false_iff_ne]; exact e
  have hlt:n<N:=Decidable.byContradiction λh=>e (by rw [show n=N by omega]; exact hN);refine xH e' ?_;refine⟨n+1,by omega,?_,by omega⟩;exact yL
end Go.Pd
