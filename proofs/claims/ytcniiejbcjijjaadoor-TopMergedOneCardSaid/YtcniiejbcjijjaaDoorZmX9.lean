/- Part X9. -/
import Derived.Test.YtcniiejbcjijjaaDoorZmXS
import Derived.Test.YtcniiejbcjijjaaDoorZmCode
import Derived.Test.YtcniiejbcjijjaaDoorZmX6
set_option linter.unusedSectionVars false
set_option linter.unusedVariables false
set_option linter.unusedSimpArgs false
set_option linter.defProp false
set_option maxRecDepth 20000
set_option maxHeartbeats 1000000
open Go.Proofs.Tryd
namespace Go.Pd
open Go Go.Proofs
theorem xm {n:Nat} (hn:n<=61):cL .i64 1 (n:Int)= ((2 ^ n:Nat):Int):=iw (by omega)
theorem pN {n:Nat} (hn:n<=1000000):IntKind.u64.wrap (n:Int)= (n:Int):=wrap_u64 (by omega)
theorem wc {n:Nat} (hn:n<=61):ui (1#64 <<< n)= ((2 ^ n:Nat):Int):=by have h:2 ^ n<2 ^ 64:=Nat.pow_lt_pow_right (by omega) (by omega);unfold ui;rw [BitVec.toNat_shiftLeft,Nat.shiftLeft_eq];show ((1*2 ^ n % 2 ^ 64:Nat):Int)= _;rw [Nat.one_mul,Nat.mod_eq_of_lt h]
theorem jY {k:Nat} (h:k<18446744073709551616):ui (BitVec.ofNat 64 k)= (k:Int):=by unfold ui; rw [BitVec.toNat_ofNat,Nat.mod_eq_of_lt h]
theorem wF {α:Type} {l:List α} {k:Nat} {d:α} (h:k<l.length):l.take (k+1)= l.take k ++ [l.getD k d]:=by rw [List.take_add_one]; simp [List.getD,h]
theorem nT {α:Type} {l:List α} {k:Nat} {d:α} (h:k<l.length):l.getD k d ∈ l:=by simp [List.getD,h]
theorem nd {α:Type} {l:List α} {k:Nat} (h:k=l.length):l.take k=l:=by rw [h,List.take_length]
theorem ao (x y:Int):(if x<y then y else x)= max x y:=by rw [Int.max_def]; split <;> split <;> omega
theorem ak (x y:Int):(if y<x then y else x)= min x y:=by rw [Int.min_def]; split <;> split <;> omega
theorem mV {α:Type} {l:List α} (h:0<l.length):l ≠ []:=List.length_pos_iff.1 h
theorem nZ (k:IntKind) (l:List Int) (i:Nat) (n:Int):(rows k l).set i [.int k n]=rows k (l.set i n):=by simp [rows,List.map_set]
theorem iC (k:IntKind) (n:Nat) (s:Int):List.replicate n [D.int k s]=rows k (List.replicate n s):=by simp [rows]
section
variable [zF]
theorem xU.pc {P:Program} {g:FuncId} {args:List D} {σ:St} {sz len:Nat} {xX:List (List D)} (hc:xU P g args hZ (.yR 0 sz len) ⟨1,[(0,⟨sz,xX⟩)]⟩) (hp:D.xZ args=true) (he:∀ e ∈ xX,D.xZ e=true) :
  xU P g args σ (.yR σ.nx sz len) ⟨σ.nx+1,(σ.nx,⟨sz,xX⟩) :: σ.xW⟩:=by
 have h:=xU.own (σ:=σ) hc hp;simpa [wW,Ob.shift,aR _ he,D.shift] using h
theorem bK {key m n sz len:Nat} {xX:List (List D)} (hs:0<sz) (hp:∀ e ∈ xX,D.xZ e=true) (hl:len=xX.length) {ρ:Nat->Nat} {r:List (Nat × Ob)}:vw ⟨m,(key,⟨sz,xX⟩) :: r⟩ ⟨n,[]⟩ ρ (.yR key sz len) (.sl sz xX):=by subst hl;simp only [vw];exact⟨trivial,hs,by simp,⟨sz,xX⟩,by simp [St.get,St.look],rfl,Nat.le_refl _,by simp,hp⟩
theorem fT {σ:St} {k0 n:Nat} {k:IntKind} {l:List Int} (hg:σ.get k0=some ⟨1,rows k l⟩) (hn:n=l.length):pR σ (.yR k0 1 n) (.sl 1 (rows k l)):=by subst hn;simp only [pR];exact⟨trivial,by omega,⟨1,rows k l⟩,hg,rfl,by rw [zE]; exact Nat.le_refl _,by rw [<- zE k l,List.take_length],wV k l⟩
theorem jO {σ:St} (k:IntKind) (x:Int):pR σ (.int k x) (.int k x):=by simp [pR,D.xS]
theorem kg {k s:Nat} {xX:List (List D)} (h:xX ≠ []):yW k s xX = .yR k s xX.length:=by cases xX with
 | nil=>exact absurd rfl h
 | cons e r=>rfl
theorem ki {k s:Nat} {xX:List (List D)} (h:xX ≠ []):xH k s xX = [(k,⟨s,xX⟩)]:=by cases xX with
 | nil=>exact absurd rfl h
 | cons e r=>rfl
theorem jX {σ σ':St} {ρ:Nat->Nat} {a b sz:Nat} {xX els':List (List D)} (hl:els'.length=xX.length):vw σ σ' ρ (yW a sz els') (yW b sz xX)= (xX = []\/(b<σ'.nx/\a=ρ b)):=by
 cases els' with
 | nil=>cases xX with
  | nil=>simp [yW,vw]
  | cons e l=>simp at hl
 | cons e' l'=>cases xX with
  | nil=>simp at hl
  | cons e l=>simp only [yW,vw,hl]; simp
def rl (ll:List (List Int)):List (List D):=ll.map λl=>[.sl 1 (rows .i64 l)]
theorem zA (l:List (List Int)):(rl l).length=l.length:=by simp [rl]
theorem sV (l:List (List Int)) {i:Nat} (h:i<l.length):(rl l).getD i [] = [.sl 1 (rows .i64 (l.getD i []))]:=by simp [rl,List.getD,h]
theorem iu (l:List (List Int)) (n:Nat):(rl l).take n=rl (l.take n):=by simp [rl,List.map_take]
theorem eG (l:List (List Int)) (r:List Int):rl l ++ [[.sl 1 (rows .i64 r)]]=rl (l ++ [r]):=by simp [rl]
theorem rW (l:List (List Int)):∀ e ∈ rl l,D.xZ e=true:=by intro e he;simp only [rl,List.mem_map] at he;obtain⟨r,_,rfl⟩:=he;have h:∀ e ∈ rows .i64 r,D.xZ e=true:=wV _ r;have:(rows .i64 r).all D.xZ=true:=List.all_eq_true.2 h;simp [D.xZ,D.xS,this]
theorem bb (l:List (List Int)):∀ e ∈ rl l,yS e=true:=by intro e he;simp only [rl,List.mem_map] at he;obtain⟨r,_,rfl⟩:=he;rfl
theorem jS (l:List (List Int)):vD (rl l):=rW l
end
section
variable [zF]
end
theorem mixed : prog.follows .mixedOrders=true:=by kernel_rfl
def kV : List (List D):=[[.bool false,.fn 101 []],[.bool false,.fn 102 []],[.bool false,.fn 103 []],[.bool false,.fn 104 []],[.bool true,.fn 105 []],[.bool true,.fn 106 []]]
instance Xs : zF := ⟨[], [(0, .sl 2 kV)]⟩
theorem w5 : bY 0 [.sl 2 kV]:=yz (show ((0:Nat),D.sl 2 kV)∈ [((0:Nat),D.sl 2 kV)] from List.mem_singleton.2 rfl)
theorem yP {g:FuncId} {fn:Func} {own:List Nat} {N:Nat} {dc:DC} {rs:List oM} {args:List D} {σ:St} {d:D} {σ':St} (hf:prog.funcs[g]?=some fn) (hc:xV prog own fn=some (N,dc,rs))
  (h:D.tV args->gR ⟨prog,N,σ.nx,own,none⟩ dc (bX ⟨prog,N,σ.nx,own,none⟩ rs d σ') (qX 0 args) σ) (hla:args.length<=N:=by simp):xU prog g args σ d σ':=xU.p3 mixed hf hc hla h
end Go.Pd

/- Part G1. -/
namespace Go.Pd.Mg
open Go
def uF (f:Nat->Int) (p:Nat->Bool) (n0:Int):Nat->Int
 | 0=>n0
 | k+1=>if p k then min (uF f p n0 k) (f k) else uF f p n0 k
theorem ve {f:Nat->Int} {p:Nat->Bool} {n0:Int}:∀ k,uF f p n0 k<=n0/\∀ i,i<k->p i=true->uF f p n0 k<=f i
 | 0=>⟨Int.le_refl _,λi hi=>by omega⟩
 | k+1=>by
  obtain⟨h1,h2⟩:=ve (f:=f) (p:=p) (n0:=n0) k;unfold uF
  split
  ·refine⟨by omega,λi hi hp=>?_⟩
   by_cases e:i=k
   ·subst e; omega
   ·have:=h2 i (by omega) hp; omega
  ·rename_i hk;refine⟨h1,λi hi hp=>?_⟩
   by_cases e:i=k
   ·subst e; exact absurd hp hk
   ·exact h2 i (by omega) hp
theorem eB {f:Nat->Int} {p:Nat->Bool} {n0:Int}:∀ k,uF f p n0 k=n0\/∃ i,i<k/\p i=true/\uF f p n0 k=f i
 | 0=>.inl rfl
 | k+1=>by
  unfold uF
  split
  ·rename_i hk
   rcases eB (f:=f) (p:=p) (n0:=n0) k with h | ⟨i,hi,hp,h⟩
   ·by_cases h2:f k<uF f p n0 k
    ·exact .inr ⟨k,by omega,hk,by omega⟩
    ·exact .inl (by omega)
   ·by_cases h2:f k<uF f p n0 k
    ·exact .inr ⟨k,by omega,hk,by omega⟩
    ·exact .inr ⟨i,by omega,hp,by omega⟩
  ·rcases eB (f:=f) (p:=p) (n0:=n0) k with h | ⟨i,hi,hp,h⟩
   ·exact .inl h
   ·exact .inr ⟨i,by omega,hp,h⟩
theorem vd {f:Nat->Int} {p:Nat->Bool} {n0 b:Int} (h0:b<=n0) (h:∀ i,b<=f i) (k:Nat):b<=uF f p n0 k:=by
 rcases eB (f:=f) (p:=p) (n0:=n0) k with e | ⟨i,_,_,e⟩
 ·rw [e]; exact h0
 ·rw [e]; exact h i
def vF (u v:Nat):Nat->Nat
 | 0=>0
 | k+1=>vF u v k+if u.testBit k != v.testBit k then 1 else 0
theorem eQ (u v:Nat):∀ k,vF u v k<=k
 | 0=>Nat.le_refl _
 | k+1=>by have:=eQ u v k; unfold vF; split <;> omega
def vW (n:Nat) (b:BitVec 64) (v:Nat):Int:=uF (λu=>(vF u v n:Int)) (λu=>b.getLsbD u) n (2 ^ n)
theorem wI (n:Nat) (b:BitVec 64) (v:Nat):0<=vW n b v/\vW n b v<=n:=⟨vd (by omega) (λi=>by omega) _,(ve _).1⟩
def xL (n:Nat) (p:List (BitVec 64)) (v:Nat):List Int:=p.map λb=>vW n b v
def sR (l:List Int):Int:=l.foldl (· + ·) 0
def uE (l:List Int):Int:=l.foldl max 0
def uL (r:List Int) (s:BitVec 64) (k v:Nat):Prop:=v<k/\s.getLsbD v=true/\∀ u,u<k->s.getLsbD u=true->r.getD v 0<=r.getD u 0
def xM (r:List Int) (s:BitVec 64):Nat->BitVec 64 × Int
 | 0=>(0#64,0)
 | v+1=>
  if s.getLsbD v=false\/((xM r s v).1≠0#64/\(xM r s v).2<r.getD v 0) then xM r s v
  else if (xM r s v).1=0#64\/r.getD v 0<(xM r s v).2 then(1#64 <<< v,r.getD v 0)
  else((xM r s v).1 ||| 1#64 <<< v,(xM r s v).2)
def zJ (r:List Int) (s:BitVec 64):BitVec 64:=(xM r s r.length).1
theorem oG {t j:Nat} (ht:t<64):(1#64 <<< t).getLsbD j=true ↔ j=t:=by
 rw [BitVec.getLsbD_shiftLeft]
 by_cases hk:j<64
 ·by_cases hkt:j<t
  ·simp [hk,hkt]; omega
  ·simp only [hk,hkt,decide_true,Bool.true_and,decide_false,Bool.not_false]
   by_cases e:j=t
   ·subst e; simp
   ·have:j-t≠0:=by omega
    simp [e]; omega
 ·simp [hk]; omega
theorem lZ {s:BitVec 64} {i:Nat} (h:s.getLsbD i=true):s≠0#64:=by rintro rfl; simp at h
theorem dU {s:BitVec 64} (h:∀ i,s.getLsbD i=false):s=0#64:=by apply BitVec.eq_of_getLsbD_eq;intro i _;rw [h]; simp
theorem oT (r:List Int) (s:BitVec 64):∀ k,k<=64->(∀ v,(xM r s k).1.getLsbD v=true ↔ uL r s k v)/\ ((xM r s k).1=0#64 ↔ ∀ v,v<k->s.getLsbD v=false)/\ ((xM r s k).1≠0#64->(∃ v,v<k/\s.getLsbD v=true/\(xM r s k).2=r.getD v 0)/\ ∀ u,u<k->s.getLsbD u=true->(xM r s k).2<=r.getD u 0)
 | 0,_=>⟨λv=>by simp [xM,uL],by simp [xM],λh=>absurd rfl h⟩
 | k + 1,hk=>by
  obtain⟨h1,h2,h3⟩:=oT r s k (by omega);generalize hp:xM r s k=p at *;obtain⟨out,least⟩:=p;simp only at h1 h2 h3
  have e:xM r s (k+1)= if s.getLsbD k=false\/(out≠0#64/\least<r.getD k 0) then(out,least) else if out=0#64\/r.getD k 0<least then(1#64 <<< k,r.getD k 0) else(out ||| 1#64 <<< k,least):=by rw [xM,hp]
  rw [e]
  by_cases hb:s.getLsbD k=false
  ·rw [if_pos (.inl hb)]
   have same:∀ v,uL r s k v ↔ uL r s (k+1) v:=by
    intro v;unfold uL
    constructor
    ·rintro ⟨a,b,c⟩;refine⟨by omega,b,λu hu hs=>?_⟩
     by_cases eu:u=k
     ·subst eu; rw [hb] at hs; cases hs
     ·exact c u (by omega) hs
    ·rintro ⟨a,b,c⟩;have:v≠k:=by rintro rfl; rw [hb] at b; cases b
     exact⟨by omega,b,λu hu hs=>c u (by omega) hs⟩
   refine⟨λv=>(h1 v).trans (same v),h2.trans ⟨λh v hv=>?_,λh v hv=>h v (by omega)⟩,λhn=>?_⟩
   ·by_cases ev:v=k
    ·rw [ev]; exact hb
    ·exact h v (by omega)
   ·obtain⟨⟨v,a,b,c⟩,d⟩:=h3 hn;refine⟨⟨v,by omega,b,c⟩,λu hu hs=>?_⟩
    by_cases eu:u=k
    ·subst eu; rw [hb] at hs; cases hs
    ·exact d u (by omega) hs
  ·have hb':s.getLsbD k=true:=by simpa using hb
   by_cases hworse:out≠0#64/\least<r.getD k 0
   ·rw [if_pos (.inr hworse)];obtain⟨⟨v0,a0,b0,c0⟩,d0⟩:=h3 hworse.1
    refine⟨λv=>(h1 v).trans ?_,?_,λ_=>⟨⟨v0,by omega,b0,c0⟩,λu hu hs=>?_⟩⟩
    ·unfold uL
     constructor
     ·rintro ⟨a,b,c⟩;refine⟨by omega,b,λu hu hs=>?_⟩
      by_cases eu:u=k
      ·subst eu; have:=c v0 a0 b0; omega
      ·exact c u (by omega) hs
     ·rintro ⟨a,b,c⟩;have:v≠k:=by rintro rfl; have:=c v0 (by omega) b0; omega
      exact⟨by omega,b,λu hu hs=>c u (by omega) hs⟩
    ·constructor
     ·intro h; exact absurd h hworse.1
     ·intro h; have:=h k (by omega); rw [hb'] at this; cases this
    ·by_cases eu:u=k
     ·subst eu; omega
     ·exact d0 u (by omega) hs
   ·rw [if_neg (by rintro (h | h); exact hb h; exact hworse h)]
    by_cases hbet:out=0#64\/r.getD k 0<least
    ·rw [if_pos hbet]
     have all:∀ u,u<k->s.getLsbD u=true->r.getD k 0<r.getD u 0:=by
      intro u hu hs
      rcases hbet with h | h
      ·have:=h2.1 h u hu; rw [hs] at this; cases this
      ·by_cases ho:out=0#64
       ·have:=h2.1 ho u hu; rw [hs] at this; cases this
       ·have:=(h3 ho).2 u hu hs; omega
     refine⟨λv=>?_,?_,λ_=>⟨⟨k,by omega,hb',rfl⟩,λu hu hs=>?_⟩⟩
     ·simp only;rw [oG (by omega)];unfold uL
      constructor
      ·rintro rfl;refine⟨by omega,hb',λu hu hs=>?_⟩
       by_cases eu:u=v
       ·subst eu; omega
       ·have:=all u (by omega) hs; omega
      ·rintro ⟨a,b,c⟩;apply Classical.byContradiction;intro hne;have h1:=all v (by omega) b;have h2:=c k (by omega) hb';omega
     ·constructor
      ·intro h;exact absurd h (lZ (i:=k) ((oG (by omega)).2 rfl))
      ·intro h; have:=h k (by omega); rw [hb'] at this; cases this
     ·by_cases eu:u=k
      ·subst eu; simp only; omega
      ·have:=all u (by omega) hs; simp only; omega
    ·rw [if_neg hbet];have ho:out≠0#64:=λh=>hbet (.inl h);obtain⟨⟨v0,a0,b0,c0⟩,d0⟩:=h3 ho
     have heq:r.getD k 0=least:=by have:¬ r.getD k 0<least:=λh=>hbet (.inr h);have:¬ least<r.getD k 0:=λh=>hworse ⟨ho,h⟩;omega
     refine⟨λv=>?_,?_,λ_=>⟨⟨v0,by omega,b0,c0⟩,λu hu hs=>?_⟩⟩
     ·simp only;rw [BitVec.getLsbD_or,Bool.or_eq_true,h1,oG (by omega)];unfold uL
      constructor
      ·rintro (⟨a,b,c⟩ | rfl)
       ·refine⟨by omega,b,λu hu hs=>?_⟩
        by_cases eu:u=k
        ·subst eu; have:=c v0 a0 b0; omega
        ·exact c u (by omega) hs
       ·refine⟨by omega,hb',λu hu hs=>?_⟩
        by_cases eu:u=v
        ·subst eu; omega
        ·have:=d0 u (by omega) hs; omega
      ·rintro ⟨a,b,c⟩
       by_cases ev:v=k
       ·exact .inr ev
       ·exact .inl ⟨by omega,b,λu hu hs=>c u (by omega) hs⟩
     ·constructor
      ·intro h
       have hne:(out ||| 1#64 <<< k).getLsbD k=true:=by rw [BitVec.getLsbD_or,Bool.or_eq_true]; exact .inr ((oG (by omega)).2 rfl)
       exact absurd h (lZ hne)
      ·intro h; have:=h k (by omega); rw [hb'] at this; cases this
     ·by_cases eu:u=k
      ·subst eu; simp only; omega
      ·exact d0 u (by omega) hs
theorem sC {r:List Int} {s:BitVec 64} (hl:r.length<=64) (v:Nat):(zJ r s).getLsbD v=true ↔ uL r s r.length v:=(oT r s r.length hl).1 v
theorem wv {r:List Int} {s:BitVec 64} (hl:r.length<=64):zJ r s=0#64 ↔ ∀ v,v<r.length->s.getLsbD v=false:=(oT r s r.length hl).2.1
end Go.Pd.Mg
