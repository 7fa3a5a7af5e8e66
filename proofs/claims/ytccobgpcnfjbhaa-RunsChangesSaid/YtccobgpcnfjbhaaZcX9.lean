/- Part X9. -/
import Derived.Test.YtccobgpcnfjbhaaZcXS
import Derived.Test.YtccobgpcnfjbhaaZcCode
set_option linter.unusedSectionVars false
set_option linter.unusedVariables false
set_option linter.unusedSimpArgs false
set_option linter.defProp false
set_option maxRecDepth 20000
set_option maxHeartbeats 1000000
open Go.Proofs.Try
open List renaming drop_eq_nil_of_le->γ,any_cons->δ
namespace Go.Pd
open Go Go.Proofs
theorem VZ {n:Nat} (hn:n<=1000000):IntKind.u64.wrap (n:Int)= (n:Int):=wrap_u64 (by omega)
theorem yD {α:Type} {l:List α} {k:Nat} {d:α} (h:k<l.length):l.take (k+1)= l.take k ++ [l.getD k d]:=by rw [List.take_add_one]; simp [List.getD,h]
theorem drop_cons {α:Type} {l:List α} {k:Nat} {d:α} (h:k<l.length):l.drop k=l.getD k d :: l.drop (k+1):=by simp [List.getD,h]
theorem yX {α:Type} {l:List α} {k:Nat} {d:α} (h:k<l.length):l.getD k d ∈ l:=by simp [List.getD,h]
theorem uH {α:Type} {l:List α} {k:Nat} (h:k=l.length):l.take k=l:=by rw [h,List.take_length]
theorem zq (k:IntKind) (l:List Int) (i:Nat) (n:Int):(rows k l).set i [.int k n]=rows k (l.set i n):=by simp [rows,List.map_set]
variable [vZ]
theorem zi {key m n sz len:Nat} {xX:List (List D)} (hs:0<sz) (hp:∀ e ∈ xX,D.xT e=true) (hl:len=xX.length) {ρ:Nat->Nat} {r:List (Nat × Ob)}:vw ⟨m,(key,⟨sz,xX⟩) :: r⟩ ⟨n,[]⟩ ρ (.yW key sz len) (.sl sz xX):=by subst hl;simp only [vw];exact⟨trivial,hs,by simp,⟨sz,xX⟩,by simp [St.get,St.look],rfl,Nat.le_refl _,by simp,hp⟩
theorem xS.ret {P:Program} {g:FuncId} {args:List D} {σ σ1 σ':St} {d1 d:D} (hc:xS P g args σ d1 σ1) (hr:rT σ.nx σ1 d1 σ' d):xS P g args σ d σ':=by
 refine⟨hc.ord,λM0 w ι vals hS hl hv=>(hc.run M0 w ι vals hS hl hv).mono λe w' hh=>?_⟩;obtain⟨v,ι1,he,kept,qP,nx,stay,tF,hR⟩:=hh
 rcases hr with ⟨rfl,rfl⟩ | ⟨ρ,r1,r2,r3,r4,r5⟩
 ·exact⟨v,ι1,he,kept,qP,nx,stay,tF,hR⟩
 ·have hlive:∀ p ∈ σ'.xW,∃ ob,σ1.get (ρ p.1)= some ob:=λp hp=>by obtain⟨_,ob,h,_⟩:=r4 p hp;exact⟨ob,h⟩
  refine⟨v,λk=>ι1 (ρ k),he,kept,qP.view r4 r5,r1,λk hk=>?_,λk o hk=>?_,pK qP hlive _ _ hR r3⟩
  ·show ι1 (ρ k)= ι k;rw [r2 k hk]; exact stay k hk
  ·obtain⟨ob,h⟩:=hlive _ (zA hk);exact tF _ _ h
def rl (ll:List (List Int)):List (List D):=ll.map λl=>[.sl 1 (rows .i64 l)]
theorem xP (l:List (List Int)):(rl l).length=l.length:=by simp [rl]
theorem wG (l:List (List Int)) {i:Nat} (h:i<l.length):(rl l).getD i [] = [.sl 1 (rows .i64 (l.getD i []))]:=by simp [rl,List.getD,h]
theorem Ys (l:List (List Int)) (n:Nat):(rl l).take n=rl (l.take n):=by simp [rl,List.map_take]
theorem qM (l:List (List Int)) (r:List Int):rl l ++ [[.sl 1 (rows .i64 r)]]=rl (l ++ [r]):=by simp [rl]
theorem ug : rl [] = []:=rfl
theorem lC (l:List (List Int)):∀ e ∈ rl l,D.xT e=true:=by intro e he;simp only [rl,List.mem_map] at he;obtain⟨r,_,rfl⟩:=he;have h:∀ e ∈ rows .i64 r,D.xT e=true:=vK _ r;have:(rows .i64 r).all D.xT=true:=List.all_eq_true.2 h;simp [D.xT,D.xJ,this]
theorem uS (l:List (List Int)):tS (rl l):=lC l
section
variable [vZ]
def cJ (C:Cx) (pre mid1:List xR) (f f1 fd:Fr) (dst2:Option Nat) (mid2 post:List xR) (Q:Exit->Fr->St->Prop) (f2:Fr) (d2:D) (σ2:St):Prop:= sH C σ2 pre (r7 f1) f/\sH C σ2 mid1 (r7 f2) fd/\sH C σ2 mid2 (cN C post Q σ2) (f2.put dst2 d2)
def cI (C:Cx) (pre:List xR) (dst:Option Nat) (mid1:List xR) (dst2:Option Nat) (k2:DK) (mid2 post:List xR) (Q:Exit->Fr->St->Prop) (f:Fr) (f1:Fr) (d1:D) (σ1:St):Prop:= sH C σ1 pre (r7 f1) f/\sH C σ1 mid1 (pP C k2 (cJ C pre mid1 f f1 (f1.put dst d1) dst2 mid2 post Q) σ1) (f1.put dst d1)
theorem fX {C:Cx} {σ:St} {f:Fr} {Q:Exit->Fr->St->Prop} {pre mid1 mid2 post:List xR} {dst dst2:Option Nat} {g g2:Option (Nat × Bool)} {k k2:DK} :
  dS C (.kK pre ⟨dst,g,k⟩ mid1 ⟨dst2,g2,k2⟩ mid2 post) Q f σ=sH C σ pre (pP C k (cI C pre dst mid1 dst2 k2 mid2 post Q f) σ) f:=by
 rw [tY];show pY C _ f σ Q=_;unfold pY;rw [sJ,<- uQ]
 have:(λf1=>vO C σ (uX f1) k λd1 σ1=>zY C σ1 pre f (λg=>g=f1)/\ zY C σ1 mid1 (f1.put dst d1) λf2=>vO C σ1 (uX f2) k2 λd2 σ2=> zY C σ2 pre f (λg=>g=f1)/\ zY C σ2 mid1 (f1.put dst d1) (λg=>g=f2)/\ zY C σ2 mid2 (f2.put dst2 d2) λf3=>vM C post f3 σ2 λf σ=>Q .normal f σ)= pP C k (cI C pre dst mid1 dst2 k2 mid2 post Q f) σ:=by
  funext f1;unfold pP;rw [gK];congr 1;funext d1 σ1;unfold cI;rw [sJ,uQ,uQ]
  have e2:(λf2=>vO C σ1 (uX f2) k2 λd2 σ2=> zY C σ2 pre f (λg=>g=f1)/\ zY C σ2 mid1 (f1.put dst d1) (λg=>g=f2)/\ zY C σ2 mid2 (f2.put dst2 d2) λf3=>vM C post f3 σ2 λf σ=>Q .normal f σ)= pP C k2 (cJ C pre mid1 f f1 (f1.put dst d1) dst2 mid2 post Q) σ1:=by
   funext f2;unfold pP;rw [gK];congr 1;funext d2 σ2;unfold cJ cN;rw [sJ,oW,uQ,uQ,uQ]
   have e3:kH C post (mP Q)= λf σ=>vM C post f σ λf σ=>Q .normal f σ:=by funext f σ; rw [nJ]; rfl
   rw [e3];rfl
  rw [e2];rfl
 rw [this]
end
section
variable [vZ]
end
theorem mixed : prog.follows .mixedOrders=true:=by kernel_rfl
instance : vZ := ⟨[]⟩
theorem zL {g:FuncId} {fn:Func} {own:List Nat} {N:Nat} {dc:DC} {rs:List pT} {args:List D} {σ:St} {d:D} {σ':St} (hf:prog.funcs[g]?=some fn) (hc:xY prog own fn=some (N,dc,rs))
  (h:D.uK args->dS ⟨prog,N,σ.nx,own,none⟩ dc (yg ⟨prog,N,σ.nx,own,none⟩ rs d σ') (pO 0 args) σ) (hla:args.length<=N:=by simp):xS prog g args σ d σ':=xS.Vc mixed hf hc hla h
namespace Rs
def mo (u:List (Int × Int)):List (Int × D):=u.map λp=>(p.1,.int .i64 p.2)
theorem lV {nx n key sz:Nat} {xW:List (Nat × Ob)} {xX:List (List D)} (hs:0<sz) (hp:∀ e ∈ xX,D.xT e=true) (h:St.look xW key=zN sz xX) {ρ:Nat->Nat}:vw ⟨nx,xW⟩ ⟨n,[]⟩ ρ (xI key sz xX) (.sl sz xX):=by
 cases xX with
 | nil=>simp [xI,vw]
 | cons e t=> simp only [xI,vw];exact⟨trivial,hs,by simp,⟨sz,e :: t⟩,h,rfl,Nat.le_refl _,by simp,hp⟩
end Rs
end Go.Pd

/- Part S1. -/
namespace Go.Pd
open Go Go.Proofs
open BitVec renaming isValue -> ZA
namespace Ru
structure xN where
 loc:List (List Int)
 zM:List (BitVec 64)
structure wQ where
 ag:Int
 fa:Int
 ln:Int
 rs:List xN
def xN.row (r:xN):List D:=[.sl 1 (rl r.loc),.sl 1 (us r.zM)]
def xK (l:List xN):List (List D):=l.map xN.row
def wQ.cells (s:wQ):List D:=[.int .i64 s.ag,.int .i64 s.fa,.int .i64 s.ln,.sl 2 (xK s.rs)]
def wQ.d (s:wQ):D:=.agg s.cells
def yF : xN:=⟨[],[]⟩
theorem xV (l:List xN):(xK l).length=l.length:=by simp [xK]
theorem wE (l:List xN) {i:Nat} (h:i<l.length):(xK l).getD i []=(l.getD i yF).row:=by simp [xK,List.getD,h]
theorem rH (l:List xN):∀ e ∈ xK l,D.xT e=true:=by intro e he;simp only [xK,List.mem_map] at he;obtain⟨r,_,rfl⟩:=he;rfl
def vc {α:Type} (f:α->Bool):List α->Int->Int
 | [],_=>-1
 | x :: r,i=>if f x=true then i else vc f r (i+1)
theorem xz {α:Type} {f:α->Bool}:∀ {c:List α} {i:Int},0<=i->(0<=vc f c i ↔ c.any f=true)
 | [],i,_=>by simp [vc]
 | x :: r,i,h=>by
  unfold vc
  by_cases hx:f x=true
  ·rw [if_pos hx,δ,hx]; simp [h]
  ·rw [if_neg hx,xz (by omega),δ]; simp [hx]
def sT (s:wQ) (r:xN):Bool:=!decide ((r.loc.length:Int)= s.ln) || !decide ((r.zM.length:Int)= s.ln) || r.loc.any λl=>!decide ((l.length:Int)= s.ag)
def kF (s:wQ) (r:xN):Bool:=r.zM.any λf=>!decide (f >>> s.fa.toNat=0#64)
def uJ (s:wQ):Int:=
 if s.ag<0\/4<s.ag\/s.fa<0\/8<s.fa\/s.ln<1\/16<s.ln then 2 else
 if 64<(s.rs.length:Int)\/512<(s.rs.length:Int)* s.ln then 8 else
 if s.rs.length=0 then 3 else if s.rs.any (sT s)= true then 3 else if s.rs.any (kF s)= true then 2 else 0
end Ru
open Ru
theorem YT {σ:St} {g:FuncId} {caps:List D} {f:BitVec 64->Bool} {c:List (BitVec 64)} (hl:c.length<=1000) (h:∀ x ∈ c,xS prog g ([.int .u64 (ui x)]++caps) σ (.bool (f x)) σ):xS prog 119 [.sl 1 (us c),.fn g caps] σ (.int .i64 (vc f c 0)) σ:=by
 refine zL func119 WH λhf=>?_;refine vY zB ?_
 refine xO (λk:Nat=>[(8,.int .i64 k),(7,.int .i64 c.length),(1,.fn g caps),(0,.sl 1 (us c))]) (λ_=>σ) (λk=>k<=c.length/\vc f c 0=vc f (c.drop k) k) (λk=>c.length-k) 0 ⟨Nat.zero_le _,rfl⟩ ?_ ?_
 ·exact wI
 intro k ⟨hk,hi⟩;refine xE mixed ?_
 by_cases hh:k<c.length
 ·have hd:((k:Int)<(c.length:Int)):=by omega
  rw [drop_cons (d:=0) hh,vc] at hi;simp only [simprocAttr,-ZA,↓zU,↓zD,zV,zT,zW,hd,zB,gL _ hh]
  (repeat refine sd ?_)
  refine .go (h _ (yX hh)) ?_
  cases hx:f (c.getD k 0)
  ·rw [hx,if_neg (by simp)] at hi;refine wU ?_;refine⟨k+1,⟨by omega,hi⟩,?_,by omega⟩;exact sW
  ·rw [hx,if_pos rfl] at hi;refine wU ?_;rw [hi];exact .same
 ·have hd:¬ ((k:Int)<(c.length:Int)):=by omega
  rw [γ (by omega),vc] at hi;refine vY hd ?_;rw [hi];exact .same
theorem re {σ:St} {g:FuncId} {caps:List D} {f:BitVec 64->Bool} {c:List (BitVec 64)} (hl:c.length<=1000) (h:∀ x ∈ c,xS prog g ([.int .u64 (ui x)]++caps) σ (.bool (f x)) σ):xS prog 70 [.sl 1 (us c),.fn g caps] σ (.bool (c.any f)) σ:=by
 refine zL func70 Sh λhf=>?_;refine wU ?_;refine .go (YT hl h) ?_;have hx:=xz (f:=f) (c:=c) (i:=0) (Int.le_refl 0)
 cases ha:c.any f
 ·have h1:¬ 0<=vc f c 0:=λy=>by rw [hx.1 y] at ha; cases ha
  refine vY h1 ?_;exact .same
 ·have h1:=hx.2 ha;refine vY h1 ?_;exact .same
theorem YS {σ:St} {g:FuncId} {caps:List D} {f:List Int->Bool} {l:List (List Int)} (hl:l.length<=1000) (h:∀ x ∈ l,xS prog g ([.sl 1 (rows .i64 x)]++caps) σ (.bool (f x)) σ):xS prog 118 [.sl 1 (rl l),.fn g caps] σ (.int .i64 (vc f l 0)) σ:=by
 refine zL func118 WG λhf=>?_;refine vY xP ?_
 refine xO (λk:Nat=>[(8,.int .i64 k),(7,.int .i64 l.length),(1,.fn g caps),(0,.sl 1 (rl l))]) (λ_=>σ) (λk=>k<=l.length/\vc f l 0=vc f (l.drop k) k) (λk=>l.length-k) 0 ⟨Nat.zero_le _,rfl⟩ ?_ ?_
 ·exact wI
 intro k ⟨hk,hi⟩;refine xE mixed ?_
 by_cases hh:k<l.length
 ·have hd:((k:Int)<(l.length:Int)):=by omega
  rw [drop_cons (d:=[]) hh,vc] at hi;simp only [simprocAttr,-ZA,↓zU,↓zD,zV,zT,zW,hd,xP,wG _ hh]
  (repeat refine sd ?_)
  refine .go (h _ (yX hh)) ?_
  cases hx:f (l.getD k [])
  ·rw [hx,if_neg (by simp)] at hi;refine wU ?_;refine⟨k+1,⟨by omega,hi⟩,?_,by omega⟩;exact sW
  ·rw [hx,if_pos rfl] at hi;refine wU ?_;rw [hi];exact .same
 ·have hd:¬ ((k:Int)<(l.length:Int)):=by omega
  rw [γ (by omega),vc] at hi;refine vY hd ?_;rw [hi];exact .same
theorem rb {σ:St} {g:FuncId} {caps:List D} {f:List Int->Bool} {l:List (List Int)} (hl:l.length<=1000) (h:∀ x ∈ l,xS prog g ([.sl 1 (rows .i64 x)]++caps) σ (.bool (f x)) σ):xS prog 68 [.sl 1 (rl l),.fn g caps] σ (.bool (l.any f)) σ:=by
 refine zL func68 Sf λhf=>?_;refine wU ?_;refine .go (YS hl h) ?_;have hx:=xz (f:=f) (c:=l) (i:=0) (Int.le_refl 0)
 cases ha:l.any f
 ·have h1:¬ 0<=vc f l 0:=λy=>by rw [hx.1 y] at ha; cases ha
  refine vY h1 ?_;exact .same
 ·have h1:=hx.2 ha;refine vY h1 ?_;exact .same
theorem Wl {nx:Nat} {xW:List (Nat × Ob)} {s:wQ} (h0:St.look xW 0=some ⟨4,[s.cells]⟩) (x:List Int):xS prog 69 ([.sl 1 (rows .i64 x)] ++ [.ref 0 4 0 0]) ⟨nx,xW⟩ (.bool (!decide ((x.length:Int)= s.ag))) ⟨nx,xW⟩:=by refine zL func69 Sg λhf=>?_;unfold wQ.cells at h0;refine pZ h0 ?_;rw [show ((x.length:Int) != s.ag)= !decide ((x.length:Int)= s.ag) by rw [bne]; congr 1];exact .same
theorem Vk {nx:Nat} {xW:List (Nat × Ob)} {s:wQ} (h0:St.look xW 0=some ⟨4,[s.cells]⟩) (hf:0<=s.fa) (x:BitVec 64):xS prog 71 ([.int .u64 (ui x)] ++ [.ref 0 4 0 0]) ⟨nx,xW⟩ (.bool (!decide (x >>> s.fa.toNat=0#64))) ⟨nx,xW⟩:=by refine zL func71 Si λhf=>?_;unfold wQ.cells at h0;refine pZ h0 ?_;rw [show (x >>> s.fa.toNat != 0#64)= !decide (x >>> s.fa.toNat=0#64) by rw [bne]; congr 1];exact .same
theorem nC (s:wQ):yA prog 35 [s.d] (.int .i64 (uJ s)):=by
 have hD:s.d = .agg [.int .i64 s.ag,.int .i64 s.fa,.int .i64 s.ln,.sl 2 (xK s.rs)]:=rfl;rw [hD];refine zL func35 SU λhf=>?_
 by_cases a1:s.ag<0
 ·rw [show uJ s=2 by unfold uJ; rw [if_pos (.inl a1)]];refine vY a1 ?_;exact .dv
 by_cases a2:4<s.ag
 ·rw [show uJ s=2 by unfold uJ; rw [if_pos (by omega)]];refine uA a1 a2 ?_;exact .dv
 by_cases a3:s.fa<0
 ·rw [show uJ s=2 by unfold uJ; rw [if_pos (by omega)]];refine cX a1 a2 a3 ?_;exact .dv
 by_cases a4:8<s.fa
 ·rw [show uJ s=2 by unfold uJ; rw [if_pos (by omega)]];refine p4 a1 a2 a3 a4 ?_;exact .dv
 by_cases a5:s.ln<1
 ·rw [show uJ s=2 by unfold uJ; rw [if_pos (by omega)]];refine p5 a1 a2 a3 a4 a5 ?_;exact .dv
 by_cases a6:16<s.ln
 ·rw [show uJ s=2 by unfold uJ; rw [if_pos (by omega)]];refine ZZ a1 a2 a3 a4 a5 a6 ?_;exact .dv
 have e0:uJ s=if 64<(s.rs.length:Int)\/512<(s.rs.length:Int)* s.ln then 8 else
  if s.rs.length=0 then 3 else if s.rs.any (sT s)= true then 3 else if s.rs.any (kF s)= true then 2 else 0:=by
  unfold uJ; rw [if_neg (by omega)]
 by_cases b1:64<(s.rs.length:Int)
 ·rw [e0,if_pos (.inl b1)];refine WQ a1 a2 a3 a4 a5 a6 xV b1 ?_;exact .dv
 have hm:(s.rs.length:Int)* s.ln<=64*16:=Int.mul_le_mul (by omega) (by omega) (by omega) (by omega);have hm0:0<=(s.rs.length:Int)* s.ln:=Int.mul_nonneg (by omega) (by omega);have hw:IntKind.i64.wrap ((s.rs.length:Int)* s.ln)= (s.rs.length:Int)* s.ln:=wrap_i64 (by omega)
 by_cases b2:512<(s.rs.length:Int)* s.ln
 ·rw [e0,if_pos (.inr b2)];refine Y1 a1 a2 a3 a4 a5 a6 xV b1 hw b2 ?_;exact .dv
 rw [e0,if_neg (by omega)]
 by_cases b3:s.rs.length=0
 ·rw [if_pos b3];have b3':((s.rs.length:Int)== 0)= true:=by rw [b3]; rfl
  refine qi a1 a2 a3 a4 a5 a6 xV b1 hw b2 b3' ?_;exact .dv
 rw [if_neg b3];have b3':((s.rs.length:Int)== 0)= false:=by rw [beq_eq_false_iff_ne]; omega
 refine qi a1 a2 a3 a4 a5 a6 xV b1 hw b2 b3' ?_
 refine xO (λk:Nat=>[(55,.int .i64 k),(54,.int .i64 s.rs.length),(53,.sl 2 (xK s.rs)),(1,.ref 0 4 0 0)]) (λ_=>⟨1,[(0,⟨4,[[.int .i64 s.ag,.int .i64 s.fa,.int .i64 s.ln,.sl 2 (xK s.rs)]]⟩)]⟩)
  (λk=>k<=s.rs.length/\s.rs.any (sT s)= (s.rs.drop k).any (sT s)) (λk=>s.rs.length-k) 0 ⟨Nat.zero_le _,rfl⟩ ?_ ?_
 ·exact wI
 intro k ⟨hk,hi⟩;refine xE mixed ?_;by_cases hkl:k<s.rs.length
 case neg=>
  have hd:¬ ((k:Int)<(s.rs.length:Int)):=by omega
  rw [γ (by omega),List.any_nil] at hi;rw [if_neg (by rw [hi]; simp)];refine uA hd xV ?_
  refine xO (λk:Nat=>[(83,.int .i64 k),(82,.int .i64 s.rs.length),(81,.sl 2 (xK s.rs)),(1,.ref 0 4 0 0)]) (λ_=>⟨1,[(0,⟨4,[[.int .i64 s.ag,.int .i64 s.fa,.int .i64 s.ln,.sl 2 (xK s.rs)]]⟩)]⟩)
   (λk=>k<=s.rs.length/\s.rs.any (kF s)= (s.rs.drop k).any (kF s)) (λk=>s.rs.length-k) 0 ⟨Nat.zero_le _,rfl⟩ ?_ ?_
  ·exact wI
  intro k ⟨hk,hv⟩;refine xE mixed ?_;by_cases hkl:k<s.rs.length
  case neg=>
   have hd:¬ ((k:Int)<(s.rs.length:Int)):=by omega
   rw [γ (by omega),List.any_nil] at hv;rw [if_neg (by rw [hv]; simp)];refine vY hd ?_;exact .dv
  have hd:((k:Int)<(s.rs.length:Int)):=by omega
  rw [drop_cons (d:=yF) hkl,δ] at hv
  have hnb:sT s (s.rs.getD k yF)= false:=by have:=List.any_eq_false.1 hi _ (yX (d:=yF) hkl);simpa using this
  have hg:=wE s.rs hkl;generalize s.rs.getD k yF=r at hg hv hnb
  have hfl:r.zM.length<=1000:=by simp only [sT,Bool.or_eq_false_iff,Bool.not_eq_false',decide_eq_true_eq] at hnb;omega
  have hc:=re (σ:=⟨2,[(1,⟨2,[r.row]⟩),(0,⟨4,[s.cells]⟩)]⟩) (g:=71) (caps:=[.ref 0 4 0 0]) (c:=r.zM) (f:=λf=>!decide (f >>> s.fa.toNat=0#64)) hfl λx _=>Vk rfl (by omega) x;simp only [wQ.cells,xN.row] at hc;simp only [simprocAttr,-ZA,↓zU,↓zD,zV,zT,zW,hd,xV,hg,xN.row]
  (repeat refine sd ?_)
  refine .go hc ?_
  cases hb:r.zM.any λf=>!decide (f >>> s.fa.toNat=0#64)
  ·refine wU ?_
   refine⟨k+1,⟨by omega,?_⟩,?_,by omega⟩
   ·rw [hv,show kF s r=false from hb,Bool.false_or]
   exact ZU [] [0]
  ·rw [if_pos (by rw [hv,show kF s r=true from hb,Bool.true_or])];refine wU ?_;exact .dv
 have hd:((k:Int)<(s.rs.length:Int)):=by omega
 rw [drop_cons (d:=yF) hkl,δ] at hi;have hg:=wE s.rs hkl;generalize s.rs.getD k yF=r at hg hi;have hend:sT s r=true->s.rs.any (sT s)= true:=λh=>by rw [hi,h,Bool.true_or]
 by_cases c1:(r.loc.length:Int)= s.ln
 case neg=>
  have e1:((r.loc.length:Int) != s.ln)= true:=by simpa using c1
  rw [if_pos (hend (by unfold sT; simp [c1]))];simp only [simprocAttr,-ZA,↓zU,↓zD,zV,zT,zW,hd,xV,hg,xN.row,xP,e1]
  (repeat refine sd ?_)
  exact .dv
 have e1:((r.loc.length:Int) != s.ln)= false:=by simpa using c1
 by_cases c2:(r.zM.length:Int)= s.ln
 case neg=>
  have e2:((r.zM.length:Int) != s.ln)= true:=by simpa using c2
  rw [if_pos (hend (by unfold sT; simp [c2]))];simp only [simprocAttr,-ZA,↓zU,↓zD,zV,zT,zW,hd,xV,hg,xN.row,xP,e1,zB,e2]
  (repeat refine sd ?_)
  exact .dv
 have e2:((r.zM.length:Int) != s.ln)= false:=by simpa using c2
 have hc:=rb (σ:=⟨2,[(1,⟨2,[r.row]⟩),(0,⟨4,[s.cells]⟩)]⟩) (g:=69) (caps:=[.ref 0 4 0 0]) (l:=r.loc) (f:=λl=>!decide ((l.length:Int)= s.ag)) (by omega) λx _=>Wl rfl x;simp only [wQ.cells,xN.row] at hc;have hbf:sT s r=r.loc.any λl=>!decide ((l.length:Int)= s.ag):=by unfold sT; simp [c1,c2]
 simp only [simprocAttr,-ZA,↓zU,↓zD,zV,zT,zW,hd,xV,hg,xN.row,xP,e1,zB,e2]
 (repeat refine sd ?_)
 refine .go hc ?_;rw [<- hbf]
 cases hb:sT s r
 ·refine wU ?_
  refine⟨k+1,⟨by omega,?_⟩,?_,by omega⟩
  ·rw [hi,hb,Bool.false_or]
  exact ZU [] [0]
 ·rw [if_pos (hend hb)];refine wU ?_;exact .dv
end Go.Pd
