/- Part X6. -/
import Derived.Test.YtjmfdgonjighpaaZqX5
import Derived.Carry
import Derived.ChangeArms
import Derived.Deep.Slices
import Derived.ProofKit
import Derived.OpenShut
set_option linter.unusedSectionVars false
set_option linter.unusedVariables false
set_option linter.unusedSimpArgs false
set_option linter.defProp false
open And renaming intro->γ
open List renaming append_nil->δ,mem_map->ε,map_cons->ζ,nil_append->η,mem_singleton->θ,length_nil->κ,getD_cons_zero->μ,all_cons->ν,cons_append->ξ,getElem?_append_right->ο,getElem?_append_left->π,mem_cons->υ,take_append_drop->χ,length_append->ψ,length_cons->ω
open BitVec renaming ofInt_natCast->Aa,toNat_ofNat->Ab,eq_of_toNat_eq->Ac,toNat_ushiftRight->Ad,ofInt_mul->Ae,ofInt_add->Af,toNat_or->Ag
open Bool renaming and_eq_true->Ah
open Nat renaming pow_lt_pow_right->Ai,le_refl->Aj,mod_eq_of_lt->Ak,shiftRight_eq_div_pow->Al,zero_add->Am
namespace Go.Pd
open Go
def ui (s:BitVec 64):Int:=s.toNat
theorem ZL (s:BitVec 64):0<=ui s:=by unfold ui; omega
theorem QU {s t:BitVec 64}:ui s=ui t ↔ s=t:=by
 unfold ui
 constructor
 ·intro h; exact Ac (by omega)
 ·rintro rfl; rfl
theorem uH (s:BitVec 64):BitVec.ofInt 64 (ui s)= s:=by unfold ui;rw [Aa];simp
theorem kD (s:BitVec 64):IntKind.u64.wrap (s.toNat:Int)= ui s:=by unfold ui;have:=s.isLt;exact wrap_u64 ⟨by omega,by omega⟩
theorem QS (s t:BitVec 64):mH .and .u64 (ui s) (ui t)= ui (s &&& t):=by show IntKind.u64.wrap ((BitVec.ofInt 64 (ui s)&&& BitVec.ofInt 64 (ui t)).toNat:Int)= _;rw [uH,uH,kD]
theorem Ot (s t:BitVec 64):mH .or .u64 (ui s) (ui t)= ui (s ||| t):=by show IntKind.u64.wrap ((BitVec.ofInt 64 (ui s) ||| BitVec.ofInt 64 (ui t)).toNat:Int)= _;rw [uH,uH,kD]
theorem Qa (s t:BitVec 64):mH .xor .u64 (ui s) (ui t)= ui (s ^^^ t):=by show IntKind.u64.wrap ((BitVec.ofInt 64 (ui s)^^^ BitVec.ofInt 64 (ui t)).toNat:Int)= _;rw [uH,uH,kD]
theorem ZK (s t:BitVec 64):mH .andNot .u64 (ui s) (ui t)= ui (s &&& ~~~t):=by show IntKind.u64.wrap ((BitVec.ofInt 64 (ui s)&&& ~~~BitVec.ofInt 64 (ui t)).toNat:Int)= _;rw [uH,uH,kD]
theorem cT (n:Int):IntKind.u64.wrap n=ui (BitVec.ofInt 64 n):=by unfold ui;rw [BitVec.toNat_ofInt];simp [IntKind.wrap,IntKind.signed,IntKind.bits];omega
theorem QR (s t:BitVec 64):IntKind.u64.wrap (ui s+ui t)= ui (s+t):=by rw [cT,Af,uH,uH]
theorem QX (s t:BitVec 64):IntKind.u64.wrap (ui s-ui t)= ui (s-t):=by rw [cT];congr 1;rw [Int.sub_eq_add_neg,Af,BitVec.ofInt_neg,uH,uH,BitVec.sub_eq_add_neg]
theorem QV (s t:BitVec 64):IntKind.u64.wrap (ui s*ui t)= ui (s*t):=by rw [cT,Ae,uH,uH]
theorem QZ (s:BitVec 64) (k:Int):yp .u64 (ui s) k=ui (s <<< k.toNat):=by
 unfold yp;rw [cT];congr 1;rw [Ae,uH];show s*BitVec.ofInt 64 (2 ^ min k.toNat 64)= _;apply Ac;rw [BitVec.toNat_mul,BitVec.toNat_shiftLeft,Nat.shiftLeft_eq]
 have e:(BitVec.ofInt 64 (2 ^ min k.toNat 64)).toNat=2 ^ min k.toNat 64 % 2 ^ 64:=by
  have:((2:Int)^ min k.toNat 64)= ((2 ^ min k.toNat 64:Nat):Int):=by norm_cast
  rw [this,Aa,Ab]
 rw [e,Nat.mul_mod_mod]
 rcases Nat.lt_or_ge k.toNat 64 with h | h
 ·rw [Nat.min_eq_left (by omega)]
 ·rw [Nat.min_eq_right h];obtain⟨m,hm⟩:=Nat.exists_eq_add_of_le h;rw [hm,Nat.pow_add,<- Nat.mul_assoc,Nat.mul_right_comm];simp
theorem QY (s:BitVec 64) (k:Int):b9 .u64 (ui s) k=ui (s >>> k.toNat):=by
 unfold b9 ui;rw [Ad,Al];show (s.toNat:Int).fdiv (2 ^ min k.toNat 64)= _;have:((2:Int)^ min k.toNat 64)= ((2 ^ min k.toNat 64:Nat):Int):=by norm_cast
 rw [this,Int.fdiv_eq_ediv_of_nonneg _ (Int.natCast_nonneg _),<- Int.natCast_ediv];congr 1
 rcases Nat.lt_or_ge k.toNat 64 with h | h
 ·rw [Nat.min_eq_left (by omega)]
 ·rw [Nat.min_eq_right h];have h1:=s.isLt;rw [Nat.div_eq_of_lt h1,Nat.div_eq_of_lt (Nat.lt_of_lt_of_le h1 (Nat.pow_le_pow_right (by omega) h))]
theorem QW (s t:BitVec 64):(ui s).tmod (ui t)= ui (s % t):=by unfold ui;rw [BitVec.toNat_umod,Int.tmod_eq_emod_of_nonneg (by omega),Int.natCast_emod]
theorem Xt (s t:BitVec 64):(ui s==ui t)= (s==t):=by
 by_cases h:s=t
 ·subst h; simp
 ·have:ui s≠ui t:=λe=>h (QU.1 e);rw [beq_eq_false_iff_ne.2 this,beq_eq_false_iff_ne.2 h]
theorem QT (s t:BitVec 64):(ui s != ui t)= (s != t):=by simp only [bne,Xt]
theorem M9 : D.int .u64 0=D.int .u64 (ui 0#64):=rfl
theorem MA : D.int .u64 1=D.int .u64 (ui 1#64):=rfl
theorem MB : D.int .u64 2=D.int .u64 (ui 2#64):=rfl
theorem MD : D.int .u64 18446744073709551615=D.int .u64 (ui 18446744073709551615#64):=rfl
theorem QP : ui 2#64≠0:=by decide
def us (l:List (BitVec 64)):List (List D):=l.map λs=>[.int .u64 (ui s)]
def TC (l:List (BitVec 64)):D:=.sl 1 (us l)
theorem Qc (l:List (BitVec 64)):(us l).length=l.length:=by simp [us]
theorem VR : us [] = []:=rfl
theorem YL (s:BitVec 64) (l:List (BitVec 64)):us (s :: l)= [.int .u64 (ui s)] :: us l:=rfl
theorem Sk (l:List (BitVec 64)):∀ e ∈ us l,D.xT e=true:=by intro e he;simp only [us,ε] at he;obtain⟨n,_,rfl⟩:=he;rfl
theorem Qd (l:List (BitVec 64)):∀ e ∈ us l,zN e=true:=by intro e he;simp only [us,ε] at he;obtain⟨n,_,rfl⟩:=he;rfl
theorem Sl (l:List (BitVec 64)) (n:Nat):(us l).take n=us (l.take n):=by simp [us,List.map_take]
theorem YM (l:List (BitVec 64)) (s:BitVec 64):us l ++ [[.int .u64 (ui s)]]=us (l ++ [s]):=by simp [us]
theorem Qe (l:List (BitVec 64)) (i:Nat) (s:BitVec 64):(us l).set i [.int .u64 (ui s)]=us (l.set i s):=by simp [us,List.map_set]
theorem Z5 (d:D):vR false [d]=d:=rfl
theorem Z4 (cs:List D):vR true cs = .agg cs:=rfl
def xJ (key sz:Nat):List (List D)->D
 | []=>.xI
 | e :: r=>.wZ key sz (e :: r).length
def yX (key sz:Nat):List (List D)->List (Nat × Ob)
 | []=>[]
 | e :: r=>[(key,⟨sz,e :: r⟩)]
end Go.Pd
namespace Go.Pd
open Go
variable [vA]
def vI (f:Fr):Fr->Prop
 | []=>True
 | (t,d) :: r=>f.get t=d/\vI f r
omit [vA] in
theorem pq {f:Fr}:∀ {f':Fr},vI f f'->∀ t,f'.get t = .top\/f'.get t=f.get t
 | [],_,t=>.inl rfl
 | (s,d) :: r,h,t=>by
  simp only [Fr.get]
  split
  ·rename_i e; subst e; exact .inr h.1.symm
  ·exact pq h.2 t
theorem yJ.same {C:Cx} {f f':Fr} {σ:St} (h:vI f f'):yJ C f σ f' σ:=yJ.frame (pq h)
end Go.Pd
namespace Go.Pd
open Go
def rr (ll:List (List (BitVec 64))):List (List D):=ll.map λl=>[TC l]
def MI (ll:List (List (BitVec 64))):D:=.sl 1 (rr ll)
theorem QL (l:List (List (BitVec 64))):(rr l).length=l.length:=by simp [rr]
theorem Sf (l:List (List (BitVec 64))) (n:Nat):(rr l).take n=rr (l.take n):=by simp [rr,List.map_take]
theorem YG (l:List (List (BitVec 64))):∀ e ∈ rr l,D.xT e=true:=by intro e he;simp only [rr,ε] at he;obtain⟨n,_,rfl⟩:=he;simp [D.xT,D.xO,TC]
end Go.Pd
namespace Go.Pd
open Go
theorem bV.same {n0:Nat} {σ:St} {d:D}:bV n0 σ d σ d:=.inl ⟨rfl,rfl⟩
theorem bV.drop {n0 n:Nat} {σ:St} {d d':D} (hn:n0<=n) (h:vw σ ⟨n,[]⟩ (λk=>k) d d'):bV n0 σ d ⟨n,[]⟩ d':= .inr ⟨λk=>k,hn,λ_ _=>rfl,h,by simp [stays],by simp [wQ]⟩
end Go.Pd
namespace Go.Pd
open Go
universe u
variable [vA]
def L0 (σ:St) (K:D->St->Prop) (d:D):Prop:=K d σ
def Qt (f:Fr) (dst:Option Nat) (K:Fr->St->Prop) (d:D) (σ:St):Prop:=K (f.put dst d) σ
def Qu (f:Fr) (dst:Option Nat) (K:Fr->Prop) (d:D):Prop:=K (f.put dst d)
def eA (Q:Exit->Fr->St->Prop) (f:Fr) (σ:St):Prop:=Q .normal f σ
def Pf (d:D) (want:Bool) (yes no:Prop):Prop:=
 match d with
 | .bool b=>if b=want then yes else no
 | .uO=>no
 | _=>False
theorem Tj (b want:Bool) (yes no:Prop):Pf (.bool b) want yes no=if b=want then yes else no:=rfl
theorem S0 (want:Bool) (yes no:Prop):Pf .uO want yes no=no:=rfl
@[congr] theorem Pb {d d' : D} {want : Bool} {yes no : Prop} (h : d = d') : Pf d want yes no = Pf d' want yes no := by rw [h]
def gd (g:Option (Nat × Bool)) (f:Fr) (yes no:Prop):Prop:=
 match g with
 | none=>yes
 | some (j,want)=>Pf (f.get j) want yes no
theorem S4 (f:Fr) (yes no:Prop):gd none f yes no=yes:=rfl
theorem S5 (j:Nat) (want:Bool) (f:Fr) (yes no:Prop):gd (some (j,want)) f yes no=Pf (f.get j) want yes no:=rfl
theorem RJ (o:xN) (f:Fr) (yes no:Prop):xR o f yes no=gd o.guard f yes no:=by
 unfold xR gd
 split
 ·rename_i h; rw [h]
 ·rename_i h; rw [h]; rfl
def bW (q:Bool) (σ:St) (sz bytes:Nat) (x:D) (y:Option (List (List D))) (K:D->St->Prop):Prop:=
 match y with
 | none=>False
 | some rows=>(∀ r ∈ rows,zN r=true)/\ match x with
  | .xI=>rows.length*bytes<=140737488355328/\rows.length<=8000000000000/\(rows = []->K .xI σ)/\ (rows ≠ []->K (.wZ σ.nx sz rows.length) (σ.new ⟨sz,rows⟩))
  | .wZ key sz' n=>match σ.get key with
   | some ob=>sz=sz'/\ob.sz=sz/\n<=ob.xZ.length/\(n+rows.length)* bytes<=140737488355328/\n+rows.length<=8000000000000 /\
    K (.wZ σ.nx sz (n+rows.length)) ((σ.erase key).new ⟨sz,ob.xZ.take n++rows⟩)
   | none=>False
  | .sub key sz' lo n=>match σ.get key with
   | some ob=>q=true/\sz=sz'/\ob.sz=sz/\lo+n<=ob.xZ.length/\(n+rows.length)* bytes<=140737488355328/\n+rows.length<=8000000000000 /\
    ∀ pre:List (List D),(pre = []\/pre=ob.xZ.take lo)->K (.sub σ.nx sz pre.length (n+rows.length)) ((σ.erase key).new ⟨sz,pre++((ob.xZ.drop lo).take n++rows)⟩)
   | none=>False
  | _=>False
def W2 (σ:St) (n:Nat) (a:D) (x:Option (List D)) (K:D->St->Prop):Prop:=
 match a,x with
 | .ref key sz i off,some ds=>match σ.get key with
  | some ob=>ob.sz=sz/\i<ob.xZ.length/\ds.length=n/\off+n<=sz/\zN ds=true/\K .uO (σ.set key ⟨sz,ob.xZ.set i (oR (ob.xZ.getD i []) off ds)⟩)
  | none=>False
 | _,_=>False
def sb (x:D) (K:D->Prop):Prop:=
 match x with
 | .sl _ xZ=>K (.int .i64 xZ.length)
 | .wZ _ _ n=>K (.int .i64 n)
 | .sub _ _ _ n=>K (.int .i64 n)
 | .xI=>K (.int .i64 0)
 | .emp=>K (.int .i64 0)
 | _=>False
def lp (sz:Nat) (x i:D) (K:D->Prop):Prop:=
 match x,i with
 | .sl sz' xZ,.int _ n=>sz=sz'/\0<=n/\n<xZ.length/\K (.ptr (xZ.getD n.toNat []))
 | .wZ key sz' len,.int _ n=>sz=sz'/\0<=n/\n<len/\K (.ref key sz n.toNat 0)
 | .sub key sz' lo len,.int _ n=>sz=sz'/\0<=n/\n<len/\K (.ref key sz (lo+n.toNat) 0)
 | _,_=>False
def nV (neg:Bool) (x y:D) (K:D->Prop):Prop:=
 match x,y with
 | .xI,.xI=>K (.bool (!neg))
 | .wZ ..,.xI | .xI,.wZ ..=>K (.bool neg)
 | .emp,.xI | .xI,.emp=>K (.bool neg)
 | .sl _ (_ :: _),.xI=>K (.bool neg)
 | _,_=>False
def qk (σ:St) (n:Nat) (ag:Bool) (x:D) (K:D->Prop):Prop:=
 match x with
 | .ref key sz i off=>match σ.get key with
  | some o=>o.sz=sz/\i<o.xZ.length/\off+n<=sz/\(ag=true\/n=1)/\ K (vR ag (((o.xZ.getD i []).drop off).take n))
  | none=>False
 | .ptr cs=>n<=cs.length/\(ag=true\/n=1)/\ K (vR ag (cs.take n))
 | .zo b=>∃ ds,RH b ds/\n<=ds.length/\(ag=true\/n=1)/\ K (vR ag (ds.take n))
 | _=>False
def Zb (x:D) (K:D->Prop):Prop:=
 match x with
 | .ref key sz i off=>K (.ref key sz i off)
 | .ptr cs=>K (.ptr cs)
 | .fn f cs=>K (.fn f cs)
 | _=>False
@[congr] theorem Pn {x x' : D} {K : D -> Prop} (h : x = x') : Zb x K = Zb x' K := by rw [h]
theorem UA {key sz i off:Nat} {K:D->Prop}:Zb (.ref key sz i off) K=K (.ref key sz i off):=rfl
theorem U9 {cs:List D} {K:D->Prop}:Zb (.ptr cs) K=K (.ptr cs):=rfl
theorem SJ {f:FuncId} {cs:List D} {K:D->Prop}:Zb (.fn f cs) K=K (.fn f cs):=rfl
def qn (σ:St) (zero:D) (ok:Bool) (m k:D) (K:D->Prop):Prop:=
 match m,k with
 | .yV key,.int kk x=>match σ.get key with
  | some o=>o.sz=0/\lP kk o.xZ/\K (qV ok zero (qT x o.xZ 0))
  | none=>False
 | .sP,.int _ _=>K (qV ok zero none)
 | _,_=>False
def eu (σ:St) (m k x:D) (K:D->St->Prop):Prop:=
 match m,k with
 | .yV key,.int kk y=>match σ.get key with
  | some o=>o.sz=0/\lP kk o.xZ/\K .uO (σ.set key ⟨0,aE kk o.xZ y x⟩)
  | none=>False
 | _,_=>False
def nU (σ:St) (n:Nat) (zero:D) (ok:Bool) (m k:D) (K:D->Prop):Prop:=
 match m,k with
 | .yV key,.agg cs=>match σ.get key with
  | some o=>o.sz=0/\∃ (x:List Int) (l:List (List Int × D)),(cs=x.map (D.int .i64)/\ o.xZ=vZ l/\x.length=n/\∀ p ∈ l,p.1.length=n)/\ K (qV ok zero (uJ x l 0))
  | none=>False
 | _,_=>False
def oZ (σ:St) (n:Nat) (m k x:D) (K:D->St->Prop):Prop:=
 match m,k with
 | .yV key,.agg cs=>match σ.get key with
  | some o=>o.sz=0/\∃ (y:List Int) (l:List (List Int × D)),(cs=y.map (D.int .i64)/\ o.xZ=vZ l/\(y.length=n/\∀ p ∈ l,p.1.length=n))/\ K .uO (σ.set key ⟨0,vZ (lN y x l)⟩)
  | none=>False
 | _,_=>False
def Vh (σ:St) (zero m k:D) (K:D->St->Prop):Prop:=
 match m,k with
 | .yV key,.int kk y=>match σ.get key with
  | some o=>o.sz=0/\lP kk o.xZ/\o.xZ.length<=1000000000/\(match qT y o.xZ 0 with
   | some (i,d)=>K (.yD [d,.int .i64 i]) (σ.set key ⟨0,o.xZ⟩)
   | none=>K (.yD [zero,.int .i64 o.xZ.length]) (σ.set key ⟨0,o.xZ ++ [[.int kk y,zero]]⟩))
  | none=>False
 | _,_=>False
def VX (σ:St) (m s x:D) (K:D->St->Prop):Prop:=
 match m,s with
 | .yV key,.int _ i=>match σ.get key with
  | some o=>o.sz=0/\0<=i/\i<o.xZ.length/\(∃ y d,o.xZ.getD i.toNat [] = [y,d]/\K .uO (σ.set key ⟨0,o.xZ.set i.toNat [y,x]⟩))
  | none=>False
 | _,_=>False
@[congr] theorem RD {σ : St} {zero : D} {ok : Bool} {m m' k k' : D} {K : D -> Prop} (h : m = m') (h' : k = k') : qn σ zero ok m k K = qn σ zero ok m' k' K := by rw [h, h']
@[congr] theorem RF {σ : St} {m m' k k' x x' : D} {K : D -> St -> Prop} (h : m = m') (h' : k = k') (h2 : x = x') : eu σ m k x K = eu σ m' k' x' K := by rw [h, h', h2]
@[congr] theorem RX {σ : St} {n : Nat} {zero : D} {ok : Bool} {m m' k k' : D} {K : D -> Prop} (h : m = m') (h' : k = k') : nU σ n zero ok m k K = nU σ n zero ok m' k' K := by rw [h, h']
@[congr] theorem Rb {σ : St} {n : Nat} {m m' k k' x x' : D} {K : D -> St -> Prop} (h : m = m') (h' : k = k') (h2 : x = x') : oZ σ n m k x K = oZ σ n m' k' x' K := by rw [h, h', h2]
@[congr] theorem RB {σ : St} {zero m m' k k' : D} {K : D -> St -> Prop} (h : m = m') (h' : k = k') : Vh σ zero m k K = Vh σ zero m' k' K := by rw [h, h']
@[congr] theorem R8 {σ : St} {m m' k k' x x' : D} {K : D -> St -> Prop} (h : m = m') (h' : k = k') (h2 : x = x') : VX σ m k x K = VX σ m' k' x' K := by rw [h, h', h2]
@[congr] theorem Pj {q : Bool} {σ : St} {sz bytes : Nat} {x x' : D} {y y' : Option (List (List D))} {K : D -> St -> Prop} (h : x = x') (h' : y = y') : bW q σ sz bytes x y K = bW q σ sz bytes x' y' K := by rw [h, h']
@[congr] theorem Pp {σ : St} {n : Nat} {x x' : D} {y y' : Option (List D)} {K : D -> St -> Prop} (h : x = x') (h' : y = y') : W2 σ n x y K = W2 σ n x' y' K := by rw [h, h']
@[congr] theorem Pm {x x' : D} {K : D -> Prop} (h : x = x') : sb x K = sb x' K := by rw [h]
@[congr] theorem Pk {sz : Nat} {x x' i i' : D} {K : D -> Prop} (h : x = x') (h' : i = i') : lp sz x i K = lp sz x' i' K := by rw [h, h']
@[congr] theorem Rc {neg : Bool} {x x' i i' : D} {K : D -> Prop} (h : x = x') (h' : i = i') : nV neg x i K = nV neg x' i' K := by rw [h, h']
@[congr] theorem RA {σ : St} {n : Nat} {ag : Bool} {x x' : D} {K : D -> Prop} (h : x = x') : qk σ n ag x K = qk σ n ag x' K := by rw [h]
def pX (C:Cx) (σ:St) (ev:vK->D) (k:DK) (K:D->Prop):Prop:=
 match k with
 | .len x=>sb (ev x) K
 | .idx sz x i=>lp sz (ev x) (ev i) K
 | .iW neg x y=>nV neg (ev x) (ev y) K
 | .load n ag x=>qk σ n ag (ev x) K
 | .fH zero ok m k=>qn σ zero ok (ev m) (ev k) K
 | .mW n zero ok m k=>nU σ n zero ok (ev m) (ev k) K
 | .W6 x=>Zb (ev x) K
 | k=>pW C σ ev k K
theorem RN (C:Cx) (σ:St) (ev:vK->D) (k:DK) (K:D->Prop):pX C σ ev k K=pW C σ ev k K:=by cases k <;> rfl
def sg (C:Cx) (σ:St) (ev:vK->D) (k:DK) (K:D->St->Prop):Prop:=
 match k with
 | .box x=>zC C σ ev (.box x) K
 | .alloc z=>zC C σ ev (.alloc z) K
 | .store n a x=>W2 σ n (ev a) (ev x).cells K
 | .app sz bytes x y=>bW (C.own.contains 77777) σ sz bytes (ev x) (rowsOf σ sz (ev y)) K
 | .jF sz bytes zero len cap=>zC C σ ev (.jF sz bytes zero len cap) K
 | .lZ sz len zero parts=>zC C σ ev (.lZ sz len zero parts) K
 | .j9 zero x=>zC C σ ev (.j9 zero x) K
 | .j5 x y=>zC C σ ev (.j5 x y) K
 | .call fn args=>zC C σ ev (.call fn args) K
 | .yu=>zC C σ ev .yu K
 | .nA m k x=>eu σ (ev m) (ev k) (ev x) K
 | .qU n m k x=>oZ σ n (ev m) (ev k) (ev x) K
 | .fF zero m k=>Vh σ zero (ev m) (ev k) K
 | .oT n zero m k=>zC C σ ev (.oT n zero m k) K
 | .fD m s x=>VX σ (ev m) (ev s) (ev x) K
 | k=>pX C σ ev k (L0 σ K)
theorem kj (C:Cx) (σ:St) (ev:vK->D) (k:DK) (K:D->St->Prop):sg C σ ev k K=zC C σ ev k K:=by cases k <;> first | rfl | (show pX _ _ _ _ _=_; rw [RN]; rfl)
def bZ (C:Cx):List xN->(Fr->St->Prop)->Fr->St->Prop
 | [],K,f,σ=>K f σ
 | ⟨dst,g,k⟩ :: rest,K,f,σ=>gd g f (sg C σ (wP f) k (Qt f dst (bZ C rest K))) (bZ C rest K (f.put dst .uO) σ)
theorem cX (C:Cx) (K:Fr->St->Prop):∀ (ops:List xN) (f:Fr) (σ:St),bZ C ops K f σ=tP C ops f σ K
 | [],f,σ=>rfl
 | o :: rest,f,σ=>by
  have ih:bZ C rest K=λf σ=>tP C rest f σ K:=by funext f σ; exact cX C K rest f σ
  unfold bZ tP;rw [RJ,kj,ih];rfl
def yj (C:Cx) (σ:St):List xN->(Fr->Prop)->Fr->Prop
 | [],K,f=>K f
 | ⟨dst,g,k⟩ :: rest,K,f=>gd g f (pX C σ (wP f) k (Qu f dst (yj C σ rest K))) (yj C σ rest K (f.put dst .uO))
theorem rK (C:Cx) (σ:St) (K:Fr->Prop):∀ (ops:List xN) (f:Fr),yj C σ ops K f=uX C σ ops f K
 | [],f=>rfl
 | o :: rest,f=>by
  have ih:yj C σ rest K=λf=>uX C σ rest f K:=by funext f; exact rK C σ K rest f
  unfold yj uX;rw [RJ,RN,ih];rfl
def fb (C:Cx) (post:List xN) (Q:Exit->Fr->St->Prop) (σ:St) (f:Fr):Prop:=bZ C post (eA Q) f σ
def PU (d:D) (p q:Prop):Prop:=
 match d with
 | .bool t=>if t=true then p else q
 | _=>False
theorem TY (t:Bool) (p q:Prop):PU (.bool t) p q=if t=true then p else q:=rfl
@[congr] theorem Pa {d d' : D} {p q : Prop} (h : d = d') : PU d p q = PU d' p q := by rw [h]
def kh (C:Cx) (it:Nat) (m:vK) (out nx more next pair:Nat) (rest:List xN) (code:DC) (Q:Exit->Fr->St->Prop) (f:Fr) (σ:St):Prop:=wo C it m out nx more next pair rest code f σ Q
@[congr] theorem Ra {C : Cx} {it : Nat} {m : vK} {out nx more next pair : Nat} {rest : List xN} {code : DC} {Q : Exit -> Fr -> St -> Prop} {f f' : Fr} {σ : St} (h : f = f') : kh C it m out nx more next pair rest code Q f σ = kh C it m out nx more next pair rest code Q f' σ := by rw [h]
def Y3 (C:Cx) (code:DC) (out next:Nat) (J:Fr->St->Prop) (Q:Exit->Fr->St->Prop) (f:Fr) (σ:St):Prop:=wpS C code f σ (nO next (jA J (nO out Q)))
@[congr] theorem TJ {C : Cx} {code : DC} {out next : Nat} {J : Fr -> St -> Prop} {Q : Exit -> Fr -> St -> Prop} {f f' : Fr} {σ : St} (h : f = f') : Y3 C code out next J Q f σ = Y3 C code out next J Q f' σ := by rw [h]
def dt (C:Cx) (k:DK) (K:Fr->D->St->Prop) (σ:St) (f1:Fr):Prop:=sg C σ (wP f1) k (K f1)
def RU (f:Fr) (g:Fr):Prop:=g=f
def PX (C:Cx) (un:Bool) (mid:List xN) (f1:Fr) (σ:St) (K:Fr->St->Prop) (σ1:St) (f2:Fr):Prop:=(if un=true then yj C σ mid (RU f2) f1 else True)/\ K f2 σ1
def Za (C:Cx) (pre:List xN) (dst:Option Nat) (mid:List xN) (un:Bool) (post:List xN) (Q:Exit->Fr->St->Prop) (f:Fr) (σ:St) (f1:Fr) (d:D) (σ1:St):Prop:= yj C σ1 pre (RU f1) f/\yj C σ1 mid (PX C un mid (f1.put dst d) σ (bZ C post (eA Q)) σ1) (f1.put dst d)
theorem SD {C:Cx} {pre:List xN} {dst:Option Nat} {mid:List xN} {un:Bool} {post:List xN} {Q:Exit->Fr->St->Prop} {f:Fr} {σ:St} {f1:Fr} {d:D} {σ1:St} :
  Za C pre dst mid un post Q f σ f1 d σ1=Vw C pre dst mid un f σ (λf σ=>tP C post f σ λf σ=>Q .normal f σ) f1 d σ1:=by
 unfold Za Vw;rw [rK,rK]
 have:PX C un mid (f1.put dst d) σ (bZ C post (eA Q)) σ1=λf2=>(if un=true then uX C σ mid (f1.put dst d) (λg=>g=f2) else True)/\ tP C post f2 σ1 λf σ=>Q .normal f σ:=by funext f2;unfold PX;rw [rK,cX];rfl
 rw [this];rfl
def j8 (C:Cx):DC->(Exit->Fr->St->Prop)->Fr->St->Prop
 | .skip,Q,f,σ=>Q .normal f σ
 | .sS pre post,Q,f,σ=>yj C σ pre (fb C post Q σ) f
 | .yo pre m mid un post,Q,f,σ=>yj C σ pre (dt C m.k (Za C pre m.dst mid un post Q f σ) σ) f
 | .ym pre m1 mid1 m2 mid2 post,Q,f,σ=>mX C (.ym pre m1 mid1 m2 mid2 post) f σ Q
 | .seq a b,Q,f,σ=>j8 C a (jA (j8 C b Q) Q) f σ
 | .cond c a b,Q,f,σ=>PU (wP f c) (j8 C a Q f σ) (j8 C b Q f σ)
 | .block id c,Q,f,σ=>j8 C c (nO id Q) f σ
 | .loop c,Q,f,σ=>wpS C (.loop c) f σ Q
 | .eE g ps a c,Q,f,σ=>wpS C (.eE g ps a c) f σ Q
 | .bY pre m1 mid1 m2 mid2 post free,Q,f,σ=>wpS C (.bY pre m1 mid1 m2 mid2 post free) f σ Q
 | .bX pre m mid un post fl,Q,f,σ=>wpS C (.bX pre m mid un post fl) f σ Q
 | .mK ms l s xs y,Q,f,σ=>wpS C (.mK ms l s xs y) f σ Q
 | .exit id,Q,f,σ=>Q (.exit id) f σ
 | .ret,Q,f,σ=>Q .ret f σ
 | .Zf ..,_,_,_=>False
 | .WA ..,_,_,_=>False
 | .W9 ..,_,_,_=>False
 | .dY pre it m out nx more next pair rest code,Q,f,σ=>bZ C pre (kh C it m out nx more next pair rest code Q) f σ
theorem eX (C:Cx):∀ (dc:DC) (Q:Exit->Fr->St->Prop) (f:Fr) (σ:St),j8 C dc Q f σ=mX C dc f σ Q
 | .skip,Q,f,σ=>rfl
 | .sS pre post,Q,f,σ=>by
  unfold j8 mX;rw [rK]
  have:fb C post Q σ=λf=>tP C post f σ λf σ=>Q .normal f σ:=by funext f;unfold fb;rw [cX];rfl
  rw [this]
 | .yo pre m mid un post,Q,f,σ=>by
  unfold j8 mX;rw [rK]
  have:dt C m.k (Za C pre m.dst mid un post Q f σ) σ=λf1=>zC C σ (wP f1) m.k λd σ1=>Vw C pre m.dst mid un f σ (λf σ=>tP C post f σ λf σ=>Q .normal f σ) f1 d σ1:=by funext f1;unfold dt;rw [kj];congr 1;funext d σ1;exact SD
  rw [this]
 | .ym ..,Q,f,σ=>rfl
 | .seq a b,Q,f,σ=>by
  have ih:j8 C b Q=λf σ=>mX C b f σ Q:=by funext f σ; exact eX C b Q f σ
  unfold j8;rw [eX C a,ih];rfl
 | .cond c a b,Q,f,σ=>by unfold j8;rw [eX C a,eX C b];rfl
 | .block id c,Q,f,σ=>by unfold j8; rw [eX C c]; rfl
 | .loop c,Q,f,σ=>rfl
 | .eE g ps a c,Q,f,σ=>rfl
 | .bY ..,Q,f,σ=>rfl
 | .bX ..,Q,f,σ=>rfl
 | .mK ..,Q,f,σ=>rfl
 | .exit id,Q,f,σ=>rfl
 | .ret,Q,f,σ=>rfl
 | .Zf ..,_,_,_=>rfl
 | .WA ..,_,_,_=>rfl
 | .W9 ..,_,_,_=>rfl
 | .dY pre it m out nx more next pair rest code,Q,f,σ=>by unfold j8 mX; rw [cX]; rfl
noncomputable def kr {α:Sort u} (a:α):α:=Classical.choose (⟨a,rfl⟩:∃ b:α,b=a)
theorem bB {α:Sort u} (a:α):kr a=a:=Classical.choose_spec (⟨a,rfl⟩:∃ b:α,b=a)
noncomputable def lr (C:Cx):List xN->(Fr->St->Prop)->Fr->St->Prop:=kr (bZ C)
noncomputable def fU (C:Cx) (σ:St):List xN->(Fr->Prop)->Fr->Prop:=kr (yj C σ)
noncomputable def si (C:Cx):DC->(Exit->Fr->St->Prop)->Fr->St->Prop:=kr (j8 C)
theorem gO (C:Cx):lr C=bZ C:=bB _
theorem oM (C:Cx) (σ:St):fU C σ=yj C σ:=bB _
theorem rI (C:Cx):si C=j8 C:=bB _
section
variable (C : Cx) (σ : St) (f : Fr) (Q : Exit -> Fr -> St -> Prop) (K : Fr -> St -> Prop) (K1 : Fr -> Prop) (a b c : DC) (dst : Option Nat) (g : Option (Nat × Bool)) (k : DK) (rest pre post : List xN) (x : vK) (id : Nat)
theorem UR : lr C [] K f σ=K f σ:=by rw [gO]; rfl
theorem Z1 : lr C (⟨dst,g,k⟩ :: rest) K f σ=gd g f (sg C σ (wP f) k (Qt f dst (lr C rest K))) (lr C rest K (f.put dst .uO) σ):=by rw [gO]; rfl
theorem UT : fU C σ [] K1 f=K1 f:=by rw [oM]; rfl
theorem Z6 : fU C σ (⟨dst,g,k⟩ :: rest) K1 f=gd g f (pX C σ (wP f) k (Qu f dst (fU C σ rest K1))) (fU C σ rest K1 (f.put dst .uO)):=by rw [oM]; rfl
def qv (C:Cx) (post:List xN) (Q:Exit->Fr->St->Prop) (σ:St) (f:Fr):Prop:=lr C post (eA Q) f σ
theorem V5 : si C .skip Q f σ=Q .normal f σ:=by rw [rI]; rfl
theorem Ss : si C (.sS pre post) Q f σ=fU C σ pre (qv C post Q σ) f:=by
 have e:qv C post Q σ=fb C post Q σ:=by funext f; unfold qv fb; rw [gO]
 rw [rI,oM,e]; rfl
def fS (C:Cx) (k:DK) (K:Fr->D->St->Prop) (σ:St) (f1:Fr):Prop:=sg C σ (wP f1) k (K f1)
def OG (C:Cx) (un:Bool) (mid:List xN) (f1:Fr) (σ:St) (K:Fr->St->Prop) (σ1:St) (f2:Fr):Prop:=(if un=true then fU C σ mid (RU f2) f1 else True)/\ K f2 σ1
def T8 (C:Cx) (pre:List xN) (dst:Option Nat) (mid:List xN) (un:Bool) (post:List xN) (Q:Exit->Fr->St->Prop) (f:Fr) (σ:St) (f1:Fr) (d:D) (σ1:St):Prop:= fU C σ1 pre (RU f1) f/\fU C σ1 mid (OG C un mid (f1.put dst d) σ (lr C post (eA Q)) σ1) (f1.put dst d)
theorem V3 {mid:List xN} {un:Bool}:si C (.yo pre ⟨dst,g,k⟩ mid un post) Q f σ=fU C σ pre (fS C k (T8 C pre dst mid un post Q f σ) σ) f:=by
 have e:fS C k (T8 C pre dst mid un post Q f σ) σ=dt C k (Za C pre dst mid un post Q f σ) σ:=by
  funext f1;unfold fS dt;congr 1;funext d σ1;unfold T8 Za
  have e2:OG C un mid (f1.put dst d) σ (lr C post (eA Q)) σ1=PX C un mid (f1.put dst d) σ (bZ C post (eA Q)) σ1:=by funext f2; unfold OG PX; rw [gO,oM]
  rw [e2,oM]
 rw [rI,oM,e]; rfl
theorem Tf (f:Fr):RU f f=True:=eq_true rfl
theorem Sv : si C (.seq a b) Q f σ=si C a (jA (si C b Q) Q) f σ:=by rw [rI]; rfl
theorem Uy : si C (.cond x a b) Q f σ=PU (wP f x) (si C a Q f σ) (si C b Q f σ):=by rw [rI]; rfl
theorem ZS : si C (.block id c) Q f σ=si C c (nO id Q) f σ:=by rw [rI]; rfl
theorem V0 : si C (.loop c) Q f σ=wpS C (.loop c) f σ Q:=by rw [rI]; rfl
theorem V4 {g:vK} {ps:List Nat}:si C (.eE g ps a c) Q f σ=wpS C (.eE g ps a c) f σ Q:=by rw [rI]; rfl
theorem Ux : si C (.exit id) Q f σ=Q (.exit id) f σ:=by rw [rI]; rfl
theorem Su : si C .ret Q f σ=Q .ret f σ:=by rw [rI]; rfl
theorem ZT {it:Nat} {m:vK} {out nx more next pair:Nat} {rst:List xN} {code:DC}:si C (.dY pre it m out nx more next pair rst code) Q f σ=lr C pre (kh C it m out nx more next pair rst code Q) f σ:=by rw [rI,gO]; rfl
end
theorem wH {C:Cx} (hm:C.P.follows .mixedOrders=true) {dc:DC} {f:Fr} {σ:St} {Q:Exit->Fr->St->Prop} (h:si C dc Q f σ):wpS C dc f σ Q:= wy hm (by rw [<- eX,<- rI]; exact h)
theorem xU.Of {P:Program} {g:FuncId} {fn:Func} {own:List Nat} {N:Nat} {dc:DC} {rs:List lT} {args:List D} {σ:St} {d:D} {σ':St} (hm:P.follows .mixedOrders=true) (hf:P.funcs[g]?=some fn)
  (hc:xP P own fn=some (N,dc,rs)) (hla:args.length<=N)
  (h:D.pJ args->si ⟨P,N,σ.nx,own,none⟩ dc (dp ⟨P,N,σ.nx,own,none⟩ rs d σ') (lO 0 args) σ):xU P g args σ d σ':=
 xU.RM hm hf hc hla λhfa=>by rw [<- eX,<- rI]; exact h hfa
end Go.Pd
namespace Go.Pd
open Go
theorem TW (s:BitVec 64) (w:Nat):s >>> w &&& 1#64=if s.getLsbD w then 1#64 else 0#64:=by
 apply Ac;rw [BitVec.toNat_and,Ad];have:(1#64).toNat=1:=rfl;rw [this,Nat.and_one_is_mod];unfold BitVec.getLsbD;rw [Nat.testBit_eq_decide_div_mod_eq,Al]
 by_cases h:s.toNat / 2 ^ w % 2=1
 ·simp [h]
 ·simp [h]; omega
theorem yw (s:BitVec 64) (w:Nat):(s >>> w &&& 1#64==1#64)= s.getLsbD w:=by rw [TW];cases s.getLsbD w <;> rfl
theorem YH {k:Nat} (hk:k<62):yp .i64 1 k=((2 ^ k:Nat):Int):=by
 have hp:2 ^ k<2 ^ 62:=Ai (by omega) hk;unfold yp
 have e:min (k:Int).toNat IntKind.i64.bits=k:=by have:IntKind.i64.bits=64:=rfl;rw [this,Int.toNat_natCast]; omega
 rw [e,Int.one_mul,wrap_i64]
 ·simp
 ·have:((2:Int)^ k)= ((2 ^ k:Nat):Int):=by simp
  rw [this];exact⟨Int.le_trans (by decide) (Int.natCast_nonneg _),Int.le_trans (Int.ofNat_le.2 (Nat.le_of_lt hp)) (by decide)⟩
theorem QK {a k:Nat} (h:a<2 ^ k) (hk:k<62):mH .or .i64 (a:Int) (yp .i64 1 k)= ((a+2 ^ k:Nat):Int):=by have hp:2 ^ k<2 ^ 62:=Ai (by omega) hk;have e1:=YH hk;rw [e1];show IntKind.i64.wrap ((BitVec.ofInt 64 (a:Int) ||| BitVec.ofInt 64 ((2 ^ k:Nat):Int)).toNat:Int)= _;rw [Aa,Aa,Ag,Ab,Ab,Ak (by omega),Ak (by omega)];have:=Nat.two_pow_add_eq_or_of_lt h 1;rw [Nat.mul_one] at this;rw [Nat.or_comm,<- this,Nat.add_comm];exact wrap_i64 (by omega)
theorem or_zero {a k:Nat} (h:a<2 ^ k) (hk:k<62):mH .or .i64 (a:Int) (yp .i64 0 k)= (a:Int):=by
 have hp:2 ^ k<2 ^ 62:=Ai (by omega) hk
 have e1:yp .i64 0 k=0:=by unfold yp;rw [Int.zero_mul]; rfl
 rw [e1];show IntKind.i64.wrap ((BitVec.ofInt 64 (a:Int) ||| BitVec.ofInt 64 0).toNat:Int)= _;rw [Aa,Ag,Ab,Ak (by omega)];have:(BitVec.ofInt 64 0).toNat=0:=rfl;rw [this,Nat.or_zero];exact wrap_i64 (by omega)
end Go.Pd
namespace Go.Pd
open Go
theorem nu (key sz:Nat):xJ key sz [] = .xI:=rfl
theorem Yv (key sz:Nat) (e:List D) (r:List (List D)):xJ key sz (e :: r)= .wZ key sz (r.length+1):=rfl
theorem nw (key sz:Nat):yX key sz [] = []:=rfl
theorem Yw (key sz:Nat) (e:List D) (r:List (List D)):yX key sz (e :: r)= [(key,⟨sz,e :: r⟩)]:=rfl
theorem bz (k:IntKind):rows k [] = []:=rfl
theorem pk (k:IntKind) (n:Int) (l:List Int):rows k (n :: l)= [.int k n] :: rows k l:=rfl
theorem po (k:IntKind) (l:List Int) (n:Int):rows k l ++ [[.int k n]]=rows k (l ++ [n]):=by simp [rows]
theorem jj (l:List (List (BitVec 64))) (r:List (BitVec 64)):rr l ++ [[.sl 1 (us r)]]=rr (l ++ [r]):=by simp [rr,TC]
theorem VP : rr [] = []:=rfl
theorem YF (l:List (BitVec 64)) (r:List (List (BitVec 64))):rr (l :: r)= [.sl 1 (us l)] :: rr r:=rfl
variable [vA]
theorem Wf {key m n sz:Nat} {xZ:List (List D)} (hs:0<sz) (hp:∀ e ∈ xZ,D.xT e=true) {ρ:Nat->Nat}:vw ⟨m,yX key sz xZ⟩ ⟨n,[]⟩ ρ (xJ key sz xZ) (.sl sz xZ):=by
 cases xZ with
 | nil=>simp [xJ,vw]
 | cons e r=> simp only [xJ,yX,vw];refine⟨trivial,hs,by simp,⟨sz,e :: r⟩,by simp [St.get,St.look],rfl,Aj _,by simp,hp⟩
theorem bV.name {n0 n m sz j:Nat} {xZ:List (List D)} {d d':D} (hn:n0<=n) (hp:∀ e ∈ xZ,D.xT e=true) (hv:vw ⟨m,[(j,⟨sz,xZ⟩)]⟩ ⟨n+1,[(n,⟨sz,xZ⟩)]⟩ (λk=>if k=n then j else k) d d'):bV n0 ⟨m,[(j,⟨sz,xZ⟩)]⟩ d ⟨n+1,[(n,⟨sz,xZ⟩)]⟩ d':=by
 refine .inr ⟨λk=>if k=n then j else k,by show n0<=n+1; omega,λk hk=>if_neg (by omega),hv,?_,?_⟩
 ·intro p hp';simp only [θ] at hp';subst hp';exact⟨Nat.lt_succ_self n,⟨sz,xZ⟩,by simp [St.get,St.look],rfl,.same hp⟩
 ·intro p hp' q hq' _;simp only [θ] at hp' hq';rw [hp',hq']
def up (n:Nat) (k:Nat):Nat:=if k=n then n+1 else k
end Go.Pd
namespace Go.Pd
open Go
def wW (sz:Nat):List (List D)->Option Ob
 | []=>none
 | e :: r=>some ⟨sz,e :: r⟩
theorem xG {k s:Nat} {xZ:List (List D)} {r:List (Nat × Ob)} {k':Nat}:St.look (yX k s xZ++r) k'=if k=k' then(wW s xZ).or (St.look r k') else St.look r k':=by
 cases xZ with
 | nil=>simp [yX,wW]
 | cons e l=>simp [yX,wW,St.look]
theorem xf {k s:Nat} {xZ:List (List D)} {k':Nat}:St.look (yX k s xZ) k'=if k=k' then wW s xZ else none:=by have:=xG (k:=k) (s:=s) (xZ:=xZ) (r:=[]) (k':=k');simp only [δ,St.look,Option.or_none] at this;exact this
theorem xa {k s:Nat} {xZ:List (List D)} {r:List (Nat × Ob)} {k':Nat}:yE (yX k s xZ++r) k'=if k=k' then yE r k' else yX k s xZ++yE r k':=by
 cases xZ with
 | nil=>simp [yX]
 | cons e l=>simp [yX,yE]
theorem gf {k s:Nat} {xZ:List (List D)} {k':Nat}:yE (yX k s xZ) k'=if k=k' then [] else yX k s xZ:=by have:=xa (k:=k) (s:=s) (xZ:=xZ) (r:=[]) (k':=k');simp only [δ,yE] at this;exact this
theorem cp : ∀ {r:List (Nat × Ob)} {k:Nat} {o:Ob},St.look r k=none->wO r k o=r
 | [],_,_,_=>rfl
 | (j,o') :: r,k,o,h=>by
  simp only [St.look] at h
  split at h
  ·cases h
  ·rename_i hn;simp only [wO,if_neg hn,cp h]
theorem tm : ∀ {r:List (Nat × Ob)} {k:Nat},St.look r k=none->yE r k=r
 | [],_,_=>rfl
 | (j,o') :: r,k,h=>by
  simp only [St.look] at h
  split at h
  ·cases h
  ·rename_i hn;simp only [yE,if_neg hn,tm h]
theorem pv {k s:Nat} {xZ els':List (List D)} {r:List (Nat × Ob)} (hl:els'.length=xZ.length) (h:St.look r k=none):wO (yX k s xZ++r) k ⟨s,els'⟩= yX k s els'++r:=by
 cases xZ with
 | nil=> have:els' = []:=List.eq_nil_of_length_eq_zero (by simpa using hl);subst this;simp only [yX,η];exact cp h
 | cons e l=>
  cases els' with
  | nil=>simp at hl
  | cons e' l'=>simp [yX,wO]
theorem XX {k s:Nat} {xZ els':List (List D)} (hl:els'.length=xZ.length):wO (yX k s xZ) k ⟨s,els'⟩= yX k s els':=by have:=pv (k:=k) (s:=s) (r:=[]) hl rfl;simp only [δ] at this;exact this
theorem gq {k s:Nat} {xZ:List (List D)} {r:List (Nat × Ob)} {k':Nat} {o:Ob} (h:k≠k'):wO (yX k s xZ++r) k' o=yX k s xZ++wO r k' o:=by
 cases xZ with
 | nil=>simp [yX]
 | cons e l=>simp [yX,wO,h]
theorem o9 (k s:Nat) (xZ:List (List D)):(xJ k s xZ).cells=some [xJ k s xZ]:=by cases xZ <;> rfl
theorem Wx (k s:Nat) (xZ:List (List D)):(xJ k s xZ).one=true:=by cases xZ <;> rfl
theorem WQ (k s n:Nat):(D.wZ k s n).cells=some [.wZ k s n]:=rfl
theorem WU (k s l n:Nat):(D.sub k s l n).cells=some [.sub k s l n]:=rfl
theorem WO (k:IntKind) (n:Int):(D.int k n).cells=some [.int k n]:=rfl
theorem Yl (b:Bool):(D.bool b).cells=some [.bool b]:=rfl
theorem WT (s:ByteArray):(D.str s).cells=some [.str s]:=rfl
theorem Ta (sz:Nat) (xZ:List (List D)):(D.sl sz xZ).cells=some [.sl sz xZ]:=rfl
theorem Yq : D.xI.cells=some [.xI]:=rfl
theorem WN : D.emp.cells=some [.emp]:=rfl
theorem WM (cs:List D):(D.agg cs).cells=some cs:=rfl
theorem TX (f:FuncId) (cs:List D):(D.fn f cs).cells=some [.fn f cs]:=rfl
theorem WS (a b c d:Nat):(D.ref a b c d).cells=some [.ref a b c d]:=rfl
theorem WR (cs:List D):(D.ptr cs).cells=some [.ptr cs]:=rfl
theorem Ym (k:Nat):(D.yV k).cells=some [.yV k]:=rfl
theorem Yp : D.pA.cells=some [.pA]:=rfl
theorem Yo : D.sP.cells=some [.sP]:=rfl
theorem Yn : D.pN.cells=some [.pN]:=rfl
theorem SO (k:IntKind) (n:Int):(D.int k n).one=true:=rfl
theorem UL (b:Bool):(D.bool b).one=true:=rfl
theorem SS (s:ByteArray):(D.str s).one=true:=rfl
theorem QJ (sz:Nat) (xZ:List (List D)):(D.sl sz xZ).one=true:=rfl
theorem UQ : D.xI.one=true:=rfl
theorem SN : D.emp.one=true:=rfl
theorem QI (f:FuncId) (cs:List D):(D.fn f cs).one=true:=rfl
theorem SR (a b c d:Nat):(D.ref a b c d).one=true:=rfl
theorem SP (a b c:Nat):(D.wZ a b c).one=true:=rfl
theorem SQ (cs:List D):(D.ptr cs).one=true:=rfl
theorem UM (k:Nat):(D.yV k).one=true:=rfl
theorem UP : D.pA.one=true:=rfl
theorem UO : D.sP.one=true:=rfl
theorem UN : D.pN.one=true:=rfl
section
variable [vA]
theorem WI {q:Bool} {σ:St} {sz bytes key:Nat} {xZ:List (List D)} {rw:List (List D)} {K:D->St->Prop} (h:σ.get key=wW sz xZ) (h0:rw ≠ []) :
  bW q σ sz bytes (xJ key sz xZ) (some rw) K=((∀ r ∈ rw,zN r=true)/\ (xZ.length+rw.length)* bytes<=140737488355328/\xZ.length+rw.length<=8000000000000 /\
   K (xJ σ.nx sz (xZ++rw)) ⟨σ.nx+1,yX σ.nx sz (xZ++rw)++ yE σ.xX key⟩):=by
 cases xZ with
 | nil=>
  obtain⟨r,rs,rfl⟩:∃ r rs,rw=r :: rs:=by cases rw with | nil=>exact absurd rfl h0 | cons r rs=>exact⟨r,rs,rfl⟩
  have he:yE σ.xX key=σ.xX:=tm h;simp only [bW,xJ,yX,St.new,he,η,κ,Am];simp
 | cons e l=>
  have e1:l.length+1+rw.length=l.length+rw.length+1:=by omega
  simp only [bW,xJ,h,wW,St.erase,St.new,yX];simp [xJ,yX,e1]
theorem Yh {q:Bool} {nx:Nat} {xX:List (Nat × Ob)} {sz bytes key:Nat} {xZ:List (List D)} {r:List D} {rs:List (List D)} {K:D->St->Prop} (h:St.look xX key=wW sz xZ) :
  bW q ⟨nx,xX⟩ sz bytes (xJ key sz xZ) (some (r :: rs)) K=((∀ x ∈ r :: rs,zN x=true)/\ (xZ.length+(r :: rs).length)* bytes<=140737488355328/\xZ.length+(r :: rs).length<=8000000000000 /\
   K (xJ nx sz (xZ++r :: rs)) ⟨nx+1,yX nx sz (xZ++r :: rs)++ yE xX key⟩):=WI h (by simp)
theorem TU {q:Bool} {σ:St} {sz bytes:Nat} {r:List D} {rs:List (List D)} {K:D->St->Prop} :
  bW q σ sz bytes .xI (some (r :: rs)) K=((∀ x ∈ r :: rs,zN x=true)/\ (r :: rs).length*bytes<=140737488355328/\(r :: rs).length<=8000000000000/\K (.wZ σ.nx sz (r :: rs).length) (σ.new ⟨sz,r :: rs⟩)):=by
 simp [bW]
theorem TV {q:Bool} {σ:St} {sz sz' bytes key n:Nat} {rows:List (List D)} {K:D->St->Prop} :
  bW q σ sz bytes (.wZ key sz' n) (some rows) K=((∀ x ∈ rows,zN x=true)/\ match σ.get key with
   | some ob=>sz=sz'/\ob.sz=sz/\n<=ob.xZ.length/\(n+rows.length)* bytes<=140737488355328/\n+rows.length<=8000000000000/\K (.wZ σ.nx sz (n+rows.length)) ((σ.erase key).new ⟨sz,ob.xZ.take n++rows⟩)
   | none=>False):=rfl
def e9 (nx:Nat) (xX:List (Nat × Ob)) (n key sz i off:Nat) (ds:List D) (K:D->St->Prop):Option Ob->Prop
 | some ob=>ob.sz=sz/\i<ob.xZ.length/\ds.length=n/\off+n<=sz/\zN ds=true/\K .uO ⟨nx,wO xX key ⟨sz,ob.xZ.set i (oR (ob.xZ.getD i []) off ds)⟩⟩
 | none=>False
@[congr] theorem Po {nx : Nat} {xX : List (Nat × Ob)} {n key sz i off : Nat} {ds : List D} {K : D -> St -> Prop} {o o' : Option Ob} (h : o = o') : e9 nx xX n key sz i off ds K o = e9 nx xX n key sz i off ds K o' := by rw [h]
theorem Um {nx:Nat} {xX:List (Nat × Ob)} {n key sz i off:Nat} {ds:List D} {K:D->St->Prop}:W2 ⟨nx,xX⟩ n (.ref key sz i off) (some ds) K=e9 nx xX n key sz i off ds K (St.look xX key):=by simp only [W2,St.get];cases St.look xX key <;> rfl
theorem ZG {nx:Nat} {xX:List (Nat × Ob)} {n key sz i off:Nat} {ds:List D} {K:D->St->Prop} {sz':Nat} {xZ:List (List D)} :
  e9 nx xX n key sz i off ds K (some ⟨sz',xZ⟩)= (sz'=sz/\i<xZ.length/\ds.length=n/\off+n<=sz/\zN ds=true/\K .uO ⟨nx,wO xX key ⟨sz,xZ.set i (oR (xZ.getD i []) off ds)⟩⟩):=rfl
theorem ZF {nx:Nat} {xX:List (Nat × Ob)} {n key sz i off:Nat} {ds:List D} {K:D->St->Prop} {xZ:List (List D)} :
  e9 nx xX n key sz i off ds K (wW sz xZ)= (i<xZ.length/\ds.length=n/\off+n<=sz/\zN ds=true/\K .uO ⟨nx,wO xX key ⟨sz,xZ.set i (oR (xZ.getD i []) off ds)⟩⟩):=by
 cases xZ with
 | nil=>simp [e9,wW]
 | cons e l=>simp [e9,wW]
def zb (n:Nat) (ag:Bool) (sz i off:Nat) (K:D->Prop):Option Ob->Prop
 | some o=>o.sz=sz/\i<o.xZ.length/\off+n<=sz/\(ag=true\/n=1)/\ K (vR ag (((o.xZ.getD i []).drop off).take n))
 | none=>False
@[congr] theorem R9 {n sz i off : Nat} {ag : Bool} {K : D -> Prop} {o o' : Option Ob} (h : o = o') : zb n ag sz i off K o = zb n ag sz i off K o' := by rw [h]
theorem Ws {nx:Nat} {xX:List (Nat × Ob)} {n key sz i off:Nat} {ag:Bool} {K:D->Prop}:qk ⟨nx,xX⟩ n ag (.ref key sz i off) K=zb n ag sz i off K (St.look xX key):=by simp only [qk,St.get];cases St.look xX key <;> rfl
theorem XB {n sz i off:Nat} {ag:Bool} {K:D->Prop} {sz':Nat} {xZ:List (List D)}:zb n ag sz i off K (some ⟨sz',xZ⟩)= (sz'=sz/\i<xZ.length/\off+n<=sz/\(ag=true\/n=1)/\ K (vR ag (((xZ.getD i []).drop off).take n))):=rfl
theorem X0 {n sz i off:Nat} {ag:Bool} {K:D->Prop} {xZ:List (List D)}:zb n ag sz i off K (wW sz xZ)= (i<xZ.length/\off+n<=sz/\(ag=true\/n=1)/\ K (vR ag (((xZ.getD i []).drop off).take n))):=by
 cases xZ with
 | nil=>simp [zb,wW]
 | cons e l=>simp [zb,wW]
theorem Wr {σ:St} {n:Nat} {ag:Bool} {cs:List D} {K:D->Prop}:qk σ n ag (.ptr cs) K=(n<=cs.length/\(ag=true\/n=1)/\ K (vR ag (cs.take n))):=rfl
def oX (kk:IntKind) (l:List (Int × D)):List (List D):=l.map λp=>[.int kk p.1,p.2]
def qG (x:Int):List (Int × D)->Nat->Option (Nat × D)
 | [],_=>none
 | (m,d) :: r,i=>if x=m then some (i,d) else qG x r (i+1)
def ff (l:List (Int × D)) (x:Int) (d:D):List (Int × D):=
 match qG x l 0 with
 | some (i,_)=>l.set i (x,d)
 | none=>l ++ [(x,d)]
theorem tv (kk:IntKind) (l:List (Int × D)):lP kk (oX kk l):=by intro row h;simp only [oX,ε] at h;obtain⟨p,_,rfl⟩:=h;exact⟨_,_,rfl⟩
theorem eS (kk:IntKind) (x:Int):∀ (l:List (Int × D)) (i:Nat),qT x (oX kk l) i=qG x l i
 | [],_=>rfl
 | (m,d) :: r,i=>by show qT x ([.int kk m,d] :: oX kk r) i=_;rw [qT,qG,eS kk x r (i+1)]
theorem XI (kk:IntKind) (l:List (Int × D)) (x:Int) (d:D):aE kk (oX kk l) x d=oX kk (ff l x d):=by
 unfold aE ff;rw [eS]
 cases qG x l 0 with
 | none=>simp [oX]
 | some p=>simp [oX,List.map_set]
theorem cJ : ∀ {a b:List Int},a.map (D.int .i64)= b.map (D.int .i64)->a=b
 | [],[],_=>rfl
 | [],_ :: _,h=>by simp at h
 | _ :: _,[],h=>by simp at h
 | x :: a,y :: b,h=>by simp only [ζ,List.cons.injEq,D.int.injEq,true_and] at h;rw [h.1,cJ h.2]
theorem uq : ∀ {a b:List (List Int × D)},vZ a=vZ b->a=b
 | [],[],_=>rfl
 | [],_ :: _,h=>by simp [vZ] at h
 | _ :: _,[],h=>by simp [vZ] at h
 | (x,d) :: a,(y,e) :: b,h=>by simp only [vZ,ζ,List.cons.injEq,D.agg.injEq,and_true] at h;obtain⟨⟨h1,h2⟩,h3⟩:=h;rw [cJ h1,h2,uq (a:=a) (b:=b) h3]
theorem oE {nx:Nat} {xX:List (Nat × Ob)} {n:Nat} {zero:D} {ok:Bool} {key:Nat} {x:List Int} {l:List (List Int × D)} {cs:List D} {K:D->Prop} (hg:St.look xX key=some ⟨0,vZ l⟩) (hc:cs=x.map (D.int .i64)) (hx:x.length=n) (hl:∀ p ∈ l,p.1.length=n) :
  nU ⟨nx,xX⟩ n zero ok (.yV key) (.agg cs) K=K (qV ok zero (uJ x l 0)):=by
 subst hc;simp only [nU,St.get,hg];refine propext ⟨λh=>?_,λh=>⟨trivial,x,l,⟨rfl,rfl,hx,hl⟩,h⟩⟩;obtain⟨_,x',l',⟨h1,h2,_,_⟩,h3⟩:=h;rw [cJ h1,uq h2]; exact h3
theorem uc {nx:Nat} {xX:List (Nat × Ob)} {n:Nat} {key:Nat} {y:List Int} {l:List (List Int × D)} {cs:List D} {x:D} {K:D->St->Prop} (hg:St.look xX key=some ⟨0,vZ l⟩) (hc:cs=y.map (D.int .i64)) (hx:y.length=n) (hl:∀ p ∈ l,p.1.length=n) :
  oZ ⟨nx,xX⟩ n (.yV key) (.agg cs) x K=K .uO ⟨nx,wO xX key ⟨0,vZ (lN y x l)⟩⟩:=by
 subst hc;simp only [oZ,St.get,hg,St.set];refine propext ⟨λh=>?_,λh=>⟨trivial,y,l,⟨rfl,rfl,hx,hl⟩,h⟩⟩;obtain⟨_,x',l',⟨h1,h2,_,_⟩,h3⟩:=h;rw [cJ h1,uq h2]; exact h3
theorem kX {nx:Nat} {xX:List (Nat × Ob)} {n:Nat} {key:Nat} {y:List Int} {l:List (List Int × D)} {cs:List D} {x:D} {K:D->St->Prop} (hg:St.look xX key=some ⟨0,vZ l⟩) (hc:cs=y.map (D.int .i64)) (hx:y.length=n) (hl:∀ p ∈ l,p.1.length=n) (hno:uJ y l 0=none) :
  oZ ⟨nx,xX⟩ n (.yV key) (.agg cs) x K=K .uO ⟨nx,wO xX key ⟨0,vZ (l ++ [(y,x)])⟩⟩:=by
 rw [uc hg hc hx hl,show lN y x l=l ++ [(y,x)] by unfold lN; rw [hno]]
def qm (kk:IntKind) (x:Int) (zero:D) (ok:Bool) (K:D->Prop):Option Ob->Prop
 | some o=>o.sz=0/\lP kk o.xZ/\K (qV ok zero (qT x o.xZ 0))
 | none=>False
@[congr] theorem RC {kk : IntKind} {x : Int} {zero : D} {ok : Bool} {K : D -> Prop} {o o' : Option Ob} (h : o = o') : qm kk x zero ok K o = qm kk x zero ok K o' := by rw [h]
theorem XD {nx:Nat} {xX:List (Nat × Ob)} {zero:D} {ok:Bool} {key:Nat} {kk:IntKind} {x:Int} {K:D->Prop}:qn ⟨nx,xX⟩ zero ok (.yV key) (.int kk x) K=qm kk x zero ok K (St.look xX key):=by simp only [qn,St.get];cases St.look xX key <;> rfl
theorem XG {σ:St} {zero:D} {ok:Bool} {kk:IntKind} {x:Int} {K:D->Prop}:qn σ zero ok .sP (.int kk x) K=K (qV ok zero none):=rfl
theorem tz {kk:IntKind} {x:Int} {zero:D} {ok:Bool} {K:D->Prop} {l:List (Int × D)}:qm kk x zero ok K (some ⟨0,oX kk l⟩)= K (qV ok zero (qG x l 0)):=by simp only [qm,eS];exact propext ⟨λh=>h.2.2,λh=>⟨trivial,tv kk l,h⟩⟩
theorem Wt {kk:IntKind} {x:Int} {zero:D} {ok:Bool} {K:D->Prop}:qm kk x zero ok K (some ⟨0,[]⟩)= K (qV ok zero none):=tz (l:=[])
def qu (nx:Nat) (xX:List (Nat × Ob)) (key:Nat) (kk:IntKind) (y:Int) (x:D) (K:D->St->Prop):Option Ob->Prop
 | some o=>o.sz=0/\lP kk o.xZ/\K .uO ⟨nx,wO xX key ⟨0,aE kk o.xZ y x⟩⟩
 | none=>False
@[congr] theorem RE {nx : Nat} {xX : List (Nat × Ob)} {key : Nat} {kk : IntKind} {y : Int} {x : D} {K : D -> St -> Prop} {o o' : Option Ob} (h : o = o') : qu nx xX key kk y x K o = qu nx xX key kk y x K o' := by rw [h]
theorem XJ {nx:Nat} {xX:List (Nat × Ob)} {key:Nat} {kk:IntKind} {y:Int} {x:D} {K:D->St->Prop}:eu ⟨nx,xX⟩ (.yV key) (.int kk y) x K=qu nx xX key kk y x K (St.look xX key):=by simp only [eu,St.get];cases St.look xX key <;> rfl
theorem ub {nx:Nat} {xX:List (Nat × Ob)} {key:Nat} {kk:IntKind} {y:Int} {x:D} {K:D->St->Prop} {l:List (Int × D)}:qu nx xX key kk y x K (some ⟨0,oX kk l⟩)= K .uO ⟨nx,wO xX key ⟨0,oX kk (ff l y x)⟩⟩:=by simp only [qu,XI];exact propext ⟨λh=>h.2.2,λh=>⟨trivial,tv kk l,h⟩⟩
theorem Wu {nx:Nat} {xX:List (Nat × Ob)} {key:Nat} {kk:IntKind} {y:Int} {x:D} {K:D->St->Prop}:qu nx xX key kk y x K (some ⟨0,[]⟩)= K .uO ⟨nx,wO xX key ⟨0,oX kk [(y,x)]⟩⟩:=ub (l:=[])
theorem Wv (zero:D):qV true zero none = .yD [zero,.bool false]:=rfl
theorem Ww (zero:D) (i:Nat) (d:D):qV true zero (some (i,d))= .yD [d,.bool true]:=rfl
theorem XK (zero:D):qV false zero none=zero:=rfl
theorem XL (zero:D) (i:Nat) (d:D):qV false zero (some (i,d))= d:=rfl
theorem SB {sz:Nat} {xZ:List (List D)} {K:D->Prop}:sb (.sl sz xZ) K=K (.int .i64 xZ.length):=rfl
theorem Tt {k sz n:Nat} {K:D->Prop}:sb (.wZ k sz n) K=K (.int .i64 n):=rfl
theorem Tu {k sz lo n:Nat} {K:D->Prop}:sb (.sub k sz lo n) K=K (.int .i64 n):=rfl
theorem To {sz key sz' lo len:Nat} {k:IntKind} {n:Int} {K:D->Prop}:lp sz (.sub key sz' lo len) (.int k n) K=(sz=sz'/\0<=n/\n<len/\K (.ref key sz (lo+n.toNat) 0)):=rfl
theorem Wq {K:D->Prop}:sb .xI K=K (.int .i64 0):=rfl
theorem Ts {K:D->Prop}:sb .emp K=K (.int .i64 0):=rfl
theorem S6 {sz sz':Nat} {xZ:List (List D)} {k:IntKind} {n:Int} {K:D->Prop}:lp sz (.sl sz' xZ) (.int k n) K=(sz=sz'/\0<=n/\n<xZ.length/\K (.ptr (xZ.getD n.toNat []))):=rfl
theorem Tn {sz key sz' len:Nat} {k:IntKind} {n:Int} {K:D->Prop}:lp sz (.wZ key sz' len) (.int k n) K=(sz=sz'/\0<=n/\n<len/\K (.ref key sz n.toNat 0)):=rfl
theorem UB {neg:Bool} {K:D->Prop}:nV neg .xI .xI K=K (.bool (!neg)):=rfl
theorem UC {neg:Bool} {K:D->Prop} {a b c:Nat}:nV neg (.wZ a b c) .xI K=K (.bool neg):=rfl
theorem UD {neg:Bool} {K:D->Prop} {a b c:Nat}:nV neg .xI (.wZ a b c) K=K (.bool neg):=rfl
theorem UE {neg:Bool} {K:D->Prop}:nV neg .emp .xI K=K (.bool neg):=rfl
theorem UF {neg:Bool} {K:D->Prop}:nV neg .xI .emp K=K (.bool neg):=rfl
theorem UG {neg:Bool} {K:D->Prop} {sz:Nat} {e:List D} {r:List (List D)}:nV neg (.sl sz (e :: r)) .xI K=K (.bool neg):=rfl
def T5 (nx:Nat) (xX:List (Nat × Ob)) (sz sz' bytes key n:Nat) (rows:List (List D)) (K:D->St->Prop):Option Ob->Prop
 | some ob=>sz=sz'/\ob.sz=sz/\n<=ob.xZ.length/\(n+rows.length)* bytes<=140737488355328/\n+rows.length<=8000000000000/\K (.wZ nx sz (n+rows.length)) ⟨nx+1,(nx,⟨sz,ob.xZ.take n++rows⟩) :: yE xX key⟩
 | none=>False
@[congr] theorem Pi {nx : Nat} {xX : List (Nat × Ob)} {sz sz' bytes key n : Nat} {rows : List (List D)} {K : D -> St -> Prop} {o o' : Option Ob} (h : o = o') : T5 nx xX sz sz' bytes key n rows K o = T5 nx xX sz sz' bytes key n rows K o' := by rw [h]
theorem WJ {q:Bool} {nx:Nat} {xX:List (Nat × Ob)} {sz sz' bytes key n:Nat} {rows:List (List D)} {K:D->St->Prop} :
  bW q ⟨nx,xX⟩ sz bytes (.wZ key sz' n) (some rows) K=((∀ x ∈ rows,zN x=true)/\ T5 nx xX sz sz' bytes key n rows K (St.look xX key)):=by
 rw [TV];simp only [St.get];cases St.look xX key <;> rfl
theorem WH {nx:Nat} {xX:List (Nat × Ob)} {sz sz' bytes key n:Nat} {rows:List (List D)} {K:D->St->Prop} {sz0:Nat} {xZ:List (List D)} :
  T5 nx xX sz sz' bytes key n rows K (some ⟨sz0,xZ⟩)= (sz=sz'/\sz0=sz/\n<=xZ.length/\(n+rows.length)* bytes<=140737488355328/\n+rows.length<=8000000000000/\K (.wZ nx sz (n+rows.length)) ⟨nx+1,(nx,⟨sz,xZ.take n++rows⟩) :: yE xX key⟩):=rfl
def YR (q:Bool) (nx:Nat) (xX:List (Nat × Ob)) (sz sz' bytes key lo n:Nat) (rows:List (List D)) (K:D->St->Prop):Option Ob->Prop
 | some ob=>q=true/\sz=sz'/\ob.sz=sz/\lo+n<=ob.xZ.length/\(n+rows.length)* bytes<=140737488355328/\n+rows.length<=8000000000000 /\
  ∀ pre:List (List D),(pre = []\/pre=ob.xZ.take lo)->K (.sub nx sz pre.length (n+rows.length)) ⟨nx+1,(nx,⟨sz,pre++((ob.xZ.drop lo).take n++rows)⟩) :: yE xX key⟩
 | none=>False
@[congr] theorem R5 {q : Bool} {nx : Nat} {xX : List (Nat × Ob)} {sz sz' bytes key lo n : Nat} {rows : List (List D)} {K : D -> St -> Prop} {o o' : Option Ob} (h : o = o') : YR q nx xX sz sz' bytes key lo n rows K o = YR q nx xX sz sz' bytes key lo n rows K o' := by rw [h]
theorem WK {q:Bool} {nx:Nat} {xX:List (Nat × Ob)} {sz sz' bytes key lo n:Nat} {rows:List (List D)} {K:D->St->Prop} :
  bW q ⟨nx,xX⟩ sz bytes (.sub key sz' lo n) (some rows) K=((∀ x ∈ rows,zN x=true)/\ YR q nx xX sz sz' bytes key lo n rows K (St.look xX key)):=by
 simp only [bW,St.get];cases St.look xX key <;> rfl
theorem Yg {q:Bool} {nx:Nat} {xX:List (Nat × Ob)} {sz sz' bytes key lo n:Nat} {rows:List (List D)} {K:D->St->Prop} {sz0:Nat} {xZ:List (List D)} :
  YR q nx xX sz sz' bytes key lo n rows K (some ⟨sz0,xZ⟩)= (q=true/\sz=sz'/\sz0=sz/\lo+n<=xZ.length/\(n+rows.length)* bytes<=140737488355328/\n+rows.length<=8000000000000 /\
   ∀ pre:List (List D),(pre = []\/pre=xZ.take lo)->K (.sub nx sz pre.length (n+rows.length)) ⟨nx+1,(nx,⟨sz,pre++((xZ.drop lo).take n++rows)⟩) :: yE xX key⟩):=rfl
theorem Wp {key sz:Nat} {xZ:List (List D)} {K:D->Prop}:sb (xJ key sz xZ) K=K (.int .i64 xZ.length):=by cases xZ <;> simp [sb,xJ]
theorem Wg {key sz sz':Nat} {xZ:List (List D)} {k:IntKind} {n:Int} {K:D->Prop}:lp sz' (xJ key sz xZ) (.int k n) K=(sz'=sz/\0<=n/\n<xZ.length/\K (.ref key sz n.toNat 0)):=by
 cases xZ with
 | nil=>simp only [lp,xJ,κ]; simp; intro _ h1 h2; omega
 | cons e l=>simp [lp,xJ]; rintro rfl _ _; rfl
theorem s7 {key sz:Nat} {neg:Bool} {xZ:List (List D)} {K:D->Prop}:nV neg (xJ key sz xZ) .xI K=K (.bool (if neg then !xZ.isEmpty else xZ.isEmpty)):=by cases xZ <;> cases neg <;> simp [nV,xJ]
def sw : List (Nat × Nat)->Nat->Nat
 | [],k=>k
 | (a,b) :: r,k=>if k=a then b else sw r k
def rP (xZ:List (List D)):Prop:=∀ e ∈ xZ,D.xT e=true
theorem bt (l:List (BitVec 64)):rP (us l)= True:=eq_true (Sk l)
theorem UU (l:List (List (BitVec 64))):rP (rr l)= True:=eq_true (YG l)
theorem XM (k:IntKind) (l:List Int):rP (rows k l)= True:=eq_true (sX k l)
theorem Z7 : rP []=True:=by simp [rP]
theorem gj (a b:List (List D)):rP (a++b)= (rP a/\rP b):=by simp only [rP,List.mem_append];exact propext ⟨λh=>⟨λe he=>h e (.inl he),λe he=>h e (.inr he)⟩,λh e he=>he.elim (h.1 e) (h.2 e)⟩
theorem Z8 (l:List (BitVec 64)) (i:Nat) (s:BitVec 64):rP ((us l).set i [.int .u64 (ui s)])= True:=by rw [Qe,bt]
theorem Sp {σ σ':St} {ρ:Nat->Nat} {a b sz:Nat} {xZ:List (List D)}:vw σ σ' ρ (xJ a sz xZ) (xJ b sz xZ)= (xZ = []\/(b<σ'.nx/\a=ρ b)):=by
 cases xZ with
 | nil=>simp [xJ,vw]
 | cons e l=>simp [xJ,vw]
def PA (σ':St) (ρ:Nat->Nat) (k0:Nat):Prop:=∀ p ∈ σ'.xX,ρ p.1≠k0
theorem Xh {σ σ':St} {ρ:Nat->Nat} {k0 sz:Nat} {xZ:List (List D)} (hs:0<sz) (h:PA σ' ρ k0) (hg:σ.get k0=wW sz xZ) (hp:rP xZ):vw σ σ' ρ (xJ k0 sz xZ) (.sl sz xZ)= True:=by
 cases xZ with
 | nil=>simp [xJ,vw]
 | cons e l=> refine eq_true ?_;simp only [xJ,vw];exact⟨trivial,hs,h,⟨sz,e :: l⟩,hg,rfl,Aj _,by simp,hp⟩
def RY (σ σ':St) (ρ:Nat->Nat) (as bs:List (List D)):Prop:=WC σ σ' ρ as bs
theorem Ur {σ σ':St} {ρ:Nat->Nat} {xZ:List (List D)} (h:rP xZ):RY σ σ' ρ xZ xZ=True:=eq_true (.same h)
end
section
variable [vA]
theorem vv {σ σ':St} {ρ:Nat->Nat}:∀ {a:List D},D.xT a=true->sV σ σ' ρ a a:=by
 intro a h
 have key:∀ d:D,d.xO=true->vw σ σ' ρ d d:=by
  intro d
  refine D.rec (motive_1:=λd=>d.xO=true->vw σ σ' ρ d d) (motive_2:=λ_=>True) (motive_3:=λcs=>D.xT cs=true->sV σ σ' ρ cs cs)
   ?top ?uO ?int ?bool ?str ?sl ?xI ?emp ?agg ?yD ?fn ?ref ?wZ ?sub ?ptr ?yV ?pA ?sP ?pN ?zo trivial (λ_ _ _ _=>trivial) ?nil ?cons d
  case agg=>intro cs ih h; simp only [D.xO] at h; simp only [vw]; exact⟨trivial,ih h⟩
  case yD=>intro cs ih h; simp only [D.xO] at h; simp only [vw]; exact⟨trivial,ih h⟩
  case fn=>intro f cs ih h; simp only [D.xO] at h; simp only [vw]; exact⟨trivial,trivial,ih h⟩
  case ref=>intro k sz i off h; simp [D.xO] at h
  case wZ=>intro k sz n h; simp [D.xO] at h
  case sub=>intro k sz lo n h; simp [D.xO] at h
  case yV=>intro k h; simp [D.xO] at h
  case nil=>intro _; simp [sV]
  case cons=> intro d r h1 h2 h;simp only [D.xT,Ah] at h;simp only [sV];exact⟨h1 h.1,h2 h.2⟩
  case ptr=>intro cs _ _; simp [vw]
  all_goals intros; simp [vw]
 induction a with
 | nil=>simp [sV]
 | cons d r ih=> simp only [D.xT,Ah] at h;simp only [sV];exact⟨key d h.1,ih h.2⟩
theorem de {σ σ':St} {ρ:Nat->Nat}:∀ {xZ:List (List D)} {a b:List D},rP xZ->a.length=b.length->sV σ σ' ρ a b->WC σ σ' ρ (xZ ++ [a]) (xZ ++ [b])
 | [],a,b,_,hl,h=>.cons hl h .nil
 | e :: r,a,b,hp,hl,h=>.cons rfl (vv (hp e (by simp))) (de (λx hx=>hp x (by simp [hx])) hl h)
theorem Qf {σ σ':St} {ρ:Nat->Nat} {xZ:List (List D)} {a b:List D} (h:RY σ σ' ρ (xZ ++ [a]) (xZ ++ [b])):a.length=b.length/\sV σ σ' ρ a b:=by
 have:=(ye (show WC σ σ' ρ (xZ ++ [a]) (xZ ++ [b]) from h)).2 xZ.length (by simp);have e1:∀ x:List D,(xZ ++ [x]).getD xZ.length []=x:=by intro x; simp [List.getD]
 rw [e1,e1] at this;refine⟨this.1,?_⟩
 rcases this.2 with h | ⟨h1,h2⟩
 ·exact h
 ·rw [h1]; exact vv h2
theorem vz {σ σ':St} {ρ:Nat->Nat} {xZ:List (List D)} {a b:List D} (hp:rP xZ):RY σ σ' ρ (xZ ++ [a]) (xZ ++ [b])= (a.length=b.length/\sV σ σ' ρ a b):= propext ⟨λh=>Qf h,λh=>de hp h.1 h.2⟩
theorem So {σ σ':St} {ρ:Nat->Nat} {a b:List D}:RY σ σ' ρ [a] [b]=(a.length=b.length/\sV σ σ' ρ a b):=vz (xZ:=[]) (by simp [rP])
theorem Qg {σ σ':St} {ρ:Nat->Nat} {l:List (List (BitVec 64))} {r:List (BitVec 64)} {x:D}:RY σ σ' ρ (rr l ++ [[x]]) (rr (l ++ [r]))= sV σ σ' ρ [x] [.sl 1 (us r)]:=by rw [<- jj,vz (YG l)];simp
def lS (σ σ':St) (ρ:Nat->Nat) (p:Nat × Ob):Prop:=p.1<σ'.nx/\∃ ob,σ.get (ρ p.1)= some ob/\ob.sz=p.2.sz/\RY σ σ' ρ ob.xZ p.2.xZ
def oU (σ σ':St) (ρ:Nat->Nat) (l:List (Nat × Ob)):Prop:=∀ p ∈ l,lS σ σ' ρ p
theorem bF {σ σ':St} {ρ:Nat->Nat}:oU σ σ' ρ []=True:=by simp [oU]
theorem eU {σ σ':St} {ρ:Nat->Nat} {p:Nat × Ob} {l:List (Nat × Ob)}:oU σ σ' ρ (p :: l)= (lS σ σ' ρ p/\oU σ σ' ρ l):=by simp [oU]
theorem ug {σ σ':St} {ρ:Nat->Nat} {k sz:Nat} {xZ:List (List D)} {l:List (Nat × Ob)} (hk:k<σ'.nx) (hg:σ.get (ρ k)= wW sz xZ) (hp:rP xZ):oU σ σ' ρ (yX k sz xZ++l)= oU σ σ' ρ l:=by
 cases xZ with
 | nil=>rfl
 | cons e r=> simp only [yX,ξ,η,eU];refine propext ⟨λh=>h.2,λh=>⟨⟨hk,⟨sz,e :: r⟩,hg,rfl,.same hp⟩,h⟩⟩
theorem u7 {σ σ':St} {ρ:Nat->Nat} {k sz:Nat} {xZ:List (List D)} (hk:k<σ'.nx) (hg:σ.get (ρ k)= wW sz xZ) (hp:rP xZ):oU σ σ' ρ (yX k sz xZ)= True:=by have:=ug (l:=[]) hk hg hp;rw [δ,bF] at this;exact this
theorem Tm {sz:Nat} {xZ:List (List D)} (h:xZ ≠ []):wW sz xZ=some ⟨sz,xZ⟩:=by
 cases xZ with
 | nil=>exact absurd rfl h
 | cons e r=>rfl
theorem xm {σ σ':St} {ρ:Nat->Nat} {k sz:Nat} {xZ els':List (List D)} {l:List (Nat × Ob)} (hk:k<σ'.nx) (hg:σ.get (ρ k)= wW sz els') (hq:RY σ σ' ρ els' xZ):oU σ σ' ρ (yX k sz xZ++l)= oU σ σ' ρ l:=by
 cases xZ with
 | nil=>rfl
 | cons e r=>
  have zL:els' ≠ []:=by rintro rfl;have:=(ye (show WC σ σ' ρ [] (e :: r) from hq)).1;simp at this
  simp only [yX,ξ,η,eU];refine propext ⟨λh=>h.2,λh=>⟨⟨hk,⟨sz,els'⟩,?_,rfl,hq⟩,h⟩⟩;rw [hg,Tm zL]
theorem gv {σ σ':St} {ρ:Nat->Nat} {k sz:Nat} {xZ els':List (List D)} (hk:k<σ'.nx) (hg:σ.get (ρ k)= wW sz els') (hq:RY σ σ' ρ els' xZ):oU σ σ' ρ (yX k sz xZ)= True:=by have:=xm (l:=[]) hk hg hq;rw [δ,bF] at this;exact this
def Zd (ks:List Nat) (l:List (Nat × Ob)):Prop:=∀ p ∈ l,p.1 ∈ ks
theorem Zx {ks:List Nat}:Zd ks []=True:=by simp [Zd]
theorem ar {ks:List Nat} {p:Nat × Ob} {l:List (Nat × Ob)}:Zd ks (p :: l)= (p.1 ∈ ks/\Zd ks l):=by simp [Zd]
theorem au {ks:List Nat} {k sz:Nat} {xZ:List (List D)} {l:List (Nat × Ob)} (h:k ∈ ks):Zd ks (yX k sz xZ++l)= Zd ks l:=by
 cases xZ with
 | nil=>rfl
 | cons e r=>simp [yX,ar,h]
theorem Wh {ks:List Nat} {k sz:Nat} {xZ:List (List D)} (h:k ∈ ks):Zd ks (yX k sz xZ)= True:=by have:=au (sz:=sz) (xZ:=xZ) (l:=[]) h;rw [δ,Zx] at this;exact this
def dR (ρ:Nat->Nat) (k0:Nat) (l:List (Nat × Ob)):Prop:=∀ p ∈ l,ρ p.1≠k0
theorem Rj {σ':St} {ρ:Nat->Nat} {k0:Nat}:PA σ' ρ k0=dR ρ k0 σ'.xX:=propext Iff.rfl
theorem mq {ρ:Nat->Nat} {k0:Nat}:dR ρ k0 []=True:=by simp [dR]
theorem ss {ρ:Nat->Nat} {k0:Nat} {p:Nat × Ob} {l:List (Nat × Ob)}:dR ρ k0 (p :: l)= (ρ p.1≠k0/\dR ρ k0 l):=by simp [dR]
theorem su {ρ:Nat->Nat} {k0 k sz:Nat} {xZ:List (List D)} {l:List (Nat × Ob)}:dR ρ k0 (yX k sz xZ++l)= ((xZ = []\/ρ k≠k0)/\ dR ρ k0 l):=by
 cases xZ with
 | nil=>simp [yX]
 | cons e r=>simp [yX,ss]
theorem o5 {ρ:Nat->Nat} {k0 k sz:Nat} {xZ:List (List D)}:dR ρ k0 (yX k sz xZ)= (xZ = []\/ρ k≠k0):=by have:=su (ρ:=ρ) (k0:=k0) (k:=k) (sz:=sz) (xZ:=xZ) (l:=[]);rw [δ,mq,and_true] at this;exact this
theorem yJ.OE {C:Cx} {f f':Fr} {σ σ':St} (l:List (Nat × Nat)) (ks:List Nat) (hn:C.n0<=σ'.nx) (h0:∀ p ∈ l,C.n0<=p.1) (hd:(ks.map (sw l)).Nodup)
  (h:Zd ks σ'.xX/\oU σ σ' (sw l) σ'.xX/\aK σ σ' (sw l) f f'):yJ C f σ f' σ':=by
 obtain⟨hk,hs,hf⟩:=h
 refine yJ.view (sw l) hn ?_ hf ?_ ?_
 ·intro k hk
  induction l with
  | nil=>rfl
  | cons p l ih=>
   obtain⟨a,b⟩:=p;have:C.n0<=a:=h0 (a,b) (by simp);simp only [sw];rw [if_neg (by omega)];have hm:∀ p ∈ l,C.n0<=p.1:=λp hp=>h0 p (by simp [hp]);clear ih hd hs hf h0
   induction l with
   | nil=>rfl
   | cons q l ih=> obtain⟨c,d⟩:=q;have:C.n0<=c:=hm (c,d) (by simp);simp only [sw];rw [if_neg (by omega)];exact ih λp hp=>hm p (by simp [hp])
 ·intro p hp;obtain⟨h1,ob,h2,h3,h4⟩:=hs p hp;exact⟨h1,ob,h2,h3,h4⟩
 ·intro p hp q hq e;have h1:=hk p hp;have h2:=hk q hq
  have inj:∀ (ks:List Nat),(ks.map (sw l)).Nodup->∀ a ∈ ks,∀ b ∈ ks,sw l a=sw l b->a=b:=by
   intro ks
   induction ks with
   | nil=>intro _ a ha; simp at ha
   | cons x ks ih=>
    intro hd a ha b hb e;simp only [ζ,List.nodup_cons,ε,not_exists,not_and] at hd
    rcases υ.1 ha with h1 | h1 <;> rcases υ.1 hb with h2 | h2
    ·rw [h1,h2]
    ·rw [h1] at e; exact absurd e.symm (hd.1 b h2)
    ·rw [h2] at e; exact absurd e (hd.1 a h1)
    ·exact ih hd.2 a h1 b h2 e
  exact inj ks hd _ h1 _ h2 e
def YX (C:Cx) (Q:Exit->Fr->St->Prop) (e:Exit) (f:Fr) (σ:St):Prop:=∃ f' σ',yJ C f σ f' σ'/\Q e f' σ'
theorem YX.go {C:Cx} {Q:Exit->Fr->St->Prop} {e:Exit} {f:Fr} {σ:St} (f':Fr) (σ':St) (hw:yJ C f σ f' σ') (h:Q e f' σ'):YX C Q e f σ:=⟨f',σ',hw,h⟩
theorem ZR {C:Cx} {dc:DC} {f:Fr} {σ:St} {Q:Exit->Fr->St->Prop} (h:wpS C dc f σ (YX C Q)):wpS C dc f σ Q:=by intro code hc E a w G;refine wpIn_mono (h code hc E a w G) λe a' w' hh=>?_;obtain⟨f1,σ1,G1,f2,σ2,hw,hq⟩:=hh;exact⟨f2,σ2,hw E a' w' G1,hq⟩
theorem qf {C:Cx} {dc:DC} {f:Fr} {σ:St} {Q:Exit->Fr->St->Prop} {α:Type} (g:α->Fr) (s:α->St) (I:α->Prop) (m:α->Nat) (a0:α) (h0:I a0) (hw:yJ C f σ (g a0) (s a0))
  (round:∀ a,I a->wpS C dc (g a) (s a) (jA (λf' σ'=>∃ a',I a'/\yJ C f' σ' (g a') (s a')/\ m a'<m a) (YX C Q))):wpS C (.loop dc) f σ Q:=
 ZR (yM g s I m a0 h0 hw round)
end
theorem RI : ((0:Nat):Int)= 0:=rfl
theorem vX {k:Nat} (h:k<9223372036854775807):IntKind.i64.wrap ((k:Int)+ 1)= ((k+1:Nat):Int):=by rw [wrap_i64 (by omega)]; omega
section
variable [vA]
theorem Oa (f:Fr) (n:Nat):wP f (.t n)= Fr.get f n:=rfl
theorem OX (f:Fr) (d:D):wP f (.c d)= d:=rfl
theorem UW (f:Fr) (t:Nat) (d:D):Fr.put f (some t) d=(t,d) :: f:=rfl
theorem UV (f:Fr) (d:D):Fr.put f none d=f:=rfl
theorem get_nil (n:Nat):Fr.get [] n = .top:=rfl
theorem Tk (t:Nat) (d:D) (r:Fr) (n:Nat):Fr.get ((t,d) :: r) n=if t=n then d else Fr.get r n:=rfl
theorem look_nil (k:Nat):St.look [] k=none:=rfl
theorem xY (j:Nat) (o:Ob) (r:List (Nat × Ob)) (k:Nat):St.look ((j,o) :: r) k=if j=k then some o else St.look r k:=rfl
theorem Uh (k:Nat) (o:Ob):wO [] k o = []:=rfl
theorem qD (j:Nat) (o:Ob) (r:List (Nat × Ob)) (k:Nat) (o':Ob):wO ((j,o) :: r) k o'=if j=k then(j,o') :: r else(j,o) :: wO r k o':=rfl
theorem Yt (k:Nat):yE [] k = []:=rfl
theorem p8 (j:Nat) (o:Ob) (r:List (Nat × Ob)) (k:Nat):yE ((j,o) :: r) k=if j=k then yE r k else(j,o) :: yE r k:=rfl
theorem Q4 (n:Nat) (l:List (Nat × Ob)) (k:Nat):St.get ⟨n,l⟩ k=St.look l k:=rfl
theorem set_mk (n:Nat) (l:List (Nat × Ob)) (k:Nat) (o:Ob):St.set ⟨n,l⟩ k o=⟨n,wO l k o⟩:=rfl
theorem QF (n:Nat) (l:List (Nat × Ob)) (o:Ob):St.new ⟨n,l⟩ o=⟨n+1,(n,o) :: l⟩:=rfl
theorem Tg (n:Nat) (l:List (Nat × Ob)) (k:Nat):St.erase ⟨n,l⟩ k=⟨n,yE l k⟩:=rfl
theorem Z9 (σ:St) (sz sz':Nat) (xZ:List (List D)):rowsOf σ sz (.sl sz' xZ)= if sz=sz' then some xZ else none:=rfl
theorem u0 (σ:St) (sz:Nat):rowsOf σ sz .xI=some []:=rfl
theorem XW (σ:St) (sz:Nat):rowsOf σ sz .emp=some []:=rfl
def zD :=γ @V5 (γ @Ss (γ @V3 (γ @Sv (γ @Uy (γ @ZS (γ @V0 (γ @V4 (γ @Ux (γ @Su (γ @ZT (γ @UT (γ @Z6 (γ @UR (γ @Z1 (γ @S4 @S5)))))))))))))))
def zT :=γ @Oa (γ @OX (γ @UW (γ @UV (γ @get_nil (γ @Tk (γ @look_nil (γ @xY (γ @Uh (γ @qD (γ @Yt (γ @p8 (γ @Q4 (γ @set_mk (γ @QF (γ @Tg (γ @Z9 (γ @u0 (γ @XW (γ @Int.cast_ofNat_Int (γ @RI (γ @Int.toNat_zero (γ @Int.toNat_one (γ @beq_self_eq_true.{0} (γ @bne_self_eq_false.{0} (γ @Bool.false_eq_true (γ @Tf (γ @Tj (γ @S0 (γ @TY (γ @Yh (γ @TU (γ @WJ (γ @WH (γ @WK (γ @Yg (γ @Um (γ @ZG (γ @ZF (γ @Wp (γ @SB (γ @Tt (γ @Tu (γ @Wq (γ @Ts (γ @Wg (γ @S6 (γ @Tn (γ @To (γ @s7 (γ @UB (γ @UC (γ @UD (γ @UE (γ @UF (γ @UG (γ @Ws (γ @XB (γ @X0 (γ @Wr (γ @UA (γ @U9 (γ @SJ (γ @XD (γ @XG (γ @tz (γ @Wt (γ @XJ (γ @ub (γ @Wu (γ @Wv (γ @Ww (γ @XK (γ @XL (γ @xG (γ @xf (γ @xa (γ @gf (γ @pv (γ @XX (γ @gq (γ @Option.or_none.{0} (γ @List.length_set.{0} (γ @o9 (γ @Wx (γ @Nat.lt_irrefl (γ @wS (γ @Qc (γ @Sl (γ @true_and (γ @and_true (γ @μ.{0} (γ @List.getD_cons_succ.{0} (γ @ω.{0} (γ @κ.{0} (γ @Bool.not_true (γ @Bool.not_false (γ @ζ.{0,0} (γ @List.map_nil.{0,0} (γ @η.{0} (γ @ξ.{0} (γ @δ.{0} (γ @Z5 (γ @Z4 (γ @List.take_succ_cons.{0} (γ @List.take_zero.{0} (γ @List.drop_succ_cons.{0} (γ @List.drop_zero.{0} (γ @false_implies (γ @or_true (γ @true_or (γ @Aj (γ @Int.toNat_natCast (γ @and_self (γ @M9 (γ @MA (γ @MB (γ @MD (γ @QS (γ @Ot (γ @Qa (γ @ZK (γ @QR (γ @QX (γ @QV (γ @QZ (γ @QY (γ @QW (γ @Xt (γ @QT (γ @QP (γ @not_false_eq_true (γ @WQ (γ @WU (γ @WO (γ @Yl (γ @WT (γ @Ta (γ @Yq (γ @WN (γ @WM (γ @TX (γ @WS (γ @WR (γ @Ym (γ @Yp (γ @Yo (γ @Yn (γ @SO (γ @UL (γ @SS (γ @QJ (γ @UQ (γ @SN (γ @QI (γ @SR (γ @SP (γ @SQ (γ @UM (γ @UP (γ @UO (γ @UN (γ @ν.{0} (γ @List.all_nil.{0} (γ @Bool.and_true (γ @Bool.and_self (γ @List.set_cons_zero.{0} (γ @List.set_cons_succ.{0} (γ @Am (γ @Nat.add_zero (γ @Nat.zero_lt_succ (γ @Nat.lt_add_one (γ @decide_true (γ @decide_false (γ @gt_iff_lt.{0} (γ @ge_iff_le.{0} (γ @QL (γ @Sf (γ @Bool.true_and (γ @decide_eq_true_eq (γ @decide_eq_false_iff_not (γ @nu (γ @Yv (γ @nw (γ @Yw (γ @aX (γ @po (γ @YM (γ @jj (γ @bz (γ @pk (γ @VR (γ @YL (γ @θ.{0} (γ @List.cons_ne_nil.{0} (γ @List.take_length.{0} (γ @Option.map_some.{0,0} (γ @Option.map_none.{0,0} (γ @ψ.{0} (γ @VP @YF)))))))))))))))))))))))))))))))))))))))))))))))))))))))))))))))))))))))))))))))))))))))))))))))))))))))))))))))))))))))))))))))))))))))))))))))))))))))))))))))))))))))))))))))))))))))))))))))))))))))
def zR :=γ @RI (γ @au (γ @Wh (γ @ar (γ @Zx (γ @ug (γ @u7 (γ @xm (γ @gv (γ @eU (γ @bF (γ @Qg (γ @vz (γ @Ur (γ @So (γ @Sp (γ @Xh (γ @Rj (γ @su (γ @o5 (γ @ss (γ @mq (γ @bt (γ @UU (γ @XM (γ @Z7 (γ @gj (γ @Z8 (γ @xG (γ @xf (γ @Option.or_none.{0} (γ @Nat.zero_lt_succ (γ @Nat.lt_add_one (γ @Option.some.injEq.{0} (γ @and_true (γ @true_and (γ @and_self (γ @or_true (γ @true_or (γ @not_false_eq_true (γ @υ.{0} (γ @θ.{0} (γ @List.not_mem_nil.{0} (γ @D.int.injEq (γ @D.bool.injEq (γ @D.sl.injEq (γ @D.ref.injEq (γ @ω.{0} (γ @κ.{0} (γ @YM (γ @po (γ @jj (γ @Am (γ @YL (γ @VR (γ @VP (γ @YF (γ @bz @pk)))))))))))))))))))))))))))))))))))))))))))))))))))))))))
end
end Go.Pd
namespace Go.Pd
open Go Go.ChangeShapes Go.WideShapes Go.RowKit
def wh : List (Nat × Nat)->Nat->Nat->Bool
 | [],o,n=>o==n
 | (a,s) :: r,o,n=>(a==o)&& wh r (o+s) n
def rH (P:Program):Nat->TypeId->Bool
 | 0,_=>false
 | n+1,t=>match P.underlying t with
  | some .bool=>true
  | some (.int _)=>true
  | some .string=>true
  | some (.slice e)=>rH P n e&&decide (0<P.cellsOf e)
  | some (.struct fs)=>(fs.toList.all λf=>rH P n f.type)&& wh (fs.toList.map λf=>(f.offset,P.cellsOf f.type)) 0 (P.cellsOf t)
  | some (.array k e)=>rH P n e&&(P.cellsOf t==k*P.cellsOf e)
  | _=>false
mutual
def rU (P:Program):Nat->TypeId->List D->Prop
 | 0,_,_=>False
 | n+1,t,ds=>match P.underlying t with
  | some .bool=>∃ b,ds = [.bool b]
  | some (.int k)=>∃ i,ds = [.int k i]
  | some .string=>∃ s,ds = [.str s]
  | some (.slice e)=>∃ xZ,ds = [.sl (P.cellsOf e) xZ]/\∀ row ∈ xZ,rU P n e row
  | some (.struct fs)=>mE P n (fs.toList.map λf=>f.type) ds
  | some (.array k e)=>mE P n (List.replicate k e) ds
  | _=>False
def mE (P:Program):Nat->List TypeId->List D->Prop
 | _,[],ds=>ds = []
 | n,f :: fs,ds=>∃ a b,ds=a++b/\rU P n f a/\mE P n fs b
end
def wv (P:Program) (n:Nat) (t:TypeId) (d:D):Prop:=
 match P.underlying t with
 | some (.struct _)=>∃ ds,d = .agg ds/\rU P n t ds
 | some (.array _ _)=>∃ ds,d = .agg ds/\rU P n t ds
 | _=>rU P n t [d]
def jk (P:Program) (n:Nat):List TypeId->List D->Prop
 | [],as=>as = []
 | t :: ts,as=>∃ a r,as=a :: r/\wv P n t a/\jk P n ts r
def zk (w:World) (cs:List Value) (ds:List D):Prop:=ds.length=cs.length/\∀ j,j<ds.length->RP (λ_=>False) w (cs.getD j undef) (ds.getD j .top)
theorem xj {w:World} {a b:List Value} {x y:List D} (h:zk w a x) (h':zk w b y):zk w (a++b) (x++y):=by
 refine⟨by simp [h.1,h'.1],λj hj=>?_⟩;simp only [List.getD]
 by_cases hx:j<x.length
 ·rw [π hx,π (by rw [<- h.1]; exact hx)];exact h.2 j hx
 ·have h1:=h.1;rw [ο (by omega),ο (by omega),<- h.1];rw [ψ] at hj;exact h'.2 (j-x.length) (by omega)
section
variable {H : Type} {enc : TypeId × Value -> H} {P : Program} {w : World} {sp : Nat -> Bool} {held : Bool}
theorem nm {n:Nat} (key:∀ (t:TypeId) (cs:List Value) (fuel:Nat) (x:DataW H × List MemPlace),rH P n t=true->DataW.trod enc P w 0 sp held fuel t cs=some x->∃ ds,zk w cs ds/\rU P n t ds) {cs:List Value} {fuel:Nat} :
  ∀ (fl:List Field) (o:Nat),(fl.all λf=>rH P n f.type)= true->wh (fl.map λf=>(f.offset,P.cellsOf f.type)) o cs.length=true ->
   (∀ f ∈ fl,∃ x,DataW.trod enc P w 0 sp held fuel f.type ((cs.drop f.offset).take (P.cellsOf f.type))= some x)->∃ ds,zk w (cs.drop o) ds/\mE P n (fl.map λf=>f.type) ds
 | [],o,_,hc,_=>by simp only [List.map_nil,wh,beq_iff_eq] at hc;subst hc;exact⟨[],by simp [zk],by simp [mE]⟩
 | f :: fl,o,hp,hc,hx=>by
  simp only [ν,Ah] at hp;simp only [ζ,wh,Ah,beq_iff_eq] at hc;obtain⟨x,h1⟩:=hx f (by simp);obtain⟨a,ha,hsa⟩:=key _ _ _ _ hp.1 h1;obtain⟨b,hb,hsb⟩:=nm key fl (o+P.cellsOf f.type) hp.2 hc.2 λg hg=>hx g (by simp [hg]);refine⟨a++b,?_,by simp only [ζ,mE]; exact⟨a,b,rfl,hsa,hsb⟩⟩;rw [hc.1] at ha
  have e:cs.drop o=(cs.drop o).take (P.cellsOf f.type)++ cs.drop (o+P.cellsOf f.type):=by rw [<- List.drop_drop,χ]
  rw [e];exact xj ha hb
theorem V8 {n:Nat} (key:∀ (t:TypeId) (cs:List Value) (fuel:Nat) (x:DataW H × List MemPlace),rH P n t=true->DataW.trod enc P w 0 sp held fuel t cs=some x->∃ ds,zk w cs ds/\rU P n t ds) {cs:List Value} {fuel:Nat} {e:TypeId} (hp:rH P n e=true) :
  ∀ (k o:Nat),cs.length=(o+k)* P.cellsOf e ->
   (∀ i,o<=i->i<o+k->∃ x,DataW.trod enc P w 0 sp held fuel e ((cs.drop (i*P.cellsOf e)).take (P.cellsOf e))= some x)->∃ ds,zk w (cs.drop (o*P.cellsOf e)) ds/\mE P n (List.replicate k e) ds
 | 0,o,hl,_=>⟨[],by rw [List.drop_eq_nil_of_le (by rw [hl]; simp)]; simp [zk],by simp [mE]⟩
 | k+1,o,hl,hx=>by
  obtain⟨x,h1⟩:=hx o (Aj _) (by omega);obtain⟨a,ha,hsa⟩:=key _ _ _ _ hp h1;obtain⟨b,hb,hsb⟩:=V8 key hp k (o+1) (by rw [hl]; congr 1; omega) λi h1 h2=>hx i (by omega) (by omega);refine⟨a++b,?_,by simp only [List.replicate_succ,mE]; exact⟨a,b,rfl,hsa,hsb⟩⟩
  have e1:cs.drop (o*P.cellsOf e)= (cs.drop (o*P.cellsOf e)).take (P.cellsOf e)++ cs.drop ((o+1)* P.cellsOf e):=by rw [Nat.succ_mul,<- List.drop_drop,χ]
  rw [e1];exact xj ha hb
theorem zw : ∀ (n:Nat) (t:TypeId) (cs:List Value) (fuel:Nat) (x:DataW H × List MemPlace),rH P n t=true->DataW.trod enc P w 0 sp held fuel t cs=some x->∃ ds,zk w cs ds/\rU P n t ds
 | 0,t,cs,fuel,x,hp,_=>by simp [rH] at hp
 | n + 1,t,cs,fuel,x,hp,h=>by
  unfold rH at hp;unfold rU
  split at hp
  ·rename_i hu;obtain⟨b,rfl,_⟩:=DataW.trod_bool hu h;exact⟨[.bool b],⟨rfl,λj hj=>by simp at hj; subst hj; exact .bool b⟩,⟨b,rfl⟩⟩
  ·rename_i k hu;obtain⟨i,rfl,_,hw⟩:=DataW.trod_int hu h;refine⟨[.int k i],⟨rfl,λj hj=>?_⟩,⟨i,rfl⟩⟩;simp at hj; subst hj;simp only [Lit.wf,Ah,decide_eq_true_eq] at hw;exact .int hw
  ·rename_i hu;obtain⟨s,rfl,_,hs⟩:=DataW.trod_string hu h;exact⟨[.str s],⟨rfl,λj hj=>by simp at hj; subst hj; exact .str hs⟩,⟨s,rfl⟩⟩
  ·rename_i e hu;simp only [Ah,decide_eq_true_eq] at hp
   rcases Deep.open_slice hu h with ⟨rfl,_⟩ | ⟨a,len,cap,m,fu,Dd,Pl,rfl,_,hl,hm,hmm,_,hx⟩
   ·exact⟨[.sl (P.cellsOf e) []],⟨rfl,λj hj=>by simp at hj; subst hj; exact .fw none 0 _ (λ_=>rfl)⟩,⟨[],rfl,by simp⟩⟩
   ·have hle:len<=m:=by rw [hmm]; split <;> omega
    by_cases h0:len=0
    ·subst h0;exact⟨[.sl (P.cellsOf e) []],⟨rfl,λj hj=>by simp at hj; subst hj; exact .fw (some a) cap _ (λh=>by cases h)⟩,⟨[],rfl,by simp⟩⟩
    ·obtain⟨f,hf⟩:=Deep.choose_lt (α:=List Value × List D) (n:=len) (p:=λi y=>w.cells? 0 (a.add (i*P.cellsOf e)) (P.cellsOf e)= some y.1/\zk w y.1 y.2/\rU P n e y.2) λi hi=>by obtain⟨cs',h1,h2⟩:=hx i (by omega);obtain⟨ds,h3,h4⟩:=zw n e cs' fu _ hp.1 h2;exact⟨(cs',ds),h1,h3,h4⟩
     have hcells:∀ i,i<len->∀ j,j<P.cellsOf e->w.cell? ((a.add (i*P.cellsOf e)).add j)= some ((f i).1.getD j undef):=by intro i hi j hj;obtain⟨_,h2,h3⟩:=World.cells?_some (hf i hi).1;rw [h3 j hj];simp [List.getD,show j<(f i).1.length by omega]
     have hlen:∀ i,i<len->(f i).1.length=P.cellsOf e:=λi hi=>(World.cells?_some (hf i hi).1).2.1
     have hspot:a.spot=none:=by have:=World.cell?_spot (hcells 0 (by omega) 0 hp.2);simpa [Addr.add] using this
     obtain⟨b,off,spot⟩:=a;simp only at hspot;subst hspot
     have hadd:∀ i j,((⟨b,off,none⟩:Addr).add i).add j=⟨b,off+i+j,none⟩:=by
      intro i j;rw [Deep.add_add];unfold Addr.add
      by_cases h:i+j=0
      ·have h1:i=0:=by omega
       have h2:j=0:=by omega
       subst h1; subst h2; rfl
      ·rw [if_neg h]; simp [Nat.add_assoc]
     have xZ:∀ i,i<len->((List.range len).map λi=>(f i).2).getD i []=(f i).2:=by intro i hi;simp [List.getD,hi]
     refine⟨[.sl (P.cellsOf e) ((List.range len).map λi=>(f i).2)],⟨rfl,λj hj=>?_⟩,⟨_,rfl,?_⟩⟩
     ·simp at hj; subst hj;simp only [μ]
      have:=RP.sl (M:=λ_=>False) (w:=w) (b:=b) (off:=off) (cap:=cap) (sz:=P.cellsOf e) (xZ:=(List.range len).map λi=>(f i).2) (λi j=>(f i).1.getD j undef) hp.2 (λh=>h) (by simpa using hl) hm ?_ ?_ ?_
      ·simpa using this
      ·intro x hx';simp only [ε,List.mem_range] at hx';obtain⟨i,hi,rfl⟩:=hx';rw [(hf i hi).2.1.1,hlen i hi]
      ·intro i hi j hj;have hi':i<len:=by simpa using hi
       have:=hcells i hi' j hj;rw [hadd] at this;exact this
      ·intro i hi j hj;have hi':i<len:=by simpa using hi
       rw [xZ i hi'];exact(hf i hi').2.1.2 j (by rw [(hf i hi').2.1.1,hlen i hi']; exact hj)
     ·intro row hrow;simp only [ε,List.mem_range] at hrow;obtain⟨i,hi,rfl⟩:=hrow;exact(hf i hi).2.2
  ·rename_i fs hu;simp only [Ah] at hp;obtain⟨xs,n',_,_,hlen,hsz,hf⟩:=DataW.trod_struct hu h;rw [<- hlen] at hp
   obtain⟨ds,h1,h2⟩:=nm (λt cs fuel x=>zw n t cs fuel x) (fuel:=n') fs.toList 0 hp.1 hp.2 λg hg=>by
    obtain⟨i,hi,rfl⟩:=List.getElem_of_mem hg;have hi':i<fs.size:=by simpa using hi
    have:=hf i fs[i] (by simp [hi']);refine⟨xs[i]'(by omega),?_⟩;simp only [Array.getElem_toList];rw [this];simp [show i<xs.length by omega]
   exact⟨ds,by simpa using h1,h2⟩
  ·rename_i k e hu;simp only [Ah,beq_iff_eq] at hp;obtain⟨xs,m,_,_,hlen,hxs,hf⟩:=DataW.trod_array hu h
   obtain⟨ds,h1,h2⟩:=V8 (λt cs fuel x=>zw n t cs fuel x) (fuel:=m) hp.1 k 0 (by rw [hlen,hp.2]; simp) λi _ hi=>by have:=hf i (by omega);rw [this];simp [show i<xs.length by omega]
   exact⟨ds,by simpa using h1,h2⟩
  ·cases hp
end
section
variable {H : Type} {enc : TypeId × Value -> H} {P : Program} {w : World} {sp : Nat -> Bool} {held : Bool}
theorem gg {r:Reach} {b:Nat} {t:TypeId} {v:Value} {k:Nat} {e:TypeId} (ht:P.underlying t=some (.array k e)) (h:Value.okWide P w r b t v):∃ cs,v = .agg cs/\cs.size=P.cellsOf t:=by simp only [Value.okWide,ht] at h;obtain⟨cs,h1,h2,_⟩:=h;exact⟨cs,h1,h2⟩
theorem Pu {n:Nat} {b:Nat} {t:TypeId} {v:Value} {d:DataW H} {ps:List MemPlace} (hp:rH P n t=true) (hv:Value.okWide P w .any b t v) (h:DataW.Trod enc P w 0 sp held t v d ps):∃ a,RP (λ_=>False) w v a/\wv P n t a:=by
 obtain⟨fuel,h⟩:=h;obtain⟨ds,h1,h2⟩:=zw n t _ fuel _ hp h;unfold wv
 split
 ·rename_i fs hu;obtain⟨cs,rfl,_⟩:=okWide_struct hu hv;refine⟨.agg ds,.agg (by rw [h1.1]; rfl) λj hj=>?_,ds,rfl,h2⟩;have:=h1.2 j hj
  have e:(Value.agg cs).cells.toList.getD j undef=cs.getD j undef:=by simp [Value.cells,List.getD,Array.getD];by_cases hj:j<cs.size <;> simp [hj]
  rw [e] at this;exact this
 ·rename_i k e hu;obtain⟨cs,rfl,_⟩:=gg hu hv;refine⟨.agg ds,.agg (by rw [h1.1]; rfl) λj hj=>?_,ds,rfl,h2⟩;have:=h1.2 j hj
  have e:(Value.agg cs).cells.toList.getD j undef=cs.getD j undef:=by simp [Value.cells,List.getD,Array.getD];by_cases hj:j<cs.size <;> simp [hj]
  rw [e] at this;exact this
 ·rename_i hns hna
  have one:∃ x,ds = [x]:=by
   cases n with
   | zero=>simp [rH] at hp
   | succ n=>
    unfold rU at h2
    split at h2
    ·obtain⟨b,rfl⟩:=h2; exact⟨_,rfl⟩
    ·obtain⟨b,rfl⟩:=h2; exact⟨_,rfl⟩
    ·obtain⟨b,rfl⟩:=h2; exact⟨_,rfl⟩
    ·obtain⟨b,rfl,_⟩:=h2; exact⟨_,rfl⟩
    ·rename_i fs hu; exact absurd hu (hns fs)
    ·rename_i k e hu; exact absurd hu (hna k e)
    ·cases h2
  obtain⟨x,rfl⟩:=one;refine⟨x,?_,h2⟩;have hx:=h1.2 0 (by simp);simp only [μ] at hx;have hlen:=h1.1
  cases v with
  | agg cs=>
   exfalso;unfold Value.okWide at hv
   split at hv
   ·rename_i fs hu; exact absurd hu (hns fs)
   ·rename_i k e hu; exact absurd hu (hna k e)
   ·rename_i h3 h4
    cases n with
    | zero=>simp [rH] at hp
    | succ n=>
     unfold rH at hp;unfold Cell.okWide at hv;split at hp <;> rename_i hu <;> simp [hu,Cell.ok] at hv
     all_goals first | exact absurd hu (hns _) | exact absurd hu (hna _ _) | cases hp
  | _=>simpa [Value.cells] using hx
theorem Zm {n:Nat} {b:Nat}:∀ {ts:List TypeId} {vs:List Value} {ds:List (DataW H)} {ps:List MemPlace},(ts.all λt=>rH P n t)= true->(∀ (j:Nat) t v,ts[j]?=some t->vs[j]?=some v->Value.okWide P w .any b t v) ->
  DataW.TrodAll enc P w 0 sp held ts vs ds ps->∃ as,as.length=vs.length/\vs.length=ts.length/\ds.length=ts.length/\(∀ j,j<as.length->RP (λ_=>False) w (vs.getD j undef) (as.getD j .top))/\ jk P n ts as
 | [],vs,ds,ps,_,_,h=>by obtain⟨rfl,rfl,rfl⟩:=trodAll_nil h;exact⟨[],rfl,rfl,rfl,λj hj=>by simp at hj,rfl⟩
 | t :: ts,vs,ds,ps,hp,hv,h=>by
  obtain⟨v,vs',d,ds',p,q,rfl,rfl,rfl,h1,h2⟩:=trodAll_cons h;simp only [ν,Ah] at hp;obtain⟨a,r1,s1⟩:=Pu hp.1 (hv 0 t v rfl rfl) h1;obtain⟨as,l1,l2,l3,r2,s2⟩:=Zm hp.2 (λj t v h1 h2=>hv (j+1) t v h1 h2) h2;refine⟨a :: as,by simp [l1],by simp [l2],by simp [l3],λj hj=>?_,a,as,rfl,s1,s2⟩
  cases j with
  | zero=>exact r1
  | succ j=>exact r2 j (by simpa using hj)
theorem fK (hl:laidOutB P=true) {W W':World} (hb:Below W.heap.size W W'):∀ {ts:List TypeId} {vs:List Value} {ds:List (DataW H)} {ps:List MemPlace},(ts.all λt=>P.readableRec t&&decide (t<P.types.size))= true ->
  (∀ x ∈ ps,x.block<W.heap.size)->DataW.TrodAll enc P W 0 (λ_=>true) true ts vs ds ps->DataW.TrodAll enc P W' 0 (λb=>decide (b<W.heap.size)) true ts vs ds ps
 | [],vs,ds,ps,_,_,h=>by obtain⟨rfl,rfl,rfl⟩:=trodAll_nil h;exact rfl
 | t :: ts,vs,ds,ps,hr,hlt,h=>by obtain⟨v,vs',d,ds',p,q,rfl,rfl,rfl,h1,h2⟩:=trodAll_cons h;simp only [ν,Ah,decide_eq_true_eq] at hr;exact⟨p,q,Below.trod hl hr.1.1 hr.1.2 h1 hb λx hx=>hlt x (by simp [hx]),fK hl hb hr.2 (λx hx=>hlt x (by simp [hx])) h2,rfl⟩
theorem uh {W:World}:∀ {ts:List TypeId} {vs:List Value} {ds:List (DataW H)} {ps:List MemPlace},DataW.TrodAll enc P W 0 sp held ts vs ds ps->∀ x ∈ ps,x.block<W.heap.size
 | [],vs,ds,ps,h=>by obtain⟨rfl,rfl,rfl⟩:=trodAll_nil h;intro x hx; simp at hx
 | t :: ts,vs,ds,ps,h=>by
  obtain⟨v,vs',d,ds',p,q,rfl,rfl,rfl,⟨m,hm⟩,h2⟩:=trodAll_cons h;intro x hx
  rcases List.mem_append.1 hx with hx | hx
  ·exact DataW.trod_lt m _ _ _ hm x hx
  ·exact uh h2 x hx
end
section
variable [vA]
theorem zX.calls {P:Program} {g:FuncId} {args:List D} {b:Bool} (h:zX P g args (.bool b)) {w:World} {vals:Array Value} (ht:wx w λ_=>False) (hl:vals.size=args.length)
  (hv:∀ j,j<args.length->RP (λ_=>False) w (vals.getD j undef) (args.getD j .top)):Calls P g vals w λe w'=>e = .returned (.bool b)/\ Below w.heap.size w w':=by
 have hM:∀ b,yO (λ_=>False) (λ_=>0) kT b->False:=by
  rintro b (h | ⟨k,o,hk,_⟩)
  ·exact h
  ·cases hk
 have hS:zI (λ_=>False) w kT (λ_=>0):=⟨λb hb=>hb.elim,(λk o hk=>by cases hk),(λk k' o o' hk=>by cases hk),(λk o hk=>by cases hk),ht.xC (Aj _) (λ_ _ _=>rfl) λb _ hb=>hM b hb⟩;refine(h.run _ w _ vals hS hl λj hj=>.pure ((hv j hj).xC (λ_ _ _=>rfl) λb _ hb=>hM b hb)).mono λe w' hh=>?_;obtain⟨v,ι',rfl,k1,k2,k3,k4,k5,k6⟩:=hh;have K0:Kept w w' λ_=>False:=k1.mono λb _ ⟨k,o,hk,_⟩=>by cases hk
 rw [k6.nL];exact⟨rfl,K0.below⟩
end
theorem u9 (a:Array Value) (j:Nat) (d:Value):a.getD j d=a.toList.getD j d:=by simp [List.getD,Array.getD];by_cases h:j<a.size <;> simp [h]
theorem Tp {H:Type} {enc:TypeId × Value->H} {P:Program} {f:Func} {s:ChangeSpec} {W W':World} {args:Array Value} {ds gs:List (DataW H)} {before:List MemPlace} {tb:TypeId}
  (hl:laidOutB P=true) (hr:(f.params.toList.all λt=>P.readableRec t&&decide (t<P.types.size))= true) (hb:f.resultTypes = #[tb]) (htb:P.underlying tb=some .bool) (hsv:s.vars = [])
  (hW:DataW.Whole enc P f.params.toList s.vars false W args.toList ds gs before) (hs:s.fn H (ds++gs)= { results:=[.lit (.bool true)],args:=ds }) (bel:Below W.heap.size W W') :
  s.post enc P f false true false false W args (.bool true) W':=by
 have hW':=hW;obtain⟨p,q,hA,hV,rfl,hfz,hnd⟩:=hW;rw [hsv] at hV;obtain⟨rfl,rfl⟩:=trodVars_none hV;have hA2:=fK hl bel hr (uh hA) hA
 refine⟨_,_,_,[],p,[],hW',?_,?_,?_,bel.frame _,λh=>by cases h⟩
 ·rw [hs,hb];exact trodAll_mk1 (shut_bool htb _)
 ·rw [hs];exact hA2
 ·rw [hs,hsv];rfl
abbrev dO (i:Nat) (k:DK):xN:=⟨some i,none,k⟩
abbrev dF (i j:Nat) (k:DK):xN:=⟨some i,some (j,false),k⟩
abbrev dT (i j:Nat) (k:DK):xN:=⟨some i,some (j,true),k⟩
abbrev vK.i (n:Int):vK:=.c (.int .i64 n)
abbrev dM (i j:Nat):xN:=⟨some i,none,.mv (.t j)⟩
abbrev dL (i j:Nat):xN:=⟨some i,none,.load 1 false (.t j)⟩
abbrev dG (i n j:Nat):xN:=⟨some i,none,.fv n (.t j)⟩
abbrev DC.r (l:List xN) (c:DC):DC:=.seq (.sS [] l) c
abbrev DK.cf (f:FuncId) (l:List vK):DK:=.call (.c (.fn f [])) l
abbrev bT (i:Nat) (o:BinOp) (a b:Nat):xN:=⟨some i,none,.bin o (.t a) (.t b)⟩
abbrev bI (i:Nat) (o:BinOp) (a:Nat) (n:Int):xN:=⟨some i,none,.bin o (.t a) (.i n)⟩
abbrev dI (i n a b:Nat):xN:=⟨some i,none,.idx n (.t a) (.t b)⟩
abbrev dN (i a:Nat):xN:=⟨some i,none,.len (.t a)⟩
abbrev fG (i j n a:Nat):xN:=⟨some i,some (j,false),.fv n (.t a)⟩
abbrev fL (i j a:Nat):xN:=⟨some i,some (j,false),.load 1 false (.t a)⟩
abbrev fN (i j a:Nat):xN:=⟨some i,some (j,false),.len (.t a)⟩
abbrev fM (i j a:Nat):xN:=⟨some i,some (j,false),.mv (.t a)⟩
abbrev dP (i a b:Nat):xN:=⟨some i,none,.pick (.t a) (.c (.bool true)) (.t b)⟩
abbrev dE (i a n:Nat):xN:=⟨some i,none,.lV (.t a) n⟩
abbrev sQ (n a b:Nat):xN:=⟨none,none,.store n (.t a) (.t b)⟩
abbrev dV (i:Nat) (b:Bool):xN:=⟨some i,none,.mv (.c (.bool b))⟩
abbrev dJ (i:Nat) (n:Int):xN:=⟨some i,none,.mv (.i n)⟩
abbrev dA (i n a:Nat):xN:=⟨some i,none,.load n true (.t a)⟩
abbrev DC.w (a b:Nat) (c:DC):DC:=.seq (.cond (.t a) .skip (.exit b)) c
abbrev DC.g (l:List xN):DC:=.sS [] l
abbrev dX (i a:Nat):xN:=⟨some i,none,.box (.t a)⟩
abbrev tL (i j a:Nat):xN:=⟨some i,some (j,true),.load 1 false (.t a)⟩
abbrev tG (i j n a:Nat):xN:=⟨some i,some (j,true),.fv n (.t a)⟩
abbrev tM (i j a:Nat):xN:=⟨some i,some (j,true),.mv (.t a)⟩
abbrev dK (i a:Nat):xN:=⟨some i,none,.W6 (.t a)⟩
abbrev dH (i a:Nat):xN:=⟨some i,none,.nt (.t a)⟩
abbrev dQ (i a b:Nat):xN:=⟨some i,none,.pick (.t a) (.t b) (.c (.bool false))⟩
abbrev dZ (i:Nat):xN:=⟨some i,none,.mv (.c .xI)⟩
abbrev dB (i f a:Nat):xN:=⟨some i,none,.cf f [.t a]⟩
abbrev dD (i f a b:Nat):xN:=⟨some i,none,.cf f [.t a,.t b]⟩
abbrev fB (i j:Nat) (o:BinOp) (a:Nat) (n:Int):xN:=⟨some i,some (j,false),.bin o (.t a) (.i n)⟩
abbrev CT :=Nat × DC × List lT
abbrev DC.x (a b:Nat):DC:=.cond (.t a) .skip (.exit b)
abbrev DC.n (a b c:Nat):DC:=.g [dM a b,bI c .add a 1,dM b c]
abbrev DC.q (a:Nat) (c d:DC):DC:=.cond (.t a) c d
abbrev DC.u (i:Nat) (n:Int):DC:=.r [dJ i n] .ret
abbrev DC.v (i:Nat) (b:Bool):DC:=.r [dV i b] .ret
abbrev DC.l (n:Nat) (c:DC):DC:=.block n (.loop c)
abbrev vK.u (n:Int):vK:=.c (.int .u64 n)
abbrev iZ : D:=.int .i64 0
def zS :=γ @D.int.injEq (γ @D.bool.injEq (γ @D.sl.injEq (γ @and_true (γ @true_and @and_self))))
def zW.{u} :=γ @ne_eq.{u} (γ @forall_const.{u} (γ @implies_true.{u} @forall_eq.{u}))
section
variable [vA]
def zU :=γ @fS.eq_1 (γ @T8.eq_1 (γ @OG.eq_1 (γ @jA.eq_1 (γ @jA.eq_2 (γ @nO.eq_1 (γ @nO.eq_2 (γ @sg.eq_1 (γ @sg.eq_2 (γ @sg.eq_3 (γ @sg.eq_4 (γ @sg.eq_5 (γ @sg.eq_6 (γ @sg.eq_7 (γ @sg.eq_8 (γ @sg.eq_9 (γ @sg.eq_10 (γ @sg.eq_11 (γ @sg.eq_12 (γ @sg.eq_13 (γ @sg.eq_14 (γ @sg.eq_15 (γ @sg.eq_16 (γ @zC.eq_1 (γ @zC.eq_2 (γ @zC.eq_3 (γ @zC.eq_4 (γ @zC.eq_5 (γ @zC.eq_6 (γ @zC.eq_7 (γ @zC.eq_8 (γ @zC.eq_9 (γ @zC.eq_10 (γ @zC.eq_11 (γ @zC.eq_12 (γ @zC.eq_13 (γ @zC.eq_14 (γ @zC.eq_15 (γ @zC.eq_16 (γ @pX.eq_1 (γ @pX.eq_2 (γ @pX.eq_3 (γ @pX.eq_4 (γ @pX.eq_5 (γ @pX.eq_6 (γ @pX.eq_7 (γ @pX.eq_8 (γ @pW.eq_1 (γ @pW.eq_2 (γ @pW.eq_3 (γ @pW.eq_4 (γ @pW.eq_5 (γ @pW.eq_6 (γ @pW.eq_7 (γ @pW.eq_8 (γ @pW.eq_9 (γ @pW.eq_10 (γ @pW.eq_11 (γ @pW.eq_12 (γ @pW.eq_13 (γ @pW.eq_14 (γ @pW.eq_15 (γ @pW.eq_16 (γ @pW.eq_17 (γ @pW.eq_18 (γ @pW.eq_19 (γ @pW.eq_20 (γ @pW.eq_21 (γ @pW.eq_22 (γ @pW.eq_23 (γ @pW.eq_24 (γ @pW.eq_25 (γ @pW.eq_26 (γ @pW.eq_27 (γ @pW.eq_28 (γ @pW.eq_29 (γ @pW.eq_30 (γ @pW.eq_31 (γ @Qt.eq_1 (γ @Qu.eq_1 (γ @L0.eq_1 (γ @eA.eq_1 @qv.eq_1)))))))))))))))))))))))))))))))))))))))))))))))))))))))))))))))))))))))))))))))))
def zQ :=γ @sV.eq_1 (γ @sV.eq_2 (γ @sV.eq_3 (γ @vw.eq_1 (γ @vw.eq_2 (γ @vw.eq_3 (γ @vw.eq_4 (γ @vw.eq_5 (γ @vw.eq_6 (γ @vw.eq_7 (γ @vw.eq_8 (γ @vw.eq_9 (γ @vw.eq_10 (γ @vw.eq_11 (γ @vw.eq_12 (γ @vw.eq_13 (γ @vw.eq_14 (γ @vw.eq_15 (γ @vw.eq_16 (γ @vw.eq_17 (γ @vw.eq_18 (γ @aK.eq_1 (γ @aK.eq_2 (γ @sw.eq_1 (γ @sw.eq_2 (γ @St.get.eq_1 (γ @St.look.eq_1 (γ @St.look.eq_2 (γ @Fr.get.eq_1 @Fr.get.eq_2))))))))))))))))))))))))))))
def zV :=γ @kT.eq_1 (γ @lO.eq_1 (γ @lO.eq_2 (γ @qI.eq_1 (γ @qI.eq_2 (γ @qI.eq_3 (γ @qI.eq_4 (γ @qI.eq_5 (γ @qI.eq_6 (γ @qI.eq_7 (γ @qI.eq_8 (γ @qI.eq_9 (γ @qI.eq_10 (γ @qI.eq_11 (γ @qI.eq_12 (γ @qI.eq_13 (γ @qI.eq_14 (γ @qI.eq_15 (γ @qI.eq_16 (γ @qI.eq_17 (γ @dp.eq_1 (γ @mY.eq_1 (γ @mY.eq_2 (γ @mY.eq_3 (γ @mY.eq_4 (γ @mY.eq_5 (γ @mY.eq_6 (γ @pB.eq_1 (γ @pB.eq_2 (γ @TC.eq_1 (γ @zN.eq_1 (γ @oR.eq_1 (γ @oR.eq_2 (γ @MI.eq_1 (γ @fT.eq_1 (γ @fT.eq_2 (γ @xz.eq_1 (γ @xz.eq_2 (γ @List.replicate.eq_1.{0} (γ @List.replicate.eq_2.{0} (γ @rowsOf.eq_1 (γ @rowsOf.eq_2 (γ @rowsOf.eq_3 (γ @rowsOf.eq_4 @rowsOf.eq_5)))))))))))))))))))))))))))))))))))))))))))
end
theorem sd {p q:Prop} (b:q) (a:p:=by first | omega | exact ZL _ | exact Int.natCast_nonneg _ | rfl | exact pn _ _ | exact Qd _ | (intro _ h; cases h; done)):p/\q:=⟨a,b⟩
theorem bV.dv {n0 n:Nat} {σ:St} {d d':D} (hn:n0<=n:=by simp) (h:vw σ ⟨n,[]⟩ (λk=>k) d d':=by simp [vw]):bV n0 σ d ⟨n,[]⟩ d':=.drop hn h
section
variable [vA]
theorem cr {P:Program} {g:FuncId} {args:List D} {d:D} {s:St} (hc:zX P g args d) (hp:D.xT args=true:=by simp [D.xT,D.xO]):xU P g args s d s:=xU.yU hc hp
theorem cq {P:Program} {g:FuncId} {args:List D} {d:D} {s:St} (hc:zX P g args d) (hp:D.xT args=true:=by rfl):xU P g args s d s:=xU.yU hc hp
end
end Go.Pd
