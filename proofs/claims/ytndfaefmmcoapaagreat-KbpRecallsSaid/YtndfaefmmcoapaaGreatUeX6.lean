/- Part X6. -/
import Derived.Test.YtndfaefmmcoapaaGreatUeX5
import Derived.Carry
import Derived.ChangeArms
import Derived.Deep.Slices
import Derived.ProofKit
import Derived.OpenShut
set_option linter.unusedSectionVars false
set_option linter.unusedVariables false
set_option linter.unusedSimpArgs false
set_option linter.defProp false
namespace Go.Pd
open Go
def ui (s:BitVec 64):Int:=s.toNat
theorem aM6 (s:BitVec 64):0<=ui s:=by unfold ui; omega
theorem aO9 {s t:BitVec 64}:ui s=ui t ↔ s=t:=by
 unfold ui
 constructor
 ·intro h; exact BitVec.eq_of_toNat_eq (by omega)
 ·rintro rfl; rfl
theorem bWp {n:Int} (h0:0<=n) (h1:n<18446744073709551616):ui (BitVec.ofInt 64 n)= n:=by unfold ui;rw [BitVec.toNat_ofInt];have:n % 2 ^ 64=n:=Int.emod_eq_of_lt h0 (by omega);omega
theorem wN (s:BitVec 64):BitVec.ofInt 64 (ui s)= s:=by unfold ui;rw [BitVec.ofInt_natCast];simp
theorem oR (s:BitVec 64):IntKind.u64.wrap (s.toNat:Int)= ui s:=by unfold ui;have:=s.isLt;exact wrap_u64 ⟨by omega,by omega⟩
theorem bYb (s t:BitVec 64):qI .and .u64 (ui s) (ui t)= ui (s &&& t):=by show IntKind.u64.wrap ((BitVec.ofInt 64 (ui s)&&& BitVec.ofInt 64 (ui t)).toNat:Int)= _;rw [wN,wN,oR]
theorem bWo (s t:BitVec 64):qI .or .u64 (ui s) (ui t)= ui (s ||| t):=by show IntKind.u64.wrap ((BitVec.ofInt 64 (ui s) ||| BitVec.ofInt 64 (ui t)).toNat:Int)= _;rw [wN,wN,oR]
theorem aF7 (s t:BitVec 64):qI .xor .u64 (ui s) (ui t)= ui (s ^^^ t):=by show IntKind.u64.wrap ((BitVec.ofInt 64 (ui s)^^^ BitVec.ofInt 64 (ui t)).toNat:Int)= _;rw [wN,wN,oR]
theorem aM8 (s t:BitVec 64):qI .andNot .u64 (ui s) (ui t)= ui (s &&& ~~~t):=by show IntKind.u64.wrap ((BitVec.ofInt 64 (ui s)&&& ~~~BitVec.ofInt 64 (ui t)).toNat:Int)= _;rw [wN,wN,oR]
theorem iP (n:Int):IntKind.u64.wrap n=ui (BitVec.ofInt 64 n):=by unfold ui;rw [BitVec.toNat_ofInt];simp [IntKind.wrap,IntKind.signed,IntKind.bits];omega
theorem bYc (s t:BitVec 64):IntKind.u64.wrap (ui s+ui t)= ui (s+t):=by rw [iP,BitVec.ofInt_add,wN,wN]
theorem bX5 (s t:BitVec 64):IntKind.u64.wrap (ui s-ui t)= ui (s-t):=by rw [iP];congr 1;rw [Int.sub_eq_add_neg,BitVec.ofInt_add,BitVec.ofInt_neg,wN,wN,BitVec.sub_eq_add_neg]
theorem bX9 (s t:BitVec 64):IntKind.u64.wrap (ui s*ui t)= ui (s*t):=by rw [iP,BitVec.ofInt_mul,wN,wN]
theorem bX7 (s:BitVec 64) (k:Int):aJr .u64 (ui s) k=ui (s <<< k.toNat):=by
 unfold aJr;rw [iP];congr 1;rw [BitVec.ofInt_mul,wN];show s*BitVec.ofInt 64 (2 ^ min k.toNat 64)= _;apply BitVec.eq_of_toNat_eq;rw [BitVec.toNat_mul,BitVec.toNat_shiftLeft,Nat.shiftLeft_eq]
 have e:(BitVec.ofInt 64 (2 ^ min k.toNat 64)).toNat=2 ^ min k.toNat 64 % 2 ^ 64:=by
  have:((2:Int)^ min k.toNat 64)= ((2 ^ min k.toNat 64:Nat):Int):=by norm_cast
  rw [this,BitVec.ofInt_natCast,BitVec.toNat_ofNat]
 rw [e,Nat.mul_mod_mod]
 rcases Nat.lt_or_ge k.toNat 64 with h | h
 ·rw [Nat.min_eq_left (by omega)]
 ·rw [Nat.min_eq_right h];obtain⟨m,hm⟩:=Nat.exists_eq_add_of_le h;rw [hm,Nat.pow_add,<- Nat.mul_assoc,Nat.mul_right_comm];simp
theorem bX6 (s:BitVec 64) (k:Int):aJy .u64 (ui s) k=ui (s >>> k.toNat):=by
 unfold aJy ui;rw [BitVec.toNat_ushiftRight,Nat.shiftRight_eq_div_pow];show (s.toNat:Int).fdiv (2 ^ min k.toNat 64)= _;have:((2:Int)^ min k.toNat 64)= ((2 ^ min k.toNat 64:Nat):Int):=by norm_cast
 rw [this,Int.fdiv_eq_ediv_of_nonneg _ (Int.natCast_nonneg _),<- Int.natCast_ediv];congr 1
 rcases Nat.lt_or_ge k.toNat 64 with h | h
 ·rw [Nat.min_eq_left (by omega)]
 ·rw [Nat.min_eq_right h];have h1:=s.isLt;rw [Nat.div_eq_of_lt h1,Nat.div_eq_of_lt (Nat.lt_of_lt_of_le h1 (Nat.pow_le_pow_right (by omega) h))]
theorem bX8 (s t:BitVec 64):(ui s).tmod (ui t)= ui (s % t):=by unfold ui;rw [BitVec.toNat_umod,Int.tmod_eq_emod_of_nonneg (by omega),Int.natCast_emod]
theorem aF8 (s t:BitVec 64):(ui s==ui t)= (s==t):=by
 by_cases h:s=t
 ·subst h; simp
 ·have:ui s≠ui t:=fun e=>h (aO9.1 e);rw [beq_eq_false_iff_ne.2 this,beq_eq_false_iff_ne.2 h]
theorem bYa (s t:BitVec 64):(ui s != ui t)= (s != t):=by simp only [bne,aF8]
theorem bZx : D.int .u64 0=D.int .u64 (ui 0#64):=rfl
theorem bZw : D.int .u64 1=D.int .u64 (ui 1#64):=rfl
theorem bV4 : D.int .u64 2=D.int .u64 (ui 2#64):=rfl
theorem bV3 : D.int .u64 18446744073709551615=D.int .u64 (ui 18446744073709551615#64):=rfl
theorem bYd : ui 2#64≠0:=by decide
def us (l:List (BitVec 64)):List (List D):=l.map fun s=>[.int .u64 (ui s)]
def aAq (l:List (BitVec 64)):D:=.sl 1 (us l)
theorem xO (l:List (BitVec 64)):(us l).length=l.length:=by simp [us]
theorem aTi : us [] = []:=rfl
theorem aVm (s:BitVec 64) (l:List (BitVec 64)):us (s :: l)= [.int .u64 (ui s)] :: us l:=rfl
theorem zE (l:List (BitVec 64)) {i:Nat} (h:i<l.length):(us l).getD i [] = [.int .u64 (ui (l.getD i 0))]:=by simp [us,List.getD,h]
theorem rT (l:List (BitVec 64)):∀ e ∈ us l,D.xU e=true:=by intro e he;simp only [us,List.mem_map] at he;obtain⟨n,_,rfl⟩:=he;rfl
theorem aO7 (l:List (BitVec 64)):∀ e ∈ us l,wJ e=true:=by intro e he;simp only [us,List.mem_map] at he;obtain⟨n,_,rfl⟩:=he;rfl
theorem aNo (l:List (BitVec 64)) (n:Nat):(us l).take n=us (l.take n):=by simp [us,List.map_take]
theorem aVl (l:List (BitVec 64)) (s:BitVec 64):us l ++ [[.int .u64 (ui s)]]=us (l ++ [s]):=by simp [us]
theorem mS (l:List (BitVec 64)) (i:Nat) (s:BitVec 64):(us l).set i [.int .u64 (ui s)]=us (l.set i s):=by simp [us,List.map_set]
theorem jH (n:Nat) (s:BitVec 64):List.replicate n [D.int .u64 (ui s)]=us (List.replicate n s):=by simp [us]
theorem bXk : ∀ {els:List (List D)},(∀ e ∈ els,∃ n:Int,e = [.int .u64 n])->D.aIb els->∃ l,els=us l
 | [],_,_=>⟨[],rfl⟩
 | e :: r,h,hf=>by obtain⟨n,rfl⟩:=h e (by simp);obtain⟨l,rfl⟩:=bXk (fun e he=>h e (by simp [he])) hf.2;have h1:=hf.1;simp only [D.tE,D.fact,and_true] at h1;obtain⟨h1,h2⟩:=h1;refine⟨BitVec.ofInt 64 n :: l,?_⟩;have:ui (BitVec.ofInt 64 n)= n:=bWp (by simpa [IntKind.min,IntKind.signed] using h1) (by have:IntKind.u64.max=18446744073709551615:=rfl; omega);simp [us,this]
theorem aL2 (d:D):rB false [d]=d:=rfl
theorem aL3 (cs:List D):rB true cs = .agg cs:=rfl
def yX (key sz:Nat):List (List D)->D
 | []=>.xH
 | e :: r=>.osl key sz (e :: r).length
def yW (key sz:Nat):List (List D)->List (Nat × Ob)
 | []=>[]
 | e :: r=>[(key,⟨sz,e :: r⟩)]
end Go.Pd
namespace Go.Pd
open Go
variable [sL]
def xR (f:Fr):Fr->Prop
 | []=>True
 | (t,d) :: r=>f.get t=d/\xR f r
omit [sL] in
theorem aY1 {f:Fr}:∀ {f':Fr},xR f f'->∀ t,f'.get t = .top\/f'.get t=f.get t
 | [],_,t=>.inl rfl
 | (s,d) :: r,h,t=>by
  simp only [Fr.get]
  split
  ·rename_i e; subst e; exact .inr h.1.symm
  ·exact aY1 h.2 t
theorem xI.same {C:Cx} {f f':Fr} {σ:St} (h:xR f f'):xI C f σ f' σ:=xI.frame (aY1 h)
end Go.Pd
namespace Go.Pd
open Go
def rr (ll:List (List (BitVec 64))):List (List D):=ll.map fun l=>[aAq l]
def bV0 (ll:List (List (BitVec 64))):D:=.sl 1 (rr ll)
theorem zM (l:List (List (BitVec 64))):(rr l).length=l.length:=by simp [rr]
theorem nX (l:List (List (BitVec 64))) {i:Nat} (h:i<l.length):(rr l).getD i [] = [.sl 1 (us (l.getD i []))]:=by simp [rr,aAq,List.getD,h]
theorem aD8 (l:List (List (BitVec 64))) (n:Nat):(rr l).take n=rr (l.take n):=by simp [rr,List.map_take]
theorem aVt (l:List (List (BitVec 64))):∀ e ∈ rr l,D.xU e=true:=by intro e he;simp only [rr,List.mem_map] at he;obtain⟨n,_,rfl⟩:=he;simp [D.xU,D.xG,aAq]
end Go.Pd
namespace Go.Pd
open Go
theorem nB.same {n0:Nat} {σ:St} {d:D}:nB n0 σ d σ d:=.inl ⟨rfl,rfl⟩
theorem nB.drop {n0 n:Nat} {σ:St} {d d':D} (hn:n0<=n) (h:vw σ ⟨n,[]⟩ (fun k=>k) d d'):nB n0 σ d ⟨n,[]⟩ d':= .inr ⟨fun k=>k,hn,fun _ _=>rfl,h,by simp [stays],by simp [vC]⟩
end Go.Pd
namespace Go.Pd
open Go
universe u
variable [sL]
def atK (σ:St) (K:D->St->Prop) (d:D):Prop:=K d σ
def bZ7 (f:Fr) (dst:Option Nat) (K:Fr->St->Prop) (d:D) (σ:St):Prop:=K (f.put dst d) σ
def bZ6 (f:Fr) (dst:Option Nat) (K:Fr->Prop) (d:D):Prop:=K (f.put dst d)
def iZ (Q:Exit->Fr->St->Prop) (f:Fr) (σ:St):Prop:=Q .normal f σ
def gdB (d:D) (want:Bool) (yes no:Prop):Prop:=
 match d with
 | .bool b=>if b=want then yes else no
 | .und=>no
 | _=>False
theorem aG5 (b want:Bool) (yes no:Prop):gdB (.bool b) want yes no=if b=want then yes else no:=rfl
theorem aBq (want:Bool) (yes no:Prop):gdB .und want yes no=no:=rfl
@[congr] theorem bZn {d d' : D} {want : Bool} {yes no : Prop} (h : d = d') : gdB d want yes no = gdB d' want yes no := by rw [h]
def gd (g:Option (Nat × Bool)) (f:Fr) (yes no:Prop):Prop:=
 match g with
 | none=>yes
 | some (j,want)=>gdB (f.get j) want yes no
theorem aBp (f:Fr) (yes no:Prop):gd none f yes no=yes:=rfl
theorem aBo (j:Nat) (want:Bool) (f:Fr) (yes no:Prop):gd (some (j,want)) f yes no=gdB (f.get j) want yes no:=rfl
theorem bXr (o:DOp) (f:Fr) (yes no:Prop):yL o f yes no=gd o.guard f yes no:=by
 unfold yL gd
 split
 ·rename_i h; rw [h]
 ·rename_i h; rw [h]; rfl
def aR5 (q:Bool) (σ:St) (sz bytes:Nat) (x:D) (y:Option (List (List D))) (K:D->St->Prop):Prop:=
 match y with
 | none=>False
 | some rows=>(∀ r ∈ rows,wJ r=true)/\ match x with
  | .xH=>rows.length*bytes<=140737488355328/\rows.length<=8000000000000/\(rows = []->K .xH σ)/\ (rows ≠ []->K (.osl σ.nx sz rows.length) (σ.new ⟨sz,rows⟩))
  | .osl key sz' n=>match σ.get key with
   | some ob=>sz=sz'/\ob.sz=sz/\n<=ob.els.length/\(n+rows.length)* bytes<=140737488355328/\n+rows.length<=8000000000000 /\
    K (.osl σ.nx sz (n+rows.length)) ((σ.erase key).new ⟨sz,ob.els.take n++rows⟩)
   | none=>False
  | .sub key sz' lo n=>match σ.get key with
   | some ob=>q=true/\sz=sz'/\ob.sz=sz/\lo+n<=ob.els.length/\(n+rows.length)* bytes<=140737488355328/\n+rows.length<=8000000000000 /\
    ∀ pre:List (List D),(pre = []\/pre=ob.els.take lo)->K (.sub σ.nx sz pre.length (n+rows.length)) ((σ.erase key).new ⟨sz,pre++((ob.els.drop lo).take n++rows)⟩)
   | none=>False
  | _=>False
def bXb (σ:St) (n:Nat) (a:D) (x:Option (List D)) (K:D->St->Prop):Prop:=
 match a,x with
 | .ref key sz i off,some ds=>match σ.get key with
  | some ob=>ob.sz=sz/\i<ob.els.length/\ds.length=n/\off+n<=sz/\wJ ds=true/\K .und (σ.set key ⟨sz,ob.els.set i (dC (ob.els.getD i []) off ds)⟩)
  | none=>False
 | _,_=>False
def aJu (x:D) (K:D->Prop):Prop:=
 match x with
 | .sl _ els=>K (.int .i64 els.length)
 | .osl _ _ n=>K (.int .i64 n)
 | .sub _ _ _ n=>K (.int .i64 n)
 | .xH=>K (.int .i64 0)
 | .emp=>K (.int .i64 0)
 | _=>False
def aJ0 (sz:Nat) (x i:D) (K:D->Prop):Prop:=
 match x,i with
 | .sl sz' els,.int _ n=>sz=sz'/\0<=n/\n<els.length/\K (.ptr (els.getD n.toNat []))
 | .osl key sz' len,.int _ n=>sz=sz'/\0<=n/\n<len/\K (.ref key sz n.toNat 0)
 | .sub key sz' lo len,.int _ n=>sz=sz'/\0<=n/\n<len/\K (.ref key sz (lo+n.toNat) 0)
 | _,_=>False
def pZ (neg:Bool) (x y:D) (K:D->Prop):Prop:=
 match x,y with
 | .xH,.xH=>K (.bool (!neg))
 | .osl ..,.xH | .xH,.osl ..=>K (.bool neg)
 | .emp,.xH | .xH,.emp=>K (.bool neg)
 | .sl _ (_ :: _),.xH=>K (.bool neg)
 | _,_=>False
def aQg (σ:St) (n:Nat) (ag:Bool) (x:D) (K:D->Prop):Prop:=
 match x with
 | .ref key sz i off=>match σ.get key with
  | some o=>o.sz=sz/\i<o.els.length/\off+n<=sz/\(ag=true\/n=1)/\ K (rB ag (((o.els.getD i []).drop off).take n))
  | none=>False
 | .ptr cs=>n<=cs.length/\(ag=true\/n=1)/\ K (rB ag (cs.take n))
 | _=>False
def aAu (x:D) (K:D->Prop):Prop:=
 match x with
 | .ref key sz i off=>K (.ref key sz i off)
 | .ptr cs=>K (.ptr cs)
 | .fn f cs=>K (.fn f cs)
 | _=>False
@[congr] theorem aA6 {x x' : D} {K : D -> Prop} (h : x = x') : aAu x K = aAu x' K := by rw [h]
theorem aGf {key sz i off:Nat} {K:D->Prop}:aAu (.ref key sz i off) K=K (.ref key sz i off):=rfl
theorem aGg {cs:List D} {K:D->Prop}:aAu (.ptr cs) K=K (.ptr cs):=rfl
theorem aC2 {f:FuncId} {cs:List D} {K:D->Prop}:aAu (.fn f cs) K=K (.fn f cs):=rfl
def aQe (σ:St) (zero:D) (ok:Bool) (m k:D) (K:D->Prop):Prop:=
 match m,k with
 | .vJ key,.int kk x=>match σ.get key with
  | some o=>o.sz=0/\iW kk o.els/\K (gX ok zero (qD x o.els 0))
  | none=>False
 | .kV,.int _ _=>K (gX ok zero none)
 | _,_=>False
def aO0 (σ:St) (m k x:D) (K:D->St->Prop):Prop:=
 match m,k with
 | .vJ key,.int kk y=>match σ.get key with
  | some o=>o.sz=0/\iW kk o.els/\K .und (σ.set key ⟨0,aVe kk o.els y x⟩)
  | none=>False
 | _,_=>False
def jJ (σ:St) (n:Nat) (zero:D) (ok:Bool) (m k:D) (K:D->Prop):Prop:=
 match m,k with
 | .vJ key,.agg cs=>match σ.get key with
  | some o=>o.sz=0/\∃ (x:List Int) (l:List (List Int × D)),(cs=x.map (D.int .i64)/\ o.els=qF l/\x.length=n/\∀ p ∈ l,p.1.length=n)/\ K (gX ok zero (pS x l 0))
  | none=>False
 | _,_=>False
def mR (σ:St) (n:Nat) (m k x:D) (K:D->St->Prop):Prop:=
 match m,k with
 | .vJ key,.agg cs=>match σ.get key with
  | some o=>o.sz=0/\∃ (y:List Int) (l:List (List Int × D)),(cs=y.map (D.int .i64)/\ o.els=qF l/\(y.length=n/\∀ p ∈ l,p.1.length=n))/\ K .und (σ.set key ⟨0,qF (aY y x l)⟩)
  | none=>False
 | _,_=>False
def aDi (σ:St) (zero m k:D) (K:D->St->Prop):Prop:=
 match m,k with
 | .vJ key,.int kk y=>match σ.get key with
  | some o=>o.sz=0/\iW kk o.els/\o.els.length<=1000000000/\(match qD y o.els 0 with
   | some (i,d)=>K (.tup [d,.int .i64 i]) (σ.set key ⟨0,o.els⟩)
   | none=>K (.tup [zero,.int .i64 o.els.length]) (σ.set key ⟨0,o.els ++ [[.int kk y,zero]]⟩))
  | none=>False
 | _,_=>False
def aDk (σ:St) (m s x:D) (K:D->St->Prop):Prop:=
 match m,s with
 | .vJ key,.int _ i=>match σ.get key with
  | some o=>o.sz=0/\0<=i/\i<o.els.length/\(∃ kk y d,o.els.getD i.toNat [] = [.int kk y,d]/\K .und (σ.set key ⟨0,o.els.set i.toNat [.int kk y,x]⟩))
  | none=>False
 | _,_=>False
@[congr] theorem aAh {σ : St} {zero : D} {ok : Bool} {m m' k k' : D} {K : D -> Prop} (h : m = m') (h' : k = k') : aQe σ zero ok m k K = aQe σ zero ok m' k' K := by rw [h, h']
@[congr] theorem aAf {σ : St} {m m' k k' x x' : D} {K : D -> St -> Prop} (h : m = m') (h' : k = k') (h2 : x = x') : aO0 σ m k x K = aO0 σ m' k' x' K := by rw [h, h', h2]
@[congr] theorem aEy {σ : St} {n : Nat} {zero : D} {ok : Bool} {m m' k k' : D} {K : D -> Prop} (h : m = m') (h' : k = k') : jJ σ n zero ok m k K = jJ σ n zero ok m' k' K := by rw [h, h']
@[congr] theorem aEw {σ : St} {n : Nat} {m m' k k' x x' : D} {K : D -> St -> Prop} (h : m = m') (h' : k = k') (h2 : x = x') : mR σ n m k x K = mR σ n m' k' x' K := by rw [h, h', h2]
@[congr] theorem aAj {σ : St} {zero m m' k k' : D} {K : D -> St -> Prop} (h : m = m') (h' : k = k') : aDi σ zero m k K = aDi σ zero m' k' K := by rw [h, h']
@[congr] theorem aAm {σ : St} {m m' k k' x x' : D} {K : D -> St -> Prop} (h : m = m') (h' : k = k') (h2 : x = x') : aDk σ m k x K = aDk σ m' k' x' K := by rw [h, h', h2]
@[congr] theorem aA9 {q : Bool} {σ : St} {sz bytes : Nat} {x x' : D} {y y' : Option (List (List D))} {K : D -> St -> Prop} (h : x = x') (h' : y = y') : aR5 q σ sz bytes x y K = aR5 q σ sz bytes x' y' K := by rw [h, h']
@[congr] theorem aA4 {σ : St} {n : Nat} {x x' : D} {y y' : Option (List D)} {K : D -> St -> Prop} (h : x = x') (h' : y = y') : bXb σ n x y K = bXb σ n x' y' K := by rw [h, h']
@[congr] theorem aA7 {x x' : D} {K : D -> Prop} (h : x = x') : aJu x K = aJu x' K := by rw [h]
@[congr] theorem aA8 {sz : Nat} {x x' i i' : D} {K : D -> Prop} (h : x = x') (h' : i = i') : aJ0 sz x i K = aJ0 sz x' i' K := by rw [h, h']
@[congr] theorem aEv {neg : Bool} {x x' i i' : D} {K : D -> Prop} (h : x = x') (h' : i = i') : pZ neg x i K = pZ neg x' i' K := by rw [h, h']
@[congr] theorem aAk {σ : St} {n : Nat} {ag : Bool} {x x' : D} {K : D -> Prop} (h : x = x') : aQg σ n ag x K = aQg σ n ag x' K := by rw [h]
def pX (C:Cx) (σ:St) (ev:Opd->D) (k:DK) (K:D->Prop):Prop:=
 match k with
 | .len x=>aJu (ev x) K
 | .idx sz x i=>aJ0 sz (ev x) (ev i) K
 | .bC neg x y=>pZ neg (ev x) (ev y) K
 | .load n ag x=>aQg σ n ag (ev x) K
 | .aJz zero ok m k=>aQe σ zero ok (ev m) (ev k) K
 | .aYb n zero ok m k=>jJ σ n zero ok (ev m) (ev k) K
 | .nck x=>aAu (ev x) K
 | k=>pW C σ ev k K
theorem bXn (C:Cx) (σ:St) (ev:Opd->D) (k:DK) (K:D->Prop):pX C σ ev k K=pW C σ ev k K:=by cases k <;> rfl
def opX (C:Cx) (σ:St) (ev:Opd->D) (k:DK) (K:D->St->Prop):Prop:=
 match k with
 | .box x=>opV C σ ev (.box x) K
 | .alloc z=>opV C σ ev (.alloc z) K
 | .store n a x=>bXb σ n (ev a) (ev x).cells K
 | .app sz bytes x y=>aR5 (C.own.contains 77777) σ sz bytes (ev x) (rowsOf σ sz (ev y)) K
 | .aX4 sz bytes zero len cap=>opV C σ ev (.aX4 sz bytes zero len cap) K
 | .aX3 sz len zero parts=>opV C σ ev (.aX3 sz len zero parts) K
 | .clr zero x=>opV C σ ev (.clr zero x) K
 | .cpy x y=>opV C σ ev (.cpy x y) K
 | .call fn args=>opV C σ ev (.call fn args) K
 | .mkm=>opV C σ ev .mkm K
 | .aW4 m k x=>aO0 σ (ev m) (ev k) (ev x) K
 | .kQ n m k x=>mR σ n (ev m) (ev k) (ev x) K
 | .aOm zero m k=>aDi σ zero (ev m) (ev k) K
 | .aOn m s x=>aDk σ (ev m) (ev s) (ev x) K
 | k=>pX C σ ev k (atK σ K)
theorem aNd (C:Cx) (σ:St) (ev:Opd->D) (k:DK) (K:D->St->Prop):opX C σ ev k K=opV C σ ev k K:=by cases k <;> first | rfl | (show pX _ _ _ _ _=_; rw [bXn]; rfl)
def aOk (C:Cx):List DOp->(Fr->St->Prop)->Fr->St->Prop
 | [],K,f,σ=>K f σ
 | ⟨dst,g,k⟩ :: rest,K,f,σ=>gd g f (opX C σ (evO f) k (bZ7 f dst (aOk C rest K))) (aOk C rest K (f.put dst .und) σ)
theorem gL (C:Cx) (K:Fr->St->Prop):∀ (ops:List DOp) (f:Fr) (σ:St),aOk C ops K f σ=qJ C ops f σ K
 | [],f,σ=>rfl
 | o :: rest,f,σ=>by
  have ih:aOk C rest K=fun f σ=>qJ C rest f σ K:=by funext f σ; exact gL C K rest f σ
  unfold aOk qJ;rw [bXr,aNd,ih];rfl
def aOj (C:Cx) (σ:St):List DOp->(Fr->Prop)->Fr->Prop
 | [],K,f=>K f
 | ⟨dst,g,k⟩ :: rest,K,f=>gd g f (pX C σ (evO f) k (bZ6 f dst (aOj C σ rest K))) (aOj C σ rest K (f.put dst .und))
theorem nP (C:Cx) (σ:St) (K:Fr->Prop):∀ (ops:List DOp) (f:Fr),aOj C σ ops K f=tY C σ ops f K
 | [],f=>rfl
 | o :: rest,f=>by
  have ih:aOj C σ rest K=fun f=>tY C σ rest f K:=by funext f; exact nP C σ K rest f
  unfold aOj tY;rw [bXr,bXn,ih];rfl
def aOz (C:Cx) (post:List DOp) (Q:Exit->Fr->St->Prop) (σ:St) (f:Fr):Prop:=aOk C post (iZ Q) f σ
def cdB (d:D) (p q:Prop):Prop:=
 match d with
 | .bool t=>if t=true then p else q
 | _=>False
theorem aFk (t:Bool) (p q:Prop):cdB (.bool t) p q=if t=true then p else q:=rfl
@[congr] theorem bZo {d d' : D} {p q : Prop} (h : d = d') : cdB d p q = cdB d' p q := by rw [h]
def aTm (C:Cx) (it:Nat) (m:Opd) (out nx more next pair:Nat) (rest:List DOp) (code:DC) (Q:Exit->Fr->St->Prop) (f:Fr) (σ:St):Prop:=aYk C it m out nx more next pair rest code f σ Q
@[congr] theorem aEx {C : Cx} {it : Nat} {m : Opd} {out nx more next pair : Nat} {rest : List DOp} {code : DC} {Q : Exit -> Fr -> St -> Prop} {f f' : Fr} {σ : St} (h : f = f') : aTm C it m out nx more next pair rest code Q f σ = aTm C it m out nx more next pair rest code Q f' σ := by rw [h]
def aN5 (C:Cx) (code:DC) (out next:Nat) (J:Fr->St->Prop) (Q:Exit->Fr->St->Prop) (f:Fr) (σ:St):Prop:=wpS C code f σ (pT next (kT J (pT out Q)))
@[congr] theorem aFw {C : Cx} {code : DC} {out next : Nat} {J : Fr -> St -> Prop} {Q : Exit -> Fr -> St -> Prop} {f f' : Fr} {σ : St} (h : f = f') : aN5 C code out next J Q f σ = aN5 C code out next J Q f' σ := by rw [h]
def aO4 (C:Cx) (k:DK) (K:Fr->D->St->Prop) (σ:St) (f1:Fr):Prop:=opX C σ (evO f1) k (K f1)
def eqF (f:Fr) (g:Fr):Prop:=g=f
def unK (C:Cx) (un:Bool) (mid:List DOp) (f1:Fr) (σ:St) (K:Fr->St->Prop) (σ1:St) (f2:Fr):Prop:=(if un=true then aOj C σ mid (eqF f2) f1 else True)/\ K f2 σ1
def aAw (C:Cx) (pre:List DOp) (dst:Option Nat) (mid:List DOp) (un:Bool) (post:List DOp) (Q:Exit->Fr->St->Prop) (f:Fr) (σ:St) (f1:Fr) (d:D) (σ1:St):Prop:= aOj C σ1 pre (eqF f1) f/\aOj C σ1 mid (unK C un mid (f1.put dst d) σ (aOk C post (iZ Q)) σ1) (f1.put dst d)
theorem aC9 {C:Cx} {pre:List DOp} {dst:Option Nat} {mid:List DOp} {un:Bool} {post:List DOp} {Q:Exit->Fr->St->Prop} {f:Fr} {σ:St} {f1:Fr} {d:D} {σ1:St} :
  aAw C pre dst mid un post Q f σ f1 d σ1=bXh C pre dst mid un f σ (fun f σ=>qJ C post f σ fun f σ=>Q .normal f σ) f1 d σ1:=by
 unfold aAw bXh;rw [nP,nP]
 have:unK C un mid (f1.put dst d) σ (aOk C post (iZ Q)) σ1=fun f2=>(if un=true then tY C σ mid (f1.put dst d) (fun g=>g=f2) else True)/\ qJ C post f2 σ1 fun f σ=>Q .normal f σ:=by funext f2;unfold unK;rw [nP,gL];rfl
 rw [this];rfl
def wpX (C:Cx):DC->(Exit->Fr->St->Prop)->Fr->St->Prop
 | .skip,Q,f,σ=>Q .normal f σ
 | .reg pre post,Q,f,σ=>aOj C σ pre (aOz C post Q σ) f
 | .aJs pre m mid un post,Q,f,σ=>aOj C σ pre (aO4 C m.k (aAw C pre m.dst mid un post Q f σ) σ) f
 | .aFy pre m1 mid1 m2 mid2 post,Q,f,σ=>wpD C (.aFy pre m1 mid1 m2 mid2 post) f σ Q
 | .seq a b,Q,f,σ=>wpX C a (kT (wpX C b Q) Q) f σ
 | .cond c a b,Q,f,σ=>cdB (evO f c) (wpX C a Q f σ) (wpX C b Q f σ)
 | .block id c,Q,f,σ=>wpX C c (pT id Q) f σ
 | .loop c,Q,f,σ=>wpS C (.loop c) f σ Q
 | .aOi g ps a c,Q,f,σ=>wpS C (.aOi g ps a c) f σ Q
 | .aW9 pre m1 mid1 m2 mid2 post free,Q,f,σ=>wpS C (.aW9 pre m1 mid1 m2 mid2 post free) f σ Q
 | .aTd pre m mid un post fl,Q,f,σ=>wpS C (.aTd pre m mid un post fl) f σ Q
 | .exit id,Q,f,σ=>Q (.exit id) f σ
 | .ret,Q,f,σ=>Q .ret f σ
 | .rng ..,_,_,_=>False
 | .nxt ..,_,_,_=>False
 | .ent ..,_,_,_=>False
 | .aX9 pre it m out nx more next pair rest code,Q,f,σ=>aOk C pre (aTm C it m out nx more next pair rest code Q) f σ
theorem gS (C:Cx):∀ (dc:DC) (Q:Exit->Fr->St->Prop) (f:Fr) (σ:St),wpX C dc Q f σ=wpD C dc f σ Q
 | .skip,Q,f,σ=>rfl
 | .reg pre post,Q,f,σ=>by
  unfold wpX wpD;rw [nP]
  have:aOz C post Q σ=fun f=>qJ C post f σ fun f σ=>Q .normal f σ:=by funext f;unfold aOz;rw [gL];rfl
  rw [this]
 | .aJs pre m mid un post,Q,f,σ=>by
  unfold wpX wpD;rw [nP]
  have:aO4 C m.k (aAw C pre m.dst mid un post Q f σ) σ=fun f1=>opV C σ (evO f1) m.k fun d σ1=>bXh C pre m.dst mid un f σ (fun f σ=>qJ C post f σ fun f σ=>Q .normal f σ) f1 d σ1:=by funext f1;unfold aO4;rw [aNd];congr 1;funext d σ1;exact aC9
  rw [this]
 | .aFy ..,Q,f,σ=>rfl
 | .seq a b,Q,f,σ=>by
  have ih:wpX C b Q=fun f σ=>wpD C b f σ Q:=by funext f σ; exact gS C b Q f σ
  unfold wpX;rw [gS C a,ih];rfl
 | .cond c a b,Q,f,σ=>by unfold wpX;rw [gS C a,gS C b];rfl
 | .block id c,Q,f,σ=>by unfold wpX; rw [gS C c]; rfl
 | .loop c,Q,f,σ=>rfl
 | .aOi g ps a c,Q,f,σ=>rfl
 | .aW9 ..,Q,f,σ=>rfl
 | .aTd ..,Q,f,σ=>rfl
 | .exit id,Q,f,σ=>rfl
 | .ret,Q,f,σ=>rfl
 | .rng ..,_,_,_=>rfl
 | .nxt ..,_,_,_=>rfl
 | .ent ..,_,_,_=>rfl
 | .aX9 pre it m out nx more next pair rest code,Q,f,σ=>by unfold wpX wpD; rw [gL]; rfl
noncomputable def aTk {α:Sort u} (a:α):α:=Classical.choose (⟨a,rfl⟩:∃ b:α,b=a)
theorem gB {α:Sort u} (a:α):aTk a=a:=Classical.choose_spec (⟨a,rfl⟩:∃ b:α,b=a)
noncomputable def aR0 (C:Cx):List DOp->(Fr->St->Prop)->Fr->St->Prop:=aTk (aOk C)
noncomputable def lB (C:Cx) (σ:St):List DOp->(Fr->Prop)->Fr->Prop:=aTk (aOj C σ)
noncomputable def wpZ (C:Cx):DC->(Exit->Fr->St->Prop)->Fr->St->Prop:=aTk (wpX C)
theorem kG (C:Cx):aR0 C=aOk C:=gB _
theorem nQ (C:Cx) (σ:St):lB C σ=aOj C σ:=gB _
theorem tD (C:Cx):wpZ C=wpX C:=gB _
section
variable (C : Cx) (σ : St) (f : Fr) (Q : Exit -> Fr -> St -> Prop) (K : Fr -> St -> Prop) (K1 : Fr -> Prop) (a b c : DC) (dst : Option Nat) (g : Option (Nat × Bool)) (k : DK) (rest pre post : List DOp) (x : Opd) (id : Nat)
theorem aHy : aR0 C [] K f σ=K f σ:=by rw [kG]; rfl
theorem aL4 : aR0 C (⟨dst,g,k⟩ :: rest) K f σ=gd g f (opX C σ (evO f) k (bZ7 f dst (aR0 C rest K))) (aR0 C rest K (f.put dst .und) σ):=by rw [kG]; rfl
theorem aSd : lB C σ [] K1 f=K1 f:=by rw [nQ]; rfl
theorem aL1 : lB C σ (⟨dst,g,k⟩ :: rest) K1 f=gd g f (pX C σ (evO f) k (bZ6 f dst (lB C σ rest K1))) (lB C σ rest K1 (f.put dst .und)):=by rw [nQ]; rfl
def aJ8 (C:Cx) (post:List DOp) (Q:Exit->Fr->St->Prop) (σ:St) (f:Fr):Prop:=aR0 C post (iZ Q) f σ
theorem aId : wpZ C .skip Q f σ=Q .normal f σ:=by rw [tD]; rfl
theorem aDp : wpZ C (.reg pre post) Q f σ=lB C σ pre (aJ8 C post Q σ) f:=by
 have e:aJ8 C post Q σ=aOz C post Q σ:=by funext f; unfold aJ8 aOz; rw [kG]
 rw [tD,nQ,e]; rfl
def bA (C:Cx) (k:DK) (K:Fr->D->St->Prop) (σ:St) (f1:Fr):Prop:=opX C σ (evO f1) k (K f1)
def unZ (C:Cx) (un:Bool) (mid:List DOp) (f1:Fr) (σ:St) (K:Fr->St->Prop) (σ1:St) (f2:Fr):Prop:=(if un=true then lB C σ mid (eqF f2) f1 else True)/\ K f2 σ1
def bZv (C:Cx) (pre:List DOp) (dst:Option Nat) (mid:List DOp) (un:Bool) (post:List DOp) (Q:Exit->Fr->St->Prop) (f:Fr) (σ:St) (f1:Fr) (d:D) (σ1:St):Prop:= lB C σ1 pre (eqF f1) f/\lB C σ1 mid (unZ C un mid (f1.put dst d) σ (aR0 C post (iZ Q)) σ1) (f1.put dst d)
theorem aIg {mid:List DOp} {un:Bool}:wpZ C (.aJs pre ⟨dst,g,k⟩ mid un post) Q f σ=lB C σ pre (bA C k (bZv C pre dst mid un post Q f σ) σ) f:=by
 have e:bA C k (bZv C pre dst mid un post Q f σ) σ=aO4 C k (aAw C pre dst mid un post Q f σ) σ:=by
  funext f1;unfold bA aO4;congr 1;funext d σ1;unfold bZv aAw
  have e2:unZ C un mid (f1.put dst d) σ (aR0 C post (iZ Q)) σ1=unK C un mid (f1.put dst d) σ (aOk C post (iZ Q)) σ1:=by funext f2; unfold unZ unK; rw [kG,nQ]
  rw [e2,nQ]
 rw [tD,nQ,e]; rfl
theorem aG9 (f:Fr):eqF f f=True:=eq_true rfl
theorem aDn : wpZ C (.seq a b) Q f σ=wpZ C a (kT (wpZ C b Q) Q) f σ:=by rw [tD]; rfl
theorem aIj : wpZ C (.cond x a b) Q f σ=cdB (evO f x) (wpZ C a Q f σ) (wpZ C b Q f σ):=by rw [tD]; rfl
theorem aM2 : wpZ C (.block id c) Q f σ=wpZ C c (pT id Q) f σ:=by rw [tD]; rfl
theorem aIh : wpZ C (.loop c) Q f σ=wpS C (.loop c) f σ Q:=by rw [tD]; rfl
theorem aIe {g:Opd} {ps:List Nat}:wpZ C (.aOi g ps a c) Q f σ=wpS C (.aOi g ps a c) f σ Q:=by rw [tD]; rfl
theorem aIi : wpZ C (.exit id) Q f σ=Q (.exit id) f σ:=by rw [tD]; rfl
theorem aDo : wpZ C .ret Q f σ=Q .ret f σ:=by rw [tD]; rfl
theorem aM1 {it:Nat} {m:Opd} {out nx more next pair:Nat} {rst:List DOp} {code:DC}:wpZ C (.aX9 pre it m out nx more next pair rst code) Q f σ=aR0 C pre (aTm C it m out nx more next pair rst code Q) f σ:=by rw [tD,kG]; rfl
end
theorem xQ {C:Cx} (hm:C.P.follows .mixedOrders=true) {dc:DC} {f:Fr} {σ:St} {Q:Exit->Fr->St->Prop} (h:wpZ C dc Q f σ):wpS C dc f σ Q:= aF5 hm (by rw [<- gS,<- tD]; exact h)
theorem xX.xP {P:Program} {g:FuncId} {fn:Func} {own:List Nat} {N:Nat} {dc:DC} {rs:List yS} {args:List D} {σ:St} {d:D} {σ':St} (hm:P.follows .mixedOrders=true) (hf:P.funcs[g]?=some fn)
  (hc:xT P own fn=some (N,dc,rs)) (hla:args.length<=N)
  (h:D.tE args->wpZ ⟨P,N,σ.nx,own,none⟩ dc (aO5 ⟨P,N,σ.nx,own,none⟩ rs d σ') (gT 0 args) σ):xX P g args σ d σ':=
 xX.bWv hm hf hc hla fun hfa=>by rw [<- gS,<- tD]; exact h hfa
end Go.Pd
namespace Go.Pd
open Go
theorem aRk (s:BitVec 64) (w:Nat):s >>> w &&& 1#64=if s.getLsbD w then 1#64 else 0#64:=by
 apply BitVec.eq_of_toNat_eq;rw [BitVec.toNat_and,BitVec.toNat_ushiftRight];have:(1#64).toNat=1:=rfl;rw [this,Nat.and_one_is_mod];unfold BitVec.getLsbD;rw [Nat.testBit_eq_decide_div_mod_eq,Nat.shiftRight_eq_div_pow]
 by_cases h:s.toNat / 2 ^ w % 2=1
 ·simp [h]
 ·simp [h]; omega
theorem aVq {k:Nat} (hk:k<62):aJr .i64 1 k=((2 ^ k:Nat):Int):=by
 have hp:2 ^ k<2 ^ 62:=Nat.pow_lt_pow_right (by omega) hk;unfold aJr
 have e:min (k:Int).toNat IntKind.i64.bits=k:=by have:IntKind.i64.bits=64:=rfl;rw [this,Int.toNat_natCast]; omega
 rw [e,Int.one_mul,wrap_i64]
 ·simp
 ·have:((2:Int)^ k)= ((2 ^ k:Nat):Int):=by simp
  rw [this];exact⟨Int.le_trans (by decide) (Int.natCast_nonneg _),Int.le_trans (Int.ofNat_le.2 (Nat.le_of_lt hp)) (by decide)⟩
theorem or_zero {a k:Nat} (h:a<2 ^ k) (hk:k<62):qI .or .i64 (a:Int) (aJr .i64 0 k)= (a:Int):=by
 have hp:2 ^ k<2 ^ 62:=Nat.pow_lt_pow_right (by omega) hk
 have e1:aJr .i64 0 k=0:=by unfold aJr;rw [Int.zero_mul]; rfl
 rw [e1];show IntKind.i64.wrap ((BitVec.ofInt 64 (a:Int) ||| BitVec.ofInt 64 0).toNat:Int)= _;rw [BitVec.ofInt_natCast,BitVec.toNat_or,BitVec.toNat_ofNat,Nat.mod_eq_of_lt (by omega)];have:(BitVec.ofInt 64 0).toNat=0:=rfl;rw [this,Nat.or_zero];exact wrap_i64 (by omega)
end Go.Pd
namespace Go.Pd
open Go
theorem zK (key sz:Nat):yX key sz [] = .xH:=rfl
theorem bW (key sz:Nat) (e:List D) (r:List (List D)):yX key sz (e :: r)= .osl key sz (r.length+1):=rfl
theorem zL (key sz:Nat):yW key sz [] = []:=rfl
theorem bZ (key sz:Nat) (e:List D) (r:List (List D)):yW key sz (e :: r)= [(key,⟨sz,e :: r⟩)]:=rfl
theorem oZ (k:IntKind):rows k [] = []:=rfl
theorem gA (k:IntKind) (n:Int) (l:List Int):rows k (n :: l)= [.int k n] :: rows k l:=rfl
theorem aY4 (k:IntKind) (l:List Int) (n:Int):rows k l ++ [[.int k n]]=rows k (l ++ [n]):=by simp [rows]
theorem aVs (l:List (List (BitVec 64))) (r:List (BitVec 64)):rr l ++ [[.sl 1 (us r)]]=rr (l ++ [r]):=by simp [rr,aAq]
theorem aEa : rr [] = []:=rfl
theorem aNu (l:List (BitVec 64)) (r:List (List (BitVec 64))):rr (l :: r)= [.sl 1 (us l)] :: rr r:=rfl
variable [sL]
theorem aKu {key m n sz:Nat} {els:List (List D)} (hs:0<sz) (hp:∀ e ∈ els,D.xU e=true) {ρ:Nat->Nat}:vw ⟨m,yW key sz els⟩ ⟨n,[]⟩ ρ (yX key sz els) (.sl sz els):=by
 cases els with
 | nil=>simp [yX,vw]
 | cons e r=> simp only [yX,yW,vw];refine⟨trivial,hs,by simp,⟨sz,e :: r⟩,by simp [St.get,St.look],rfl,Nat.le_refl _,by simp,hp⟩
theorem nB.name {n0 n m sz j:Nat} {els:List (List D)} {d d':D} (hn:n0<=n) (hp:∀ e ∈ els,D.xU e=true) (hv:vw ⟨m,[(j,⟨sz,els⟩)]⟩ ⟨n+1,[(n,⟨sz,els⟩)]⟩ (fun k=>if k=n then j else k) d d'):nB n0 ⟨m,[(j,⟨sz,els⟩)]⟩ d ⟨n+1,[(n,⟨sz,els⟩)]⟩ d':=by
 refine .inr ⟨fun k=>if k=n then j else k,by show n0<=n+1; omega,fun k hk=>if_neg (by omega),hv,?_,?_⟩
 ·intro p hp';simp only [List.mem_singleton] at hp';subst hp';exact⟨Nat.lt_succ_self n,⟨sz,els⟩,by simp [St.get,St.look],rfl,.same hp⟩
 ·intro p hp' q hq' _;simp only [List.mem_singleton] at hp' hq';rw [hp',hq']
end Go.Pd
namespace Go.Pd
open Go
def vS (sz:Nat):List (List D)->Option Ob
 | []=>none
 | e :: r=>some ⟨sz,e :: r⟩
theorem yK {k s:Nat} {els:List (List D)} {r:List (Nat × Ob)} {k':Nat}:St.look (yW k s els++r) k'=if k=k' then(vS s els).or (St.look r k') else St.look r k':=by
 cases els with
 | nil=>simp [yW,vS]
 | cons e l=>simp [yW,vS,St.look]
theorem nH {k s:Nat} {els:List (List D)} {k':Nat}:St.look (yW k s els) k'=if k=k' then vS s els else none:=by have:=yK (k:=k) (s:=s) (els:=els) (r:=[]) (k':=k');simp only [List.append_nil,St.look,Option.or_none] at this;exact this
theorem eI {k s:Nat} {els:List (List D)} {r:List (Nat × Ob)} {k':Nat}:yG (yW k s els++r) k'=if k=k' then yG r k' else yW k s els++yG r k':=by
 cases els with
 | nil=>simp [yW]
 | cons e l=>simp [yW,yG]
theorem aWy {k s:Nat} {els:List (List D)} {k':Nat}:yG (yW k s els) k'=if k=k' then [] else yW k s els:=by have:=eI (k:=k) (s:=s) (els:=els) (r:=[]) (k':=k');simp only [List.append_nil,yG] at this;exact this
theorem aTy : ∀ {r:List (Nat × Ob)} {k:Nat} {o:Ob},St.look r k=none->vV r k o=r
 | [],_,_,_=>rfl
 | (j,o') :: r,k,o,h=>by
  simp only [St.look] at h
  split at h
  ·cases h
  ·rename_i hn;simp only [vV,if_neg hn,aTy h]
theorem bR : ∀ {r:List (Nat × Ob)} {k:Nat},St.look r k=none->yG r k=r
 | [],_,_=>rfl
 | (j,o') :: r,k,h=>by
  simp only [St.look] at h
  split at h
  ·cases h
  ·rename_i hn;simp only [yG,if_neg hn,bR h]
theorem aYz {k s:Nat} {els els':List (List D)} {r:List (Nat × Ob)} (hl:els'.length=els.length) (h:St.look r k=none):vV (yW k s els++r) k ⟨s,els'⟩= yW k s els'++r:=by
 cases els with
 | nil=> have:els' = []:=List.eq_nil_of_length_eq_zero (by simpa using hl);subst this;simp only [yW,List.nil_append];exact aTy h
 | cons e l=>
  cases els' with
  | nil=>simp at hl
  | cons e' l'=>simp [yW,vV]
theorem cM {k s:Nat} {els els':List (List D)} (hl:els'.length=els.length):vV (yW k s els) k ⟨s,els'⟩= yW k s els':=by have:=aYz (k:=k) (s:=s) (r:=[]) hl rfl;simp only [List.append_nil] at this;exact this
theorem aWp {k s:Nat} {els:List (List D)} {r:List (Nat × Ob)} {k':Nat} {o:Ob} (h:k≠k'):vV (yW k s els++r) k' o=yW k s els++vV r k' o:=by
 cases els with
 | nil=>simp [yW]
 | cons e l=>simp [yW,vV,h]
theorem aU5 (k s:Nat) (els:List (List D)):(yX k s els).cells=some [yX k s els]:=by cases els <;> rfl
theorem aL6 (k s:Nat) (els:List (List D)):(yX k s els).one=true:=by cases els <;> rfl
theorem aJe (k s n:Nat):(D.osl k s n).cells=some [.osl k s n]:=rfl
theorem aJa (k s l n:Nat):(D.sub k s l n).cells=some [.sub k s l n]:=rfl
theorem aJf (k:IntKind) (n:Int):(D.int k n).cells=some [.int k n]:=rfl
theorem aP8 (b:Bool):(D.bool b).cells=some [.bool b]:=rfl
theorem aJb (s:ByteArray):(D.str s).cells=some [.str s]:=rfl
theorem aFh (sz:Nat) (els:List (List D)):(D.sl sz els).cells=some [.sl sz els]:=rfl
theorem aP3 : D.xH.cells=some [.xH]:=rfl
theorem aJg : D.emp.cells=some [.emp]:=rfl
theorem aJh (cs:List D):(D.agg cs).cells=some cs:=rfl
theorem aFi (f:FuncId) (cs:List D):(D.fn f cs).cells=some [.fn f cs]:=rfl
theorem aJc (a b c d:Nat):(D.ref a b c d).cells=some [.ref a b c d]:=rfl
theorem aJd (cs:List D):(D.ptr cs).cells=some [.ptr cs]:=rfl
theorem aP7 (k:Nat):(D.vJ k).cells=some [.vJ k]:=rfl
theorem aP4 : D.oE.cells=some [.oE]:=rfl
theorem aP5 : D.kV.cells=some [.kV]:=rfl
theorem aP6 : D.hZ.cells=some [.hZ]:=rfl
theorem aCu (k:IntKind) (n:Int):(D.int k n).one=true:=rfl
theorem aH5 (b:Bool):(D.bool b).one=true:=rfl
theorem aCo (s:ByteArray):(D.str s).one=true:=rfl
theorem bYk (sz:Nat) (els:List (List D)):(D.sl sz els).one=true:=rfl
theorem aH0 : D.xH.one=true:=rfl
theorem aCw : D.emp.one=true:=rfl
theorem bYl (f:FuncId) (cs:List D):(D.fn f cs).one=true:=rfl
theorem aCq (a b c d:Nat):(D.ref a b c d).one=true:=rfl
theorem aCs (a b c:Nat):(D.osl a b c).one=true:=rfl
theorem aCr (cs:List D):(D.ptr cs).one=true:=rfl
theorem aH4 (k:Nat):(D.vJ k).one=true:=rfl
theorem aH1 : D.oE.one=true:=rfl
theorem aH2 : D.kV.one=true:=rfl
theorem aH3 : D.hZ.one=true:=rfl
section
variable [sL]
theorem aJn {q:Bool} {σ:St} {sz bytes key:Nat} {els:List (List D)} {rw:List (List D)} {K:D->St->Prop} (h:σ.get key=vS sz els) (h0:rw ≠ []) :
  aR5 q σ sz bytes (yX key sz els) (some rw) K=((∀ r ∈ rw,wJ r=true)/\ (els.length+rw.length)* bytes<=140737488355328/\els.length+rw.length<=8000000000000 /\
   K (yX σ.nx sz (els++rw)) ⟨σ.nx+1,yW σ.nx sz (els++rw)++ yG σ.xS key⟩):=by
 cases els with
 | nil=>
  obtain⟨r,rs,rfl⟩:∃ r rs,rw=r :: rs:=by cases rw with | nil=>exact absurd rfl h0 | cons r rs=>exact⟨r,rs,rfl⟩
  have he:yG σ.xS key=σ.xS:=bR h;simp only [aR5,yX,yW,St.new,he,List.nil_append,List.length_nil,Nat.zero_add];simp
 | cons e l=>
  have e1:l.length+1+rw.length=l.length+rw.length+1:=by omega
  simp only [aR5,yX,h,vS,St.erase,St.new,yW];simp [yX,yW,e1]
theorem aOc {q:Bool} {nx:Nat} {xS:List (Nat × Ob)} {sz bytes key:Nat} {els:List (List D)} {r:List D} {rs:List (List D)} {K:D->St->Prop} (h:St.look xS key=vS sz els) :
  aR5 q ⟨nx,xS⟩ sz bytes (yX key sz els) (some (r :: rs)) K=((∀ x ∈ r :: rs,wJ x=true)/\ (els.length+(r :: rs).length)* bytes<=140737488355328/\els.length+(r :: rs).length<=8000000000000 /\
   K (yX nx sz (els++r :: rs)) ⟨nx+1,yW nx sz (els++r :: rs)++ yG xS key⟩):=aJn h (by simp)
theorem aFr {q:Bool} {σ:St} {sz bytes:Nat} {r:List D} {rs:List (List D)} {K:D->St->Prop} :
  aR5 q σ sz bytes .xH (some (r :: rs)) K=((∀ x ∈ r :: rs,wJ x=true)/\ (r :: rs).length*bytes<=140737488355328/\(r :: rs).length<=8000000000000/\K (.osl σ.nx sz (r :: rs).length) (σ.new ⟨sz,r :: rs⟩)):=by
 simp [aR5]
theorem aFq {q:Bool} {σ:St} {sz sz' bytes key n:Nat} {rows:List (List D)} {K:D->St->Prop} :
  aR5 q σ sz bytes (.osl key sz' n) (some rows) K=((∀ x ∈ rows,wJ x=true)/\ match σ.get key with
   | some ob=>sz=sz'/\ob.sz=sz/\n<=ob.els.length/\(n+rows.length)* bytes<=140737488355328/\n+rows.length<=8000000000000/\K (.osl σ.nx sz (n+rows.length)) ((σ.erase key).new ⟨sz,ob.els.take n++rows⟩)
   | none=>False):=rfl
def aEz (nx:Nat) (xS:List (Nat × Ob)) (n key sz i off:Nat) (ds:List D) (K:D->St->Prop):Option Ob->Prop
 | some ob=>ob.sz=sz/\i<ob.els.length/\ds.length=n/\off+n<=sz/\wJ ds=true/\K .und ⟨nx,vV xS key ⟨sz,ob.els.set i (dC (ob.els.getD i []) off ds)⟩⟩
 | none=>False
@[congr] theorem aA5 {nx : Nat} {xS : List (Nat × Ob)} {n key sz i off : Nat} {ds : List D} {K : D -> St -> Prop} {o o' : Option Ob} (h : o = o') : aEz nx xS n key sz i off ds K o = aEz nx xS n key sz i off ds K o' := by rw [h]
theorem aI2 {nx:Nat} {xS:List (Nat × Ob)} {n key sz i off:Nat} {ds:List D} {K:D->St->Prop}:bXb ⟨nx,xS⟩ n (.ref key sz i off) (some ds) K=aEz nx xS n key sz i off ds K (St.look xS key):=by simp only [bXb,St.get];cases St.look xS key <;> rfl
theorem aLa {nx:Nat} {xS:List (Nat × Ob)} {n key sz i off:Nat} {ds:List D} {K:D->St->Prop} {sz':Nat} {els:List (List D)} :
  aEz nx xS n key sz i off ds K (some ⟨sz',els⟩)= (sz'=sz/\i<els.length/\ds.length=n/\off+n<=sz/\wJ ds=true/\K .und ⟨nx,vV xS key ⟨sz,els.set i (dC (els.getD i []) off ds)⟩⟩):=rfl
theorem aLb {nx:Nat} {xS:List (Nat × Ob)} {n key sz i off:Nat} {ds:List D} {K:D->St->Prop} {els:List (List D)} :
  aEz nx xS n key sz i off ds K (vS sz els)= (i<els.length/\ds.length=n/\off+n<=sz/\wJ ds=true/\K .und ⟨nx,vV xS key ⟨sz,els.set i (dC (els.getD i []) off ds)⟩⟩):=by
 cases els with
 | nil=>simp [aEz,vS]
 | cons e l=>simp [aEz,vS]
def aVf (n:Nat) (ag:Bool) (sz i off:Nat) (K:D->Prop):Option Ob->Prop
 | some o=>o.sz=sz/\i<o.els.length/\off+n<=sz/\(ag=true\/n=1)/\ K (rB ag (((o.els.getD i []).drop off).take n))
 | none=>False
@[congr] theorem aAl {n sz i off : Nat} {ag : Bool} {K : D -> Prop} {o o' : Option Ob} (h : o = o') : aVf n ag sz i off K o = aVf n ag sz i off K o' := by rw [h]
theorem aKi {nx:Nat} {xS:List (Nat × Ob)} {n key sz i off:Nat} {ag:Bool} {K:D->Prop}:aQg ⟨nx,xS⟩ n ag (.ref key sz i off) K=aVf n ag sz i off K (St.look xS key):=by simp only [aQg,St.get];cases St.look xS key <;> rfl
theorem aPf {n sz i off:Nat} {ag:Bool} {K:D->Prop} {sz':Nat} {els:List (List D)}:aVf n ag sz i off K (some ⟨sz',els⟩)= (sz'=sz/\i<els.length/\off+n<=sz/\(ag=true\/n=1)/\ K (rB ag (((els.getD i []).drop off).take n))):=rfl
theorem aPg {n sz i off:Nat} {ag:Bool} {K:D->Prop} {els:List (List D)}:aVf n ag sz i off K (vS sz els)= (i<els.length/\off+n<=sz/\(ag=true\/n=1)/\ K (rB ag (((els.getD i []).drop off).take n))):=by
 cases els with
 | nil=>simp [aVf,vS]
 | cons e l=>simp [aVf,vS]
theorem aKj {σ:St} {n:Nat} {ag:Bool} {cs:List D} {K:D->Prop}:aQg σ n ag (.ptr cs) K=(n<=cs.length/\(ag=true\/n=1)/\ K (rB ag (cs.take n))):=rfl
def cX (kk:IntKind) (l:List (Int × D)):List (List D):=l.map fun p=>[.int kk p.1,p.2]
def uQ (x:Int):List (Int × D)->Nat->Option (Nat × D)
 | [],_=>none
 | (m,d) :: r,i=>if x=m then some (i,d) else uQ x r (i+1)
def aF3 (l:List (Int × D)) (x:Int) (d:D):List (Int × D):=
 match uQ x l 0 with
 | some (i,_)=>l.set i (x,d)
 | none=>l ++ [(x,d)]
theorem bY (kk:IntKind) (l:List (Int × D)):iW kk (cX kk l):=by intro row h;simp only [cX,List.mem_map] at h;obtain⟨p,_,rfl⟩:=h;exact⟨_,_,rfl⟩
theorem jU (kk:IntKind) (x:Int):∀ (l:List (Int × D)) (i:Nat),qD x (cX kk l) i=uQ x l i
 | [],_=>rfl
 | (m,d) :: r,i=>by show qD x ([.int kk m,d] :: cX kk r) i=_;rw [qD,uQ,jU kk x r (i+1)]
theorem aPa (kk:IntKind) (l:List (Int × D)) (x:Int) (d:D):aVe kk (cX kk l) x d=cX kk (aF3 l x d):=by
 unfold aVe aF3;rw [jU]
 cases uQ x l 0 with
 | none=>simp [cX]
 | some p=>simp [cX,List.map_set]
theorem iG : ∀ {a b:List Int},a.map (D.int .i64)= b.map (D.int .i64)->a=b
 | [],[],_=>rfl
 | [],_ :: _,h=>by simp at h
 | _ :: _,[],h=>by simp at h
 | x :: a,y :: b,h=>by simp only [List.map_cons,List.cons.injEq,D.int.injEq,true_and] at h;rw [h.1,iG h.2]
theorem aXs : ∀ {a b:List (List Int × D)},qF a=qF b->a=b
 | [],[],_=>rfl
 | [],_ :: _,h=>by simp [qF] at h
 | _ :: _,[],h=>by simp [qF] at h
 | (x,d) :: a,(y,e) :: b,h=>by simp only [qF,List.map_cons,List.cons.injEq,D.agg.injEq,and_true] at h;obtain⟨⟨h1,h2⟩,h3⟩:=h;rw [iG h1,h2,aXs (a:=a) (b:=b) h3]
theorem fO {nx:Nat} {xS:List (Nat × Ob)} {n:Nat} {zero:D} {ok:Bool} {key:Nat} {x:List Int} {l:List (List Int × D)} {cs:List D} {K:D->Prop} (hg:St.look xS key=some ⟨0,qF l⟩) (hc:cs=x.map (D.int .i64)) (hx:x.length=n) (hl:∀ p ∈ l,p.1.length=n) :
  jJ ⟨nx,xS⟩ n zero ok (.vJ key) (.agg cs) K=K (gX ok zero (pS x l 0)):=by
 subst hc;simp only [jJ,St.get,hg];refine propext ⟨fun h=>?_,fun h=>⟨trivial,x,l,⟨rfl,rfl,hx,hl⟩,h⟩⟩;obtain⟨_,x',l',⟨h1,h2,_,_⟩,h3⟩:=h;rw [iG h1,aXs h2]; exact h3
theorem aQ8 {nx:Nat} {xS:List (Nat × Ob)} {n:Nat} {key:Nat} {y:List Int} {l:List (List Int × D)} {cs:List D} {x:D} {K:D->St->Prop} (hg:St.look xS key=some ⟨0,qF l⟩) (hc:cs=y.map (D.int .i64)) (hx:y.length=n) (hl:∀ p ∈ l,p.1.length=n) :
  mR ⟨nx,xS⟩ n (.vJ key) (.agg cs) x K=K .und ⟨nx,vV xS key ⟨0,qF (aY y x l)⟩⟩:=by
 subst hc;simp only [mR,St.get,hg,St.set];refine propext ⟨fun h=>?_,fun h=>⟨trivial,y,l,⟨rfl,rfl,hx,hl⟩,h⟩⟩;obtain⟨_,x',l',⟨h1,h2,_,_⟩,h3⟩:=h;rw [iG h1,aXs h2]; exact h3
theorem fQ {nx:Nat} {xS:List (Nat × Ob)} {n:Nat} {key:Nat} {y:List Int} {l:List (List Int × D)} {cs:List D} {x:D} {K:D->St->Prop} (hg:St.look xS key=some ⟨0,qF l⟩) (hc:cs=y.map (D.int .i64)) (hx:y.length=n) (hl:∀ p ∈ l,p.1.length=n) (hno:pS y l 0=none) :
  mR ⟨nx,xS⟩ n (.vJ key) (.agg cs) x K=K .und ⟨nx,vV xS key ⟨0,qF (l ++ [(y,x)])⟩⟩:=by
 rw [aQ8 hg hc hx hl,show aY y x l=l ++ [(y,x)] by unfold aY; rw [hno]]
def aQf (kk:IntKind) (x:Int) (zero:D) (ok:Bool) (K:D->Prop):Option Ob->Prop
 | some o=>o.sz=0/\iW kk o.els/\K (gX ok zero (qD x o.els 0))
 | none=>False
@[congr] theorem aAi {kk : IntKind} {x : Int} {zero : D} {ok : Bool} {K : D -> Prop} {o o' : Option Ob} (h : o = o') : aQf kk x zero ok K o = aQf kk x zero ok K o' := by rw [h]
theorem aPe {nx:Nat} {xS:List (Nat × Ob)} {zero:D} {ok:Bool} {key:Nat} {kk:IntKind} {x:Int} {K:D->Prop}:aQe ⟨nx,xS⟩ zero ok (.vJ key) (.int kk x) K=aQf kk x zero ok K (St.look xS key):=by simp only [aQe,St.get];cases St.look xS key <;> rfl
theorem aPd {σ:St} {zero:D} {ok:Bool} {kk:IntKind} {x:Int} {K:D->Prop}:aQe σ zero ok .kV (.int kk x) K=K (gX ok zero none):=rfl
theorem cD {kk:IntKind} {x:Int} {zero:D} {ok:Bool} {K:D->Prop} {l:List (Int × D)}:aQf kk x zero ok K (some ⟨0,cX kk l⟩)= K (gX ok zero (uQ x l 0)):=by simp only [aQf,jU];exact propext ⟨fun h=>h.2.2,fun h=>⟨trivial,bY kk l,h⟩⟩
theorem aKg {kk:IntKind} {x:Int} {zero:D} {ok:Bool} {K:D->Prop}:aQf kk x zero ok K (some ⟨0,[]⟩)= K (gX ok zero none):=cD (l:=[])
def aQb (nx:Nat) (xS:List (Nat × Ob)) (key:Nat) (kk:IntKind) (y:Int) (x:D) (K:D->St->Prop):Option Ob->Prop
 | some o=>o.sz=0/\iW kk o.els/\K .und ⟨nx,vV xS key ⟨0,aVe kk o.els y x⟩⟩
 | none=>False
@[congr] theorem aAg {nx : Nat} {xS : List (Nat × Ob)} {key : Nat} {kk : IntKind} {y : Int} {x : D} {K : D -> St -> Prop} {o o' : Option Ob} (h : o = o') : aQb nx xS key kk y x K o = aQb nx xS key kk y x K o' := by rw [h]
theorem aQ9 {nx:Nat} {xS:List (Nat × Ob)} {key:Nat} {kk:IntKind} {y:Int} {x:D} {K:D->St->Prop}:aO0 ⟨nx,xS⟩ (.vJ key) (.int kk y) x K=aQb nx xS key kk y x K (St.look xS key):=by simp only [aO0,St.get];cases St.look xS key <;> rfl
theorem cG {nx:Nat} {xS:List (Nat × Ob)} {key:Nat} {kk:IntKind} {y:Int} {x:D} {K:D->St->Prop} {l:List (Int × D)}:aQb nx xS key kk y x K (some ⟨0,cX kk l⟩)= K .und ⟨nx,vV xS key ⟨0,cX kk (aF3 l y x)⟩⟩:=by simp only [aQb,aPa];exact propext ⟨fun h=>h.2.2,fun h=>⟨trivial,bY kk l,h⟩⟩
theorem aKc {nx:Nat} {xS:List (Nat × Ob)} {key:Nat} {kk:IntKind} {y:Int} {x:D} {K:D->St->Prop}:aQb nx xS key kk y x K (some ⟨0,[]⟩)= K .und ⟨nx,vV xS key ⟨0,cX kk [(y,x)]⟩⟩:=cG (l:=[])
theorem aKb (zero:D):gX true zero none = .tup [zero,.bool false]:=rfl
theorem aKa (zero:D) (i:Nat) (d:D):gX true zero (some (i,d))= .tup [d,.bool true]:=rfl
theorem aQ7 (zero:D):gX false zero none=zero:=rfl
theorem aQ6 (zero:D) (i:Nat) (d:D):gX false zero (some (i,d))= d:=rfl
theorem aBa {sz:Nat} {els:List (List D)} {K:D->Prop}:aJu (.sl sz els) K=K (.int .i64 els.length):=rfl
theorem aGu {k sz n:Nat} {K:D->Prop}:aJu (.osl k sz n) K=K (.int .i64 n):=rfl
theorem aGt {k sz lo n:Nat} {K:D->Prop}:aJu (.sub k sz lo n) K=K (.int .i64 n):=rfl
theorem aGz {sz key sz' lo len:Nat} {k:IntKind} {n:Int} {K:D->Prop}:aJ0 sz (.sub key sz' lo len) (.int k n) K=(sz=sz'/\0<=n/\n<len/\K (.ref key sz (lo+n.toNat) 0)):=rfl
theorem aKl {K:D->Prop}:aJu .xH K=K (.int .i64 0):=rfl
theorem aGv {K:D->Prop}:aJu .emp K=K (.int .i64 0):=rfl
theorem aBi {sz sz':Nat} {els:List (List D)} {k:IntKind} {n:Int} {K:D->Prop}:aJ0 sz (.sl sz' els) (.int k n) K=(sz=sz'/\0<=n/\n<els.length/\K (.ptr (els.getD n.toNat []))):=rfl
theorem aG0 {sz key sz' len:Nat} {k:IntKind} {n:Int} {K:D->Prop}:aJ0 sz (.osl key sz' len) (.int k n) K=(sz=sz'/\0<=n/\n<len/\K (.ref key sz n.toNat 0)):=rfl
theorem aGe {neg:Bool} {K:D->Prop}:pZ neg .xH .xH K=K (.bool (!neg)):=rfl
theorem aGd {neg:Bool} {K:D->Prop} {a b c:Nat}:pZ neg (.osl a b c) .xH K=K (.bool neg):=rfl
theorem aGc {neg:Bool} {K:D->Prop} {a b c:Nat}:pZ neg .xH (.osl a b c) K=K (.bool neg):=rfl
theorem aGb {neg:Bool} {K:D->Prop}:pZ neg .emp .xH K=K (.bool neg):=rfl
theorem aGa {neg:Bool} {K:D->Prop}:pZ neg .xH .emp K=K (.bool neg):=rfl
theorem aH9 {neg:Bool} {K:D->Prop} {sz:Nat} {e:List D} {r:List (List D)}:pZ neg (.sl sz (e :: r)) .xH K=K (.bool neg):=rfl
def bZ0 (nx:Nat) (xS:List (Nat × Ob)) (sz sz' bytes key n:Nat) (rows:List (List D)) (K:D->St->Prop):Option Ob->Prop
 | some ob=>sz=sz'/\ob.sz=sz/\n<=ob.els.length/\(n+rows.length)* bytes<=140737488355328/\n+rows.length<=8000000000000/\K (.osl nx sz (n+rows.length)) ⟨nx+1,(nx,⟨sz,ob.els.take n++rows⟩) :: yG xS key⟩
 | none=>False
@[congr] theorem bXa {nx : Nat} {xS : List (Nat × Ob)} {sz sz' bytes key n : Nat} {rows : List (List D)} {K : D -> St -> Prop} {o o' : Option Ob} (h : o = o') : bZ0 nx xS sz sz' bytes key n rows K o = bZ0 nx xS sz sz' bytes key n rows K o' := by rw [h]
theorem aJm {q:Bool} {nx:Nat} {xS:List (Nat × Ob)} {sz sz' bytes key n:Nat} {rows:List (List D)} {K:D->St->Prop} :
  aR5 q ⟨nx,xS⟩ sz bytes (.osl key sz' n) (some rows) K=((∀ x ∈ rows,wJ x=true)/\ bZ0 nx xS sz sz' bytes key n rows K (St.look xS key)):=by
 rw [aFq];simp only [St.get];cases St.look xS key <;> rfl
theorem aJo {nx:Nat} {xS:List (Nat × Ob)} {sz sz' bytes key n:Nat} {rows:List (List D)} {K:D->St->Prop} {sz0:Nat} {els:List (List D)} :
  bZ0 nx xS sz sz' bytes key n rows K (some ⟨sz0,els⟩)= (sz=sz'/\sz0=sz/\n<=els.length/\(n+rows.length)* bytes<=140737488355328/\n+rows.length<=8000000000000/\K (.osl nx sz (n+rows.length)) ⟨nx+1,(nx,⟨sz,els.take n++rows⟩) :: yG xS key⟩):=rfl
def aIc (q:Bool) (nx:Nat) (xS:List (Nat × Ob)) (sz sz' bytes key lo n:Nat) (rows:List (List D)) (K:D->St->Prop):Option Ob->Prop
 | some ob=>q=true/\sz=sz'/\ob.sz=sz/\lo+n<=ob.els.length/\(n+rows.length)* bytes<=140737488355328/\n+rows.length<=8000000000000 /\
  ∀ pre:List (List D),(pre = []\/pre=ob.els.take lo)->K (.sub nx sz pre.length (n+rows.length)) ⟨nx+1,(nx,⟨sz,pre++((ob.els.drop lo).take n++rows)⟩) :: yG xS key⟩
 | none=>False
@[congr] theorem aAp {q : Bool} {nx : Nat} {xS : List (Nat × Ob)} {sz sz' bytes key lo n : Nat} {rows : List (List D)} {K : D -> St -> Prop} {o o' : Option Ob} (h : o = o') : aIc q nx xS sz sz' bytes key lo n rows K o = aIc q nx xS sz sz' bytes key lo n rows K o' := by rw [h]
theorem aJl {q:Bool} {nx:Nat} {xS:List (Nat × Ob)} {sz sz' bytes key lo n:Nat} {rows:List (List D)} {K:D->St->Prop} :
  aR5 q ⟨nx,xS⟩ sz bytes (.sub key sz' lo n) (some rows) K=((∀ x ∈ rows,wJ x=true)/\ aIc q nx xS sz sz' bytes key lo n rows K (St.look xS key)):=by
 simp only [aR5,St.get];cases St.look xS key <;> rfl
theorem aOd {q:Bool} {nx:Nat} {xS:List (Nat × Ob)} {sz sz' bytes key lo n:Nat} {rows:List (List D)} {K:D->St->Prop} {sz0:Nat} {els:List (List D)} :
  aIc q nx xS sz sz' bytes key lo n rows K (some ⟨sz0,els⟩)= (q=true/\sz=sz'/\sz0=sz/\lo+n<=els.length/\(n+rows.length)* bytes<=140737488355328/\n+rows.length<=8000000000000 /\
   ∀ pre:List (List D),(pre = []\/pre=els.take lo)->K (.sub nx sz pre.length (n+rows.length)) ⟨nx+1,(nx,⟨sz,pre++((els.drop lo).take n++rows)⟩) :: yG xS key⟩):=rfl
theorem aKm {key sz:Nat} {els:List (List D)} {K:D->Prop}:aJu (yX key sz els) K=K (.int .i64 els.length):=by cases els <;> simp [aJu,yX]
theorem aKr {key sz sz':Nat} {els:List (List D)} {k:IntKind} {n:Int} {K:D->Prop}:aJ0 sz' (yX key sz els) (.int k n) K=(sz'=sz/\0<=n/\n<els.length/\K (.ref key sz n.toNat 0)):=by
 cases els with
 | nil=>simp only [aJ0,yX,List.length_nil]; simp; intro _ h1 h2; omega
 | cons e l=>simp [aJ0,yX]; rintro rfl _ _; rfl
theorem aUp {key sz:Nat} {neg:Bool} {els:List (List D)} {K:D->Prop}:pZ neg (yX key sz els) .xH K=K (.bool (if neg then !els.isEmpty else els.isEmpty)):=by cases els <;> cases neg <;> simp [pZ,yX]
def sw : List (Nat × Nat)->Nat->Nat
 | [],k=>k
 | (a,b) :: r,k=>if k=a then b else sw r k
def uO (els:List (List D)):Prop:=∀ e ∈ els,D.xU e=true
theorem yC (l:List (BitVec 64)):uO (us l)= True:=eq_true (rT l)
theorem sF (l:List (List (BitVec 64))):uO (rr l)= True:=eq_true (aVt l)
theorem aQ3 (k:IntKind) (l:List Int):uO (rows k l)= True:=eq_true (uS k l)
theorem aLz : uO []=True:=by simp [uO]
theorem aQ4 {kk:IntKind} {l:List (Int × D)} (h:∀ p ∈ l,p.2.xG=true):uO (cX kk l):=by intro e he;simp only [cX,List.mem_map] at he;obtain⟨p,hp,rfl⟩:=he;simp [D.xU,D.xG,h p hp]
theorem aWv (a b:List (List D)):uO (a++b)= (uO a/\uO b):=by simp only [uO,List.mem_append];exact propext ⟨fun h=>⟨fun e he=>h e (.inl he),fun e he=>h e (.inr he)⟩,fun h e he=>he.elim (h.1 e) (h.2 e)⟩
theorem aLx (l:List (BitVec 64)) (i:Nat) (s:BitVec 64):uO ((us l).set i [.int .u64 (ui s)])= True:=by rw [mS,yC]
theorem aDt {σ σ':St} {ρ:Nat->Nat} {a b sz:Nat} {els:List (List D)}:vw σ σ' ρ (yX a sz els) (yX b sz els)= (els = []\/(b<σ'.nx/\a=ρ b)):=by
 cases els with
 | nil=>simp [yX,vw]
 | cons e l=>simp [yX,vw]
def bVt (σ':St) (ρ:Nat->Nat) (k0:Nat):Prop:=∀ p ∈ σ'.xS,ρ p.1≠k0
theorem aQk {σ σ':St} {ρ:Nat->Nat} {k0 sz:Nat} {els:List (List D)} (hs:0<sz) (h:bVt σ' ρ k0) (hg:σ.get k0=vS sz els) (hp:uO els):vw σ σ' ρ (yX k0 sz els) (.sl sz els)= True:=by
 cases els with
 | nil=>simp [yX,vw]
 | cons e l=> refine eq_true ?_;simp only [yX,vw];exact⟨trivial,hs,h,⟨sz,e :: l⟩,hg,rfl,Nat.le_refl _,by simp,hp⟩
def vwQ (σ σ':St) (ρ:Nat->Nat) (as bs:List (List D)):Prop:=vwE σ σ' ρ as bs
theorem aIr {σ σ':St} {ρ:Nat->Nat} {els:List (List D)} (h:uO els):vwQ σ σ' ρ els els=True:=eq_true (.same h)
end
section
variable [sL]
theorem aTs {σ σ':St} {ρ:Nat->Nat}:∀ {a:List D},D.xU a=true->vwL σ σ' ρ a a:=by
 intro a h
 have key:∀ d:D,d.xG=true->vw σ σ' ρ d d:=by
  intro d
  refine D.rec (motive_1:=fun d=>d.xG=true->vw σ σ' ρ d d) (motive_2:=fun _=>True) (motive_3:=fun cs=>D.xU cs=true->vwL σ σ' ρ cs cs)
   ?top ?und ?int ?bool ?str ?sl ?xH ?emp ?agg ?tup ?fn ?ref ?osl ?sub ?ptr ?vJ ?oE ?kV ?hZ ?adr trivial (fun _ _ _ _=>trivial) ?nil ?cons d
  case agg=>intro cs ih h; simp only [D.xG] at h; simp only [vw]; exact⟨trivial,ih h⟩
  case tup=>intro cs ih h; simp only [D.xG] at h; simp only [vw]; exact⟨trivial,ih h⟩
  case fn=>intro f cs ih h; simp only [D.xG] at h; simp only [vw]; exact⟨trivial,trivial,ih h⟩
  case ref=>intro k sz i off h; simp [D.xG] at h
  case osl=>intro k sz n h; simp [D.xG] at h
  case sub=>intro k sz lo n h; simp [D.xG] at h
  case vJ=>intro k h; simp [D.xG] at h
  case nil=>intro _; simp [vwL]
  case cons=> intro d r h1 h2 h;simp only [D.xU,Bool.and_eq_true] at h;simp only [vwL];exact⟨h1 h.1,h2 h.2⟩
  case ptr=>intro cs _ _; simp [vw]
  all_goals intros; simp [vw]
 induction a with
 | nil=>simp [vwL]
 | cons d r ih=> simp only [D.xU,Bool.and_eq_true] at h;simp only [vwL];exact⟨key d h.1,ih h.2⟩
theorem aTt {σ σ':St} {ρ:Nat->Nat}:∀ {els:List (List D)} {a b:List D},uO els->a.length=b.length->vwL σ σ' ρ a b->vwE σ σ' ρ (els ++ [a]) (els ++ [b])
 | [],a,b,_,hl,h=>.cons hl h .nil
 | e :: r,a,b,hp,hl,h=>.cons rfl (aTs (hp e (by simp))) (aTt (fun x hx=>hp x (by simp [hx])) hl h)
theorem bX2 {σ σ':St} {ρ:Nat->Nat} {els:List (List D)} {a b:List D} (h:vwQ σ σ' ρ (els ++ [a]) (els ++ [b])):a.length=b.length/\vwL σ σ' ρ a b:=by
 have:=(aW (show vwE σ σ' ρ (els ++ [a]) (els ++ [b]) from h)).2 els.length (by simp);have e1:∀ x:List D,(els ++ [x]).getD els.length []=x:=by intro x; simp [List.getD]
 rw [e1,e1] at this;refine⟨this.1,?_⟩
 rcases this.2 with h | ⟨h1,h2⟩
 ·exact h
 ·rw [h1]; exact aTs h2
theorem aK {σ σ':St} {ρ:Nat->Nat} {els:List (List D)} {a b:List D} (hp:uO els):vwQ σ σ' ρ (els ++ [a]) (els ++ [b])= (a.length=b.length/\vwL σ σ' ρ a b):= propext ⟨fun h=>bX2 h,fun h=>aTt hp h.1 h.2⟩
theorem aDu {σ σ':St} {ρ:Nat->Nat} {a b:List D}:vwQ σ σ' ρ [a] [b]=(a.length=b.length/\vwL σ σ' ρ a b):=aK (els:=[]) (by simp [uO])
theorem bX1 {σ σ':St} {ρ:Nat->Nat} {l:List (List (BitVec 64))} {r:List (BitVec 64)} {x:D}:vwQ σ σ' ρ (rr l ++ [[x]]) (rr (l ++ [r]))= vwL σ σ' ρ [x] [.sl 1 (us r)]:=by rw [<- aVs,aK (aVt l)];simp
def yQ (σ σ':St) (ρ:Nat->Nat) (p:Nat × Ob):Prop:=p.1<σ'.nx/\∃ ob,σ.get (ρ p.1)= some ob/\ob.sz=p.2.sz/\vwQ σ σ' ρ ob.els p.2.els
def kR (σ σ':St) (ρ:Nat->Nat) (l:List (Nat × Ob)):Prop:=∀ p ∈ l,yQ σ σ' ρ p
theorem gC {σ σ':St} {ρ:Nat->Nat}:kR σ σ' ρ []=True:=by simp [kR]
theorem jW {σ σ':St} {ρ:Nat->Nat} {p:Nat × Ob} {l:List (Nat × Ob)}:kR σ σ' ρ (p :: l)= (yQ σ σ' ρ p/\kR σ σ' ρ l):=by simp [kR]
theorem cO {σ σ':St} {ρ:Nat->Nat} {k sz:Nat} {els:List (List D)} {l:List (Nat × Ob)} (hk:k<σ'.nx) (hg:σ.get (ρ k)= vS sz els) (hp:uO els):kR σ σ' ρ (yW k sz els++l)= kR σ σ' ρ l:=by
 cases els with
 | nil=>rfl
 | cons e r=> simp only [yW,List.cons_append,List.nil_append,jW];refine propext ⟨fun h=>h.2,fun h=>⟨⟨hk,⟨sz,e :: r⟩,hg,rfl,.same hp⟩,h⟩⟩
theorem aUi {σ σ':St} {ρ:Nat->Nat} {k sz:Nat} {els:List (List D)} (hk:k<σ'.nx) (hg:σ.get (ρ k)= vS sz els) (hp:uO els):kR σ σ' ρ (yW k sz els)= True:=by have:=cO (l:=[]) hk hg hp;rw [List.append_nil,gC] at this;exact this
theorem aG2 {sz:Nat} {els:List (List D)} (h:els ≠ []):vS sz els=some ⟨sz,els⟩:=by
 cases els with
 | nil=>exact absurd rfl h
 | cons e r=>rfl
theorem eU {σ σ':St} {ρ:Nat->Nat} {k sz:Nat} {els els':List (List D)} {l:List (Nat × Ob)} (hk:k<σ'.nx) (hg:σ.get (ρ k)= vS sz els') (hq:vwQ σ σ' ρ els' els):kR σ σ' ρ (yW k sz els++l)= kR σ σ' ρ l:=by
 cases els with
 | nil=>rfl
 | cons e r=>
  have hne:els' ≠ []:=by rintro rfl;have:=(aW (show vwE σ σ' ρ [] (e :: r) from hq)).1;simp at this
  simp only [yW,List.cons_append,List.nil_append,jW];refine propext ⟨fun h=>h.2,fun h=>⟨⟨hk,⟨sz,els'⟩,?_,rfl,hq⟩,h⟩⟩;rw [hg,aG2 hne]
theorem aWn {σ σ':St} {ρ:Nat->Nat} {k sz:Nat} {els els':List (List D)} (hk:k<σ'.nx) (hg:σ.get (ρ k)= vS sz els') (hq:vwQ σ σ' ρ els' els):kR σ σ' ρ (yW k sz els)= True:=by have:=eU (l:=[]) hk hg hq;rw [List.append_nil,gC] at this;exact this
def inL (ks:List Nat) (l:List (Nat × Ob)):Prop:=∀ p ∈ l,p.1 ∈ ks
theorem aMb {ks:List Nat}:inL ks []=True:=by simp [inL]
theorem aS2 {ks:List Nat} {p:Nat × Ob} {l:List (Nat × Ob)}:inL ks (p :: l)= (p.1 ∈ ks/\inL ks l):=by simp [inL]
theorem aS1 {ks:List Nat} {k sz:Nat} {els:List (List D)} {l:List (Nat × Ob)} (h:k ∈ ks):inL ks (yW k sz els++l)= inL ks l:=by
 cases els with
 | nil=>rfl
 | cons e r=>simp [yW,aS2,h]
theorem aKq {ks:List Nat} {k sz:Nat} {els:List (List D)} (h:k ∈ ks):inL ks (yW k sz els)= True:=by have:=aS1 (sz:=sz) (els:=els) (l:=[]) h;rw [List.append_nil,aMb] at this;exact this
def aX (ρ:Nat->Nat) (k0:Nat) (l:List (Nat × Ob)):Prop:=∀ p ∈ l,ρ p.1≠k0
theorem aB9 {σ':St} {ρ:Nat->Nat} {k0:Nat}:bVt σ' ρ k0=aX ρ k0 σ'.xS:=propext Iff.rfl
theorem aWb {ρ:Nat->Nat} {k0:Nat}:aX ρ k0 []=True:=by simp [aX]
theorem bL {ρ:Nat->Nat} {k0:Nat} {p:Nat × Ob} {l:List (Nat × Ob)}:aX ρ k0 (p :: l)= (ρ p.1≠k0/\aX ρ k0 l):=by simp [aX]
theorem bM {ρ:Nat->Nat} {k0 k sz:Nat} {els:List (List D)} {l:List (Nat × Ob)}:aX ρ k0 (yW k sz els++l)= ((els = []\/ρ k≠k0)/\ aX ρ k0 l):=by
 cases els with
 | nil=>simp [yW]
 | cons e r=>simp [yW,bL]
theorem aU7 {ρ:Nat->Nat} {k0 k sz:Nat} {els:List (List D)}:aX ρ k0 (yW k sz els)= (els = []\/ρ k≠k0):=by have:=bM (ρ:=ρ) (k0:=k0) (k:=k) (sz:=sz) (els:=els) (l:=[]);rw [List.append_nil,aWb,and_true] at this;exact this
theorem xI.ren {C:Cx} {f f':Fr} {σ σ':St} (l:List (Nat × Nat)) (ks:List Nat) (hn:C.n0<=σ'.nx) (h0:∀ p ∈ l,C.n0<=p.1) (hd:(ks.map (sw l)).Nodup)
  (h:inL ks σ'.xS/\kR σ σ' (sw l) σ'.xS/\vwF σ σ' (sw l) f f'):xI C f σ f' σ':=by
 obtain⟨hk,hs,hf⟩:=h
 refine xI.view (sw l) hn ?_ hf ?_ ?_
 ·intro k hk
  induction l with
  | nil=>rfl
  | cons p l ih=>
   obtain⟨a,b⟩:=p;have:C.n0<=a:=h0 (a,b) (by simp);simp only [sw];rw [if_neg (by omega)];have hm:∀ p ∈ l,C.n0<=p.1:=fun p hp=>h0 p (by simp [hp]);clear ih hd hs hf h0
   induction l with
   | nil=>rfl
   | cons q l ih=> obtain⟨c,d⟩:=q;have:C.n0<=c:=hm (c,d) (by simp);simp only [sw];rw [if_neg (by omega)];exact ih fun p hp=>hm p (by simp [hp])
 ·intro p hp;obtain⟨h1,ob,h2,h3,h4⟩:=hs p hp;exact⟨h1,ob,h2,h3,h4⟩
 ·intro p hp q hq e;have h1:=hk p hp;have h2:=hk q hq
  have inj:∀ (ks:List Nat),(ks.map (sw l)).Nodup->∀ a ∈ ks,∀ b ∈ ks,sw l a=sw l b->a=b:=by
   intro ks
   induction ks with
   | nil=>intro _ a ha; simp at ha
   | cons x ks ih=>
    intro hd a ha b hb e;simp only [List.map_cons,List.nodup_cons,List.mem_map,not_exists,not_and] at hd
    rcases List.mem_cons.1 ha with h1 | h1 <;> rcases List.mem_cons.1 hb with h2 | h2
    ·rw [h1,h2]
    ·rw [h1] at e; exact absurd e.symm (hd.1 b h2)
    ·rw [h2] at e; exact absurd e (hd.1 a h1)
    ·exact ih hd.2 a h1 b h2 e
  exact inj ks hd _ h1 _ h2 e
theorem nB.ren {n0:Nat} {σ σ':St} {d d':D} (l:List (Nat × Nat)) (ks:List Nat) (hn:n0<=σ'.nx) (h0:∀ p ∈ l,n0<=p.1) (hd:(ks.map (sw l)).Nodup)
  (h:inL ks σ'.xS/\kR σ σ' (sw l) σ'.xS/\vw σ σ' (sw l) d d'):nB n0 σ d σ' d':=by
 obtain⟨hk,hs,hf⟩:=h
 refine .inr ⟨sw l,hn,?_,hf,?_,?_⟩
 ·intro k hk;have hm:∀ p ∈ l,n0<=p.1:=h0;clear hd hs hf h0
  induction l with
  | nil=>rfl
  | cons q l ih=> obtain⟨c,d⟩:=q;have:n0<=c:=hm (c,d) (by simp);simp only [sw];rw [if_neg (by omega)];exact ih fun p hp=>hm p (by simp [hp])
 ·intro p hp;obtain⟨h1,ob,h2,h3,h4⟩:=hs p hp;exact⟨h1,ob,h2,h3,h4⟩
 ·intro p hp q hq e;have h1:=hk p hp;have h2:=hk q hq
  have inj:∀ (ks:List Nat),(ks.map (sw l)).Nodup->∀ a ∈ ks,∀ b ∈ ks,sw l a=sw l b->a=b:=by
   intro ks
   induction ks with
   | nil=>intro _ a ha; simp at ha
   | cons x ks ih=>
    intro hd a ha b hb e;simp only [List.map_cons,List.nodup_cons,List.mem_map,not_exists,not_and] at hd
    rcases List.mem_cons.1 ha with h1 | h1 <;> rcases List.mem_cons.1 hb with h2 | h2
    ·rw [h1,h2]
    ·rw [h1] at e; exact absurd e.symm (hd.1 b h2)
    ·rw [h2] at e; exact absurd e (hd.1 a h1)
    ·exact ih hd.2 a h1 b h2 e
  exact inj ks hd _ h1 _ h2 e
def aR8 (C:Cx) (Q:Exit->Fr->St->Prop) (e:Exit) (f:Fr) (σ:St):Prop:=∃ f' σ',xI C f σ f' σ'/\Q e f' σ'
theorem aR8.wY {C:Cx} {Q:Exit->Fr->St->Prop} {e:Exit} {f:Fr} {σ:St} (h:Q e f σ):aR8 C Q e f σ:=⟨f,σ,xI.refl,h⟩
theorem aR8.go {C:Cx} {Q:Exit->Fr->St->Prop} {e:Exit} {f:Fr} {σ:St} (f':Fr) (σ':St) (hw:xI C f σ f' σ') (h:Q e f' σ'):aR8 C Q e f σ:=⟨f',σ',hw,h⟩
theorem aM3 {C:Cx} {dc:DC} {f:Fr} {σ:St} {Q:Exit->Fr->St->Prop} (h:wpS C dc f σ (aR8 C Q)):wpS C dc f σ Q:=by intro code hc E a w G;refine wpIn_mono (h code hc E a w G) fun e a' w' hh=>?_;obtain⟨f1,σ1,G1,f2,σ2,hw,hq⟩:=hh;exact⟨f2,σ2,hw E a' w' G1,hq⟩
theorem sW {C:Cx} {dc:DC} {f:Fr} {σ:St} {Q:Exit->Fr->St->Prop} {α:Type} (g:α->Fr) (s:α->St) (I:α->Prop) (m:α->Nat) (a0:α) (h0:I a0) (hw:xI C f σ (g a0) (s a0))
  (round:∀ a,I a->wpS C dc (g a) (s a) (kT (fun f' σ'=>∃ a',I a'/\xI C f' σ' (g a') (s a')/\ m a'<m a) (aR8 C Q))):wpS C (.loop dc) f σ Q:=
 aM3 (xW g s I m a0 h0 hw round)
end
theorem bXt : ((0:Nat):Int)= 0:=rfl
theorem tA {k:Nat} (h:k<9223372036854775807):IntKind.i64.wrap ((k:Int)+ 1)= ((k+1:Nat):Int):=by rw [wrap_i64 (by omega)]; omega
section
variable [sL]
theorem bW1 (f:Fr) (n:Nat):evO f (.t n)= Fr.get f n:=rfl
theorem bW2 (f:Fr) (d:D):evO f (.c d)= d:=rfl
theorem aHu (f:Fr) (t:Nat) (d:D):Fr.put f (some t) d=(t,d) :: f:=rfl
theorem aHv (f:Fr) (d:D):Fr.put f none d=f:=rfl
theorem get_nil (n:Nat):Fr.get [] n = .top:=rfl
theorem aG3 (t:Nat) (d:D) (r:Fr) (n:Nat):Fr.get ((t,d) :: r) n=if t=n then d else Fr.get r n:=rfl
theorem look_nil (k:Nat):St.look [] k=none:=rfl
theorem xY (j:Nat) (o:Ob) (r:List (Nat × Ob)) (k:Nat):St.look ((j,o) :: r) k=if j=k then some o else St.look r k:=rfl
theorem aHb (k:Nat) (o:Ob):vV [] k o = []:=rfl
theorem sV (j:Nat) (o:Ob) (r:List (Nat × Ob)) (k:Nat) (o':Ob):vV ((j,o) :: r) k o'=if j=k then(j,o') :: r else(j,o) :: vV r k o':=rfl
theorem aPu (k:Nat):yG [] k = []:=rfl
theorem aUy (j:Nat) (o:Ob) (r:List (Nat × Ob)) (k:Nat):yG ((j,o) :: r) k=if j=k then yG r k else(j,o) :: yG r k:=rfl
theorem bY0 (n:Nat) (l:List (Nat × Ob)) (k:Nat):St.get ⟨n,l⟩ k=St.look l k:=rfl
theorem set_mk (n:Nat) (l:List (Nat × Ob)) (k:Nat) (o:Ob):St.set ⟨n,l⟩ k o=⟨n,vV l k o⟩:=rfl
theorem bYp (n:Nat) (l:List (Nat × Ob)) (o:Ob):St.new ⟨n,l⟩ o=⟨n+1,(n,o) :: l⟩:=rfl
theorem aG8 (n:Nat) (l:List (Nat × Ob)) (k:Nat):St.erase ⟨n,l⟩ k=⟨n,yG l k⟩:=rfl
theorem aLo (σ:St) (sz sz':Nat) (els:List (List D)):rowsOf σ sz (.sl sz' els)= if sz=sz' then some els else none:=rfl
theorem aUn (σ:St) (sz:Nat):rowsOf σ sz .xH=some []:=rfl
theorem aQr (σ:St) (sz:Nat):rowsOf σ sz .emp=some []:=rfl
def zD :=And.intro @aId (And.intro @aDp (And.intro @aIg (And.intro @aDn (And.intro @aIj (And.intro @aM2 (And.intro @aIh (And.intro @aIe (And.intro @aIi (And.intro @aDo (And.intro @aM1 (And.intro @aSd (And.intro @aL1 (And.intro @aHy (And.intro @aL4 (And.intro @aBp @aBo)))))))))))))))
def zT :=And.intro @bW1 (And.intro @bW2 (And.intro @aHu (And.intro @aHv (And.intro @get_nil (And.intro @aG3 (And.intro @look_nil (And.intro @xY (And.intro @aHb (And.intro @sV (And.intro @aPu (And.intro @aUy (And.intro @bY0 (And.intro @set_mk (And.intro @bYp (And.intro @aG8 (And.intro @aLo (And.intro @aUn (And.intro @aQr (And.intro @Int.cast_ofNat_Int (And.intro @bXt (And.intro @Int.toNat_zero (And.intro @Int.toNat_one (And.intro @beq_self_eq_true.{0} (And.intro @bne_self_eq_false.{0} (And.intro @Bool.false_eq_true (And.intro @aG9 (And.intro @aG5 (And.intro @aBq (And.intro @aFk (And.intro @aOc (And.intro @aFr (And.intro @aJm (And.intro @aJo (And.intro @aJl (And.intro @aOd (And.intro @aI2 (And.intro @aLa (And.intro @aLb (And.intro @aKm (And.intro @aBa (And.intro @aGu (And.intro @aGt (And.intro @aKl (And.intro @aGv (And.intro @aKr (And.intro @aBi (And.intro @aG0 (And.intro @aGz (And.intro @aUp (And.intro @aGe (And.intro @aGd (And.intro @aGc (And.intro @aGb (And.intro @aGa (And.intro @aH9 (And.intro @aKi (And.intro @aPf (And.intro @aPg (And.intro @aKj (And.intro @aGf (And.intro @aGg (And.intro @aC2 (And.intro @aPe (And.intro @aPd (And.intro @cD (And.intro @aKg (And.intro @aQ9 (And.intro @cG (And.intro @aKc (And.intro @aKb (And.intro @aKa (And.intro @aQ7 (And.intro @aQ6 (And.intro @yK (And.intro @nH (And.intro @eI (And.intro @aWy (And.intro @aYz (And.intro @cM (And.intro @aWp (And.intro @Option.or_none.{0} (And.intro @List.length_set.{0} (And.intro @aU5 (And.intro @aL6 (And.intro @Nat.lt_irrefl (And.intro @xE (And.intro @xO (And.intro @aNo (And.intro @true_and (And.intro @and_true (And.intro @List.getD_cons_zero.{0} (And.intro @List.getD_cons_succ.{0} (And.intro @List.length_cons.{0} (And.intro @List.length_nil.{0} (And.intro @Bool.not_true (And.intro @Bool.not_false (And.intro @List.map_cons.{0,0} (And.intro @List.map_nil.{0,0} (And.intro @List.nil_append.{0} (And.intro @List.cons_append.{0} (And.intro @List.append_nil.{0} (And.intro @aL2 (And.intro @aL3 (And.intro @List.take_succ_cons.{0} (And.intro @List.take_zero.{0} (And.intro @List.drop_succ_cons.{0} (And.intro @List.drop_zero.{0} (And.intro @false_implies (And.intro @or_true (And.intro @true_or (And.intro @Nat.le_refl (And.intro @Int.toNat_natCast (And.intro @and_self (And.intro @bZx (And.intro @bZw (And.intro @bV4 (And.intro @bV3 (And.intro @bYb (And.intro @bWo (And.intro @aF7 (And.intro @aM8 (And.intro @bYc (And.intro @bX5 (And.intro @bX9 (And.intro @bX7 (And.intro @bX6 (And.intro @bX8 (And.intro @aF8 (And.intro @bYa (And.intro @bYd (And.intro @not_false_eq_true (And.intro @aJe (And.intro @aJa (And.intro @aJf (And.intro @aP8 (And.intro @aJb (And.intro @aFh (And.intro @aP3 (And.intro @aJg (And.intro @aJh (And.intro @aFi (And.intro @aJc (And.intro @aJd (And.intro @aP7 (And.intro @aP4 (And.intro @aP5 (And.intro @aP6 (And.intro @aCu (And.intro @aH5 (And.intro @aCo (And.intro @bYk (And.intro @aH0 (And.intro @aCw (And.intro @bYl (And.intro @aCq (And.intro @aCs (And.intro @aCr (And.intro @aH4 (And.intro @aH1 (And.intro @aH2 (And.intro @aH3 (And.intro @List.all_cons.{0} (And.intro @List.all_nil.{0} (And.intro @Bool.and_true (And.intro @Bool.and_self (And.intro @List.set_cons_zero.{0} (And.intro @List.set_cons_succ.{0} (And.intro @Nat.zero_add (And.intro @Nat.add_zero (And.intro @Nat.zero_lt_succ (And.intro @Nat.lt_add_one (And.intro @decide_true (And.intro @decide_false (And.intro @gt_iff_lt.{0} (And.intro @ge_iff_le.{0} (And.intro @zM (And.intro @aD8 (And.intro @Bool.true_and (And.intro @decide_eq_true_eq (And.intro @decide_eq_false_iff_not (And.intro @zK (And.intro @bW (And.intro @zL (And.intro @bZ (And.intro @aY3 (And.intro @aY4 (And.intro @aVl (And.intro @aVs (And.intro @oZ (And.intro @gA (And.intro @aTi (And.intro @aVm (And.intro @List.mem_singleton.{0} (And.intro @List.cons_ne_nil.{0} (And.intro @List.take_length.{0} (And.intro @Option.map_some.{0,0} (And.intro @Option.map_none.{0,0} (And.intro @List.length_append.{0} (And.intro @aEa @aNu)))))))))))))))))))))))))))))))))))))))))))))))))))))))))))))))))))))))))))))))))))))))))))))))))))))))))))))))))))))))))))))))))))))))))))))))))))))))))))))))))))))))))))))))))))))))))))))))))))))))
def zR :=And.intro @bXt (And.intro @aS1 (And.intro @aKq (And.intro @aS2 (And.intro @aMb (And.intro @cO (And.intro @aUi (And.intro @eU (And.intro @aWn (And.intro @jW (And.intro @gC (And.intro @bX1 (And.intro @aK (And.intro @aIr (And.intro @aDu (And.intro @aDt (And.intro @aQk (And.intro @aB9 (And.intro @bM (And.intro @aU7 (And.intro @bL (And.intro @aWb (And.intro @yC (And.intro @sF (And.intro @aQ3 (And.intro @aLz (And.intro @aWv (And.intro @aLx (And.intro @yK (And.intro @nH (And.intro @Option.or_none.{0} (And.intro @Nat.zero_lt_succ (And.intro @Nat.lt_add_one (And.intro @Option.some.injEq.{0} (And.intro @and_true (And.intro @true_and (And.intro @and_self (And.intro @or_true (And.intro @true_or (And.intro @not_false_eq_true (And.intro @List.mem_cons.{0} (And.intro @List.mem_singleton.{0} (And.intro @List.not_mem_nil.{0} (And.intro @D.int.injEq (And.intro @D.bool.injEq (And.intro @D.sl.injEq (And.intro @D.ref.injEq (And.intro @List.length_cons.{0} (And.intro @List.length_nil.{0} (And.intro @aVl (And.intro @aY4 (And.intro @aVs (And.intro @Nat.zero_add (And.intro @aVm (And.intro @aTi (And.intro @aEa (And.intro @aNu (And.intro @oZ @gA)))))))))))))))))))))))))))))))))))))))))))))))))))))))))
end
end Go.Pd
namespace Go.Pd
open Go Go.ChangeShapes Go.WideShapes Go.RowKit
def aYq : List (Nat × Nat)->Nat->Nat->Bool
 | [],o,n=>o==n
 | (a,s) :: r,o,n=>(a==o)&& aYq r (o+s) n
def tB (P:Program):Nat->TypeId->Bool
 | 0,_=>false
 | n+1,t=>match P.underlying t with
  | some .bool=>true
  | some (.int _)=>true
  | some .string=>true
  | some (.slice e)=>tB P n e&&decide (0<P.cellsOf e)
  | some (.struct fs)=>(fs.toList.all fun f=>tB P n f.type)&& aYq (fs.toList.map fun f=>(f.offset,P.cellsOf f.type)) 0 (P.cellsOf t)
  | some (.array k e)=>tB P n e&&(P.cellsOf t==k*P.cellsOf e)
  | _=>false
mutual
def zX (P:Program):Nat->TypeId->List D->Prop
 | 0,_,_=>False
 | n+1,t,ds=>match P.underlying t with
  | some .bool=>∃ b,ds = [.bool b]
  | some (.int k)=>∃ i,ds = [.int k i]
  | some .string=>∃ s,ds = [.str s]
  | some (.slice e)=>∃ els,ds = [.sl (P.cellsOf e) els]/\∀ row ∈ els,zX P n e row
  | some (.struct fs)=>sH P n (fs.toList.map fun f=>f.type) ds
  | some (.array k e)=>sH P n (List.replicate k e) ds
  | _=>False
def sH (P:Program):Nat->List TypeId->List D->Prop
 | _,[],ds=>ds = []
 | n,f :: fs,ds=>∃ a b,ds=a++b/\zX P n f a/\sH P n fs b
end
def gQ (P:Program) (n:Nat) (t:TypeId) (d:D):Prop:=
 match P.underlying t with
 | some (.struct _)=>∃ ds,d = .agg ds/\zX P n t ds
 | some (.array _ _)=>∃ ds,d = .agg ds/\zX P n t ds
 | _=>zX P n t [d]
def aVr (P:Program) (n:Nat):List TypeId->List D->Prop
 | [],as=>as = []
 | t :: ts,as=>∃ a r,as=a :: r/\gQ P n t a/\aVr P n ts r
def aOt (w:World) (cs:List Value) (ds:List D):Prop:=ds.length=cs.length/\∀ j,j<ds.length->RP (fun _=>False) w (cs.getD j undef) (ds.getD j .top)
theorem eQ {w:World} {a b:List Value} {x y:List D} (h:aOt w a x) (h':aOt w b y):aOt w (a++b) (x++y):=by
 refine⟨by simp [h.1,h'.1],fun j hj=>?_⟩;simp only [List.getD]
 by_cases hx:j<x.length
 ·rw [List.getElem?_append_left hx,List.getElem?_append_left (by rw [<- h.1]; exact hx)];exact h.2 j hx
 ·have h1:=h.1;rw [List.getElem?_append_right (by omega),List.getElem?_append_right (by omega),<- h.1];rw [List.length_append] at hj;exact h'.2 (j-x.length) (by omega)
section
variable {H : Type} {enc : TypeId × Value -> H} {P : Program} {w : World} {sp : Nat -> Bool} {held : Bool}
theorem aZz {n:Nat} (key:∀ (t:TypeId) (cs:List Value) (fuel:Nat) (x:DataW H × List MemPlace),tB P n t=true->DataW.trod enc P w 0 sp held fuel t cs=some x->∃ ds,aOt w cs ds/\zX P n t ds) {cs:List Value} {fuel:Nat} :
  ∀ (fl:List Field) (o:Nat),(fl.all fun f=>tB P n f.type)= true->aYq (fl.map fun f=>(f.offset,P.cellsOf f.type)) o cs.length=true ->
   (∀ f ∈ fl,∃ x,DataW.trod enc P w 0 sp held fuel f.type ((cs.drop f.offset).take (P.cellsOf f.type))= some x)->∃ ds,aOt w (cs.drop o) ds/\sH P n (fl.map fun f=>f.type) ds
 | [],o,_,hc,_=>by simp only [List.map_nil,aYq,beq_iff_eq] at hc;subst hc;exact⟨[],by simp [aOt],by simp [sH]⟩
 | f :: fl,o,hp,hc,hx=>by
  simp only [List.all_cons,Bool.and_eq_true] at hp;simp only [List.map_cons,aYq,Bool.and_eq_true,beq_iff_eq] at hc;obtain⟨x,h1⟩:=hx f (by simp);obtain⟨a,ha,hsa⟩:=key _ _ _ _ hp.1 h1;obtain⟨b,hb,hsb⟩:=aZz key fl (o+P.cellsOf f.type) hp.2 hc.2 fun g hg=>hx g (by simp [hg]);refine⟨a++b,?_,by simp only [List.map_cons,sH]; exact⟨a,b,rfl,hsa,hsb⟩⟩;rw [hc.1] at ha
  have e:cs.drop o=(cs.drop o).take (P.cellsOf f.type)++ cs.drop (o+P.cellsOf f.type):=by rw [<- List.drop_drop,List.take_append_drop]
  rw [e];exact eQ ha hb
theorem aEs {n:Nat} (key:∀ (t:TypeId) (cs:List Value) (fuel:Nat) (x:DataW H × List MemPlace),tB P n t=true->DataW.trod enc P w 0 sp held fuel t cs=some x->∃ ds,aOt w cs ds/\zX P n t ds) {cs:List Value} {fuel:Nat} {e:TypeId} (hp:tB P n e=true) :
  ∀ (k o:Nat),cs.length=(o+k)* P.cellsOf e ->
   (∀ i,o<=i->i<o+k->∃ x,DataW.trod enc P w 0 sp held fuel e ((cs.drop (i*P.cellsOf e)).take (P.cellsOf e))= some x)->∃ ds,aOt w (cs.drop (o*P.cellsOf e)) ds/\sH P n (List.replicate k e) ds
 | 0,o,hl,_=>⟨[],by rw [List.drop_eq_nil_of_le (by rw [hl]; simp)]; simp [aOt],by simp [sH]⟩
 | k+1,o,hl,hx=>by
  obtain⟨x,h1⟩:=hx o (Nat.le_refl _) (by omega);obtain⟨a,ha,hsa⟩:=key _ _ _ _ hp h1;obtain⟨b,hb,hsb⟩:=aEs key hp k (o+1) (by rw [hl]; congr 1; omega) fun i h1 h2=>hx i (by omega) (by omega);refine⟨a++b,?_,by simp only [List.replicate_succ,sH]; exact⟨a,b,rfl,hsa,hsb⟩⟩
  have e1:cs.drop (o*P.cellsOf e)= (cs.drop (o*P.cellsOf e)).take (P.cellsOf e)++ cs.drop ((o+1)* P.cellsOf e):=by rw [Nat.succ_mul,<- List.drop_drop,List.take_append_drop]
  rw [e1];exact eQ ha hb
theorem aV : ∀ (n:Nat) (t:TypeId) (cs:List Value) (fuel:Nat) (x:DataW H × List MemPlace),tB P n t=true->DataW.trod enc P w 0 sp held fuel t cs=some x->∃ ds,aOt w cs ds/\zX P n t ds
 | 0,t,cs,fuel,x,hp,_=>by simp [tB] at hp
 | n + 1,t,cs,fuel,x,hp,h=>by
  unfold tB at hp;unfold zX
  split at hp
  ·rename_i hu;obtain⟨b,rfl,_⟩:=DataW.trod_bool hu h;exact⟨[.bool b],⟨rfl,fun j hj=>by simp at hj; subst hj; exact .bool b⟩,⟨b,rfl⟩⟩
  ·rename_i k hu;obtain⟨i,rfl,_,hw⟩:=DataW.trod_int hu h;refine⟨[.int k i],⟨rfl,fun j hj=>?_⟩,⟨i,rfl⟩⟩;simp at hj; subst hj;simp only [Lit.wf,Bool.and_eq_true,decide_eq_true_eq] at hw;exact .int hw
  ·rename_i hu;obtain⟨s,rfl,_,hs⟩:=DataW.trod_string hu h;exact⟨[.str s],⟨rfl,fun j hj=>by simp at hj; subst hj; exact .str hs⟩,⟨s,rfl⟩⟩
  ·rename_i e hu;simp only [Bool.and_eq_true,decide_eq_true_eq] at hp
   rcases Deep.open_slice hu h with ⟨rfl,_⟩ | ⟨a,len,cap,m,fu,Dd,Pl,rfl,_,hl,hm,hmm,_,hx⟩
   ·exact⟨[.sl (P.cellsOf e) []],⟨rfl,fun j hj=>by simp at hj; subst hj; exact .sl0 none 0 _ (fun _=>rfl)⟩,⟨[],rfl,by simp⟩⟩
   ·have hle:len<=m:=by rw [hmm]; split <;> omega
    by_cases h0:len=0
    ·subst h0;exact⟨[.sl (P.cellsOf e) []],⟨rfl,fun j hj=>by simp at hj; subst hj; exact .sl0 (some a) cap _ (fun h=>by cases h)⟩,⟨[],rfl,by simp⟩⟩
    ·obtain⟨f,hf⟩:=Deep.choose_lt (α:=List Value × List D) (n:=len) (p:=fun i y=>w.cells? 0 (a.add (i*P.cellsOf e)) (P.cellsOf e)= some y.1/\aOt w y.1 y.2/\zX P n e y.2) fun i hi=>by obtain⟨cs',h1,h2⟩:=hx i (by omega);obtain⟨ds,h3,h4⟩:=aV n e cs' fu _ hp.1 h2;exact⟨(cs',ds),h1,h3,h4⟩
     have hcells:∀ i,i<len->∀ j,j<P.cellsOf e->w.cell? ((a.add (i*P.cellsOf e)).add j)= some ((f i).1.getD j undef):=by intro i hi j hj;obtain⟨_,h2,h3⟩:=World.cells?_some (hf i hi).1;rw [h3 j hj];simp [List.getD,show j<(f i).1.length by omega]
     have hlen:∀ i,i<len->(f i).1.length=P.cellsOf e:=fun i hi=>(World.cells?_some (hf i hi).1).2.1
     have hspot:a.spot=none:=by have:=World.cell?_spot (hcells 0 (by omega) 0 hp.2);simpa [Addr.add] using this
     obtain⟨b,off,spot⟩:=a;simp only at hspot;subst hspot
     have hadd:∀ i j,((⟨b,off,none⟩:Addr).add i).add j=⟨b,off+i+j,none⟩:=by
      intro i j;rw [Deep.add_add];unfold Addr.add
      by_cases h:i+j=0
      ·have h1:i=0:=by omega
       have h2:j=0:=by omega
       subst h1; subst h2; rfl
      ·rw [if_neg h]; simp [Nat.add_assoc]
     have els:∀ i,i<len->((List.range len).map fun i=>(f i).2).getD i []=(f i).2:=by intro i hi;simp [List.getD,hi]
     refine⟨[.sl (P.cellsOf e) ((List.range len).map fun i=>(f i).2)],⟨rfl,fun j hj=>?_⟩,⟨_,rfl,?_⟩⟩
     ·simp at hj; subst hj;simp only [List.getD_cons_zero]
      have:=RP.sl (M:=fun _=>False) (w:=w) (b:=b) (off:=off) (cap:=cap) (sz:=P.cellsOf e) (els:=(List.range len).map fun i=>(f i).2) (fun i j=>(f i).1.getD j undef) hp.2 (fun h=>h) (by simpa using hl) hm ?_ ?_ ?_
      ·simpa using this
      ·intro x hx';simp only [List.mem_map,List.mem_range] at hx';obtain⟨i,hi,rfl⟩:=hx';rw [(hf i hi).2.1.1,hlen i hi]
      ·intro i hi j hj;have hi':i<len:=by simpa using hi
       have:=hcells i hi' j hj;rw [hadd] at this;exact this
      ·intro i hi j hj;have hi':i<len:=by simpa using hi
       rw [els i hi'];exact(hf i hi').2.1.2 j (by rw [(hf i hi').2.1.1,hlen i hi']; exact hj)
     ·intro row hrow;simp only [List.mem_map,List.mem_range] at hrow;obtain⟨i,hi,rfl⟩:=hrow;exact(hf i hi).2.2
  ·rename_i fs hu;simp only [Bool.and_eq_true] at hp;obtain⟨xs,n',_,_,hlen,hsz,hf⟩:=DataW.trod_struct hu h;rw [<- hlen] at hp
   obtain⟨ds,h1,h2⟩:=aZz (fun t cs fuel x=>aV n t cs fuel x) (fuel:=n') fs.toList 0 hp.1 hp.2 fun g hg=>by
    obtain⟨i,hi,rfl⟩:=List.getElem_of_mem hg;have hi':i<fs.size:=by simpa using hi
    have:=hf i fs[i] (by simp [hi']);refine⟨xs[i]'(by omega),?_⟩;simp only [Array.getElem_toList];rw [this];simp [show i<xs.length by omega]
   exact⟨ds,by simpa using h1,h2⟩
  ·rename_i k e hu;simp only [Bool.and_eq_true,beq_iff_eq] at hp;obtain⟨xs,m,_,_,hlen,hxs,hf⟩:=DataW.trod_array hu h
   obtain⟨ds,h1,h2⟩:=aEs (fun t cs fuel x=>aV n t cs fuel x) (fuel:=m) hp.1 k 0 (by rw [hlen,hp.2]; simp) fun i _ hi=>by have:=hf i (by omega);rw [this];simp [show i<xs.length by omega]
   exact⟨ds,by simpa using h1,h2⟩
  ·cases hp
end
section
variable {H : Type} {enc : TypeId × Value -> H} {P : Program} {w : World} {sp : Nat -> Bool} {held : Bool}
theorem aWw {r:Reach} {b:Nat} {t:TypeId} {v:Value} {k:Nat} {e:TypeId} (ht:P.underlying t=some (.array k e)) (h:Value.okWide P w r b t v):∃ cs,v = .agg cs/\cs.size=P.cellsOf t:=by simp only [Value.okWide,ht] at h;obtain⟨cs,h1,h2,_⟩:=h;exact⟨cs,h1,h2⟩
theorem bZf {n:Nat} {b:Nat} {t:TypeId} {v:Value} {d:DataW H} {ps:List MemPlace} (hp:tB P n t=true) (hv:Value.okWide P w .any b t v) (h:DataW.Trod enc P w 0 sp held t v d ps):∃ a,RP (fun _=>False) w v a/\gQ P n t a:=by
 obtain⟨fuel,h⟩:=h;obtain⟨ds,h1,h2⟩:=aV n t _ fuel _ hp h;unfold gQ
 split
 ·rename_i fs hu;obtain⟨cs,rfl,_⟩:=okWide_struct hu hv;refine⟨.agg ds,.agg (by rw [h1.1]; rfl) fun j hj=>?_,ds,rfl,h2⟩;have:=h1.2 j hj
  have e:(Value.agg cs).cells.toList.getD j undef=cs.getD j undef:=by simp [Value.cells,List.getD,Array.getD];by_cases hj:j<cs.size <;> simp [hj]
  rw [e] at this;exact this
 ·rename_i k e hu;obtain⟨cs,rfl,_⟩:=aWw hu hv;refine⟨.agg ds,.agg (by rw [h1.1]; rfl) fun j hj=>?_,ds,rfl,h2⟩;have:=h1.2 j hj
  have e:(Value.agg cs).cells.toList.getD j undef=cs.getD j undef:=by simp [Value.cells,List.getD,Array.getD];by_cases hj:j<cs.size <;> simp [hj]
  rw [e] at this;exact this
 ·rename_i hns hna
  have one:∃ x,ds = [x]:=by
   cases n with
   | zero=>simp [tB] at hp
   | succ n=>
    unfold zX at h2
    split at h2
    ·obtain⟨b,rfl⟩:=h2; exact⟨_,rfl⟩
    ·obtain⟨b,rfl⟩:=h2; exact⟨_,rfl⟩
    ·obtain⟨b,rfl⟩:=h2; exact⟨_,rfl⟩
    ·obtain⟨b,rfl,_⟩:=h2; exact⟨_,rfl⟩
    ·rename_i fs hu; exact absurd hu (hns fs)
    ·rename_i k e hu; exact absurd hu (hna k e)
    ·cases h2
  obtain⟨x,rfl⟩:=one;refine⟨x,?_,h2⟩;have hx:=h1.2 0 (by simp);simp only [List.getD_cons_zero] at hx;have hlen:=h1.1
  cases v with
  | agg cs=>
   exfalso;unfold Value.okWide at hv
   split at hv
   ·rename_i fs hu; exact absurd hu (hns fs)
   ·rename_i k e hu; exact absurd hu (hna k e)
   ·rename_i h3 h4
    cases n with
    | zero=>simp [tB] at hp
    | succ n=>
     unfold tB at hp;unfold Cell.okWide at hv;split at hp <;> rename_i hu <;> simp [hu,Cell.ok] at hv
     all_goals first | exact absurd hu (hns _) | exact absurd hu (hna _ _) | cases hp
  | _=>simpa [Value.cells] using hx
theorem aMo {n:Nat} {b:Nat}:∀ {ts:List TypeId} {vs:List Value} {ds:List (DataW H)} {ps:List MemPlace},(ts.all fun t=>tB P n t)= true->(∀ (j:Nat) t v,ts[j]?=some t->vs[j]?=some v->Value.okWide P w .any b t v) ->
  DataW.TrodAll enc P w 0 sp held ts vs ds ps->∃ as,as.length=vs.length/\vs.length=ts.length/\ds.length=ts.length/\(∀ j,j<as.length->RP (fun _=>False) w (vs.getD j undef) (as.getD j .top))/\ aVr P n ts as
 | [],vs,ds,ps,_,_,h=>by obtain⟨rfl,rfl,rfl⟩:=trodAll_nil h;exact⟨[],rfl,rfl,rfl,fun j hj=>by simp at hj,rfl⟩
 | t :: ts,vs,ds,ps,hp,hv,h=>by
  obtain⟨v,vs',d,ds',p,q,rfl,rfl,rfl,h1,h2⟩:=trodAll_cons h;simp only [List.all_cons,Bool.and_eq_true] at hp;obtain⟨a,r1,s1⟩:=bZf hp.1 (hv 0 t v rfl rfl) h1;obtain⟨as,l1,l2,l3,r2,s2⟩:=aMo hp.2 (fun j t v h1 h2=>hv (j+1) t v h1 h2) h2;refine⟨a :: as,by simp [l1],by simp [l2],by simp [l3],fun j hj=>?_,a,as,rfl,s1,s2⟩
  cases j with
  | zero=>exact r1
  | succ j=>exact r2 j (by simpa using hj)
theorem lE (hl:laidOutB P=true) {W W':World} (hb:Below W.heap.size W W'):∀ {ts:List TypeId} {vs:List Value} {ds:List (DataW H)} {ps:List MemPlace},(ts.all fun t=>P.readableRec t&&decide (t<P.types.size))= true ->
  (∀ x ∈ ps,x.block<W.heap.size)->DataW.TrodAll enc P W 0 (fun _=>true) true ts vs ds ps->DataW.TrodAll enc P W' 0 (fun b=>decide (b<W.heap.size)) true ts vs ds ps
 | [],vs,ds,ps,_,_,h=>by obtain⟨rfl,rfl,rfl⟩:=trodAll_nil h;exact rfl
 | t :: ts,vs,ds,ps,hr,hlt,h=>by obtain⟨v,vs',d,ds',p,q,rfl,rfl,rfl,h1,h2⟩:=trodAll_cons h;simp only [List.all_cons,Bool.and_eq_true,decide_eq_true_eq] at hr;exact⟨p,q,Below.trod hl hr.1.1 hr.1.2 h1 hb fun x hx=>hlt x (by simp [hx]),lE hl hb hr.2 (fun x hx=>hlt x (by simp [hx])) h2,rfl⟩
theorem cP {W:World}:∀ {ts:List TypeId} {vs:List Value} {ds:List (DataW H)} {ps:List MemPlace},DataW.TrodAll enc P W 0 sp held ts vs ds ps->∀ x ∈ ps,x.block<W.heap.size
 | [],vs,ds,ps,h=>by obtain⟨rfl,rfl,rfl⟩:=trodAll_nil h;intro x hx; simp at hx
 | t :: ts,vs,ds,ps,h=>by
  obtain⟨v,vs',d,ds',p,q,rfl,rfl,rfl,⟨m,hm⟩,h2⟩:=trodAll_cons h;intro x hx
  rcases List.mem_append.1 hx with hx | hx
  ·exact DataW.trod_lt m _ _ _ hm x hx
  ·exact cP h2 x hx
end
section
variable [sL]
theorem yV.calls {P:Program} {g:FuncId} {args:List D} {b:Bool} (h:yV P g args (.bool b)) {w:World} {vals:Array Value} (ht:aQh w fun _=>False) (hl:vals.size=args.length)
  (hv:∀ j,j<args.length->RP (fun _=>False) w (vals.getD j undef) (args.getD j .top)):Calls P g vals w fun e w'=>e = .returned (.bool b)/\ Below w.heap.size w w':=by
 have hM:∀ b,Mof (fun _=>False) (fun _=>0) St0 b->False:=by
  rintro b (h | ⟨k,o,hk,_⟩)
  ·exact h
  ·cases hk
 have hS:vU (fun _=>False) w St0 (fun _=>0):=⟨fun b hb=>hb.elim,(fun k o hk=>by cases hk),(fun k k' o o' hk=>by cases hk),(fun k o hk=>by cases hk),ht.wY (Nat.le_refl _) (fun _ _ _=>rfl) fun b _ hb=>hM b hb⟩;refine(h.run _ w _ vals hS hl fun j hj=>.pure ((hv j hj).wY (fun _ _ _=>rfl) fun b _ hb=>hM b hb)).mono fun e w' hh=>?_;obtain⟨v,ι',rfl,k1,k2,k3,k4,k5,k6⟩:=hh;have K0:Kept w w' fun _=>False:=k1.mono fun b _ ⟨k,o,hk,_⟩=>by cases hk
 rw [k6.qW];exact⟨rfl,K0.below⟩
end
theorem aUg (a:Array Value) (j:Nat) (d:Value):a.getD j d=a.toList.getD j d:=by simp [List.getD,Array.getD];by_cases h:j<a.size <;> simp [h]
theorem aGw {H:Type} {enc:TypeId × Value->H} {P:Program} {f:Func} {s:ChangeSpec} {W W':World} {args:Array Value} {ds gs:List (DataW H)} {before:List MemPlace} {tb:TypeId}
  (hl:laidOutB P=true) (hr:(f.params.toList.all fun t=>P.readableRec t&&decide (t<P.types.size))= true) (hb:f.resultTypes = #[tb]) (htb:P.underlying tb=some .bool) (hsv:s.vars = [])
  (hW:DataW.Whole enc P f.params.toList s.vars false W args.toList ds gs before) (hs:s.fn H (ds++gs)= { results:=[.lit (.bool true)],args:=ds }) (bel:Below W.heap.size W W') :
  s.post enc P f false true false false W args (.bool true) W':=by
 have hW':=hW;obtain⟨p,q,hA,hV,rfl,hfz,hnd⟩:=hW;rw [hsv] at hV;obtain⟨rfl,rfl⟩:=trodVars_none hV;have hA2:=lE hl bel hr (cP hA) hA
 refine⟨_,_,_,[],p,[],hW',?_,?_,?_,bel.frame _,fun h=>by cases h⟩
 ·rw [hs,hb];exact trodAll_mk1 (shut_bool htb _)
 ·rw [hs];exact hA2
 ·rw [hs,hsv];rfl
abbrev dO (i:Nat) (k:DK):DOp:=⟨some i,none,k⟩
abbrev dF (i j:Nat) (k:DK):DOp:=⟨some i,some (j,false),k⟩
abbrev dT (i j:Nat) (k:DK):DOp:=⟨some i,some (j,true),k⟩
abbrev Opd.i (n:Int):Opd:=.c (.int .i64 n)
abbrev dM (i j:Nat):DOp:=⟨some i,none,.mv (.t j)⟩
abbrev dL (i j:Nat):DOp:=⟨some i,none,.load 1 false (.t j)⟩
abbrev dG (i n j:Nat):DOp:=⟨some i,none,.fld n (.t j)⟩
abbrev DC.r (l:List DOp) (c:DC):DC:=.seq (.reg [] l) c
abbrev DK.cf (f:FuncId) (l:List Opd):DK:=.call (.c (.fn f [])) l
abbrev bT (i:Nat) (o:BinOp) (a b:Nat):DOp:=⟨some i,none,.bin o (.t a) (.t b)⟩
abbrev bI (i:Nat) (o:BinOp) (a:Nat) (n:Int):DOp:=⟨some i,none,.bin o (.t a) (.i n)⟩
abbrev dI (i n a b:Nat):DOp:=⟨some i,none,.idx n (.t a) (.t b)⟩
abbrev dN (i a:Nat):DOp:=⟨some i,none,.len (.t a)⟩
abbrev fG (i j n a:Nat):DOp:=⟨some i,some (j,false),.fld n (.t a)⟩
abbrev fL (i j a:Nat):DOp:=⟨some i,some (j,false),.load 1 false (.t a)⟩
abbrev fN (i j a:Nat):DOp:=⟨some i,some (j,false),.len (.t a)⟩
abbrev fM (i j a:Nat):DOp:=⟨some i,some (j,false),.mv (.t a)⟩
abbrev dP (i a b:Nat):DOp:=⟨some i,none,.pick (.t a) (.c (.bool true)) (.t b)⟩
abbrev dE (i a n:Nat):DOp:=⟨some i,none,.bXj (.t a) n⟩
abbrev dS (n a b:Nat):DOp:=⟨none,none,.store n (.t a) (.t b)⟩
abbrev dV (i:Nat) (b:Bool):DOp:=⟨some i,none,.mv (.c (.bool b))⟩
abbrev dJ (i:Nat) (n:Int):DOp:=⟨some i,none,.mv (.i n)⟩
abbrev dA (i n a:Nat):DOp:=⟨some i,none,.load n true (.t a)⟩
abbrev DC.w (a b:Nat) (c:DC):DC:=.seq (.cond (.t a) .skip (.exit b)) c
abbrev DC.g (l:List DOp):DC:=.reg [] l
def zS :=And.intro @D.int.injEq (And.intro @D.bool.injEq (And.intro @D.sl.injEq (And.intro @and_true (And.intro @true_and @and_self))))
def zW.{u} :=And.intro @ne_eq.{u} (And.intro @forall_const.{u} (And.intro @implies_true.{u} @forall_eq.{u}))
section
variable [sL]
def zU :=And.intro @bA.eq_1 (And.intro @bZv.eq_1 (And.intro @unZ.eq_1 (And.intro @kT.eq_1 (And.intro @kT.eq_2 (And.intro @pT.eq_1 (And.intro @pT.eq_2 (And.intro @opX.eq_1 (And.intro @opX.eq_2 (And.intro @opX.eq_3 (And.intro @opX.eq_4 (And.intro @opX.eq_5 (And.intro @opX.eq_6 (And.intro @opX.eq_7 (And.intro @opX.eq_8 (And.intro @opX.eq_9 (And.intro @opX.eq_10 (And.intro @opX.eq_11 (And.intro @opX.eq_12 (And.intro @opX.eq_13 (And.intro @opX.eq_14 (And.intro @opX.eq_15 (And.intro @opV.eq_1 (And.intro @opV.eq_2 (And.intro @opV.eq_3 (And.intro @opV.eq_4 (And.intro @opV.eq_5 (And.intro @opV.eq_6 (And.intro @opV.eq_7 (And.intro @opV.eq_8 (And.intro @opV.eq_9 (And.intro @opV.eq_10 (And.intro @opV.eq_11 (And.intro @opV.eq_12 (And.intro @opV.eq_13 (And.intro @opV.eq_14 (And.intro @opV.eq_15 (And.intro @pX.eq_1 (And.intro @pX.eq_2 (And.intro @pX.eq_3 (And.intro @pX.eq_4 (And.intro @pX.eq_5 (And.intro @pX.eq_6 (And.intro @pX.eq_7 (And.intro @pX.eq_8 (And.intro @pW.eq_1 (And.intro @pW.eq_2 (And.intro @pW.eq_3 (And.intro @pW.eq_4 (And.intro @pW.eq_5 (And.intro @pW.eq_6 (And.intro @pW.eq_7 (And.intro @pW.eq_8 (And.intro @pW.eq_9 (And.intro @pW.eq_10 (And.intro @pW.eq_11 (And.intro @pW.eq_12 (And.intro @pW.eq_13 (And.intro @pW.eq_14 (And.intro @pW.eq_15 (And.intro @pW.eq_16 (And.intro @pW.eq_17 (And.intro @pW.eq_18 (And.intro @pW.eq_19 (And.intro @pW.eq_20 (And.intro @pW.eq_21 (And.intro @pW.eq_22 (And.intro @pW.eq_23 (And.intro @pW.eq_24 (And.intro @pW.eq_25 (And.intro @pW.eq_26 (And.intro @pW.eq_27 (And.intro @pW.eq_28 (And.intro @bZ7.eq_1 (And.intro @bZ6.eq_1 (And.intro @atK.eq_1 (And.intro @iZ.eq_1 @aJ8.eq_1))))))))))))))))))))))))))))))))))))))))))))))))))))))))))))))))))))))))))))
def zV :=And.intro @St0.eq_1 (And.intro @gT.eq_1 (And.intro @gT.eq_2 (And.intro @jM.eq_1 (And.intro @jM.eq_2 (And.intro @jM.eq_3 (And.intro @jM.eq_4 (And.intro @jM.eq_5 (And.intro @jM.eq_6 (And.intro @jM.eq_7 (And.intro @jM.eq_8 (And.intro @jM.eq_9 (And.intro @jM.eq_10 (And.intro @jM.eq_11 (And.intro @jM.eq_12 (And.intro @jM.eq_13 (And.intro @jM.eq_14 (And.intro @jM.eq_15 (And.intro @jM.eq_16 (And.intro @jM.eq_17 (And.intro @aO5.eq_1 (And.intro @dU.eq_1 (And.intro @dU.eq_2 (And.intro @dU.eq_3 (And.intro @dU.eq_4 (And.intro @dU.eq_5 (And.intro @dU.eq_6 (And.intro @aTc.eq_1 (And.intro @aTc.eq_2 (And.intro @aAq.eq_1 (And.intro @wJ.eq_1 (And.intro @dC.eq_1 (And.intro @dC.eq_2 (And.intro @bV0.eq_1 (And.intro @aYe.eq_1 (And.intro @aYe.eq_2 (And.intro @aVg.eq_1 (And.intro @aVg.eq_2 (And.intro @List.replicate.eq_1.{0} (And.intro @List.replicate.eq_2.{0} (And.intro @rowsOf.eq_1 (And.intro @rowsOf.eq_2 (And.intro @rowsOf.eq_3 (And.intro @rowsOf.eq_4 @rowsOf.eq_5)))))))))))))))))))))))))))))))))))))))))))
end
theorem sd {p q:Prop} (b:q) (a:p:=by first | omega | exact aM6 _ | exact Int.natCast_nonneg _ | rfl | exact aLm _ _ | exact aO7 _ | (intro _ h; cases h; done)):p/\q:=⟨a,b⟩
theorem nB.dv {n0 n:Nat} {σ:St} {d d':D} (hn:n0<=n:=by simp) (h:vw σ ⟨n,[]⟩ (fun k=>k) d d':=by simp [vw]):nB n0 σ d ⟨n,[]⟩ d':=.drop hn h
section
variable [sL]
theorem cr {P:Program} {g:FuncId} {args:List D} {d:D} {s:St} (hc:yV P g args d) (hp:D.xU args=true:=by simp [D.xU,D.xG]):xX P g args s d s:=xX.yN hc hp
theorem cq {P:Program} {g:FuncId} {args:List D} {d:D} {s:St} (hc:yV P g args d) (hp:D.xU args=true:=by rfl):xX P g args s d s:=xX.yN hc hp
end
end Go.Pd
