/- Part X6. -/
import Derived.Test.YtndfaefmmcoapaaGreatUoX5
import Derived.Carry
import Derived.ChangeArms
import Derived.Deep.Slices
import Derived.ProofKit
import Derived.OpenShut
set_option linter.unusedSectionVars false
set_option linter.unusedVariables false
set_option linter.unusedSimpArgs false
set_option linter.defProp false
namespace Go.Pd
open Go
def ui (s:BitVec 64):Int:=s.toNat
theorem aN0 (s:BitVec 64):0<=ui s:=by unfold ui; omega
theorem aUs {s t:BitVec 64}:ui s=ui t ↔ s=t:=by
 unfold ui
 constructor
 ·intro h; exact BitVec.eq_of_toNat_eq (by omega)
 ·rintro rfl; rfl
theorem bYx {n:Int} (h0:0<=n) (h1:n<18446744073709551616):ui (BitVec.ofInt 64 n)= n:=by unfold ui;rw [BitVec.toNat_ofInt];have:n % 2 ^ 64=n:=Int.emod_eq_of_lt h0 (by omega);omega
theorem wQ (s:BitVec 64):BitVec.ofInt 64 (ui s)= s:=by unfold ui;rw [BitVec.ofInt_natCast];simp
theorem oQ (s:BitVec 64):IntKind.u64.wrap (s.toNat:Int)= ui s:=by unfold ui;have:=s.isLt;exact wrap_u64 ⟨by omega,by omega⟩
theorem aAm (s t:BitVec 64):qI .and .u64 (ui s) (ui t)= ui (s &&& t):=by show IntKind.u64.wrap ((BitVec.ofInt 64 (ui s)&&& BitVec.ofInt 64 (ui t)).toNat:Int)= _;rw [wQ,wQ,oQ]
theorem bYw (s t:BitVec 64):qI .or .u64 (ui s) (ui t)= ui (s ||| t):=by show IntKind.u64.wrap ((BitVec.ofInt 64 (ui s) ||| BitVec.ofInt 64 (ui t)).toNat:Int)= _;rw [wQ,wQ,oQ]
theorem aGn (s t:BitVec 64):qI .xor .u64 (ui s) (ui t)= ui (s ^^^ t):=by show IntKind.u64.wrap ((BitVec.ofInt 64 (ui s)^^^ BitVec.ofInt 64 (ui t)).toNat:Int)= _;rw [wQ,wQ,oQ]
theorem aN2 (s t:BitVec 64):qI .andNot .u64 (ui s) (ui t)= ui (s &&& ~~~t):=by show IntKind.u64.wrap ((BitVec.ofInt 64 (ui s)&&& ~~~BitVec.ofInt 64 (ui t)).toNat:Int)= _;rw [wQ,wQ,oQ]
theorem iW (n:Int):IntKind.u64.wrap n=ui (BitVec.ofInt 64 n):=by unfold ui;rw [BitVec.toNat_ofInt];simp [IntKind.wrap,IntKind.signed,IntKind.bits];omega
theorem aAn (s t:BitVec 64):IntKind.u64.wrap (ui s+ui t)= ui (s+t):=by rw [iW,BitVec.ofInt_add,wQ,wQ]
theorem aAg (s t:BitVec 64):IntKind.u64.wrap (ui s-ui t)= ui (s-t):=by rw [iW];congr 1;rw [Int.sub_eq_add_neg,BitVec.ofInt_add,BitVec.ofInt_neg,wQ,wQ,BitVec.sub_eq_add_neg]
theorem aAk (s t:BitVec 64):IntKind.u64.wrap (ui s*ui t)= ui (s*t):=by rw [iW,BitVec.ofInt_mul,wQ,wQ]
theorem aAi (s:BitVec 64) (k:Int):aKe .u64 (ui s) k=ui (s <<< k.toNat):=by
 unfold aKe;rw [iW];congr 1;rw [BitVec.ofInt_mul,wQ];show s*BitVec.ofInt 64 (2 ^ min k.toNat 64)= _;apply BitVec.eq_of_toNat_eq;rw [BitVec.toNat_mul,BitVec.toNat_shiftLeft,Nat.shiftLeft_eq]
 have e:(BitVec.ofInt 64 (2 ^ min k.toNat 64)).toNat=2 ^ min k.toNat 64 % 2 ^ 64:=by
  have:((2:Int)^ min k.toNat 64)= ((2 ^ min k.toNat 64:Nat):Int):=by norm_cast
  rw [this,BitVec.ofInt_natCast,BitVec.toNat_ofNat]
 rw [e,Nat.mul_mod_mod]
 rcases Nat.lt_or_ge k.toNat 64 with h | h
 ·rw [Nat.min_eq_left (by omega)]
 ·rw [Nat.min_eq_right h];obtain⟨m,hm⟩:=Nat.exists_eq_add_of_le h;rw [hm,Nat.pow_add,<- Nat.mul_assoc,Nat.mul_right_comm];simp
theorem aAh (s:BitVec 64) (k:Int):aKj .u64 (ui s) k=ui (s >>> k.toNat):=by
 unfold aKj ui;rw [BitVec.toNat_ushiftRight,Nat.shiftRight_eq_div_pow];show (s.toNat:Int).fdiv (2 ^ min k.toNat 64)= _;have:((2:Int)^ min k.toNat 64)= ((2 ^ min k.toNat 64:Nat):Int):=by norm_cast
 rw [this,Int.fdiv_eq_ediv_of_nonneg _ (Int.natCast_nonneg _),<- Int.natCast_ediv];congr 1
 rcases Nat.lt_or_ge k.toNat 64 with h | h
 ·rw [Nat.min_eq_left (by omega)]
 ·rw [Nat.min_eq_right h];have h1:=s.isLt;rw [Nat.div_eq_of_lt h1,Nat.div_eq_of_lt (Nat.lt_of_lt_of_le h1 (Nat.pow_le_pow_right (by omega) h))]
theorem aAj (s t:BitVec 64):(ui s).tmod (ui t)= ui (s % t):=by unfold ui;rw [BitVec.toNat_umod,Int.tmod_eq_emod_of_nonneg (by omega),Int.natCast_emod]
theorem aGo (s t:BitVec 64):(ui s==ui t)= (s==t):=by
 by_cases h:s=t
 ·subst h; simp
 ·have:ui s≠ui t:=fun e=>h (aUs.1 e);rw [beq_eq_false_iff_ne.2 this,beq_eq_false_iff_ne.2 h]
theorem aAl (s t:BitVec 64):(ui s != ui t)= (s != t):=by simp only [bne,aGo]
theorem bX7 : D.int .u64 0=D.int .u64 (ui 0#64):=rfl
theorem bX6 : D.int .u64 1=D.int .u64 (ui 1#64):=rfl
theorem bWe : D.int .u64 2=D.int .u64 (ui 2#64):=rfl
theorem bWd : D.int .u64 18446744073709551615=D.int .u64 (ui 18446744073709551615#64):=rfl
theorem aAo : ui 2#64≠0:=by decide
def us (l:List (BitVec 64)):List (List D):=l.map fun s=>[.int .u64 (ui s)]
def aC0 (l:List (BitVec 64)):D:=.sl 1 (us l)
theorem xQ (l:List (BitVec 64)):(us l).length=l.length:=by simp [us]
theorem aUr : us [] = []:=rfl
theorem aWy (s:BitVec 64) (l:List (BitVec 64)):us (s :: l)= [.int .u64 (ui s)] :: us l:=rfl
theorem wS (l:List (BitVec 64)) {i:Nat} (h:i<l.length):(us l).getD i [] = [.int .u64 (ui (l.getD i 0))]:=by simp [us,List.getD,h]
theorem rV (l:List (BitVec 64)):∀ e ∈ us l,D.xU e=true:=by intro e he;simp only [us,List.mem_map] at he;obtain⟨n,_,rfl⟩:=he;rfl
theorem aOa (l:List (BitVec 64)):∀ e ∈ us l,wM e=true:=by intro e he;simp only [us,List.mem_map] at he;obtain⟨n,_,rfl⟩:=he;rfl
theorem aOq (l:List (BitVec 64)) (n:Nat):(us l).take n=us (l.take n):=by simp [us,List.map_take]
theorem aWx (l:List (BitVec 64)) (s:BitVec 64):us l ++ [[.int .u64 (ui s)]]=us (l ++ [s]):=by simp [us]
theorem mT (l:List (BitVec 64)) (i:Nat) (s:BitVec 64):(us l).set i [.int .u64 (ui s)]=us (l.set i s):=by simp [us,List.map_set]
theorem jL (n:Nat) (s:BitVec 64):List.replicate n [D.int .u64 (ui s)]=us (List.replicate n s):=by simp [us]
theorem aBu : ∀ {els:List (List D)},(∀ e ∈ els,∃ n:Int,e = [.int .u64 n])->D.aRn els->∃ l,els=us l
 | [],_,_=>⟨[],rfl⟩
 | e :: r,h,hf=>by obtain⟨n,rfl⟩:=h e (by simp);obtain⟨l,rfl⟩:=aBu (fun e he=>h e (by simp [he])) hf.2;have h1:=hf.1;simp only [D.uE,D.fact,and_true] at h1;obtain⟨h1,h2⟩:=h1;refine⟨BitVec.ofInt 64 n :: l,?_⟩;have:ui (BitVec.ofInt 64 n)= n:=bYx (by simpa [IntKind.min,IntKind.signed] using h1) (by have:IntKind.u64.max=18446744073709551615:=rfl; omega);simp [us,this]
theorem aMu (d:D):rE false [d]=d:=rfl
theorem aMv (cs:List D):rE true cs = .agg cs:=rfl
def yX (key sz:Nat):List (List D)->D
 | []=>.xH
 | e :: r=>.osl key sz (e :: r).length
def yY (key sz:Nat):List (List D)->List (Nat × Ob)
 | []=>[]
 | e :: r=>[(key,⟨sz,e :: r⟩)]
end Go.Pd
namespace Go.Pd
open Go
variable [sO]
def xP (f:Fr):Fr->Prop
 | []=>True
 | (t,d) :: r=>f.get t=d/\xP f r
omit [sO] in
theorem aYf {f:Fr}:∀ {f':Fr},xP f f'->∀ t,f'.get t = .top\/f'.get t=f.get t
 | [],_,t=>.inl rfl
 | (s,d) :: r,h,t=>by
  simp only [Fr.get]
  split
  ·rename_i e; subst e; exact .inr h.1.symm
  ·exact aYf h.2 t
theorem xI.same {C:Cx} {f f':Fr} {σ:St} (h:xP f f'):xI C f σ f' σ:=xI.frame (aYf h)
end Go.Pd
namespace Go.Pd
open Go
def rr (ll:List (List (BitVec 64))):List (List D):=ll.map fun l=>[aC0 l]
def bWa (ll:List (List (BitVec 64))):D:=.sl 1 (rr ll)
theorem zQ (l:List (List (BitVec 64))):(rr l).length=l.length:=by simp [rr]
theorem nX (l:List (List (BitVec 64))) {i:Nat} (h:i<l.length):(rr l).getD i [] = [.sl 1 (us (l.getD i []))]:=by simp [rr,aC0,List.getD,h]
theorem aEk (l:List (List (BitVec 64))) (n:Nat):(rr l).take n=rr (l.take n):=by simp [rr,List.map_take]
theorem aW4 (l:List (List (BitVec 64))):∀ e ∈ rr l,D.xU e=true:=by intro e he;simp only [rr,List.mem_map] at he;obtain⟨n,_,rfl⟩:=he;simp [D.xU,D.xG,aC0]
end Go.Pd
namespace Go.Pd
open Go
theorem lF.same {n0:Nat} {σ:St} {d:D}:lF n0 σ d σ d:=.inl ⟨rfl,rfl⟩
theorem lF.drop {n0 n:Nat} {σ:St} {d d':D} (hn:n0<=n) (h:vw σ ⟨n,[]⟩ (fun k=>k) d d'):lF n0 σ d ⟨n,[]⟩ d':= .inr ⟨fun k=>k,hn,fun _ _=>rfl,h,by simp [stays],by simp [vF]⟩
end Go.Pd
namespace Go.Pd
open Go
universe u
variable [sO]
def atK (σ:St) (K:D->St->Prop) (d:D):Prop:=K d σ
def bYg (f:Fr) (dst:Option Nat) (K:Fr->St->Prop) (d:D) (σ:St):Prop:=K (f.put dst d) σ
def bYf (f:Fr) (dst:Option Nat) (K:Fr->Prop) (d:D):Prop:=K (f.put dst d)
def jC (Q:Exit->Fr->St->Prop) (f:Fr) (σ:St):Prop:=Q .normal f σ
def gdB (d:D) (want:Bool) (yes no:Prop):Prop:=
 match d with
 | .bool b=>if b=want then yes else no
 | .und=>no
 | _=>False
theorem aHn (b want:Bool) (yes no:Prop):gdB (.bool b) want yes no=if b=want then yes else no:=rfl
theorem aD0 (want:Bool) (yes no:Prop):gdB .und want yes no=no:=rfl
@[congr] theorem bXw {d d' : D} {want : Bool} {yes no : Prop} (h : d = d') : gdB d want yes no = gdB d' want yes no := by rw [h]
def gd (g:Option (Nat × Bool)) (f:Fr) (yes no:Prop):Prop:=
 match g with
 | none=>yes
 | some (j,want)=>gdB (f.get j) want yes no
theorem aDz (f:Fr) (yes no:Prop):gd none f yes no=yes:=rfl
theorem aDy (j:Nat) (want:Bool) (f:Fr) (yes no:Prop):gd (some (j,want)) f yes no=gdB (f.get j) want yes no:=rfl
theorem aB2 (o:DOp) (f:Fr) (yes no:Prop):yO o f yes no=gd o.guard f yes no:=by
 unfold yO gd
 split
 ·rename_i h; rw [h]
 ·rename_i h; rw [h]; rfl
def aRb (q:Bool) (σ:St) (sz bytes:Nat) (x:D) (y:Option (List (List D))) (K:D->St->Prop):Prop:=
 match y with
 | none=>False
 | some rows=>(∀ r ∈ rows,wM r=true)/\ match x with
  | .xH=>rows.length*bytes<=140737488355328/\rows.length<=8000000000000/\(rows = []->K .xH σ)/\ (rows ≠ []->K (.osl σ.nx sz rows.length) (σ.new ⟨sz,rows⟩))
  | .osl key sz' n=>match σ.get key with
   | some ob=>sz=sz'/\ob.sz=sz/\n<=ob.els.length/\(n+rows.length)* bytes<=140737488355328/\n+rows.length<=8000000000000 /\
    K (.osl σ.nx sz (n+rows.length)) ((σ.erase key).new ⟨sz,ob.els.take n++rows⟩)
   | none=>False
  | .sub key sz' lo n=>match σ.get key with
   | some ob=>q=true/\sz=sz'/\ob.sz=sz/\lo+n<=ob.els.length/\(n+rows.length)* bytes<=140737488355328/\n+rows.length<=8000000000000 /\
    ∀ pre:List (List D),(pre = []\/pre=ob.els.take lo)->K (.sub σ.nx sz pre.length (n+rows.length)) ((σ.erase key).new ⟨sz,pre++((ob.els.drop lo).take n++rows)⟩)
   | none=>False
  | _=>False
def aBm (σ:St) (n:Nat) (a:D) (x:Option (List D)) (K:D->St->Prop):Prop:=
 match a,x with
 | .ref key sz i off,some ds=>match σ.get key with
  | some ob=>ob.sz=sz/\i<ob.els.length/\ds.length=n/\off+n<=sz/\wM ds=true/\K .und (σ.set key ⟨sz,ob.els.set i (eB (ob.els.getD i []) off ds)⟩)
  | none=>False
 | _,_=>False
def aKf (x:D) (K:D->Prop):Prop:=
 match x with
 | .sl _ els=>K (.int .i64 els.length)
 | .osl _ _ n=>K (.int .i64 n)
 | .sub _ _ _ n=>K (.int .i64 n)
 | .xH=>K (.int .i64 0)
 | .emp=>K (.int .i64 0)
 | _=>False
def aKm (sz:Nat) (x i:D) (K:D->Prop):Prop:=
 match x,i with
 | .sl sz' els,.int _ n=>sz=sz'/\0<=n/\n<els.length/\K (.ptr (els.getD n.toNat []))
 | .osl key sz' len,.int _ n=>sz=sz'/\0<=n/\n<len/\K (.ref key sz n.toNat 0)
 | .sub key sz' lo len,.int _ n=>sz=sz'/\0<=n/\n<len/\K (.ref key sz (lo+n.toNat) 0)
 | _,_=>False
def pZ (neg:Bool) (x y:D) (K:D->Prop):Prop:=
 match x,y with
 | .xH,.xH=>K (.bool (!neg))
 | .osl ..,.xH | .xH,.osl ..=>K (.bool neg)
 | .emp,.xH | .xH,.emp=>K (.bool neg)
 | .sl _ (_ :: _),.xH=>K (.bool neg)
 | _,_=>False
def aRm (σ:St) (n:Nat) (ag:Bool) (x:D) (K:D->Prop):Prop:=
 match x with
 | .ref key sz i off=>match σ.get key with
  | some o=>o.sz=sz/\i<o.els.length/\off+n<=sz/\(ag=true\/n=1)/\ K (rE ag (((o.els.getD i []).drop off).take n))
  | none=>False
 | .ptr cs=>n<=cs.length/\(ag=true\/n=1)/\ K (rE ag (cs.take n))
 | _=>False
def aC5 (x:D) (K:D->Prop):Prop:=
 match x with
 | .ref key sz i off=>K (.ref key sz i off)
 | .ptr cs=>K (.ptr cs)
 | .fn f cs=>K (.fn f cs)
 | _=>False
@[congr] theorem aBg {x x' : D} {K : D -> Prop} (h : x = x') : aC5 x K = aC5 x' K := by rw [h]
theorem aIy {key sz i off:Nat} {K:D->Prop}:aC5 (.ref key sz i off) K=K (.ref key sz i off):=rfl
theorem aIz {cs:List D} {K:D->Prop}:aC5 (.ptr cs) K=K (.ptr cs):=rfl
theorem aDe {f:FuncId} {cs:List D} {K:D->Prop}:aC5 (.fn f cs) K=K (.fn f cs):=rfl
def aRk (σ:St) (zero:D) (ok:Bool) (m k:D) (K:D->Prop):Prop:=
 match m,k with
 | .vN key,.int kk x=>match σ.get key with
  | some o=>o.sz=0/\jB kk o.els/\K (iH ok zero (qD x o.els 0))
  | none=>False
 | .lC,.int _ _=>K (iH ok zero none)
 | _,_=>False
def aP3 (σ:St) (m k x:D) (K:D->St->Prop):Prop:=
 match m,k with
 | .vN key,.int kk y=>match σ.get key with
  | some o=>o.sz=0/\jB kk o.els/\K .und (σ.set key ⟨0,aWq kk o.els y x⟩)
  | none=>False
 | _,_=>False
def jN (σ:St) (n:Nat) (zero:D) (ok:Bool) (m k:D) (K:D->Prop):Prop:=
 match m,k with
 | .vN key,.agg cs=>match σ.get key with
  | some o=>o.sz=0/\∃ (x:List Int) (l:List (List Int × D)),(cs=x.map (D.int .i64)/\ o.els=qF l/\x.length=n/\∀ p ∈ l,p.1.length=n)/\ K (iH ok zero (pS x l 0))
  | none=>False
 | _,_=>False
def mR (σ:St) (n:Nat) (m k x:D) (K:D->St->Prop):Prop:=
 match m,k with
 | .vN key,.agg cs=>match σ.get key with
  | some o=>o.sz=0/\∃ (y:List Int) (l:List (List Int × D)),(cs=y.map (D.int .i64)/\ o.els=qF l/\(y.length=n/\∀ p ∈ l,p.1.length=n))/\ K .und (σ.set key ⟨0,qF (bU y x l)⟩)
  | none=>False
 | _,_=>False
def aFu (σ:St) (zero m k:D) (K:D->St->Prop):Prop:=
 match m,k with
 | .vN key,.int kk y=>match σ.get key with
  | some o=>o.sz=0/\jB kk o.els/\o.els.length<=1000000000/\(match qD y o.els 0 with
   | some (i,d)=>K (.tup [d,.int .i64 i]) (σ.set key ⟨0,o.els⟩)
   | none=>K (.tup [zero,.int .i64 o.els.length]) (σ.set key ⟨0,o.els ++ [[.int kk y,zero]]⟩))
  | none=>False
 | _,_=>False
def aFw (σ:St) (m s x:D) (K:D->St->Prop):Prop:=
 match m,s with
 | .vN key,.int _ i=>match σ.get key with
  | some o=>o.sz=0/\0<=i/\i<o.els.length/\(∃ kk y d,o.els.getD i.toNat [] = [.int kk y,d]/\K .und (σ.set key ⟨0,o.els.set i.toNat [.int kk y,x]⟩))
  | none=>False
 | _,_=>False
@[congr] theorem aCr {σ : St} {zero : D} {ok : Bool} {m m' k k' : D} {K : D -> Prop} (h : m = m') (h' : k = k') : aRk σ zero ok m k K = aRk σ zero ok m' k' K := by rw [h, h']
@[congr] theorem aCp {σ : St} {m m' k k' x x' : D} {K : D -> St -> Prop} (h : m = m') (h' : k = k') (h2 : x = x') : aP3 σ m k x K = aP3 σ m' k' x' K := by rw [h, h', h2]
@[congr] theorem aFd {σ : St} {n : Nat} {zero : D} {ok : Bool} {m m' k k' : D} {K : D -> Prop} (h : m = m') (h' : k = k') : jN σ n zero ok m k K = jN σ n zero ok m' k' K := by rw [h, h']
@[congr] theorem aFb {σ : St} {n : Nat} {m m' k k' x x' : D} {K : D -> St -> Prop} (h : m = m') (h' : k = k') (h2 : x = x') : mR σ n m k x K = mR σ n m' k' x' K := by rw [h, h', h2]
@[congr] theorem aCt {σ : St} {zero m m' k k' : D} {K : D -> St -> Prop} (h : m = m') (h' : k = k') : aFu σ zero m k K = aFu σ zero m' k' K := by rw [h, h']
@[congr] theorem aCw {σ : St} {m m' k k' x x' : D} {K : D -> St -> Prop} (h : m = m') (h' : k = k') (h2 : x = x') : aFw σ m k x K = aFw σ m' k' x' K := by rw [h, h', h2]
@[congr] theorem aBj {q : Bool} {σ : St} {sz bytes : Nat} {x x' : D} {y y' : Option (List (List D))} {K : D -> St -> Prop} (h : x = x') (h' : y = y') : aRb q σ sz bytes x y K = aRb q σ sz bytes x' y' K := by rw [h, h']
@[congr] theorem aBe {σ : St} {n : Nat} {x x' : D} {y y' : Option (List D)} {K : D -> St -> Prop} (h : x = x') (h' : y = y') : aBm σ n x y K = aBm σ n x' y' K := by rw [h, h']
@[congr] theorem aBh {x x' : D} {K : D -> Prop} (h : x = x') : aKf x K = aKf x' K := by rw [h]
@[congr] theorem aBi {sz : Nat} {x x' i i' : D} {K : D -> Prop} (h : x = x') (h' : i = i') : aKm sz x i K = aKm sz x' i' K := by rw [h, h']
@[congr] theorem aFa {neg : Bool} {x x' i i' : D} {K : D -> Prop} (h : x = x') (h' : i = i') : pZ neg x i K = pZ neg x' i' K := by rw [h, h']
@[congr] theorem aCu {σ : St} {n : Nat} {ag : Bool} {x x' : D} {K : D -> Prop} (h : x = x') : aRm σ n ag x K = aRm σ n ag x' K := by rw [h]
def pX (C:Cx) (σ:St) (ev:Opd->D) (k:DK) (K:D->Prop):Prop:=
 match k with
 | .len x=>aKf (ev x) K
 | .idx sz x i=>aKm sz (ev x) (ev i) K
 | .bY neg x y=>pZ neg (ev x) (ev y) K
 | .load n ag x=>aRm σ n ag (ev x) K
 | .aGg zero ok m k=>aRk σ zero ok (ev m) (ev k) K
 | .aXp n zero ok m k=>jN σ n zero ok (ev m) (ev k) K
 | .nck x=>aC5 (ev x) K
 | k=>pW C σ ev k K
theorem aBy (C:Cx) (σ:St) (ev:Opd->D) (k:DK) (K:D->Prop):pX C σ ev k K=pW C σ ev k K:=by cases k <;> rfl
def opX (C:Cx) (σ:St) (ev:Opd->D) (k:DK) (K:D->St->Prop):Prop:=
 match k with
 | .box x=>opV C σ ev (.box x) K
 | .alloc z=>opV C σ ev (.alloc z) K
 | .store n a x=>aBm σ n (ev a) (ev x).cells K
 | .app sz bytes x y=>aRb (C.own.contains 77777) σ sz bytes (ev x) (rowsOf σ sz (ev y)) K
 | .aXh sz bytes zero len cap=>opV C σ ev (.aXh sz bytes zero len cap) K
 | .aXg sz len zero parts=>opV C σ ev (.aXg sz len zero parts) K
 | .clr zero x=>opV C σ ev (.clr zero x) K
 | .cpy x y=>opV C σ ev (.cpy x y) K
 | .call fn args=>opV C σ ev (.call fn args) K
 | .mkm=>opV C σ ev .mkm K
 | .aWm m k x=>aP3 σ (ev m) (ev k) (ev x) K
 | .kZ n m k x=>mR σ n (ev m) (ev k) (ev x) K
 | .aPp zero m k=>aFu σ zero (ev m) (ev k) K
 | .aPr m s x=>aFw σ (ev m) (ev s) (ev x) K
 | k=>pX C σ ev k (atK σ K)
theorem aOe (C:Cx) (σ:St) (ev:Opd->D) (k:DK) (K:D->St->Prop):opX C σ ev k K=opV C σ ev k K:=by cases k <;> first | rfl | (show pX _ _ _ _ _=_; rw [aBy]; rfl)
def aPn (C:Cx):List DOp->(Fr->St->Prop)->Fr->St->Prop
 | [],K,f,σ=>K f σ
 | ⟨dst,g,k⟩ :: rest,K,f,σ=>gd g f (opX C σ (evO f) k (bYg f dst (aPn C rest K))) (aPn C rest K (f.put dst .und) σ)
theorem gW (C:Cx) (K:Fr->St->Prop):∀ (ops:List DOp) (f:Fr) (σ:St),aPn C ops K f σ=qL C ops f σ K
 | [],f,σ=>rfl
 | o :: rest,f,σ=>by
  have ih:aPn C rest K=fun f σ=>qL C rest f σ K:=by funext f σ; exact gW C K rest f σ
  unfold aPn qL;rw [aB2,aOe,ih];rfl
def aPm (C:Cx) (σ:St):List DOp->(Fr->Prop)->Fr->Prop
 | [],K,f=>K f
 | ⟨dst,g,k⟩ :: rest,K,f=>gd g f (pX C σ (evO f) k (bYf f dst (aPm C σ rest K))) (aPm C σ rest K (f.put dst .und))
theorem nS (C:Cx) (σ:St) (K:Fr->Prop):∀ (ops:List DOp) (f:Fr),aPm C σ ops K f=tX C σ ops f K
 | [],f=>rfl
 | o :: rest,f=>by
  have ih:aPm C σ rest K=fun f=>tX C σ rest f K:=by funext f; exact nS C σ K rest f
  unfold aPm tX;rw [aB2,aBy,ih];rfl
def aP2 (C:Cx) (post:List DOp) (Q:Exit->Fr->St->Prop) (σ:St) (f:Fr):Prop:=aPn C post (jC Q) f σ
def cdB (d:D) (p q:Prop):Prop:=
 match d with
 | .bool t=>if t=true then p else q
 | _=>False
theorem aH1 (t:Bool) (p q:Prop):cdB (.bool t) p q=if t=true then p else q:=rfl
@[congr] theorem bXx {d d' : D} {p q : Prop} (h : d = d') : cdB d p q = cdB d' p q := by rw [h]
def aUw (C:Cx) (it:Nat) (m:Opd) (out nx more next pair:Nat) (rest:List DOp) (code:DC) (Q:Exit->Fr->St->Prop) (f:Fr) (σ:St):Prop:=aXy C it m out nx more next pair rest code f σ Q
@[congr] theorem aFc {C : Cx} {it : Nat} {m : Opd} {out nx more next pair : Nat} {rest : List DOp} {code : DC} {Q : Exit -> Fr -> St -> Prop} {f f' : Fr} {σ : St} (h : f = f') : aUw C it m out nx more next pair rest code Q f σ = aUw C it m out nx more next pair rest code Q f' σ := by rw [h]
def aO4 (C:Cx) (code:DC) (out next:Nat) (J:Fr->St->Prop) (Q:Exit->Fr->St->Prop) (f:Fr) (σ:St):Prop:=wpS C code f σ (pT next (kX J (pT out Q)))
@[congr] theorem aGd {C : Cx} {code : DC} {out next : Nat} {J : Fr -> St -> Prop} {Q : Exit -> Fr -> St -> Prop} {f f' : Fr} {σ : St} (h : f = f') : aO4 C code out next J Q f σ = aO4 C code out next J Q f' σ := by rw [h]
def aP7 (C:Cx) (k:DK) (K:Fr->D->St->Prop) (σ:St) (f1:Fr):Prop:=opX C σ (evO f1) k (K f1)
def eqF (f:Fr) (g:Fr):Prop:=g=f
def unK (C:Cx) (un:Bool) (mid:List DOp) (f1:Fr) (σ:St) (K:Fr->St->Prop) (σ1:St) (f2:Fr):Prop:=(if un=true then aPm C σ mid (eqF f2) f1 else True)/\ K f2 σ1
def aC7 (C:Cx) (pre:List DOp) (dst:Option Nat) (mid:List DOp) (un:Bool) (post:List DOp) (Q:Exit->Fr->St->Prop) (f:Fr) (σ:St) (f1:Fr) (d:D) (σ1:St):Prop:= aPm C σ1 pre (eqF f1) f/\aPm C σ1 mid (unK C un mid (f1.put dst d) σ (aPn C post (jC Q)) σ1) (f1.put dst d)
theorem aDl {C:Cx} {pre:List DOp} {dst:Option Nat} {mid:List DOp} {un:Bool} {post:List DOp} {Q:Exit->Fr->St->Prop} {f:Fr} {σ:St} {f1:Fr} {d:D} {σ1:St} :
  aC7 C pre dst mid un post Q f σ f1 d σ1=aBr C pre dst mid un f σ (fun f σ=>qL C post f σ fun f σ=>Q .normal f σ) f1 d σ1:=by
 unfold aC7 aBr;rw [nS,nS]
 have:unK C un mid (f1.put dst d) σ (aPn C post (jC Q)) σ1=fun f2=>(if un=true then tX C σ mid (f1.put dst d) (fun g=>g=f2) else True)/\ qL C post f2 σ1 fun f σ=>Q .normal f σ:=by funext f2;unfold unK;rw [nS,gW];rfl
 rw [this];rfl
def wpX (C:Cx):DC->(Exit->Fr->St->Prop)->Fr->St->Prop
 | .skip,Q,f,σ=>Q .normal f σ
 | .reg pre post,Q,f,σ=>aPm C σ pre (aP2 C post Q σ) f
 | .aKk pre m mid un post,Q,f,σ=>aPm C σ pre (aP7 C m.k (aC7 C pre m.dst mid un post Q f σ) σ) f
 | .aGf pre m1 mid1 m2 mid2 post,Q,f,σ=>wpD C (.aGf pre m1 mid1 m2 mid2 post) f σ Q
 | .seq a b,Q,f,σ=>wpX C a (kX (wpX C b Q) Q) f σ
 | .cond c a b,Q,f,σ=>cdB (evO f c) (wpX C a Q f σ) (wpX C b Q f σ)
 | .block id c,Q,f,σ=>wpX C c (pT id Q) f σ
 | .loop c,Q,f,σ=>wpS C (.loop c) f σ Q
 | .aPl g ps a c,Q,f,σ=>wpS C (.aPl g ps a c) f σ Q
 | .aWl pre m1 mid1 m2 mid2 post free,Q,f,σ=>wpS C (.aWl pre m1 mid1 m2 mid2 post free) f σ Q
 | .aUm pre m mid un post fl,Q,f,σ=>wpS C (.aUm pre m mid un post fl) f σ Q
 | .exit id,Q,f,σ=>Q (.exit id) f σ
 | .ret,Q,f,σ=>Q .ret f σ
 | .rng ..,_,_,_=>False
 | .nxt ..,_,_,_=>False
 | .ent ..,_,_,_=>False
 | .aXn pre it m out nx more next pair rest code,Q,f,σ=>aPn C pre (aUw C it m out nx more next pair rest code Q) f σ
theorem iB (C:Cx):∀ (dc:DC) (Q:Exit->Fr->St->Prop) (f:Fr) (σ:St),wpX C dc Q f σ=wpD C dc f σ Q
 | .skip,Q,f,σ=>rfl
 | .reg pre post,Q,f,σ=>by
  unfold wpX wpD;rw [nS]
  have:aP2 C post Q σ=fun f=>qL C post f σ fun f σ=>Q .normal f σ:=by funext f;unfold aP2;rw [gW];rfl
  rw [this]
 | .aKk pre m mid un post,Q,f,σ=>by
  unfold wpX wpD;rw [nS]
  have:aP7 C m.k (aC7 C pre m.dst mid un post Q f σ) σ=fun f1=>opV C σ (evO f1) m.k fun d σ1=>aBr C pre m.dst mid un f σ (fun f σ=>qL C post f σ fun f σ=>Q .normal f σ) f1 d σ1:=by funext f1;unfold aP7;rw [aOe];congr 1;funext d σ1;exact aDl
  rw [this]
 | .aGf ..,Q,f,σ=>rfl
 | .seq a b,Q,f,σ=>by
  have ih:wpX C b Q=fun f σ=>wpD C b f σ Q:=by funext f σ; exact iB C b Q f σ
  unfold wpX;rw [iB C a,ih];rfl
 | .cond c a b,Q,f,σ=>by unfold wpX;rw [iB C a,iB C b];rfl
 | .block id c,Q,f,σ=>by unfold wpX; rw [iB C c]; rfl
 | .loop c,Q,f,σ=>rfl
 | .aPl g ps a c,Q,f,σ=>rfl
 | .aWl ..,Q,f,σ=>rfl
 | .aUm ..,Q,f,σ=>rfl
 | .exit id,Q,f,σ=>rfl
 | .ret,Q,f,σ=>rfl
 | .rng ..,_,_,_=>rfl
 | .nxt ..,_,_,_=>rfl
 | .ent ..,_,_,_=>rfl
 | .aXn pre it m out nx more next pair rest code,Q,f,σ=>by unfold wpX wpD; rw [gW]; rfl
noncomputable def aUv {α:Sort u} (a:α):α:=Classical.choose (⟨a,rfl⟩:∃ b:α,b=a)
theorem gM {α:Sort u} (a:α):aUv a=a:=Classical.choose_spec (⟨a,rfl⟩:∃ b:α,b=a)
noncomputable def aS6 (C:Cx):List DOp->(Fr->St->Prop)->Fr->St->Prop:=aUv (aPn C)
noncomputable def lH (C:Cx) (σ:St):List DOp->(Fr->Prop)->Fr->Prop:=aUv (aPm C σ)
noncomputable def wpZ (C:Cx):DC->(Exit->Fr->St->Prop)->Fr->St->Prop:=aUv (wpX C)
theorem kP (C:Cx):aS6 C=aPn C:=gM _
theorem nT (C:Cx) (σ:St):lH C σ=aPm C σ:=gM _
theorem tG (C:Cx):wpZ C=wpX C:=gM _
section
variable (C : Cx) (σ : St) (f : Fr) (Q : Exit -> Fr -> St -> Prop) (K : Fr -> St -> Prop) (K1 : Fr -> Prop) (a b c : DC) (dst : Option Nat) (g : Option (Nat × Bool)) (k : DK) (rest pre post : List DOp) (x : Opd) (id : Nat)
theorem aIg : aS6 C [] K f σ=K f σ:=by rw [kP]; rfl
theorem aMw : aS6 C (⟨dst,g,k⟩ :: rest) K f σ=gd g f (opX C σ (evO f) k (bYg f dst (aS6 C rest K))) (aS6 C rest K (f.put dst .und) σ):=by rw [kP]; rfl
theorem aTl : lH C σ [] K1 f=K1 f:=by rw [nT]; rfl
theorem aMt : lH C σ (⟨dst,g,k⟩ :: rest) K1 f=gd g f (pX C σ (evO f) k (bYf f dst (lH C σ rest K1))) (lH C σ rest K1 (f.put dst .und)):=by rw [nT]; rfl
def aKt (C:Cx) (post:List DOp) (Q:Exit->Fr->St->Prop) (σ:St) (f:Fr):Prop:=aS6 C post (jC Q) f σ
theorem aKx : wpZ C .skip Q f σ=Q .normal f σ:=by rw [tG]; rfl
theorem aF1 : wpZ C (.reg pre post) Q f σ=lH C σ pre (aKt C post Q σ) f:=by
 have e:aKt C post Q σ=aP2 C post Q σ:=by funext f; unfold aKt aP2; rw [kP]
 rw [tG,nT,e]; rfl
def bW (C:Cx) (k:DK) (K:Fr->D->St->Prop) (σ:St) (f1:Fr):Prop:=opX C σ (evO f1) k (K f1)
def unZ (C:Cx) (un:Bool) (mid:List DOp) (f1:Fr) (σ:St) (K:Fr->St->Prop) (σ1:St) (f2:Fr):Prop:=(if un=true then lH C σ mid (eqF f2) f1 else True)/\ K f2 σ1
def bX5 (C:Cx) (pre:List DOp) (dst:Option Nat) (mid:List DOp) (un:Bool) (post:List DOp) (Q:Exit->Fr->St->Prop) (f:Fr) (σ:St) (f1:Fr) (d:D) (σ1:St):Prop:= lH C σ1 pre (eqF f1) f/\lH C σ1 mid (unZ C un mid (f1.put dst d) σ (aS6 C post (jC Q)) σ1) (f1.put dst d)
theorem aK0 {mid:List DOp} {un:Bool}:wpZ C (.aKk pre ⟨dst,g,k⟩ mid un post) Q f σ=lH C σ pre (bW C k (bX5 C pre dst mid un post Q f σ) σ) f:=by
 have e:bW C k (bX5 C pre dst mid un post Q f σ) σ=aP7 C k (aC7 C pre dst mid un post Q f σ) σ:=by
  funext f1;unfold bW aP7;congr 1;funext d σ1;unfold bX5 aC7
  have e2:unZ C un mid (f1.put dst d) σ (aS6 C post (jC Q)) σ1=unK C un mid (f1.put dst d) σ (aPn C post (jC Q)) σ1:=by funext f2; unfold unZ unK; rw [kP,nT]
  rw [e2,nT]
 rw [tG,nT,e]; rfl
theorem aHq (f:Fr):eqF f f=True:=eq_true rfl
theorem aFz : wpZ C (.seq a b) Q f σ=wpZ C a (kX (wpZ C b Q) Q) f σ:=by rw [tG]; rfl
theorem aK3 : wpZ C (.cond x a b) Q f σ=cdB (evO f x) (wpZ C a Q f σ) (wpZ C b Q f σ):=by rw [tG]; rfl
theorem aNw : wpZ C (.block id c) Q f σ=wpZ C c (pT id Q) f σ:=by rw [tG]; rfl
theorem aK1 : wpZ C (.loop c) Q f σ=wpS C (.loop c) f σ Q:=by rw [tG]; rfl
theorem aKy {g:Opd} {ps:List Nat}:wpZ C (.aPl g ps a c) Q f σ=wpS C (.aPl g ps a c) f σ Q:=by rw [tG]; rfl
theorem aK2 : wpZ C (.exit id) Q f σ=Q (.exit id) f σ:=by rw [tG]; rfl
theorem aF0 : wpZ C .ret Q f σ=Q .ret f σ:=by rw [tG]; rfl
theorem aNv {it:Nat} {m:Opd} {out nx more next pair:Nat} {rst:List DOp} {code:DC}:wpZ C (.aXn pre it m out nx more next pair rst code) Q f σ=aS6 C pre (aUw C it m out nx more next pair rst code Q) f σ:=by rw [tG,kP]; rfl
end
theorem xN {C:Cx} (hm:C.P.follows .mixedOrders=true) {dc:DC} {f:Fr} {σ:St} {Q:Exit->Fr->St->Prop} (h:wpZ C dc Q f σ):wpS C dc f σ Q:= aGl hm (by rw [<- iB,<- tG]; exact h)
theorem xX.xR {P:Program} {g:FuncId} {fn:Func} {own:List Nat} {N:Nat} {dc:DC} {rs:List yP} {args:List D} {σ:St} {d:D} {σ':St} (hm:P.follows .mixedOrders=true) (hf:P.funcs[g]?=some fn)
  (hc:xT P own fn=some (N,dc,rs)) (hla:args.length<=N)
  (h:D.uE args->wpZ ⟨P,N,σ.nx,own,none⟩ dc (aP8 ⟨P,N,σ.nx,own,none⟩ rs d σ') (iC 0 args) σ):xX P g args σ d σ':=
 xX.bY3 hm hf hc hla fun hfa=>by rw [<- iB,<- tG]; exact h hfa
end Go.Pd
namespace Go.Pd
open Go
theorem aSv (s:BitVec 64) (w:Nat):s >>> w &&& 1#64=if s.getLsbD w then 1#64 else 0#64:=by
 apply BitVec.eq_of_toNat_eq;rw [BitVec.toNat_and,BitVec.toNat_ushiftRight];have:(1#64).toNat=1:=rfl;rw [this,Nat.and_one_is_mod];unfold BitVec.getLsbD;rw [Nat.testBit_eq_decide_div_mod_eq,Nat.shiftRight_eq_div_pow]
 by_cases h:s.toNat / 2 ^ w % 2=1
 ·simp [h]
 ·simp [h]; omega
theorem aW1 {k:Nat} (hk:k<62):aKe .i64 1 k=((2 ^ k:Nat):Int):=by
 have hp:2 ^ k<2 ^ 62:=Nat.pow_lt_pow_right (by omega) hk;unfold aKe
 have e:min (k:Int).toNat IntKind.i64.bits=k:=by have:IntKind.i64.bits=64:=rfl;rw [this,Int.toNat_natCast]; omega
 rw [e,Int.one_mul,wrap_i64]
 ·simp
 ·have:((2:Int)^ k)= ((2 ^ k:Nat):Int):=by simp
  rw [this];exact⟨Int.le_trans (by decide) (Int.natCast_nonneg _),Int.le_trans (Int.ofNat_le.2 (Nat.le_of_lt hp)) (by decide)⟩
theorem or_zero {a k:Nat} (h:a<2 ^ k) (hk:k<62):qI .or .i64 (a:Int) (aKe .i64 0 k)= (a:Int):=by
 have hp:2 ^ k<2 ^ 62:=Nat.pow_lt_pow_right (by omega) hk
 have e1:aKe .i64 0 k=0:=by unfold aKe;rw [Int.zero_mul]; rfl
 rw [e1];show IntKind.i64.wrap ((BitVec.ofInt 64 (a:Int) ||| BitVec.ofInt 64 0).toNat:Int)= _;rw [BitVec.ofInt_natCast,BitVec.toNat_or,BitVec.toNat_ofNat,Nat.mod_eq_of_lt (by omega)];have:(BitVec.ofInt 64 0).toNat=0:=rfl;rw [this,Nat.or_zero];exact wrap_i64 (by omega)
end Go.Pd
namespace Go.Pd
open Go
theorem wZ (key sz:Nat):yX key sz [] = .xH:=rfl
theorem cR (key sz:Nat) (e:List D) (r:List (List D)):yX key sz (e :: r)= .osl key sz (r.length+1):=rfl
theorem wY (key sz:Nat):yY key sz [] = []:=rfl
theorem cS (key sz:Nat) (e:List D) (r:List (List D)):yY key sz (e :: r)= [(key,⟨sz,e :: r⟩)]:=rfl
theorem oZ (k:IntKind):rows k [] = []:=rfl
theorem gL (k:IntKind) (n:Int) (l:List Int):rows k (n :: l)= [.int k n] :: rows k l:=rfl
theorem aYh (k:IntKind) (l:List Int) (n:Int):rows k l ++ [[.int k n]]=rows k (l ++ [n]):=by simp [rows]
theorem aW3 (l:List (List (BitVec 64))) (r:List (BitVec 64)):rr l ++ [[.sl 1 (us r)]]=rr (l ++ [r]):=by simp [rr,aC0]
theorem aGp : rr [] = []:=rfl
theorem aOu (l:List (BitVec 64)) (r:List (List (BitVec 64))):rr (l :: r)= [.sl 1 (us l)] :: rr r:=rfl
variable [sO]
theorem aLj {key m n sz:Nat} {els:List (List D)} (hs:0<sz) (hp:∀ e ∈ els,D.xU e=true) {ρ:Nat->Nat}:vw ⟨m,yY key sz els⟩ ⟨n,[]⟩ ρ (yX key sz els) (.sl sz els):=by
 cases els with
 | nil=>simp [yX,vw]
 | cons e r=> simp only [yX,yY,vw];refine⟨trivial,hs,by simp,⟨sz,e :: r⟩,by simp [St.get,St.look],rfl,Nat.le_refl _,by simp,hp⟩
theorem lF.name {n0 n m sz j:Nat} {els:List (List D)} {d d':D} (hn:n0<=n) (hp:∀ e ∈ els,D.xU e=true) (hv:vw ⟨m,[(j,⟨sz,els⟩)]⟩ ⟨n+1,[(n,⟨sz,els⟩)]⟩ (fun k=>if k=n then j else k) d d'):lF n0 ⟨m,[(j,⟨sz,els⟩)]⟩ d ⟨n+1,[(n,⟨sz,els⟩)]⟩ d':=by
 refine .inr ⟨fun k=>if k=n then j else k,by show n0<=n+1; omega,fun k hk=>if_neg (by omega),hv,?_,?_⟩
 ·intro p hp';simp only [List.mem_singleton] at hp';subst hp';exact⟨Nat.lt_succ_self n,⟨sz,els⟩,by simp [St.get,St.look],rfl,.same hp⟩
 ·intro p hp' q hq' _;simp only [List.mem_singleton] at hp' hq';rw [hp',hq']
end Go.Pd
namespace Go.Pd
open Go
def vZ (sz:Nat):List (List D)->Option Ob
 | []=>none
 | e :: r=>some ⟨sz,e :: r⟩
theorem yI {k s:Nat} {els:List (List D)} {r:List (Nat × Ob)} {k':Nat}:St.look (yY k s els++r) k'=if k=k' then(vZ s els).or (St.look r k') else St.look r k':=by
 cases els with
 | nil=>simp [yY,vZ]
 | cons e l=>simp [yY,vZ,St.look]
theorem fB {k s:Nat} {els:List (List D)} {k':Nat}:St.look (yY k s els) k'=if k=k' then vZ s els else none:=by have:=yI (k:=k) (s:=s) (els:=els) (r:=[]) (k':=k');simp only [List.append_nil,St.look,Option.or_none] at this;exact this
theorem eW {k s:Nat} {els:List (List D)} {r:List (Nat × Ob)} {k':Nat}:yG (yY k s els++r) k'=if k=k' then yG r k' else yY k s els++yG r k':=by
 cases els with
 | nil=>simp [yY]
 | cons e l=>simp [yY,yG]
theorem aWa {k s:Nat} {els:List (List D)} {k':Nat}:yG (yY k s els) k'=if k=k' then [] else yY k s els:=by have:=eW (k:=k) (s:=s) (els:=els) (r:=[]) (k':=k');simp only [List.append_nil,yG] at this;exact this
theorem aTb : ∀ {r:List (Nat × Ob)} {k:Nat} {o:Ob},St.look r k=none->vS r k o=r
 | [],_,_,_=>rfl
 | (j,o') :: r,k,o,h=>by
  simp only [St.look] at h
  split at h
  ·cases h
  ·rename_i hn;simp only [vS,if_neg hn,aTb h]
theorem cM : ∀ {r:List (Nat × Ob)} {k:Nat},St.look r k=none->yG r k=r
 | [],_,_=>rfl
 | (j,o') :: r,k,h=>by
  simp only [St.look] at h
  split at h
  ·cases h
  ·rename_i hn;simp only [yG,if_neg hn,cM h]
theorem aYc {k s:Nat} {els els':List (List D)} {r:List (Nat × Ob)} (hl:els'.length=els.length) (h:St.look r k=none):vS (yY k s els++r) k ⟨s,els'⟩= yY k s els'++r:=by
 cases els with
 | nil=> have:els' = []:=List.eq_nil_of_length_eq_zero (by simpa using hl);subst this;simp only [yY,List.nil_append];exact aTb h
 | cons e l=>
  cases els' with
  | nil=>simp at hl
  | cons e' l'=>simp [yY,vS]
theorem dK {k s:Nat} {els els':List (List D)} (hl:els'.length=els.length):vS (yY k s els) k ⟨s,els'⟩= yY k s els':=by have:=aYc (k:=k) (s:=s) (r:=[]) hl rfl;simp only [List.append_nil] at this;exact this
theorem aZ1 {k s:Nat} {els:List (List D)} {r:List (Nat × Ob)} {k':Nat} {o:Ob} (h:k≠k'):vS (yY k s els++r) k' o=yY k s els++vS r k' o:=by
 cases els with
 | nil=>simp [yY]
 | cons e l=>simp [yY,vS,h]
theorem aUe (k s:Nat) (els:List (List D)):(yX k s els).cells=some [yX k s els]:=by cases els <;> rfl
theorem aMy (k s:Nat) (els:List (List D)):(yX k s els).one=true:=by cases els <;> rfl
theorem aL2 (k s n:Nat):(D.osl k s n).cells=some [.osl k s n]:=rfl
theorem aLy (k s l n:Nat):(D.sub k s l n).cells=some [.sub k s l n]:=rfl
theorem aL3 (k:IntKind) (n:Int):(D.int k n).cells=some [.int k n]:=rfl
theorem aPd (b:Bool):(D.bool b).cells=some [.bool b]:=rfl
theorem aLz (s:ByteArray):(D.str s).cells=some [.str s]:=rfl
theorem aHy (sz:Nat) (els:List (List D)):(D.sl sz els).cells=some [.sl sz els]:=rfl
theorem aQ8 : D.xH.cells=some [.xH]:=rfl
theorem aL4 : D.emp.cells=some [.emp]:=rfl
theorem aL5 (cs:List D):(D.agg cs).cells=some cs:=rfl
theorem aHz (f:FuncId) (cs:List D):(D.fn f cs).cells=some [.fn f cs]:=rfl
theorem aL0 (a b c d:Nat):(D.ref a b c d).cells=some [.ref a b c d]:=rfl
theorem aL1 (cs:List D):(D.ptr cs).cells=some [.ptr cs]:=rfl
theorem aPc (k:Nat):(D.vN k).cells=some [.vN k]:=rfl
theorem aQ9 : D.oG.cells=some [.oG]:=rfl
theorem aPa : D.lC.cells=some [.lC]:=rfl
theorem aPb : D.iI.cells=some [.iI]:=rfl
theorem aE6 (k:IntKind) (n:Int):(D.int k n).one=true:=rfl
theorem aIn (b:Bool):(D.bool b).one=true:=rfl
theorem aE0 (s:ByteArray):(D.str s).one=true:=rfl
theorem aAv (sz:Nat) (els:List (List D)):(D.sl sz els).one=true:=rfl
theorem aIi : D.xH.one=true:=rfl
theorem aE8 : D.emp.one=true:=rfl
theorem aAw (f:FuncId) (cs:List D):(D.fn f cs).one=true:=rfl
theorem aE2 (a b c d:Nat):(D.ref a b c d).one=true:=rfl
theorem aE4 (a b c:Nat):(D.osl a b c).one=true:=rfl
theorem aE3 (cs:List D):(D.ptr cs).one=true:=rfl
theorem aIm (k:Nat):(D.vN k).one=true:=rfl
theorem aIj : D.oG.one=true:=rfl
theorem aIk : D.lC.one=true:=rfl
theorem aIl : D.iI.one=true:=rfl
section
variable [sO]
theorem aKa {q:Bool} {σ:St} {sz bytes key:Nat} {els:List (List D)} {rw:List (List D)} {K:D->St->Prop} (h:σ.get key=vZ sz els) (h0:rw ≠ []) :
  aRb q σ sz bytes (yX key sz els) (some rw) K=((∀ r ∈ rw,wM r=true)/\ (els.length+rw.length)* bytes<=140737488355328/\els.length+rw.length<=8000000000000 /\
   K (yX σ.nx sz (els++rw)) ⟨σ.nx+1,yY σ.nx sz (els++rw)++ yG σ.xS key⟩):=by
 cases els with
 | nil=>
  obtain⟨r,rs,rfl⟩:∃ r rs,rw=r :: rs:=by cases rw with | nil=>exact absurd rfl h0 | cons r rs=>exact⟨r,rs,rfl⟩
  have he:yG σ.xS key=σ.xS:=cM h;simp only [aRb,yX,yY,St.new,he,List.nil_append,List.length_nil,Nat.zero_add];simp
 | cons e l=>
  have e1:l.length+1+rw.length=l.length+rw.length+1:=by omega
  simp only [aRb,yX,h,vZ,St.erase,St.new,yY];simp [yX,yY,e1]
theorem aPh {q:Bool} {nx:Nat} {xS:List (Nat × Ob)} {sz bytes key:Nat} {els:List (List D)} {r:List D} {rs:List (List D)} {K:D->St->Prop} (h:St.look xS key=vZ sz els) :
  aRb q ⟨nx,xS⟩ sz bytes (yX key sz els) (some (r :: rs)) K=((∀ x ∈ r :: rs,wM x=true)/\ (els.length+(r :: rs).length)* bytes<=140737488355328/\els.length+(r :: rs).length<=8000000000000 /\
   K (yX nx sz (els++r :: rs)) ⟨nx+1,yY nx sz (els++r :: rs)++ yG xS key⟩):=aKa h (by simp)
theorem aH8 {q:Bool} {σ:St} {sz bytes:Nat} {r:List D} {rs:List (List D)} {K:D->St->Prop} :
  aRb q σ sz bytes .xH (some (r :: rs)) K=((∀ x ∈ r :: rs,wM x=true)/\ (r :: rs).length*bytes<=140737488355328/\(r :: rs).length<=8000000000000/\K (.osl σ.nx sz (r :: rs).length) (σ.new ⟨sz,r :: rs⟩)):=by
 simp [aRb]
theorem aH7 {q:Bool} {σ:St} {sz sz' bytes key n:Nat} {rows:List (List D)} {K:D->St->Prop} :
  aRb q σ sz bytes (.osl key sz' n) (some rows) K=((∀ x ∈ rows,wM x=true)/\ match σ.get key with
   | some ob=>sz=sz'/\ob.sz=sz/\n<=ob.els.length/\(n+rows.length)* bytes<=140737488355328/\n+rows.length<=8000000000000/\K (.osl σ.nx sz (n+rows.length)) ((σ.erase key).new ⟨sz,ob.els.take n++rows⟩)
   | none=>False):=rfl
def aFe (nx:Nat) (xS:List (Nat × Ob)) (n key sz i off:Nat) (ds:List D) (K:D->St->Prop):Option Ob->Prop
 | some ob=>ob.sz=sz/\i<ob.els.length/\ds.length=n/\off+n<=sz/\wM ds=true/\K .und ⟨nx,vS xS key ⟨sz,ob.els.set i (eB (ob.els.getD i []) off ds)⟩⟩
 | none=>False
@[congr] theorem aBf {nx : Nat} {xS : List (Nat × Ob)} {n key sz i off : Nat} {ds : List D} {K : D -> St -> Prop} {o o' : Option Ob} (h : o = o') : aFe nx xS n key sz i off ds K o = aFe nx xS n key sz i off ds K o' := by rw [h]
theorem aJl {nx:Nat} {xS:List (Nat × Ob)} {n key sz i off:Nat} {ds:List D} {K:D->St->Prop}:aBm ⟨nx,xS⟩ n (.ref key sz i off) (some ds) K=aFe nx xS n key sz i off ds K (St.look xS key):=by simp only [aBm,St.get];cases St.look xS key <;> rfl
theorem aN4 {nx:Nat} {xS:List (Nat × Ob)} {n key sz i off:Nat} {ds:List D} {K:D->St->Prop} {sz':Nat} {els:List (List D)} :
  aFe nx xS n key sz i off ds K (some ⟨sz',els⟩)= (sz'=sz/\i<els.length/\ds.length=n/\off+n<=sz/\wM ds=true/\K .und ⟨nx,vS xS key ⟨sz,els.set i (eB (els.getD i []) off ds)⟩⟩):=rfl
theorem aN5 {nx:Nat} {xS:List (Nat × Ob)} {n key sz i off:Nat} {ds:List D} {K:D->St->Prop} {els:List (List D)} :
  aFe nx xS n key sz i off ds K (vZ sz els)= (i<els.length/\ds.length=n/\off+n<=sz/\wM ds=true/\K .und ⟨nx,vS xS key ⟨sz,els.set i (eB (els.getD i []) off ds)⟩⟩):=by
 cases els with
 | nil=>simp [aFe,vZ]
 | cons e l=>simp [aFe,vZ]
def aWr (n:Nat) (ag:Bool) (sz i off:Nat) (K:D->Prop):Option Ob->Prop
 | some o=>o.sz=sz/\i<o.els.length/\off+n<=sz/\(ag=true\/n=1)/\ K (rE ag (((o.els.getD i []).drop off).take n))
 | none=>False
@[congr] theorem aCv {n sz i off : Nat} {ag : Bool} {K : D -> Prop} {o o' : Option Ob} (h : o = o') : aWr n ag sz i off K o = aWr n ag sz i off K o' := by rw [h]
theorem aM9 {nx:Nat} {xS:List (Nat × Ob)} {n key sz i off:Nat} {ag:Bool} {K:D->Prop}:aRm ⟨nx,xS⟩ n ag (.ref key sz i off) K=aWr n ag sz i off K (St.look xS key):=by simp only [aRm,St.get];cases St.look xS key <;> rfl
theorem aQk {n sz i off:Nat} {ag:Bool} {K:D->Prop} {sz':Nat} {els:List (List D)}:aWr n ag sz i off K (some ⟨sz',els⟩)= (sz'=sz/\i<els.length/\off+n<=sz/\(ag=true\/n=1)/\ K (rE ag (((els.getD i []).drop off).take n))):=rfl
theorem aQl {n sz i off:Nat} {ag:Bool} {K:D->Prop} {els:List (List D)}:aWr n ag sz i off K (vZ sz els)= (i<els.length/\off+n<=sz/\(ag=true\/n=1)/\ K (rE ag (((els.getD i []).drop off).take n))):=by
 cases els with
 | nil=>simp [aWr,vZ]
 | cons e l=>simp [aWr,vZ]
theorem aLa {σ:St} {n:Nat} {ag:Bool} {cs:List D} {K:D->Prop}:aRm σ n ag (.ptr cs) K=(n<=cs.length/\(ag=true\/n=1)/\ K (rE ag (cs.take n))):=rfl
def aWf (kk:IntKind) (l:List (Int × D)):List (List D):=l.map fun p=>[.int kk p.1,p.2]
def rW (x:Int):List (Int × D)->Nat->Option (Nat × D)
 | [],_=>none
 | (m,d) :: r,i=>if x=m then some (i,d) else rW x r (i+1)
def aBt (l:List (Int × D)) (x:Int) (d:D):List (Int × D):=
 match rW x l 0 with
 | some (i,_)=>l.set i (x,d)
 | none=>l ++ [(x,d)]
theorem cT (kk:IntKind) (l:List (Int × D)):jB kk (aWf kk l):=by intro row h;simp only [aWf,List.mem_map] at h;obtain⟨p,_,rfl⟩:=h;exact⟨_,_,rfl⟩
theorem kA (kk:IntKind) (x:Int):∀ (l:List (Int × D)) (i:Nat),qD x (aWf kk l) i=rW x l i
 | [],_=>rfl
 | (m,d) :: r,i=>by show qD x ([.int kk m,d] :: aWf kk r) i=_;rw [qD,rW,kA kk x r (i+1)]
theorem aQf (kk:IntKind) (l:List (Int × D)) (x:Int) (d:D):aWq kk (aWf kk l) x d=aWf kk (aBt l x d):=by
 unfold aWq aBt;rw [kA]
 cases rW x l 0 with
 | none=>simp [aWf]
 | some p=>simp [aWf,List.map_set]
theorem iN : ∀ {a b:List Int},a.map (D.int .i64)= b.map (D.int .i64)->a=b
 | [],[],_=>rfl
 | [],_ :: _,h=>by simp at h
 | _ :: _,[],h=>by simp at h
 | x :: a,y :: b,h=>by simp only [List.map_cons,List.cons.injEq,D.int.injEq,true_and] at h;rw [h.1,iN h.2]
theorem aE : ∀ {a b:List (List Int × D)},qF a=qF b->a=b
 | [],[],_=>rfl
 | [],_ :: _,h=>by simp [qF] at h
 | _ :: _,[],h=>by simp [qF] at h
 | (x,d) :: a,(y,e) :: b,h=>by simp only [qF,List.map_cons,List.cons.injEq,D.agg.injEq,and_true] at h;obtain⟨⟨h1,h2⟩,h3⟩:=h;rw [iN h1,h2,aE (a:=a) (b:=b) h3]
theorem fY {nx:Nat} {xS:List (Nat × Ob)} {n:Nat} {zero:D} {ok:Bool} {key:Nat} {x:List Int} {l:List (List Int × D)} {cs:List D} {K:D->Prop} (hg:St.look xS key=some ⟨0,qF l⟩) (hc:cs=x.map (D.int .i64)) (hx:x.length=n) (hl:∀ p ∈ l,p.1.length=n) :
  jN ⟨nx,xS⟩ n zero ok (.vN key) (.agg cs) K=K (iH ok zero (pS x l 0)):=by
 subst hc;simp only [jN,St.get,hg];refine propext ⟨fun h=>?_,fun h=>⟨trivial,x,l,⟨rfl,rfl,hx,hl⟩,h⟩⟩;obtain⟨_,x',l',⟨h1,h2,_,_⟩,h3⟩:=h;rw [iN h1,aE h2]; exact h3
theorem aQd {nx:Nat} {xS:List (Nat × Ob)} {n:Nat} {key:Nat} {y:List Int} {l:List (List Int × D)} {cs:List D} {x:D} {K:D->St->Prop} (hg:St.look xS key=some ⟨0,qF l⟩) (hc:cs=y.map (D.int .i64)) (hx:y.length=n) (hl:∀ p ∈ l,p.1.length=n) :
  mR ⟨nx,xS⟩ n (.vN key) (.agg cs) x K=K .und ⟨nx,vS xS key ⟨0,qF (bU y x l)⟩⟩:=by
 subst hc;simp only [mR,St.get,hg,St.set];refine propext ⟨fun h=>?_,fun h=>⟨trivial,y,l,⟨rfl,rfl,hx,hl⟩,h⟩⟩;obtain⟨_,x',l',⟨h1,h2,_,_⟩,h3⟩:=h;rw [iN h1,aE h2]; exact h3
theorem gA {nx:Nat} {xS:List (Nat × Ob)} {n:Nat} {key:Nat} {y:List Int} {l:List (List Int × D)} {cs:List D} {x:D} {K:D->St->Prop} (hg:St.look xS key=some ⟨0,qF l⟩) (hc:cs=y.map (D.int .i64)) (hx:y.length=n) (hl:∀ p ∈ l,p.1.length=n) (hno:pS y l 0=none) :
  mR ⟨nx,xS⟩ n (.vN key) (.agg cs) x K=K .und ⟨nx,vS xS key ⟨0,qF (l ++ [(y,x)])⟩⟩:=by
 rw [aQd hg hc hx hl,show bU y x l=l ++ [(y,x)] by unfold bU; rw [hno]]
def aRl (kk:IntKind) (x:Int) (zero:D) (ok:Bool) (K:D->Prop):Option Ob->Prop
 | some o=>o.sz=0/\jB kk o.els/\K (iH ok zero (qD x o.els 0))
 | none=>False
@[congr] theorem aCs {kk : IntKind} {x : Int} {zero : D} {ok : Bool} {K : D -> Prop} {o o' : Option Ob} (h : o = o') : aRl kk x zero ok K o = aRl kk x zero ok K o' := by rw [h]
theorem aQj {nx:Nat} {xS:List (Nat × Ob)} {zero:D} {ok:Bool} {key:Nat} {kk:IntKind} {x:Int} {K:D->Prop}:aRk ⟨nx,xS⟩ zero ok (.vN key) (.int kk x) K=aRl kk x zero ok K (St.look xS key):=by simp only [aRk,St.get];cases St.look xS key <;> rfl
theorem aQi {σ:St} {zero:D} {ok:Bool} {kk:IntKind} {x:Int} {K:D->Prop}:aRk σ zero ok .lC (.int kk x) K=K (iH ok zero none):=rfl
theorem cY {kk:IntKind} {x:Int} {zero:D} {ok:Bool} {K:D->Prop} {l:List (Int × D)}:aRl kk x zero ok K (some ⟨0,aWf kk l⟩)= K (iH ok zero (rW x l 0)):=by simp only [aRl,kA];exact propext ⟨fun h=>h.2.2,fun h=>⟨trivial,cT kk l,h⟩⟩
theorem aM8 {kk:IntKind} {x:Int} {zero:D} {ok:Bool} {K:D->Prop}:aRl kk x zero ok K (some ⟨0,[]⟩)= K (iH ok zero none):=cY (l:=[])
def aRh (nx:Nat) (xS:List (Nat × Ob)) (key:Nat) (kk:IntKind) (y:Int) (x:D) (K:D->St->Prop):Option Ob->Prop
 | some o=>o.sz=0/\jB kk o.els/\K .und ⟨nx,vS xS key ⟨0,aWq kk o.els y x⟩⟩
 | none=>False
@[congr] theorem aCq {nx : Nat} {xS : List (Nat × Ob)} {key : Nat} {kk : IntKind} {y : Int} {x : D} {K : D -> St -> Prop} {o o' : Option Ob} (h : o = o') : aRh nx xS key kk y x K o = aRh nx xS key kk y x K o' := by rw [h]
theorem aQe {nx:Nat} {xS:List (Nat × Ob)} {key:Nat} {kk:IntKind} {y:Int} {x:D} {K:D->St->Prop}:aP3 ⟨nx,xS⟩ (.vN key) (.int kk y) x K=aRh nx xS key kk y x K (St.look xS key):=by simp only [aP3,St.get];cases St.look xS key <;> rfl
theorem dC {nx:Nat} {xS:List (Nat × Ob)} {key:Nat} {kk:IntKind} {y:Int} {x:D} {K:D->St->Prop} {l:List (Int × D)}:aRh nx xS key kk y x K (some ⟨0,aWf kk l⟩)= K .und ⟨nx,vS xS key ⟨0,aWf kk (aBt l y x)⟩⟩:=by simp only [aRh,aQf];exact propext ⟨fun h=>h.2.2,fun h=>⟨trivial,cT kk l,h⟩⟩
theorem aM4 {nx:Nat} {xS:List (Nat × Ob)} {key:Nat} {kk:IntKind} {y:Int} {x:D} {K:D->St->Prop}:aRh nx xS key kk y x K (some ⟨0,[]⟩)= K .und ⟨nx,vS xS key ⟨0,aWf kk [(y,x)]⟩⟩:=dC (l:=[])
theorem aM3 (zero:D):iH true zero none = .tup [zero,.bool false]:=rfl
theorem aM2 (zero:D) (i:Nat) (d:D):iH true zero (some (i,d))= .tup [d,.bool true]:=rfl
theorem aQc (zero:D):iH false zero none=zero:=rfl
theorem aQb (zero:D) (i:Nat) (d:D):iH false zero (some (i,d))= d:=rfl
theorem aDm {sz:Nat} {els:List (List D)} {K:D->Prop}:aKf (.sl sz els) K=K (.int .i64 els.length):=rfl
theorem aHd {k sz n:Nat} {K:D->Prop}:aKf (.osl k sz n) K=K (.int .i64 n):=rfl
theorem aHc {k sz lo n:Nat} {K:D->Prop}:aKf (.sub k sz lo n) K=K (.int .i64 n):=rfl
theorem aHi {sz key sz' lo len:Nat} {k:IntKind} {n:Int} {K:D->Prop}:aKm sz (.sub key sz' lo len) (.int k n) K=(sz=sz'/\0<=n/\n<len/\K (.ref key sz (lo+n.toNat) 0)):=rfl
theorem aLb {K:D->Prop}:aKf .xH K=K (.int .i64 0):=rfl
theorem aHe {K:D->Prop}:aKf .emp K=K (.int .i64 0):=rfl
theorem aDt {sz sz':Nat} {els:List (List D)} {k:IntKind} {n:Int} {K:D->Prop}:aKm sz (.sl sz' els) (.int k n) K=(sz=sz'/\0<=n/\n<els.length/\K (.ptr (els.getD n.toNat []))):=rfl
theorem aHj {sz key sz' len:Nat} {k:IntKind} {n:Int} {K:D->Prop}:aKm sz (.osl key sz' len) (.int k n) K=(sz=sz'/\0<=n/\n<len/\K (.ref key sz n.toNat 0)):=rfl
theorem aIx {neg:Bool} {K:D->Prop}:pZ neg .xH .xH K=K (.bool (!neg)):=rfl
theorem aIw {neg:Bool} {K:D->Prop} {a b c:Nat}:pZ neg (.osl a b c) .xH K=K (.bool neg):=rfl
theorem aIv {neg:Bool} {K:D->Prop} {a b c:Nat}:pZ neg .xH (.osl a b c) K=K (.bool neg):=rfl
theorem aIu {neg:Bool} {K:D->Prop}:pZ neg .emp .xH K=K (.bool neg):=rfl
theorem aIt {neg:Bool} {K:D->Prop}:pZ neg .xH .emp K=K (.bool neg):=rfl
theorem aIs {neg:Bool} {K:D->Prop} {sz:Nat} {e:List D} {r:List (List D)}:pZ neg (.sl sz (e :: r)) .xH K=K (.bool neg):=rfl
def bYa (nx:Nat) (xS:List (Nat × Ob)) (sz sz' bytes key n:Nat) (rows:List (List D)) (K:D->St->Prop):Option Ob->Prop
 | some ob=>sz=sz'/\ob.sz=sz/\n<=ob.els.length/\(n+rows.length)* bytes<=140737488355328/\n+rows.length<=8000000000000/\K (.osl nx sz (n+rows.length)) ⟨nx+1,(nx,⟨sz,ob.els.take n++rows⟩) :: yG xS key⟩
 | none=>False
@[congr] theorem aBk {nx : Nat} {xS : List (Nat × Ob)} {sz sz' bytes key n : Nat} {rows : List (List D)} {K : D -> St -> Prop} {o o' : Option Ob} (h : o = o') : bYa nx xS sz sz' bytes key n rows K o = bYa nx xS sz sz' bytes key n rows K o' := by rw [h]
theorem aL9 {q:Bool} {nx:Nat} {xS:List (Nat × Ob)} {sz sz' bytes key n:Nat} {rows:List (List D)} {K:D->St->Prop} :
  aRb q ⟨nx,xS⟩ sz bytes (.osl key sz' n) (some rows) K=((∀ x ∈ rows,wM x=true)/\ bYa nx xS sz sz' bytes key n rows K (St.look xS key)):=by
 rw [aH7];simp only [St.get];cases St.look xS key <;> rfl
theorem aKb {nx:Nat} {xS:List (Nat × Ob)} {sz sz' bytes key n:Nat} {rows:List (List D)} {K:D->St->Prop} {sz0:Nat} {els:List (List D)} :
  bYa nx xS sz sz' bytes key n rows K (some ⟨sz0,els⟩)= (sz=sz'/\sz0=sz/\n<=els.length/\(n+rows.length)* bytes<=140737488355328/\n+rows.length<=8000000000000/\K (.osl nx sz (n+rows.length)) ⟨nx+1,(nx,⟨sz,els.take n++rows⟩) :: yG xS key⟩):=rfl
def aKw (q:Bool) (nx:Nat) (xS:List (Nat × Ob)) (sz sz' bytes key lo n:Nat) (rows:List (List D)) (K:D->St->Prop):Option Ob->Prop
 | some ob=>q=true/\sz=sz'/\ob.sz=sz/\lo+n<=ob.els.length/\(n+rows.length)* bytes<=140737488355328/\n+rows.length<=8000000000000 /\
  ∀ pre:List (List D),(pre = []\/pre=ob.els.take lo)->K (.sub nx sz pre.length (n+rows.length)) ⟨nx+1,(nx,⟨sz,pre++((ob.els.drop lo).take n++rows)⟩) :: yG xS key⟩
 | none=>False
@[congr] theorem aCz {q : Bool} {nx : Nat} {xS : List (Nat × Ob)} {sz sz' bytes key lo n : Nat} {rows : List (List D)} {K : D -> St -> Prop} {o o' : Option Ob} (h : o = o') : aKw q nx xS sz sz' bytes key lo n rows K o = aKw q nx xS sz sz' bytes key lo n rows K o' := by rw [h]
theorem aL8 {q:Bool} {nx:Nat} {xS:List (Nat × Ob)} {sz sz' bytes key lo n:Nat} {rows:List (List D)} {K:D->St->Prop} :
  aRb q ⟨nx,xS⟩ sz bytes (.sub key sz' lo n) (some rows) K=((∀ x ∈ rows,wM x=true)/\ aKw q nx xS sz sz' bytes key lo n rows K (St.look xS key)):=by
 simp only [aRb,St.get];cases St.look xS key <;> rfl
theorem aPi {q:Bool} {nx:Nat} {xS:List (Nat × Ob)} {sz sz' bytes key lo n:Nat} {rows:List (List D)} {K:D->St->Prop} {sz0:Nat} {els:List (List D)} :
  aKw q nx xS sz sz' bytes key lo n rows K (some ⟨sz0,els⟩)= (q=true/\sz=sz'/\sz0=sz/\lo+n<=els.length/\(n+rows.length)* bytes<=140737488355328/\n+rows.length<=8000000000000 /\
   ∀ pre:List (List D),(pre = []\/pre=els.take lo)->K (.sub nx sz pre.length (n+rows.length)) ⟨nx+1,(nx,⟨sz,pre++((els.drop lo).take n++rows)⟩) :: yG xS key⟩):=rfl
theorem aLc {key sz:Nat} {els:List (List D)} {K:D->Prop}:aKf (yX key sz els) K=K (.int .i64 els.length):=by cases els <;> simp [aKf,yX]
theorem aLi {key sz sz':Nat} {els:List (List D)} {k:IntKind} {n:Int} {K:D->Prop}:aKm sz' (yX key sz els) (.int k n) K=(sz'=sz/\0<=n/\n<els.length/\K (.ref key sz n.toNat 0)):=by
 cases els with
 | nil=>simp only [aKm,yX,List.length_nil]; simp; intro _ h1 h2; omega
 | cons e l=>simp [aKm,yX]; rintro rfl _ _; rfl
theorem aVx {key sz:Nat} {neg:Bool} {els:List (List D)} {K:D->Prop}:pZ neg (yX key sz els) .xH K=K (.bool (if neg then !els.isEmpty else els.isEmpty)):=by cases els <;> cases neg <;> simp [pZ,yX]
def sw : List (Nat × Nat)->Nat->Nat
 | [],k=>k
 | (a,b) :: r,k=>if k=a then b else sw r k
def tQ (els:List (List D)):Prop:=∀ e ∈ els,D.xU e=true
theorem yB (l:List (BitVec 64)):tQ (us l)= True:=eq_true (rV l)
theorem sJ (l:List (List (BitVec 64))):tQ (rr l)= True:=eq_true (aW4 l)
theorem aR7 (k:IntKind) (l:List Int):tQ (rows k l)= True:=eq_true (uC k l)
theorem aMq : tQ []=True:=by simp [tQ]
theorem aZ7 (a b:List (List D)):tQ (a++b)= (tQ a/\tQ b):=by simp only [tQ,List.mem_append];exact propext ⟨fun h=>⟨fun e he=>h e (.inl he),fun e he=>h e (.inr he)⟩,fun h e he=>he.elim (h.1 e) (h.2 e)⟩
theorem aMo (l:List (BitVec 64)) (i:Nat) (s:BitVec 64):tQ ((us l).set i [.int .u64 (ui s)])= True:=by rw [mT,yB]
theorem aF5 {σ σ':St} {ρ:Nat->Nat} {a b sz:Nat} {els:List (List D)}:vw σ σ' ρ (yX a sz els) (yX b sz els)= (els = []\/(b<σ'.nx/\a=ρ b)):=by
 cases els with
 | nil=>simp [yX,vw]
 | cons e l=>simp [yX,vw]
def bZ3 (σ':St) (ρ:Nat->Nat) (k0:Nat):Prop:=∀ p ∈ σ'.xS,ρ p.1≠k0
theorem aRr {σ σ':St} {ρ:Nat->Nat} {k0 sz:Nat} {els:List (List D)} (hs:0<sz) (h:bZ3 σ' ρ k0) (hg:σ.get k0=vZ sz els) (hp:tQ els):vw σ σ' ρ (yX k0 sz els) (.sl sz els)= True:=by
 cases els with
 | nil=>simp [yX,vw]
 | cons e l=> refine eq_true ?_;simp only [yX,vw];exact⟨trivial,hs,h,⟨sz,e :: l⟩,hg,rfl,Nat.le_refl _,by simp,hp⟩
def vwQ (σ σ':St) (ρ:Nat->Nat) (as bs:List (List D)):Prop:=vwE σ σ' ρ as bs
theorem aJb {σ σ':St} {ρ:Nat->Nat} {els:List (List D)} (h:tQ els):vwQ σ σ' ρ els els=True:=eq_true (.same h)
end
section
variable [sO]
theorem aU2 {σ σ':St} {ρ:Nat->Nat}:∀ {a:List D},D.xU a=true->vwL σ σ' ρ a a:=by
 intro a h
 have key:∀ d:D,d.xG=true->vw σ σ' ρ d d:=by
  intro d
  refine D.rec (motive_1:=fun d=>d.xG=true->vw σ σ' ρ d d) (motive_2:=fun _=>True) (motive_3:=fun cs=>D.xU cs=true->vwL σ σ' ρ cs cs)
   ?top ?und ?int ?bool ?str ?sl ?xH ?emp ?agg ?tup ?fn ?ref ?osl ?sub ?ptr ?vN ?oG ?lC ?iI ?adr trivial (fun _ _ _ _=>trivial) ?nil ?cons d
  case agg=>intro cs ih h; simp only [D.xG] at h; simp only [vw]; exact⟨trivial,ih h⟩
  case tup=>intro cs ih h; simp only [D.xG] at h; simp only [vw]; exact⟨trivial,ih h⟩
  case fn=>intro f cs ih h; simp only [D.xG] at h; simp only [vw]; exact⟨trivial,trivial,ih h⟩
  case ref=>intro k sz i off h; simp [D.xG] at h
  case osl=>intro k sz n h; simp [D.xG] at h
  case sub=>intro k sz lo n h; simp [D.xG] at h
  case vN=>intro k h; simp [D.xG] at h
  case nil=>intro _; simp [vwL]
  case cons=> intro d r h1 h2 h;simp only [D.xU,Bool.and_eq_true] at h;simp only [vwL];exact⟨h1 h.1,h2 h.2⟩
  case ptr=>intro cs _ _; simp [vw]
  all_goals intros; simp [vw]
 induction a with
 | nil=>simp [vwL]
 | cons d r ih=> simp only [D.xU,Bool.and_eq_true] at h;simp only [vwL];exact⟨key d h.1,ih h.2⟩
theorem aU3 {σ σ':St} {ρ:Nat->Nat}:∀ {els:List (List D)} {a b:List D},tQ els->a.length=b.length->vwL σ σ' ρ a b->vwE σ σ' ρ (els ++ [a]) (els ++ [b])
 | [],a,b,_,hl,h=>.cons hl h .nil
 | e :: r,a,b,hp,hl,h=>.cons rfl (aU2 (hp e (by simp))) (aU3 (fun x hx=>hp x (by simp [hx])) hl h)
theorem aAd {σ σ':St} {ρ:Nat->Nat} {els:List (List D)} {a b:List D} (h:vwQ σ σ' ρ (els ++ [a]) (els ++ [b])):a.length=b.length/\vwL σ σ' ρ a b:=by
 have:=(bS (show vwE σ σ' ρ (els ++ [a]) (els ++ [b]) from h)).2 els.length (by simp);have e1:∀ x:List D,(els ++ [x]).getD els.length []=x:=by intro x; simp [List.getD]
 rw [e1,e1] at this;refine⟨this.1,?_⟩
 rcases this.2 with h | ⟨h1,h2⟩
 ·exact h
 ·rw [h1]; exact aU2 h2
theorem bF {σ σ':St} {ρ:Nat->Nat} {els:List (List D)} {a b:List D} (hp:tQ els):vwQ σ σ' ρ (els ++ [a]) (els ++ [b])= (a.length=b.length/\vwL σ σ' ρ a b):= propext ⟨fun h=>aAd h,fun h=>aU3 hp h.1 h.2⟩
theorem aF6 {σ σ':St} {ρ:Nat->Nat} {a b:List D}:vwQ σ σ' ρ [a] [b]=(a.length=b.length/\vwL σ σ' ρ a b):=bF (els:=[]) (by simp [tQ])
theorem aAc {σ σ':St} {ρ:Nat->Nat} {l:List (List (BitVec 64))} {r:List (BitVec 64)} {x:D}:vwQ σ σ' ρ (rr l ++ [[x]]) (rr (l ++ [r]))= vwL σ σ' ρ [x] [.sl 1 (us r)]:=by rw [<- aW3,bF (aW4 l)];simp
def yJ (σ σ':St) (ρ:Nat->Nat) (p:Nat × Ob):Prop:=p.1<σ'.nx/\∃ ob,σ.get (ρ p.1)= some ob/\ob.sz=p.2.sz/\vwQ σ σ' ρ ob.els p.2.els
def kY (σ σ':St) (ρ:Nat->Nat) (l:List (Nat × Ob)):Prop:=∀ p ∈ l,yJ σ σ' ρ p
theorem gQ {σ σ':St} {ρ:Nat->Nat}:kY σ σ' ρ []=True:=by simp [kY]
theorem kC {σ σ':St} {ρ:Nat->Nat} {p:Nat × Ob} {l:List (Nat × Ob)}:kY σ σ' ρ (p :: l)= (yJ σ σ' ρ p/\kY σ σ' ρ l):=by simp [kY]
theorem dP {σ σ':St} {ρ:Nat->Nat} {k sz:Nat} {els:List (List D)} {l:List (Nat × Ob)} (hk:k<σ'.nx) (hg:σ.get (ρ k)= vZ sz els) (hp:tQ els):kY σ σ' ρ (yY k sz els++l)= kY σ σ' ρ l:=by
 cases els with
 | nil=>rfl
 | cons e r=> simp only [yY,List.cons_append,List.nil_append,kC];refine propext ⟨fun h=>h.2,fun h=>⟨⟨hk,⟨sz,e :: r⟩,hg,rfl,.same hp⟩,h⟩⟩
theorem aVq {σ σ':St} {ρ:Nat->Nat} {k sz:Nat} {els:List (List D)} (hk:k<σ'.nx) (hg:σ.get (ρ k)= vZ sz els) (hp:tQ els):kY σ σ' ρ (yY k sz els)= True:=by have:=dP (l:=[]) hk hg hp;rw [List.append_nil,gQ] at this;exact this
theorem aHl {sz:Nat} {els:List (List D)} (h:els ≠ []):vZ sz els=some ⟨sz,els⟩:=by
 cases els with
 | nil=>exact absurd rfl h
 | cons e r=>rfl
theorem fH {σ σ':St} {ρ:Nat->Nat} {k sz:Nat} {els els':List (List D)} {l:List (Nat × Ob)} (hk:k<σ'.nx) (hg:σ.get (ρ k)= vZ sz els') (hq:vwQ σ σ' ρ els' els):kY σ σ' ρ (yY k sz els++l)= kY σ σ' ρ l:=by
 cases els with
 | nil=>rfl
 | cons e r=>
  have hne:els' ≠ []:=by rintro rfl;have:=(bS (show vwE σ σ' ρ [] (e :: r) from hq)).1;simp at this
  simp only [yY,List.cons_append,List.nil_append,kC];refine propext ⟨fun h=>h.2,fun h=>⟨⟨hk,⟨sz,els'⟩,?_,rfl,hq⟩,h⟩⟩;rw [hg,aHl hne]
theorem aZz {σ σ':St} {ρ:Nat->Nat} {k sz:Nat} {els els':List (List D)} (hk:k<σ'.nx) (hg:σ.get (ρ k)= vZ sz els') (hq:vwQ σ σ' ρ els' els):kY σ σ' ρ (yY k sz els)= True:=by have:=fH (l:=[]) hk hg hq;rw [List.append_nil,gQ] at this;exact this
def inL (ks:List Nat) (l:List (Nat × Ob)):Prop:=∀ p ∈ l,p.1 ∈ ks
theorem aO7 {ks:List Nat}:inL ks []=True:=by simp [inL]
theorem aSb {ks:List Nat} {p:Nat × Ob} {l:List (Nat × Ob)}:inL ks (p :: l)= (p.1 ∈ ks/\inL ks l):=by simp [inL]
theorem aSa {ks:List Nat} {k sz:Nat} {els:List (List D)} {l:List (Nat × Ob)} (h:k ∈ ks):inL ks (yY k sz els++l)= inL ks l:=by
 cases els with
 | nil=>rfl
 | cons e r=>simp [yY,aSb,h]
theorem aLg {ks:List Nat} {k sz:Nat} {els:List (List D)} (h:k ∈ ks):inL ks (yY k sz els)= True:=by have:=aSa (sz:=sz) (els:=els) (l:=[]) h;rw [List.append_nil,aO7] at this;exact this
def bV (ρ:Nat->Nat) (k0:Nat) (l:List (Nat × Ob)):Prop:=∀ p ∈ l,ρ p.1≠k0
theorem aCi {σ':St} {ρ:Nat->Nat} {k0:Nat}:bZ3 σ' ρ k0=bV ρ k0 σ'.xS:=propext Iff.rfl
theorem aZn {ρ:Nat->Nat} {k0:Nat}:bV ρ k0 []=True:=by simp [bV]
theorem cG {ρ:Nat->Nat} {k0:Nat} {p:Nat × Ob} {l:List (Nat × Ob)}:bV ρ k0 (p :: l)= (ρ p.1≠k0/\bV ρ k0 l):=by simp [bV]
theorem cH {ρ:Nat->Nat} {k0 k sz:Nat} {els:List (List D)} {l:List (Nat × Ob)}:bV ρ k0 (yY k sz els++l)= ((els = []\/ρ k≠k0)/\ bV ρ k0 l):=by
 cases els with
 | nil=>simp [yY]
 | cons e r=>simp [yY,cG]
theorem aUg {ρ:Nat->Nat} {k0 k sz:Nat} {els:List (List D)}:bV ρ k0 (yY k sz els)= (els = []\/ρ k≠k0):=by have:=cH (ρ:=ρ) (k0:=k0) (k:=k) (sz:=sz) (els:=els) (l:=[]);rw [List.append_nil,aZn,and_true] at this;exact this
theorem xI.ren {C:Cx} {f f':Fr} {σ σ':St} (l:List (Nat × Nat)) (ks:List Nat) (hn:C.n0<=σ'.nx) (h0:∀ p ∈ l,C.n0<=p.1) (hd:(ks.map (sw l)).Nodup)
  (h:inL ks σ'.xS/\kY σ σ' (sw l) σ'.xS/\vwF σ σ' (sw l) f f'):xI C f σ f' σ':=by
 obtain⟨hk,hs,hf⟩:=h
 refine xI.view (sw l) hn ?_ hf ?_ ?_
 ·intro k hk
  induction l with
  | nil=>rfl
  | cons p l ih=>
   obtain⟨a,b⟩:=p;have:C.n0<=a:=h0 (a,b) (by simp);simp only [sw];rw [if_neg (by omega)];have hm:∀ p ∈ l,C.n0<=p.1:=fun p hp=>h0 p (by simp [hp]);clear ih hd hs hf h0
   induction l with
   | nil=>rfl
   | cons q l ih=> obtain⟨c,d⟩:=q;have:C.n0<=c:=hm (c,d) (by simp);simp only [sw];rw [if_neg (by omega)];exact ih fun p hp=>hm p (by simp [hp])
 ·intro p hp;obtain⟨h1,ob,h2,h3,h4⟩:=hs p hp;exact⟨h1,ob,h2,h3,h4⟩
 ·intro p hp q hq e;have h1:=hk p hp;have h2:=hk q hq
  have inj:∀ (ks:List Nat),(ks.map (sw l)).Nodup->∀ a ∈ ks,∀ b ∈ ks,sw l a=sw l b->a=b:=by
   intro ks
   induction ks with
   | nil=>intro _ a ha; simp at ha
   | cons x ks ih=>
    intro hd a ha b hb e;simp only [List.map_cons,List.nodup_cons,List.mem_map,not_exists,not_and] at hd
    rcases List.mem_cons.1 ha with h1 | h1 <;> rcases List.mem_cons.1 hb with h2 | h2
    ·rw [h1,h2]
    ·rw [h1] at e; exact absurd e.symm (hd.1 b h2)
    ·rw [h2] at e; exact absurd e (hd.1 a h1)
    ·exact ih hd.2 a h1 b h2 e
  exact inj ks hd _ h1 _ h2 e
theorem lF.ren {n0:Nat} {σ σ':St} {d d':D} (l:List (Nat × Nat)) (ks:List Nat) (hn:n0<=σ'.nx) (h0:∀ p ∈ l,n0<=p.1) (hd:(ks.map (sw l)).Nodup)
  (h:inL ks σ'.xS/\kY σ σ' (sw l) σ'.xS/\vw σ σ' (sw l) d d'):lF n0 σ d σ' d':=by
 obtain⟨hk,hs,hf⟩:=h
 refine .inr ⟨sw l,hn,?_,hf,?_,?_⟩
 ·intro k hk;have hm:∀ p ∈ l,n0<=p.1:=h0;clear hd hs hf h0
  induction l with
  | nil=>rfl
  | cons q l ih=> obtain⟨c,d⟩:=q;have:n0<=c:=hm (c,d) (by simp);simp only [sw];rw [if_neg (by omega)];exact ih fun p hp=>hm p (by simp [hp])
 ·intro p hp;obtain⟨h1,ob,h2,h3,h4⟩:=hs p hp;exact⟨h1,ob,h2,h3,h4⟩
 ·intro p hp q hq e;have h1:=hk p hp;have h2:=hk q hq
  have inj:∀ (ks:List Nat),(ks.map (sw l)).Nodup->∀ a ∈ ks,∀ b ∈ ks,sw l a=sw l b->a=b:=by
   intro ks
   induction ks with
   | nil=>intro _ a ha; simp at ha
   | cons x ks ih=>
    intro hd a ha b hb e;simp only [List.map_cons,List.nodup_cons,List.mem_map,not_exists,not_and] at hd
    rcases List.mem_cons.1 ha with h1 | h1 <;> rcases List.mem_cons.1 hb with h2 | h2
    ·rw [h1,h2]
    ·rw [h1] at e; exact absurd e.symm (hd.1 b h2)
    ·rw [h2] at e; exact absurd e (hd.1 a h1)
    ·exact ih hd.2 a h1 b h2 e
  exact inj ks hd _ h1 _ h2 e
def aRe (C:Cx) (Q:Exit->Fr->St->Prop) (e:Exit) (f:Fr) (σ:St):Prop:=∃ f' σ',xI C f σ f' σ'/\Q e f' σ'
theorem aRe.zF {C:Cx} {Q:Exit->Fr->St->Prop} {e:Exit} {f:Fr} {σ:St} (h:Q e f σ):aRe C Q e f σ:=⟨f,σ,xI.refl,h⟩
theorem aRe.go {C:Cx} {Q:Exit->Fr->St->Prop} {e:Exit} {f:Fr} {σ:St} (f':Fr) (σ':St) (hw:xI C f σ f' σ') (h:Q e f' σ'):aRe C Q e f σ:=⟨f',σ',hw,h⟩
theorem aNx {C:Cx} {dc:DC} {f:Fr} {σ:St} {Q:Exit->Fr->St->Prop} (h:wpS C dc f σ (aRe C Q)):wpS C dc f σ Q:=by intro code hc E a w G;refine wpIn_mono (h code hc E a w G) fun e a' w' hh=>?_;obtain⟨f1,σ1,G1,f2,σ2,hw,hq⟩:=hh;exact⟨f2,σ2,hw E a' w' G1,hq⟩
theorem sX {C:Cx} {dc:DC} {f:Fr} {σ:St} {Q:Exit->Fr->St->Prop} {α:Type} (g:α->Fr) (s:α->St) (I:α->Prop) (m:α->Nat) (a0:α) (h0:I a0) (hw:xI C f σ (g a0) (s a0))
  (round:∀ a,I a->wpS C dc (g a) (s a) (kX (fun f' σ'=>∃ a',I a'/\xI C f' σ' (g a') (s a')/\ m a'<m a) (aRe C Q))):wpS C (.loop dc) f σ Q:=
 aNx (xW g s I m a0 h0 hw round)
end
theorem aB4 : ((0:Nat):Int)= 0:=rfl
theorem tC {k:Nat} (h:k<9223372036854775807):IntKind.i64.wrap ((k:Int)+ 1)= ((k+1:Nat):Int):=by rw [wrap_i64 (by omega)]; omega
section
variable [sO]
theorem bY9 (f:Fr) (n:Nat):evO f (.t n)= Fr.get f n:=rfl
theorem bZa (f:Fr) (d:D):evO f (.c d)= d:=rfl
theorem aIb (f:Fr) (t:Nat) (d:D):Fr.put f (some t) d=(t,d) :: f:=rfl
theorem aIc (f:Fr) (d:D):Fr.put f none d=f:=rfl
theorem get_nil (n:Nat):Fr.get [] n = .top:=rfl
theorem aHm (t:Nat) (d:D) (r:Fr) (n:Nat):Fr.get ((t,d) :: r) n=if t=n then d else Fr.get r n:=rfl
theorem look_nil (k:Nat):St.look [] k=none:=rfl
theorem xY (j:Nat) (o:Ob) (r:List (Nat × Ob)) (k:Nat):St.look ((j,o) :: r) k=if j=k then some o else St.look r k:=rfl
theorem aJu (k:Nat) (o:Ob):vS [] k o = []:=rfl
theorem sY (j:Nat) (o:Ob) (r:List (Nat × Ob)) (k:Nat) (o':Ob):vS ((j,o) :: r) k o'=if j=k then(j,o') :: r else(j,o) :: vS r k o':=rfl
theorem aQ0 (k:Nat):yG [] k = []:=rfl
theorem aV6 (j:Nat) (o:Ob) (r:List (Nat × Ob)) (k:Nat):yG ((j,o) :: r) k=if j=k then yG r k else(j,o) :: yG r k:=rfl
theorem bXb (n:Nat) (l:List (Nat × Ob)) (k:Nat):St.get ⟨n,l⟩ k=St.look l k:=rfl
theorem set_mk (n:Nat) (l:List (Nat × Ob)) (k:Nat) (o:Ob):St.set ⟨n,l⟩ k o=⟨n,vS l k o⟩:=rfl
theorem aA0 (n:Nat) (l:List (Nat × Ob)) (o:Ob):St.new ⟨n,l⟩ o=⟨n+1,(n,o) :: l⟩:=rfl
theorem aHp (n:Nat) (l:List (Nat × Ob)) (k:Nat):St.erase ⟨n,l⟩ k=⟨n,yG l k⟩:=rfl
theorem aMj (σ:St) (sz sz':Nat) (els:List (List D)):rowsOf σ sz (.sl sz' els)= if sz=sz' then some els else none:=rfl
theorem aVv (σ:St) (sz:Nat):rowsOf σ sz .xH=some []:=rfl
theorem aRw (σ:St) (sz:Nat):rowsOf σ sz .emp=some []:=rfl
def zD :=And.intro @aKx (And.intro @aF1 (And.intro @aK0 (And.intro @aFz (And.intro @aK3 (And.intro @aNw (And.intro @aK1 (And.intro @aKy (And.intro @aK2 (And.intro @aF0 (And.intro @aNv (And.intro @aTl (And.intro @aMt (And.intro @aIg (And.intro @aMw (And.intro @aDz @aDy)))))))))))))))
def zT :=And.intro @bY9 (And.intro @bZa (And.intro @aIb (And.intro @aIc (And.intro @get_nil (And.intro @aHm (And.intro @look_nil (And.intro @xY (And.intro @aJu (And.intro @sY (And.intro @aQ0 (And.intro @aV6 (And.intro @bXb (And.intro @set_mk (And.intro @aA0 (And.intro @aHp (And.intro @aMj (And.intro @aVv (And.intro @aRw (And.intro @Int.cast_ofNat_Int (And.intro @aB4 (And.intro @Int.toNat_zero (And.intro @Int.toNat_one (And.intro @beq_self_eq_true.{0} (And.intro @bne_self_eq_false.{0} (And.intro @Bool.false_eq_true (And.intro @aHq (And.intro @aHn (And.intro @aD0 (And.intro @aH1 (And.intro @aPh (And.intro @aH8 (And.intro @aL9 (And.intro @aKb (And.intro @aL8 (And.intro @aPi (And.intro @aJl (And.intro @aN4 (And.intro @aN5 (And.intro @aLc (And.intro @aDm (And.intro @aHd (And.intro @aHc (And.intro @aLb (And.intro @aHe (And.intro @aLi (And.intro @aDt (And.intro @aHj (And.intro @aHi (And.intro @aVx (And.intro @aIx (And.intro @aIw (And.intro @aIv (And.intro @aIu (And.intro @aIt (And.intro @aIs (And.intro @aM9 (And.intro @aQk (And.intro @aQl (And.intro @aLa (And.intro @aIy (And.intro @aIz (And.intro @aDe (And.intro @aQj (And.intro @aQi (And.intro @cY (And.intro @aM8 (And.intro @aQe (And.intro @dC (And.intro @aM4 (And.intro @aM3 (And.intro @aM2 (And.intro @aQc (And.intro @aQb (And.intro @yI (And.intro @fB (And.intro @eW (And.intro @aWa (And.intro @aYc (And.intro @dK (And.intro @aZ1 (And.intro @Option.or_none.{0} (And.intro @List.length_set.{0} (And.intro @aUe (And.intro @aMy (And.intro @Nat.lt_irrefl (And.intro @xE (And.intro @xQ (And.intro @aOq (And.intro @true_and (And.intro @and_true (And.intro @List.getD_cons_zero.{0} (And.intro @List.getD_cons_succ.{0} (And.intro @List.length_cons.{0} (And.intro @List.length_nil.{0} (And.intro @Bool.not_true (And.intro @Bool.not_false (And.intro @List.map_cons.{0,0} (And.intro @List.map_nil.{0,0} (And.intro @List.nil_append.{0} (And.intro @List.cons_append.{0} (And.intro @List.append_nil.{0} (And.intro @aMu (And.intro @aMv (And.intro @List.take_succ_cons.{0} (And.intro @List.take_zero.{0} (And.intro @List.drop_succ_cons.{0} (And.intro @List.drop_zero.{0} (And.intro @false_implies (And.intro @or_true (And.intro @true_or (And.intro @Nat.le_refl (And.intro @Int.toNat_natCast (And.intro @and_self (And.intro @bX7 (And.intro @bX6 (And.intro @bWe (And.intro @bWd (And.intro @aAm (And.intro @bYw (And.intro @aGn (And.intro @aN2 (And.intro @aAn (And.intro @aAg (And.intro @aAk (And.intro @aAi (And.intro @aAh (And.intro @aAj (And.intro @aGo (And.intro @aAl (And.intro @aAo (And.intro @not_false_eq_true (And.intro @aL2 (And.intro @aLy (And.intro @aL3 (And.intro @aPd (And.intro @aLz (And.intro @aHy (And.intro @aQ8 (And.intro @aL4 (And.intro @aL5 (And.intro @aHz (And.intro @aL0 (And.intro @aL1 (And.intro @aPc (And.intro @aQ9 (And.intro @aPa (And.intro @aPb (And.intro @aE6 (And.intro @aIn (And.intro @aE0 (And.intro @aAv (And.intro @aIi (And.intro @aE8 (And.intro @aAw (And.intro @aE2 (And.intro @aE4 (And.intro @aE3 (And.intro @aIm (And.intro @aIj (And.intro @aIk (And.intro @aIl (And.intro @List.all_cons.{0} (And.intro @List.all_nil.{0} (And.intro @Bool.and_true (And.intro @Bool.and_self (And.intro @List.set_cons_zero.{0} (And.intro @List.set_cons_succ.{0} (And.intro @Nat.zero_add (And.intro @Nat.add_zero (And.intro @Nat.zero_lt_succ (And.intro @Nat.lt_add_one (And.intro @decide_true (And.intro @decide_false (And.intro @gt_iff_lt.{0} (And.intro @ge_iff_le.{0} (And.intro @zQ (And.intro @aEk (And.intro @Bool.true_and (And.intro @decide_eq_true_eq (And.intro @decide_eq_false_iff_not (And.intro @wZ (And.intro @cR (And.intro @wY (And.intro @cS (And.intro @aMg (And.intro @aYh (And.intro @aWx (And.intro @aW3 (And.intro @oZ (And.intro @gL (And.intro @aUr (And.intro @aWy (And.intro @List.mem_singleton.{0} (And.intro @List.cons_ne_nil.{0} (And.intro @List.take_length.{0} (And.intro @Option.map_some.{0,0} (And.intro @Option.map_none.{0,0} (And.intro @List.length_append.{0} (And.intro @aGp @aOu)))))))))))))))))))))))))))))))))))))))))))))))))))))))))))))))))))))))))))))))))))))))))))))))))))))))))))))))))))))))))))))))))))))))))))))))))))))))))))))))))))))))))))))))))))))))))))))))))))))))
def zR :=And.intro @aB4 (And.intro @aSa (And.intro @aLg (And.intro @aSb (And.intro @aO7 (And.intro @dP (And.intro @aVq (And.intro @fH (And.intro @aZz (And.intro @kC (And.intro @gQ (And.intro @aAc (And.intro @bF (And.intro @aJb (And.intro @aF6 (And.intro @aF5 (And.intro @aRr (And.intro @aCi (And.intro @cH (And.intro @aUg (And.intro @cG (And.intro @aZn (And.intro @yB (And.intro @sJ (And.intro @aR7 (And.intro @aMq (And.intro @aZ7 (And.intro @aMo (And.intro @yI (And.intro @fB (And.intro @Option.or_none.{0} (And.intro @Nat.zero_lt_succ (And.intro @Nat.lt_add_one (And.intro @Option.some.injEq.{0} (And.intro @and_true (And.intro @true_and (And.intro @and_self (And.intro @or_true (And.intro @true_or (And.intro @not_false_eq_true (And.intro @List.mem_cons.{0} (And.intro @List.mem_singleton.{0} (And.intro @List.not_mem_nil.{0} (And.intro @D.int.injEq (And.intro @D.bool.injEq (And.intro @D.sl.injEq (And.intro @D.ref.injEq (And.intro @List.length_cons.{0} (And.intro @List.length_nil.{0} (And.intro @aWx (And.intro @aYh (And.intro @aW3 (And.intro @Nat.zero_add (And.intro @aWy (And.intro @aUr (And.intro @aGp (And.intro @aOu (And.intro @oZ @gL)))))))))))))))))))))))))))))))))))))))))))))))))))))))))
end
end Go.Pd
namespace Go.Pd
open Go Go.ChangeShapes Go.WideShapes Go.RowKit
def aX4 : List (Nat × Nat)->Nat->Nat->Bool
 | [],o,n=>o==n
 | (a,s) :: r,o,n=>(a==o)&& aX4 r (o+s) n
def tD (P:Program):Nat->TypeId->Bool
 | 0,_=>false
 | n+1,t=>match P.underlying t with
  | some .bool=>true
  | some (.int _)=>true
  | some .string=>true
  | some (.slice e)=>tD P n e&&decide (0<P.cellsOf e)
  | some (.struct fs)=>(fs.toList.all fun f=>tD P n f.type)&& aX4 (fs.toList.map fun f=>(f.offset,P.cellsOf f.type)) 0 (P.cellsOf t)
  | some (.array k e)=>tD P n e&&(P.cellsOf t==k*P.cellsOf e)
  | _=>false
mutual
def yH (P:Program):Nat->TypeId->List D->Prop
 | 0,_,_=>False
 | n+1,t,ds=>match P.underlying t with
  | some .bool=>∃ b,ds = [.bool b]
  | some (.int k)=>∃ i,ds = [.int k i]
  | some .string=>∃ s,ds = [.str s]
  | some (.slice e)=>∃ els,ds = [.sl (P.cellsOf e) els]/\∀ row ∈ els,yH P n e row
  | some (.struct fs)=>tE P n (fs.toList.map fun f=>f.type) ds
  | some (.array k e)=>tE P n (List.replicate k e) ds
  | _=>False
def tE (P:Program):Nat->List TypeId->List D->Prop
 | _,[],ds=>ds = []
 | n,f :: fs,ds=>∃ a b,ds=a++b/\yH P n f a/\tE P n fs b
end
def mS (P:Program) (n:Nat) (t:TypeId) (d:D):Prop:=
 match P.underlying t with
 | some (.struct _)=>∃ ds,d = .agg ds/\yH P n t ds
 | some (.array _ _)=>∃ ds,d = .agg ds/\yH P n t ds
 | _=>yH P n t [d]
def aW2 (P:Program) (n:Nat):List TypeId->List D->Prop
 | [],as=>as = []
 | t :: ts,as=>∃ a r,as=a :: r/\mS P n t a/\aW2 P n ts r
def aPv (w:World) (cs:List Value) (ds:List D):Prop:=ds.length=cs.length/\∀ j,j<ds.length->RP (fun _=>False) w (cs.getD j undef) (ds.getD j .top)
theorem fE {w:World} {a b:List Value} {x y:List D} (h:aPv w a x) (h':aPv w b y):aPv w (a++b) (x++y):=by
 refine⟨by simp [h.1,h'.1],fun j hj=>?_⟩;simp only [List.getD]
 by_cases hx:j<x.length
 ·rw [List.getElem?_append_left hx,List.getElem?_append_left (by rw [<- h.1]; exact hx)];exact h.2 j hx
 ·have h1:=h.1;rw [List.getElem?_append_right (by omega),List.getElem?_append_right (by omega),<- h.1];rw [List.length_append] at hj;exact h'.2 (j-x.length) (by omega)
section
variable {H : Type} {enc : TypeId × Value -> H} {P : Program} {w : World} {sp : Nat -> Bool} {held : Bool}
theorem aZc {n:Nat} (key:∀ (t:TypeId) (cs:List Value) (fuel:Nat) (x:DataW H × List MemPlace),tD P n t=true->DataW.trod enc P w 0 sp held fuel t cs=some x->∃ ds,aPv w cs ds/\yH P n t ds) {cs:List Value} {fuel:Nat} :
  ∀ (fl:List Field) (o:Nat),(fl.all fun f=>tD P n f.type)= true->aX4 (fl.map fun f=>(f.offset,P.cellsOf f.type)) o cs.length=true ->
   (∀ f ∈ fl,∃ x,DataW.trod enc P w 0 sp held fuel f.type ((cs.drop f.offset).take (P.cellsOf f.type))= some x)->∃ ds,aPv w (cs.drop o) ds/\tE P n (fl.map fun f=>f.type) ds
 | [],o,_,hc,_=>by simp only [List.map_nil,aX4,beq_iff_eq] at hc;subst hc;exact⟨[],by simp [aPv],by simp [tE]⟩
 | f :: fl,o,hp,hc,hx=>by
  simp only [List.all_cons,Bool.and_eq_true] at hp;simp only [List.map_cons,aX4,Bool.and_eq_true,beq_iff_eq] at hc;obtain⟨x,h1⟩:=hx f (by simp);obtain⟨a,ha,hsa⟩:=key _ _ _ _ hp.1 h1;obtain⟨b,hb,hsb⟩:=aZc key fl (o+P.cellsOf f.type) hp.2 hc.2 fun g hg=>hx g (by simp [hg]);refine⟨a++b,?_,by simp only [List.map_cons,tE]; exact⟨a,b,rfl,hsa,hsb⟩⟩;rw [hc.1] at ha
  have e:cs.drop o=(cs.drop o).take (P.cellsOf f.type)++ cs.drop (o+P.cellsOf f.type):=by rw [<- List.drop_drop,List.take_append_drop]
  rw [e];exact fE ha hb
theorem aG6 {n:Nat} (key:∀ (t:TypeId) (cs:List Value) (fuel:Nat) (x:DataW H × List MemPlace),tD P n t=true->DataW.trod enc P w 0 sp held fuel t cs=some x->∃ ds,aPv w cs ds/\yH P n t ds) {cs:List Value} {fuel:Nat} {e:TypeId} (hp:tD P n e=true) :
  ∀ (k o:Nat),cs.length=(o+k)* P.cellsOf e ->
   (∀ i,o<=i->i<o+k->∃ x,DataW.trod enc P w 0 sp held fuel e ((cs.drop (i*P.cellsOf e)).take (P.cellsOf e))= some x)->∃ ds,aPv w (cs.drop (o*P.cellsOf e)) ds/\tE P n (List.replicate k e) ds
 | 0,o,hl,_=>⟨[],by rw [List.drop_eq_nil_of_le (by rw [hl]; simp)]; simp [aPv],by simp [tE]⟩
 | k+1,o,hl,hx=>by
  obtain⟨x,h1⟩:=hx o (Nat.le_refl _) (by omega);obtain⟨a,ha,hsa⟩:=key _ _ _ _ hp h1;obtain⟨b,hb,hsb⟩:=aG6 key hp k (o+1) (by rw [hl]; congr 1; omega) fun i h1 h2=>hx i (by omega) (by omega);refine⟨a++b,?_,by simp only [List.replicate_succ,tE]; exact⟨a,b,rfl,hsa,hsb⟩⟩
  have e1:cs.drop (o*P.cellsOf e)= (cs.drop (o*P.cellsOf e)).take (P.cellsOf e)++ cs.drop ((o+1)* P.cellsOf e):=by rw [Nat.succ_mul,<- List.drop_drop,List.take_append_drop]
  rw [e1];exact fE ha hb
theorem bR : ∀ (n:Nat) (t:TypeId) (cs:List Value) (fuel:Nat) (x:DataW H × List MemPlace),tD P n t=true->DataW.trod enc P w 0 sp held fuel t cs=some x->∃ ds,aPv w cs ds/\yH P n t ds
 | 0,t,cs,fuel,x,hp,_=>by simp [tD] at hp
 | n + 1,t,cs,fuel,x,hp,h=>by
  unfold tD at hp;unfold yH
  split at hp
  ·rename_i hu;obtain⟨b,rfl,_⟩:=DataW.trod_bool hu h;exact⟨[.bool b],⟨rfl,fun j hj=>by simp at hj; subst hj; exact .bool b⟩,⟨b,rfl⟩⟩
  ·rename_i k hu;obtain⟨i,rfl,_,hw⟩:=DataW.trod_int hu h;refine⟨[.int k i],⟨rfl,fun j hj=>?_⟩,⟨i,rfl⟩⟩;simp at hj; subst hj;simp only [Lit.wf,Bool.and_eq_true,decide_eq_true_eq] at hw;exact .int hw
  ·rename_i hu;obtain⟨s,rfl,_,hs⟩:=DataW.trod_string hu h;exact⟨[.str s],⟨rfl,fun j hj=>by simp at hj; subst hj; exact .str hs⟩,⟨s,rfl⟩⟩
  ·rename_i e hu;simp only [Bool.and_eq_true,decide_eq_true_eq] at hp
   rcases Deep.open_slice hu h with ⟨rfl,_⟩ | ⟨a,len,cap,m,fu,Dd,Pl,rfl,_,hl,hm,hmm,_,hx⟩
   ·exact⟨[.sl (P.cellsOf e) []],⟨rfl,fun j hj=>by simp at hj; subst hj; exact .sl0 none 0 _ (fun _=>rfl)⟩,⟨[],rfl,by simp⟩⟩
   ·have hle:len<=m:=by rw [hmm]; split <;> omega
    by_cases h0:len=0
    ·subst h0;exact⟨[.sl (P.cellsOf e) []],⟨rfl,fun j hj=>by simp at hj; subst hj; exact .sl0 (some a) cap _ (fun h=>by cases h)⟩,⟨[],rfl,by simp⟩⟩
    ·obtain⟨f,hf⟩:=Deep.choose_lt (α:=List Value × List D) (n:=len) (p:=fun i y=>w.cells? 0 (a.add (i*P.cellsOf e)) (P.cellsOf e)= some y.1/\aPv w y.1 y.2/\yH P n e y.2) fun i hi=>by obtain⟨cs',h1,h2⟩:=hx i (by omega);obtain⟨ds,h3,h4⟩:=bR n e cs' fu _ hp.1 h2;exact⟨(cs',ds),h1,h3,h4⟩
     have hcells:∀ i,i<len->∀ j,j<P.cellsOf e->w.cell? ((a.add (i*P.cellsOf e)).add j)= some ((f i).1.getD j undef):=by intro i hi j hj;obtain⟨_,h2,h3⟩:=World.cells?_some (hf i hi).1;rw [h3 j hj];simp [List.getD,show j<(f i).1.length by omega]
     have hlen:∀ i,i<len->(f i).1.length=P.cellsOf e:=fun i hi=>(World.cells?_some (hf i hi).1).2.1
     have hspot:a.spot=none:=by have:=World.cell?_spot (hcells 0 (by omega) 0 hp.2);simpa [Addr.add] using this
     obtain⟨b,off,spot⟩:=a;simp only at hspot;subst hspot
     have hadd:∀ i j,((⟨b,off,none⟩:Addr).add i).add j=⟨b,off+i+j,none⟩:=by
      intro i j;rw [Deep.add_add];unfold Addr.add
      by_cases h:i+j=0
      ·have h1:i=0:=by omega
       have h2:j=0:=by omega
       subst h1; subst h2; rfl
      ·rw [if_neg h]; simp [Nat.add_assoc]
     have els:∀ i,i<len->((List.range len).map fun i=>(f i).2).getD i []=(f i).2:=by intro i hi;simp [List.getD,hi]
     refine⟨[.sl (P.cellsOf e) ((List.range len).map fun i=>(f i).2)],⟨rfl,fun j hj=>?_⟩,⟨_,rfl,?_⟩⟩
     ·simp at hj; subst hj;simp only [List.getD_cons_zero]
      have:=RP.sl (M:=fun _=>False) (w:=w) (b:=b) (off:=off) (cap:=cap) (sz:=P.cellsOf e) (els:=(List.range len).map fun i=>(f i).2) (fun i j=>(f i).1.getD j undef) hp.2 (fun h=>h) (by simpa using hl) hm ?_ ?_ ?_
      ·simpa using this
      ·intro x hx';simp only [List.mem_map,List.mem_range] at hx';obtain⟨i,hi,rfl⟩:=hx';rw [(hf i hi).2.1.1,hlen i hi]
      ·intro i hi j hj;have hi':i<len:=by simpa using hi
       have:=hcells i hi' j hj;rw [hadd] at this;exact this
      ·intro i hi j hj;have hi':i<len:=by simpa using hi
       rw [els i hi'];exact(hf i hi').2.1.2 j (by rw [(hf i hi').2.1.1,hlen i hi']; exact hj)
     ·intro row hrow;simp only [List.mem_map,List.mem_range] at hrow;obtain⟨i,hi,rfl⟩:=hrow;exact(hf i hi).2.2
  ·rename_i fs hu;simp only [Bool.and_eq_true] at hp;obtain⟨xs,n',_,_,hlen,hsz,hf⟩:=DataW.trod_struct hu h;rw [<- hlen] at hp
   obtain⟨ds,h1,h2⟩:=aZc (fun t cs fuel x=>bR n t cs fuel x) (fuel:=n') fs.toList 0 hp.1 hp.2 fun g hg=>by
    obtain⟨i,hi,rfl⟩:=List.getElem_of_mem hg;have hi':i<fs.size:=by simpa using hi
    have:=hf i fs[i] (by simp [hi']);refine⟨xs[i]'(by omega),?_⟩;simp only [Array.getElem_toList];rw [this];simp [show i<xs.length by omega]
   exact⟨ds,by simpa using h1,h2⟩
  ·rename_i k e hu;simp only [Bool.and_eq_true,beq_iff_eq] at hp;obtain⟨xs,m,_,_,hlen,hxs,hf⟩:=DataW.trod_array hu h
   obtain⟨ds,h1,h2⟩:=aG6 (fun t cs fuel x=>bR n t cs fuel x) (fuel:=m) hp.1 k 0 (by rw [hlen,hp.2]; simp) fun i _ hi=>by have:=hf i (by omega);rw [this];simp [show i<xs.length by omega]
   exact⟨ds,by simpa using h1,h2⟩
  ·cases hp
end
section
variable {H : Type} {enc : TypeId × Value -> H} {P : Program} {w : World} {sp : Nat -> Bool} {held : Bool}
theorem aZ8 {r:Reach} {b:Nat} {t:TypeId} {v:Value} {k:Nat} {e:TypeId} (ht:P.underlying t=some (.array k e)) (h:Value.okWide P w r b t v):∃ cs,v = .agg cs/\cs.size=P.cellsOf t:=by simp only [Value.okWide,ht] at h;obtain⟨cs,h1,h2,_⟩:=h;exact⟨cs,h1,h2⟩
theorem bXq {n:Nat} {b:Nat} {t:TypeId} {v:Value} {d:DataW H} {ps:List MemPlace} (hp:tD P n t=true) (hv:Value.okWide P w .any b t v) (h:DataW.Trod enc P w 0 sp held t v d ps):∃ a,RP (fun _=>False) w v a/\mS P n t a:=by
 obtain⟨fuel,h⟩:=h;obtain⟨ds,h1,h2⟩:=bR n t _ fuel _ hp h;unfold mS
 split
 ·rename_i fs hu;obtain⟨cs,rfl,_⟩:=okWide_struct hu hv;refine⟨.agg ds,.agg (by rw [h1.1]; rfl) fun j hj=>?_,ds,rfl,h2⟩;have:=h1.2 j hj
  have e:(Value.agg cs).cells.toList.getD j undef=cs.getD j undef:=by simp [Value.cells,List.getD,Array.getD];by_cases hj:j<cs.size <;> simp [hj]
  rw [e] at this;exact this
 ·rename_i k e hu;obtain⟨cs,rfl,_⟩:=aZ8 hu hv;refine⟨.agg ds,.agg (by rw [h1.1]; rfl) fun j hj=>?_,ds,rfl,h2⟩;have:=h1.2 j hj
  have e:(Value.agg cs).cells.toList.getD j undef=cs.getD j undef:=by simp [Value.cells,List.getD,Array.getD];by_cases hj:j<cs.size <;> simp [hj]
  rw [e] at this;exact this
 ·rename_i hns hna
  have one:∃ x,ds = [x]:=by
   cases n with
   | zero=>simp [tD] at hp
   | succ n=>
    unfold yH at h2
    split at h2
    ·obtain⟨b,rfl⟩:=h2; exact⟨_,rfl⟩
    ·obtain⟨b,rfl⟩:=h2; exact⟨_,rfl⟩
    ·obtain⟨b,rfl⟩:=h2; exact⟨_,rfl⟩
    ·obtain⟨b,rfl,_⟩:=h2; exact⟨_,rfl⟩
    ·rename_i fs hu; exact absurd hu (hns fs)
    ·rename_i k e hu; exact absurd hu (hna k e)
    ·cases h2
  obtain⟨x,rfl⟩:=one;refine⟨x,?_,h2⟩;have hx:=h1.2 0 (by simp);simp only [List.getD_cons_zero] at hx;have hlen:=h1.1
  cases v with
  | agg cs=>
   exfalso;unfold Value.okWide at hv
   split at hv
   ·rename_i fs hu; exact absurd hu (hns fs)
   ·rename_i k e hu; exact absurd hu (hna k e)
   ·rename_i h3 h4
    cases n with
    | zero=>simp [tD] at hp
    | succ n=>
     unfold tD at hp;unfold Cell.okWide at hv;split at hp <;> rename_i hu <;> simp [hu,Cell.ok] at hv
     all_goals first | exact absurd hu (hns _) | exact absurd hu (hna _ _) | cases hp
  | _=>simpa [Value.cells] using hx
theorem aNi {n:Nat} {b:Nat}:∀ {ts:List TypeId} {vs:List Value} {ds:List (DataW H)} {ps:List MemPlace},(ts.all fun t=>tD P n t)= true->(∀ (j:Nat) t v,ts[j]?=some t->vs[j]?=some v->Value.okWide P w .any b t v) ->
  DataW.TrodAll enc P w 0 sp held ts vs ds ps->∃ as,as.length=vs.length/\vs.length=ts.length/\ds.length=ts.length/\(∀ j,j<as.length->RP (fun _=>False) w (vs.getD j undef) (as.getD j .top))/\ aW2 P n ts as
 | [],vs,ds,ps,_,_,h=>by obtain⟨rfl,rfl,rfl⟩:=trodAll_nil h;exact⟨[],rfl,rfl,rfl,fun j hj=>by simp at hj,rfl⟩
 | t :: ts,vs,ds,ps,hp,hv,h=>by
  obtain⟨v,vs',d,ds',p,q,rfl,rfl,rfl,h1,h2⟩:=trodAll_cons h;simp only [List.all_cons,Bool.and_eq_true] at hp;obtain⟨a,r1,s1⟩:=bXq hp.1 (hv 0 t v rfl rfl) h1;obtain⟨as,l1,l2,l3,r2,s2⟩:=aNi hp.2 (fun j t v h1 h2=>hv (j+1) t v h1 h2) h2;refine⟨a :: as,by simp [l1],by simp [l2],by simp [l3],fun j hj=>?_,a,as,rfl,s1,s2⟩
  cases j with
  | zero=>exact r1
  | succ j=>exact r2 j (by simpa using hj)
theorem lK (hl:laidOutB P=true) {W W':World} (hb:Below W.heap.size W W'):∀ {ts:List TypeId} {vs:List Value} {ds:List (DataW H)} {ps:List MemPlace},(ts.all fun t=>P.readableRec t&&decide (t<P.types.size))= true ->
  (∀ x ∈ ps,x.block<W.heap.size)->DataW.TrodAll enc P W 0 (fun _=>true) true ts vs ds ps->DataW.TrodAll enc P W' 0 (fun b=>decide (b<W.heap.size)) true ts vs ds ps
 | [],vs,ds,ps,_,_,h=>by obtain⟨rfl,rfl,rfl⟩:=trodAll_nil h;exact rfl
 | t :: ts,vs,ds,ps,hr,hlt,h=>by obtain⟨v,vs',d,ds',p,q,rfl,rfl,rfl,h1,h2⟩:=trodAll_cons h;simp only [List.all_cons,Bool.and_eq_true,decide_eq_true_eq] at hr;exact⟨p,q,Below.trod hl hr.1.1 hr.1.2 h1 hb fun x hx=>hlt x (by simp [hx]),lK hl hb hr.2 (fun x hx=>hlt x (by simp [hx])) h2,rfl⟩
theorem dQ {W:World}:∀ {ts:List TypeId} {vs:List Value} {ds:List (DataW H)} {ps:List MemPlace},DataW.TrodAll enc P W 0 sp held ts vs ds ps->∀ x ∈ ps,x.block<W.heap.size
 | [],vs,ds,ps,h=>by obtain⟨rfl,rfl,rfl⟩:=trodAll_nil h;intro x hx; simp at hx
 | t :: ts,vs,ds,ps,h=>by
  obtain⟨v,vs',d,ds',p,q,rfl,rfl,rfl,⟨m,hm⟩,h2⟩:=trodAll_cons h;intro x hx
  rcases List.mem_append.1 hx with hx | hx
  ·exact DataW.trod_lt m _ _ _ hm x hx
  ·exact dQ h2 x hx
end
section
variable [sO]
theorem yT.calls {P:Program} {g:FuncId} {args:List D} {b:Bool} (h:yT P g args (.bool b)) {w:World} {vals:Array Value} (ht:aRo w fun _=>False) (hl:vals.size=args.length)
  (hv:∀ j,j<args.length->RP (fun _=>False) w (vals.getD j undef) (args.getD j .top)):Calls P g vals w fun e w'=>e = .returned (.bool b)/\ Below w.heap.size w w':=by
 have hM:∀ b,Mof (fun _=>False) (fun _=>0) St0 b->False:=by
  rintro b (h | ⟨k,o,hk,_⟩)
  ·exact h
  ·cases hk
 have hS:vY (fun _=>False) w St0 (fun _=>0):=⟨fun b hb=>hb.elim,(fun k o hk=>by cases hk),(fun k k' o o' hk=>by cases hk),(fun k o hk=>by cases hk),ht.zF (Nat.le_refl _) (fun _ _ _=>rfl) fun b _ hb=>hM b hb⟩;refine(h.run _ w _ vals hS hl fun j hj=>.pure ((hv j hj).zF (fun _ _ _=>rfl) fun b _ hb=>hM b hb)).mono fun e w' hh=>?_;obtain⟨v,ι',rfl,k1,k2,k3,k4,k5,k6⟩:=hh;have K0:Kept w w' fun _=>False:=k1.mono fun b _ ⟨k,o,hk,_⟩=>by cases hk
 rw [k6.qX];exact⟨rfl,K0.below⟩
end
theorem aVo (a:Array Value) (j:Nat) (d:Value):a.getD j d=a.toList.getD j d:=by simp [List.getD,Array.getD];by_cases h:j<a.size <;> simp [h]
theorem aHf {H:Type} {enc:TypeId × Value->H} {P:Program} {f:Func} {s:ChangeSpec} {W W':World} {args:Array Value} {ds gs:List (DataW H)} {before:List MemPlace} {tb:TypeId}
  (hl:laidOutB P=true) (hr:(f.params.toList.all fun t=>P.readableRec t&&decide (t<P.types.size))= true) (hb:f.resultTypes = #[tb]) (htb:P.underlying tb=some .bool) (hsv:s.vars = [])
  (hW:DataW.Whole enc P f.params.toList s.vars false W args.toList ds gs before) (hs:s.fn H (ds++gs)= { results:=[.lit (.bool true)],args:=ds }) (bel:Below W.heap.size W W') :
  s.post enc P f false true false false W args (.bool true) W':=by
 have hW':=hW;obtain⟨p,q,hA,hV,rfl,hfz,hnd⟩:=hW;rw [hsv] at hV;obtain⟨rfl,rfl⟩:=trodVars_none hV;have hA2:=lK hl bel hr (dQ hA) hA
 refine⟨_,_,_,[],p,[],hW',?_,?_,?_,bel.frame _,fun h=>by cases h⟩
 ·rw [hs,hb];exact trodAll_mk1 (shut_bool htb _)
 ·rw [hs];exact hA2
 ·rw [hs,hsv];rfl
abbrev dO (i:Nat) (k:DK):DOp:=⟨some i,none,k⟩
abbrev dF (i j:Nat) (k:DK):DOp:=⟨some i,some (j,false),k⟩
abbrev dT (i j:Nat) (k:DK):DOp:=⟨some i,some (j,true),k⟩
abbrev Opd.i (n:Int):Opd:=.c (.int .i64 n)
abbrev dM (i j:Nat):DOp:=⟨some i,none,.mv (.t j)⟩
abbrev dL (i j:Nat):DOp:=⟨some i,none,.load 1 false (.t j)⟩
abbrev dG (i n j:Nat):DOp:=⟨some i,none,.fld n (.t j)⟩
abbrev DC.r (l:List DOp) (c:DC):DC:=.seq (.reg [] l) c
abbrev DK.cf (f:FuncId) (l:List Opd):DK:=.call (.c (.fn f [])) l
def zW.{u} :=And.intro @ne_eq.{u} (And.intro @forall_const.{u} (And.intro @implies_true.{u} @forall_eq.{u}))
section
variable [sO]
def zU :=And.intro @bW.eq_1 (And.intro @bX5.eq_1 (And.intro @unZ.eq_1 (And.intro @kX.eq_1 (And.intro @kX.eq_2 (And.intro @pT.eq_1 (And.intro @pT.eq_2 (And.intro @opX.eq_1 (And.intro @opX.eq_2 (And.intro @opX.eq_3 (And.intro @opX.eq_4 (And.intro @opX.eq_5 (And.intro @opX.eq_6 (And.intro @opX.eq_7 (And.intro @opX.eq_8 (And.intro @opX.eq_9 (And.intro @opX.eq_10 (And.intro @opX.eq_11 (And.intro @opX.eq_12 (And.intro @opX.eq_13 (And.intro @opX.eq_14 (And.intro @opX.eq_15 (And.intro @opV.eq_1 (And.intro @opV.eq_2 (And.intro @opV.eq_3 (And.intro @opV.eq_4 (And.intro @opV.eq_5 (And.intro @opV.eq_6 (And.intro @opV.eq_7 (And.intro @opV.eq_8 (And.intro @opV.eq_9 (And.intro @opV.eq_10 (And.intro @opV.eq_11 (And.intro @opV.eq_12 (And.intro @opV.eq_13 (And.intro @opV.eq_14 (And.intro @opV.eq_15 (And.intro @pX.eq_1 (And.intro @pX.eq_2 (And.intro @pX.eq_3 (And.intro @pX.eq_4 (And.intro @pX.eq_5 (And.intro @pX.eq_6 (And.intro @pX.eq_7 (And.intro @pX.eq_8 (And.intro @pW.eq_1 (And.intro @pW.eq_2 (And.intro @pW.eq_3 (And.intro @pW.eq_4 (And.intro @pW.eq_5 (And.intro @pW.eq_6 (And.intro @pW.eq_7 (And.intro @pW.eq_8 (And.intro @pW.eq_9 (And.intro @pW.eq_10 (And.intro @pW.eq_11 (And.intro @pW.eq_12 (And.intro @pW.eq_13 (And.intro @pW.eq_14 (And.intro @pW.eq_15 (And.intro @pW.eq_16 (And.intro @pW.eq_17 (And.intro @pW.eq_18 (And.intro @pW.eq_19 (And.intro @pW.eq_20 (And.intro @pW.eq_21 (And.intro @pW.eq_22 (And.intro @pW.eq_23 (And.intro @pW.eq_24 (And.intro @pW.eq_25 (And.intro @pW.eq_26 (And.intro @pW.eq_27 (And.intro @pW.eq_28 (And.intro @bYg.eq_1 (And.intro @bYf.eq_1 (And.intro @atK.eq_1 (And.intro @jC.eq_1 @aKt.eq_1))))))))))))))))))))))))))))))))))))))))))))))))))))))))))))))))))))))))))))
def zV :=And.intro @St0.eq_1 (And.intro @iC.eq_1 (And.intro @iC.eq_2 (And.intro @jQ.eq_1 (And.intro @jQ.eq_2 (And.intro @jQ.eq_3 (And.intro @jQ.eq_4 (And.intro @jQ.eq_5 (And.intro @jQ.eq_6 (And.intro @jQ.eq_7 (And.intro @jQ.eq_8 (And.intro @jQ.eq_9 (And.intro @jQ.eq_10 (And.intro @jQ.eq_11 (And.intro @jQ.eq_12 (And.intro @jQ.eq_13 (And.intro @jQ.eq_14 (And.intro @jQ.eq_15 (And.intro @jQ.eq_16 (And.intro @jQ.eq_17 (And.intro @aP8.eq_1 (And.intro @eI.eq_1 (And.intro @eI.eq_2 (And.intro @eI.eq_3 (And.intro @eI.eq_4 (And.intro @eI.eq_5 (And.intro @eI.eq_6 (And.intro @aUl.eq_1 (And.intro @aUl.eq_2 (And.intro @aC0.eq_1 (And.intro @wM.eq_1 (And.intro @eB.eq_1 (And.intro @eB.eq_2 (And.intro @bWa.eq_1 (And.intro @aXs.eq_1 (And.intro @aXs.eq_2 (And.intro @aWs.eq_1 (And.intro @aWs.eq_2 (And.intro @List.replicate.eq_1.{0} (And.intro @List.replicate.eq_2.{0} (And.intro @rowsOf.eq_1 (And.intro @rowsOf.eq_2 (And.intro @rowsOf.eq_3 (And.intro @rowsOf.eq_4 @rowsOf.eq_5)))))))))))))))))))))))))))))))))))))))))))
end
theorem sd {p q:Prop} (b:q) (a:p:=by first | omega | exact aN0 _ | exact Int.natCast_nonneg _ | rfl | exact aMh _ _ | exact aOa _ | (intro _ h; cases h; done)):p/\q:=⟨a,b⟩
section
variable [sO]
theorem cr {P:Program} {g:FuncId} {args:List D} {d:D} {s:St} (hc:yT P g args d) (hp:D.xU args=true:=by simp [D.xU,D.xG]):xX P g args s d s:=xX.yR hc hp
theorem cq {P:Program} {g:FuncId} {args:List D} {d:D} {s:St} (hc:yT P g args d) (hp:D.xU args=true:=by rfl):xX P g args s d s:=xX.yR hc hp
end
end Go.Pd
