/- Part X6. -/
import Derived.Test.YtndfaefmmcoapaaGreatKcX5
import Derived.Carry
import Derived.ChangeArms
import Derived.Deep.Slices
import Derived.ProofKit
import Derived.OpenShut
set_option linter.unusedSectionVars false
set_option linter.unusedVariables false
set_option linter.unusedSimpArgs false
set_option linter.defProp false
namespace Go.Pd
open Go
def ui (s:BitVec 64):Int:=s.toNat
theorem aPx (s:BitVec 64):0<=ui s:=by unfold ui; omega
theorem aQa {s t:BitVec 64}:ui s=ui t ↔ s=t:=by
 unfold ui
 constructor
 ·intro h; exact BitVec.eq_of_toNat_eq (by omega)
 ·rintro rfl; rfl
theorem aAa {n:Int} (h0:0<=n) (h1:n<18446744073709551616):ui (BitVec.ofInt 64 n)= n:=by
 unfold ui;rw [BitVec.toNat_ofInt];have:n % 2 ^ 64=n:=Int.emod_eq_of_lt h0 (by omega);omega
theorem zF (s:BitVec 64):BitVec.ofInt 64 (ui s)= s:=by
 unfold ui;rw [BitVec.ofInt_natCast];simp
theorem qC (s:BitVec 64):IntKind.u64.wrap (s.toNat:Int)= ui s:=by
 unfold ui;have:=s.isLt;exact wrap_u64 ⟨by omega,by omega⟩
theorem aD4 (s t:BitVec 64):rM .and .u64 (ui s) (ui t)= ui (s &&& t):=by
 show IntKind.u64.wrap ((BitVec.ofInt 64 (ui s)&&& BitVec.ofInt 64 (ui t)).toNat:Int)= _;rw [zF,zF,qC]
theorem aB9 (s t:BitVec 64):rM .or .u64 (ui s) (ui t)= ui (s ||| t):=by
 show IntKind.u64.wrap ((BitVec.ofInt 64 (ui s) ||| BitVec.ofInt 64 (ui t)).toNat:Int)= _;rw [zF,zF,qC]
theorem aIi (s t:BitVec 64):rM .xor .u64 (ui s) (ui t)= ui (s ^^^ t):=by
 show IntKind.u64.wrap ((BitVec.ofInt 64 (ui s)^^^ BitVec.ofInt 64 (ui t)).toNat:Int)= _;rw [zF,zF,qC]
theorem aPz (s t:BitVec 64):rM .andNot .u64 (ui s) (ui t)= ui (s &&& ~~~t):=by
 show IntKind.u64.wrap ((BitVec.ofInt 64 (ui s)&&& ~~~BitVec.ofInt 64 (ui t)).toNat:Int)= _;rw [zF,zF,qC]
theorem kQ (n:Int):IntKind.u64.wrap n=ui (BitVec.ofInt 64 n):=by
 unfold ui;rw [BitVec.toNat_ofInt];simp [IntKind.wrap,IntKind.signed,IntKind.bits];omega
theorem aD5 (s t:BitVec 64):IntKind.u64.wrap (ui s+ui t)= ui (s+t):=by
 rw [kQ,BitVec.ofInt_add,zF,zF]
theorem aDy (s t:BitVec 64):IntKind.u64.wrap (ui s-ui t)= ui (s-t):=by
 rw [kQ];congr 1;rw [Int.sub_eq_add_neg,BitVec.ofInt_add,BitVec.ofInt_neg,zF,zF,BitVec.sub_eq_add_neg]
theorem aD2 (s t:BitVec 64):IntKind.u64.wrap (ui s*ui t)= ui (s*t):=by
 rw [kQ,BitVec.ofInt_mul,zF,zF]
theorem aD0 (s:BitVec 64) (k:Int):aMb .u64 (ui s) k=ui (s <<< k.toNat):=by
 unfold aMb;rw [kQ];congr 1;rw [BitVec.ofInt_mul,zF];show s*BitVec.ofInt 64 (2 ^ min k.toNat 64)= _;apply BitVec.eq_of_toNat_eq;rw [BitVec.toNat_mul,BitVec.toNat_shiftLeft,Nat.shiftLeft_eq]
 have e:(BitVec.ofInt 64 (2 ^ min k.toNat 64)).toNat=2 ^ min k.toNat 64 % 2 ^ 64:=by
  have:((2:Int)^ min k.toNat 64)= ((2 ^ min k.toNat 64:Nat):Int):=by norm_cast
  rw [this,BitVec.ofInt_natCast,BitVec.toNat_ofNat]
 rw [e,Nat.mul_mod_mod]
 rcases Nat.lt_or_ge k.toNat 64 with h | h
 ·rw [Nat.min_eq_left (by omega)]
 ·rw [Nat.min_eq_right h];obtain⟨m,hm⟩:=Nat.exists_eq_add_of_le h;rw [hm,Nat.pow_add,<- Nat.mul_assoc,Nat.mul_right_comm];simp
theorem aDz (s:BitVec 64) (k:Int):aMg .u64 (ui s) k=ui (s >>> k.toNat):=by
 unfold aMg ui;rw [BitVec.toNat_ushiftRight,Nat.shiftRight_eq_div_pow];show (s.toNat:Int).fdiv (2 ^ min k.toNat 64)= _;have:((2:Int)^ min k.toNat 64)= ((2 ^ min k.toNat 64:Nat):Int):=by norm_cast
 rw [this,Int.fdiv_eq_ediv_of_nonneg _ (Int.natCast_nonneg _),<- Int.natCast_ediv];congr 1
 rcases Nat.lt_or_ge k.toNat 64 with h | h
 ·rw [Nat.min_eq_left (by omega)]
 ·rw [Nat.min_eq_right h];have h1:=s.isLt;rw [Nat.div_eq_of_lt h1,Nat.div_eq_of_lt (Nat.lt_of_lt_of_le h1 (Nat.pow_le_pow_right (by omega) h))]
theorem aD1 (s t:BitVec 64):(ui s).tmod (ui t)= ui (s % t):=by
 unfold ui;rw [BitVec.toNat_umod,Int.tmod_eq_emod_of_nonneg (by omega),Int.natCast_emod]
theorem aIj (s t:BitVec 64):(ui s==ui t)= (s==t):=by
 by_cases h:s=t
 ·subst h; simp
 ·have:ui s≠ui t:=fun e=>h (aQa.1 e);rw [beq_eq_false_iff_ne.2 this,beq_eq_false_iff_ne.2 h]
theorem aD3 (s t:BitVec 64):(ui s != ui t)= (s != t):=by simp only [bne,aIj]
theorem aBm : D.int .u64 0=D.int .u64 (ui 0#64):=rfl
theorem aBl : D.int .u64 1=D.int .u64 (ui 1#64):=rfl
theorem bXj : D.int .u64 2=D.int .u64 (ui 2#64):=rfl
theorem bXi : D.int .u64 18446744073709551615=D.int .u64 (ui 18446744073709551615#64):=rfl
theorem aD6 : ui 2#64≠0:=by decide
def us (l:List (BitVec 64)):List (List D):=l.map fun s=>[.int .u64 (ui s)]
def aEm (l:List (BitVec 64)):D:=.sl 1 (us l)
theorem xT (l:List (BitVec 64)):(us l).length=l.length:=by simp [us]
theorem aW4 : us [] = []:=rfl
theorem aZd (s:BitVec 64) (l:List (BitVec 64)):us (s :: l)= [.int .u64 (ui s)] :: us l:=rfl
theorem zH (l:List (BitVec 64)) {i:Nat} (h:i<l.length):(us l).getD i [] = [.int .u64 (ui (l.getD i 0))]:=by simp [us,List.getD,h]
theorem sY (l:List (BitVec 64)):∀ e ∈ us l,D.isPureL e=true:=by
 intro e he;simp only [us,List.mem_map] at he;obtain⟨n,_,rfl⟩:=he;rfl
theorem aR9 (l:List (BitVec 64)):∀ e ∈ us l,zA e=true:=by
 intro e he;simp only [us,List.mem_map] at he;obtain⟨n,_,rfl⟩:=he;rfl
theorem aQo (l:List (BitVec 64)) (n:Nat):(us l).take n=us (l.take n):=by simp [us,List.map_take]
theorem aZc (l:List (BitVec 64)) (s:BitVec 64):us l ++ [[.int .u64 (ui s)]]=us (l ++ [s]):=by simp [us]
theorem oF (l:List (BitVec 64)) (i:Nat) (s:BitVec 64):(us l).set i [.int .u64 (ui s)]=us (l.set i s):=by simp [us,List.map_set]
theorem lH (n:Nat) (s:BitVec 64):List.replicate n [D.int .u64 (ui s)]=us (List.replicate n s):=by simp [us]
theorem aDe : ∀ {els:List (List D)},(∀ e ∈ els,∃ n:Int,e = [.int .u64 n])->D.factE els->∃ l,els=us l
 | [],_,_=>⟨[],rfl⟩
 | e :: r,h,hf=>by
  obtain⟨n,rfl⟩:=h e (by simp);obtain⟨l,rfl⟩:=aDe (fun e he=>h e (by simp [he])) hf.2;have h1:=hf.1;simp only [D.factL,D.fact,and_true] at h1;obtain⟨h1,h2⟩:=h1;refine⟨BitVec.ofInt 64 n :: l,?_⟩;have:ui (BitVec.ofInt 64 n)= n:=aAa (by simpa [IntKind.min,IntKind.signed] using h1) (by have:IntKind.u64.max=18446744073709551615:=rfl; omega);simp [us,this]
theorem aOr (d:D):sI false [d]=d:=rfl
theorem aOs (cs:List D):sI true cs = .agg cs:=rfl
def xG (key sz:Nat):List (List D)->D
 | []=>.nils
 | e :: r=>.osl key sz (e :: r).length
def xE (key sz:Nat):List (List D)->List (Nat × Ob)
 | []=>[]
 | e :: r=>[(key,⟨sz,e :: r⟩)]
end Go.Pd
namespace Go.Pd
open Go
variable [tM]
def xR (f:Fr):Fr->Prop
 | []=>True
 | (t,d) :: r=>f.get t=d/\xR f r
omit [tM] in
theorem aN {f:Fr}:∀ {f':Fr},xR f f'->∀ t,f'.get t = .top\/f'.get t=f.get t
 | [],_,t=>.inl rfl
 | (s,d) :: r,h,t=>by
  simp only [Fr.get]
  split
  ·rename_i e; subst e; exact .inr h.1.symm
  ·exact aN h.2 t
theorem xM.same {C:Cx} {f f':Fr} {σ:St} (h:xR f f'):xM C f σ f' σ:=xM.frame (aN h)
end Go.Pd
namespace Go.Pd
open Go
def rr (ll:List (List (BitVec 64))):List (List D):=ll.map fun l=>[aEm l]
def bXe (ll:List (List (BitVec 64))):D:=.sl 1 (rr ll)
theorem yE (l:List (List (BitVec 64))):(rr l).length=l.length:=by simp [rr]
theorem pK (l:List (List (BitVec 64))) {i:Nat} (h:i<l.length):(rr l).getD i [] = [.sl 1 (us (l.getD i []))]:=by simp [rr,aEm,List.getD,h]
theorem aH8 (l:List (List (BitVec 64))) (n:Nat):(rr l).take n=rr (l.take n):=by simp [rr,List.map_take]
theorem aZi (l:List (List (BitVec 64))):∀ e ∈ rr l,D.isPureL e=true:=by
 intro e he;simp only [rr,List.mem_map] at he;obtain⟨n,_,rfl⟩:=he;simp [D.isPureL,D.isPure,aEm]
end Go.Pd
namespace Go.Pd
open Go
theorem mT.same {n0:Nat} {σ:St} {d:D}:mT n0 σ d σ d:=.inl ⟨rfl,rfl⟩
theorem mT.drop {n0 n:Nat} {σ:St} {d d':D} (hn:n0<=n) (h:vw σ ⟨n,[]⟩ (fun k=>k) d d'):mT n0 σ d ⟨n,[]⟩ d':=
 .inr ⟨fun k=>k,hn,fun _ _=>rfl,h,by simp [stays],by simp [vW]⟩
end Go.Pd
namespace Go.Pd
open Go
universe u
variable [tM]
def atK (σ:St) (K:D->St->Prop) (d:D):Prop:=K d σ
def aBu (f:Fr) (dst:Option Nat) (K:Fr->St->Prop) (d:D) (σ:St):Prop:=K (f.put dst d) σ
def aBt (f:Fr) (dst:Option Nat) (K:Fr->Prop) (d:D):Prop:=K (f.put dst d)
def kY (Q:Exit->Fr->St->Prop) (f:Fr) (σ:St):Prop:=Q .normal f σ
def gdB (d:D) (want:Bool) (yes no:Prop):Prop:=
 match d with
 | .bool b=>if b=want then yes else no
 | .und=>no
 | _=>False
theorem aJj (b want:Bool) (yes no:Prop):gdB (.bool b) want yes no=if b=want then yes else no:=rfl
theorem aFo (want:Bool) (yes no:Prop):gdB .und want yes no=no:=rfl
@[congr] theorem aBb {d d' : D} {want : Bool} {yes no : Prop} (h : d = d') : gdB d want yes no = gdB d' want yes no := by rw [h]
def gd (g:Option (Nat × Bool)) (f:Fr) (yes no:Prop):Prop:=
 match g with
 | none=>yes
 | some (j,want)=>gdB (f.get j) want yes no
theorem aFn (f:Fr) (yes no:Prop):gd none f yes no=yes:=rfl
theorem aFm (j:Nat) (want:Bool) (f:Fr) (yes no:Prop):gd (some (j,want)) f yes no=gdB (f.get j) want yes no:=rfl
theorem aDk (o:DOp) (f:Fr) (yes no:Prop):yV o f yes no=gd o.guard f yes no:=by
 unfold yV gd
 split
 ·rename_i h; rw [h]
 ·rename_i h; rw [h]; rfl
def aTj (q:Bool) (σ:St) (sz bytes:Nat) (x:D) (y:Option (List (List D))) (K:D->St->Prop):Prop:=
 match y with
 | none=>False
 | some rows=>(∀ r ∈ rows,zA r=true)/\ match x with
  | .nils=>rows.length*bytes<=140737488355328/\rows.length<=1000000000000/\(rows = []->K .nils σ)/\ (rows ≠ []->K (.osl σ.nx sz rows.length) (σ.new ⟨sz,rows⟩))
  | .osl key sz' n=>match σ.get key with
   | some ob=>sz=sz'/\ob.sz=sz/\n<=ob.els.length/\(n+rows.length)* bytes<=140737488355328/\n+rows.length<=1000000000000 /\
    K (.osl σ.nx sz (n+rows.length)) ((σ.erase key).new ⟨sz,ob.els.take n++rows⟩)
   | none=>False
  | .sub key sz' lo n=>match σ.get key with
   | some ob=>q=true/\sz=sz'/\ob.sz=sz/\lo+n<=ob.els.length/\(n+rows.length)* bytes<=140737488355328/\n+rows.length<=1000000000000 /\
    ∀ pre:List (List D),(pre = []\/pre=ob.els.take lo)->K (.sub σ.nx sz pre.length (n+rows.length)) ((σ.erase key).new ⟨sz,pre++((ob.els.drop lo).take n++rows)⟩)
   | none=>False
  | _=>False
def aE8 (σ:St) (n:Nat) (a:D) (x:Option (List D)) (K:D->St->Prop):Prop:=
 match a,x with
 | .ref key sz i off,some ds=>match σ.get key with
  | some ob=>ob.sz=sz/\i<ob.els.length/\ds.length=n/\off+n<=sz/\zA ds=true/\K .und (σ.set key ⟨sz,ob.els.set i (fZ (ob.els.getD i []) off ds)⟩)
  | none=>False
 | _,_=>False
def aMc (x:D) (K:D->Prop):Prop:=
 match x with
 | .sl _ els=>K (.int .i64 els.length)
 | .osl _ _ n=>K (.int .i64 n)
 | .sub _ _ _ n=>K (.int .i64 n)
 | .nils=>K (.int .i64 0)
 | .emp=>K (.int .i64 0)
 | _=>False
def aMi (sz:Nat) (x i:D) (K:D->Prop):Prop:=
 match x,i with
 | .sl sz' els,.int _ n=>sz=sz'/\0<=n/\n<els.length/\K (.ptr (els.getD n.toNat []))
 | .osl key sz' len,.int _ n=>sz=sz'/\0<=n/\n<len/\K (.ref key sz n.toNat 0)
 | .sub key sz' lo len,.int _ n=>sz=sz'/\0<=n/\n<len/\K (.ref key sz (lo+n.toNat) 0)
 | _,_=>False
def rE (neg:Bool) (x y:D) (K:D->Prop):Prop:=
 match x,y with
 | .nils,.nils=>K (.bool (!neg))
 | .osl ..,.nils | .nils,.osl ..=>K (.bool neg)
 | .emp,.nils | .nils,.emp=>K (.bool neg)
 | .sl _ (_ :: _),.nils=>K (.bool neg)
 | _,_=>False
def aTu (σ:St) (n:Nat) (ag:Bool) (x:D) (K:D->Prop):Prop:=
 match x with
 | .ref key sz i off=>match σ.get key with
  | some o=>o.sz=sz/\i<o.els.length/\off+n<=sz/\(ag=true\/n=1)/\ K (sI ag (((o.els.getD i []).drop off).take n))
  | none=>False
 | .ptr cs=>n<=cs.length/\(ag=true\/n=1)/\ K (sI ag (cs.take n))
 | _=>False
def aEr (x:D) (K:D->Prop):Prop:=
 match x with
 | .ref key sz i off=>K (.ref key sz i off)
 | .ptr cs=>K (.ptr cs)
 | .fn f cs=>K (.fn f cs)
 | _=>False
@[congr] theorem aE2 {x x' : D} {K : D -> Prop} (h : x = x') : aEr x K = aEr x' K := by rw [h]
theorem aKt {key sz i off:Nat} {K:D->Prop}:aEr (.ref key sz i off) K=K (.ref key sz i off):=rfl
theorem aKu {cs:List D} {K:D->Prop}:aEr (.ptr cs) K=K (.ptr cs):=rfl
theorem aG2 {f:FuncId} {cs:List D} {K:D->Prop}:aEr (.fn f cs) K=K (.fn f cs):=rfl
def aTs (σ:St) (zero:D) (ok:Bool) (m k:D) (K:D->Prop):Prop:=
 match m,k with
 | .mref key,.int kk x=>match σ.get key with
  | some o=>o.sz=0/\kZ kk o.els/\K (jY ok zero (rH x o.els 0))
  | none=>False
 | .nilm,.int _ _=>K (jY ok zero none)
 | _,_=>False
def aR3 (σ:St) (m k x:D) (K:D->St->Prop):Prop:=
 match m,k with
 | .mref key,.int kk y=>match σ.get key with
  | some o=>o.sz=0/\kZ kk o.els/\K .und (σ.set key ⟨0,aY5 kk o.els y x⟩)
  | none=>False
 | _,_=>False
def lJ (σ:St) (n:Nat) (zero:D) (ok:Bool) (m k:D) (K:D->Prop):Prop:=
 match m,k with
 | .mref key,.agg cs=>match σ.get key with
  | some o=>o.sz=0/\∃ (x:List Int) (l:List (List Int × D)),(cs=x.map (D.int .i64)/\ o.els=rJ l/\x.length=n/\∀ p ∈ l,p.1.length=n)/\ K (jY ok zero (rA x l 0))
  | none=>False
 | _,_=>False
def oE (σ:St) (n:Nat) (m k x:D) (K:D->St->Prop):Prop:=
 match m,k with
 | .mref key,.agg cs=>match σ.get key with
  | some o=>o.sz=0/\∃ (y:List Int) (l:List (List Int × D)),(cs=y.map (D.int .i64)/\ o.els=rJ l/\(y.length=n/\∀ p ∈ l,p.1.length=n))/\ K .und (σ.set key ⟨0,rJ (dW y x l)⟩)
  | none=>False
 | _,_=>False
def aHk (σ:St) (zero m k:D) (K:D->St->Prop):Prop:=
 match m,k with
 | .mref key,.int kk y=>match σ.get key with
  | some o=>o.sz=0/\kZ kk o.els/\o.els.length<=1000000000/\(match rH y o.els 0 with
   | some (i,d)=>K (.tup [d,.int .i64 i]) (σ.set key ⟨0,o.els⟩)
   | none=>K (.tup [zero,.int .i64 o.els.length]) (σ.set key ⟨0,o.els ++ [[.int kk y,zero]]⟩))
  | none=>False
 | _,_=>False
def aHm (σ:St) (m s x:D) (K:D->St->Prop):Prop:=
 match m,s with
 | .mref key,.int _ i=>match σ.get key with
  | some o=>o.sz=0/\0<=i/\i<o.els.length/\(∃ kk y d,o.els.getD i.toNat [] = [.int kk y,d]/\K .und (σ.set key ⟨0,o.els.set i.toNat [.int kk y,x]⟩))
  | none=>False
 | _,_=>False
@[congr] theorem aEd {σ : St} {zero : D} {ok : Bool} {m m' k k' : D} {K : D -> Prop} (h : m = m') (h' : k = k') : aTs σ zero ok m k K = aTs σ zero ok m' k' K := by rw [h, h']
@[congr] theorem aEb {σ : St} {m m' k k' x x' : D} {K : D -> St -> Prop} (h : m = m') (h' : k = k') (h2 : x = x') : aR3 σ m k x K = aR3 σ m' k' x' K := by rw [h, h', h2]
@[congr] theorem aI7 {σ : St} {n : Nat} {zero : D} {ok : Bool} {m m' k k' : D} {K : D -> Prop} (h : m = m') (h' : k = k') : lJ σ n zero ok m k K = lJ σ n zero ok m' k' K := by rw [h, h']
@[congr] theorem aI5 {σ : St} {n : Nat} {m m' k k' x x' : D} {K : D -> St -> Prop} (h : m = m') (h' : k = k') (h2 : x = x') : oE σ n m k x K = oE σ n m' k' x' K := by rw [h, h', h2]
@[congr] theorem aEf {σ : St} {zero m m' k k' : D} {K : D -> St -> Prop} (h : m = m') (h' : k = k') : aHk σ zero m k K = aHk σ zero m' k' K := by rw [h, h']
@[congr] theorem aEi {σ : St} {m m' k k' x x' : D} {K : D -> St -> Prop} (h : m = m') (h' : k = k') (h2 : x = x') : aHm σ m k x K = aHm σ m' k' x' K := by rw [h, h', h2]
@[congr] theorem aE5 {q : Bool} {σ : St} {sz bytes : Nat} {x x' : D} {y y' : Option (List (List D))} {K : D -> St -> Prop} (h : x = x') (h' : y = y') : aTj q σ sz bytes x y K = aTj q σ sz bytes x' y' K := by rw [h, h']
@[congr] theorem aE0 {σ : St} {n : Nat} {x x' : D} {y y' : Option (List D)} {K : D -> St -> Prop} (h : x = x') (h' : y = y') : aE8 σ n x y K = aE8 σ n x' y' K := by rw [h, h']
@[congr] theorem aE3 {x x' : D} {K : D -> Prop} (h : x = x') : aMc x K = aMc x' K := by rw [h]
@[congr] theorem aE4 {sz : Nat} {x x' i i' : D} {K : D -> Prop} (h : x = x') (h' : i = i') : aMi sz x i K = aMi sz x' i' K := by rw [h, h']
@[congr] theorem aI4 {neg : Bool} {x x' i i' : D} {K : D -> Prop} (h : x = x') (h' : i = i') : rE neg x i K = rE neg x' i' K := by rw [h, h']
@[congr] theorem aEg {σ : St} {n : Nat} {ag : Bool} {x x' : D} {K : D -> Prop} (h : x = x') : aTu σ n ag x K = aTu σ n ag x' K := by rw [h]
def pX (C:Cx) (σ:St) (ev:Opd->D) (k:DK) (K:D->Prop):Prop:=
 match k with
 | .len x=>aMc (ev x) K
 | .idx sz x i=>aMi sz (ev x) (ev i) K
 | .nileq neg x y=>rE neg (ev x) (ev y) K
 | .load n ag x=>aTu σ n ag (ev x) K
 | .mget zero ok m k=>aTs σ zero ok (ev m) (ev k) K
 | .mgets n zero ok m k=>lJ σ n zero ok (ev m) (ev k) K
 | .nck x=>aEr (ev x) K
 | k=>pW C σ ev k K
theorem aDi (C:Cx) (σ:St) (ev:Opd->D) (k:DK) (K:D->Prop):pX C σ ev k K=pW C σ ev k K:=by
 cases k <;> rfl
def opX (C:Cx) (σ:St) (ev:Opd->D) (k:DK) (K:D->St->Prop):Prop:=
 match k with
 | .box x=>opV C σ ev (.box x) K
 | .alloc z=>opV C σ ev (.alloc z) K
 | .store n a x=>aE8 σ n (ev a) (ev x).cells K
 | .app sz bytes x y=>aTj (C.own.contains 77777) σ sz bytes (ev x) (rowsOf σ sz (ev y)) K
 | .mksl sz bytes zero len cap=>opV C σ ev (.mksl sz bytes zero len cap) K
 | .olit sz len zero parts=>opV C σ ev (.olit sz len zero parts) K
 | .clr zero x=>opV C σ ev (.clr zero x) K
 | .cpy x y=>opV C σ ev (.cpy x y) K
 | .call fn args=>opV C σ ev (.call fn args) K
 | .mkm=>opV C σ ev .mkm K
 | .mput m k x=>aR3 σ (ev m) (ev k) (ev x) K
 | .mputs n m k x=>oE σ n (ev m) (ev k) (ev x) K
 | .ment zero m k=>aHk σ zero (ev m) (ev k) K
 | .esto m s x=>aHm σ (ev m) (ev s) (ev x) K
 | k=>pX C σ ev k (atK σ K)
theorem aQd (C:Cx) (σ:St) (ev:Opd->D) (k:DK) (K:D->St->Prop):opX C σ ev k K=opV C σ ev k K:=by
 cases k <;> first | rfl | (show pX _ _ _ _ _=_; rw [aDi]; rfl)
def aRs (C:Cx):List DOp->(Fr->St->Prop)->Fr->St->Prop
 | [],K,f,σ=>K f σ
 | ⟨dst,g,k⟩ :: rest,K,f,σ=>gd g f (opX C σ (evO f) k (aBu f dst (aRs C rest K))) (aRs C rest K (f.put dst .und) σ)
theorem jO (C:Cx) (K:Fr->St->Prop):∀ (ops:List DOp) (f:Fr) (σ:St),aRs C ops K f σ=rO C ops f σ K
 | [],f,σ=>rfl
 | o :: rest,f,σ=>by
  have ih:aRs C rest K=fun f σ=>rO C rest f σ K:=by funext f σ; exact jO C K rest f σ
  unfold aRs rO;rw [aDk,aQd,ih];rfl
def aRr (C:Cx) (σ:St):List DOp->(Fr->Prop)->Fr->Prop
 | [],K,f=>K f
 | ⟨dst,g,k⟩ :: rest,K,f=>gd g f (pX C σ (evO f) k (aBt f dst (aRr C σ rest K))) (aRr C σ rest K (f.put dst .und))
theorem pC (C:Cx) (σ:St) (K:Fr->Prop):∀ (ops:List DOp) (f:Fr),aRr C σ ops K f=uS C σ ops f K
 | [],f=>rfl
 | o :: rest,f=>by
  have ih:aRr C σ rest K=fun f=>uS C σ rest f K:=by funext f; exact pC C σ K rest f
  unfold aRr uS;rw [aDk,aDi,ih];rfl
def aR2 (C:Cx) (post:List DOp) (Q:Exit->Fr->St->Prop) (σ:St) (f:Fr):Prop:=aRs C post (kY Q) f σ
def cdB (d:D) (p q:Prop):Prop:=
 match d with
 | .bool t=>if t=true then p else q
 | _=>False
theorem aJx (t:Bool) (p q:Prop):cdB (.bool t) p q=if t=true then p else q:=rfl
@[congr] theorem aBc {d d' : D} {p q : Prop} (h : d = d') : cdB d p q = cdB d' p q := by rw [h]
def aW7 (C:Cx) (it:Nat) (m:Opd) (out nx more next pair:Nat) (rest:List DOp) (code:DC) (Q:Exit->Fr->St->Prop) (f:Fr) (σ:St):Prop:=bD C it m out nx more next pair rest code f σ Q
@[congr] theorem aI6 {C : Cx} {it : Nat} {m : Opd} {out nx more next pair : Nat} {rest : List DOp} {code : DC} {Q : Exit -> Fr -> St -> Prop} {f f' : Fr} {σ : St} (h : f = f') : aW7 C it m out nx more next pair rest code Q f σ = aW7 C it m out nx more next pair rest code Q f' σ := by rw [h]
def aQ0 (C:Cx) (code:DC) (out next:Nat) (J:Fr->St->Prop) (Q:Exit->Fr->St->Prop) (f:Fr) (σ:St):Prop:=wpS C code f σ (rB next (mP J (rB out Q)))
@[congr] theorem aJ9 {C : Cx} {code : DC} {out next : Nat} {J : Fr -> St -> Prop} {Q : Exit -> Fr -> St -> Prop} {f f' : Fr} {σ : St} (h : f = f') : aQ0 C code out next J Q f σ = aQ0 C code out next J Q f' σ := by rw [h]
def aR6 (C:Cx) (k:DK) (K:Fr->D->St->Prop) (σ:St) (f1:Fr):Prop:=opX C σ (evO f1) k (K f1)
def eqF (f:Fr) (g:Fr):Prop:=g=f
def unK (C:Cx) (un:Bool) (mid:List DOp) (f1:Fr) (σ:St) (K:Fr->St->Prop) (σ1:St) (f2:Fr):Prop:=(if un=true then aRr C σ mid (eqF f2) f1 else True)/\ K f2 σ1
def aEt (C:Cx) (pre:List DOp) (dst:Option Nat) (mid:List DOp) (un:Bool) (post:List DOp) (Q:Exit->Fr->St->Prop) (f:Fr) (σ:St) (f1:Fr) (d:D) (σ1:St):Prop:=
 aRr C σ1 pre (eqF f1) f/\aRr C σ1 mid (unK C un mid (f1.put dst d) σ (aRs C post (kY Q)) σ1) (f1.put dst d)
theorem aG9 {C:Cx} {pre:List DOp} {dst:Option Nat} {mid:List DOp} {un:Bool} {post:List DOp} {Q:Exit->Fr->St->Prop} {f:Fr} {σ:St} {f1:Fr} {d:D} {σ1:St} :
  aEt C pre dst mid un post Q f σ f1 d σ1=aDc C pre dst mid un f σ (fun f σ=>rO C post f σ fun f σ=>Q .normal f σ) f1 d σ1:=by
 unfold aEt aDc;rw [pC,pC]
 have:unK C un mid (f1.put dst d) σ (aRs C post (kY Q)) σ1=fun f2=>(if un=true then uS C σ mid (f1.put dst d) (fun g=>g=f2) else True)/\ rO C post f2 σ1 fun f σ=>Q .normal f σ:=by
  funext f2;unfold unK;rw [pC,jO];rfl
 rw [this];rfl
def wpX (C:Cx):DC->(Exit->Fr->St->Prop)->Fr->St->Prop
 | .skip,Q,f,σ=>Q .normal f σ
 | .reg pre post,Q,f,σ=>aRr C σ pre (aR2 C post Q σ) f
 | .regm pre m mid un post,Q,f,σ=>aRr C σ pre (aR6 C m.k (aEt C pre m.dst mid un post Q f σ) σ) f
 | .regc pre m1 mid1 m2 mid2 post,Q,f,σ=>wpD C (.regc pre m1 mid1 m2 mid2 post) f σ Q
 | .seq a b,Q,f,σ=>wpX C a (mP (wpX C b Q) Q) f σ
 | .cond c a b,Q,f,σ=>cdB (evO f c) (wpX C a Q f σ) (wpX C b Q f σ)
 | .block id c,Q,f,σ=>wpX C c (rB id Q) f σ
 | .loop c,Q,f,σ=>wpS C (.loop c) f σ Q
 | .rfun g ps a c,Q,f,σ=>wpS C (.rfun g ps a c) f σ Q
 | .rega pre m1 mid1 m2 mid2 post free,Q,f,σ=>wpS C (.rega pre m1 mid1 m2 mid2 post free) f σ Q
 | .regv pre m mid un post fl,Q,f,σ=>wpS C (.regv pre m mid un post fl) f σ Q
 | .exit id,Q,f,σ=>Q (.exit id) f σ
 | .ret,Q,f,σ=>Q .ret f σ
 | .rng ..,_,_,_=>False
 | .nxt ..,_,_,_=>False
 | .ent ..,_,_,_=>False
 | .mloop pre it m out nx more next pair rest code,Q,f,σ=>aRs C pre (aW7 C it m out nx more next pair rest code Q) f σ
theorem jS (C:Cx):∀ (dc:DC) (Q:Exit->Fr->St->Prop) (f:Fr) (σ:St),wpX C dc Q f σ=wpD C dc f σ Q
 | .skip,Q,f,σ=>rfl
 | .reg pre post,Q,f,σ=>by
  unfold wpX wpD;rw [pC]
  have:aR2 C post Q σ=fun f=>rO C post f σ fun f σ=>Q .normal f σ:=by
   funext f;unfold aR2;rw [jO];rfl
  rw [this]
 | .regm pre m mid un post,Q,f,σ=>by
  unfold wpX wpD;rw [pC]
  have:aR6 C m.k (aEt C pre m.dst mid un post Q f σ) σ=fun f1=>opV C σ (evO f1) m.k fun d σ1=>aDc C pre m.dst mid un f σ (fun f σ=>rO C post f σ fun f σ=>Q .normal f σ) f1 d σ1:=by
   funext f1;unfold aR6;rw [aQd];congr 1;funext d σ1;exact aG9
  rw [this]
 | .regc ..,Q,f,σ=>rfl
 | .seq a b,Q,f,σ=>by
  have ih:wpX C b Q=fun f σ=>wpD C b f σ Q:=by funext f σ; exact jS C b Q f σ
  unfold wpX;rw [jS C a,ih];rfl
 | .cond c a b,Q,f,σ=>by
  unfold wpX;rw [jS C a,jS C b];rfl
 | .block id c,Q,f,σ=>by unfold wpX; rw [jS C c]; rfl
 | .loop c,Q,f,σ=>rfl
 | .rfun g ps a c,Q,f,σ=>rfl
 | .rega ..,Q,f,σ=>rfl
 | .regv ..,Q,f,σ=>rfl
 | .exit id,Q,f,σ=>rfl
 | .ret,Q,f,σ=>rfl
 | .rng ..,_,_,_=>rfl
 | .nxt ..,_,_,_=>rfl
 | .ent ..,_,_,_=>rfl
 | .mloop pre it m out nx more next pair rest code,Q,f,σ=>by unfold wpX wpD; rw [jO]; rfl
noncomputable def aW6 {α:Sort u} (a:α):α:=Classical.choose (⟨a,rfl⟩:∃ b:α,b=a)
theorem jG {α:Sort u} (a:α):aW6 a=a:=Classical.choose_spec (⟨a,rfl⟩:∃ b:α,b=a)
noncomputable def aTe (C:Cx):List DOp->(Fr->St->Prop)->Fr->St->Prop:=aW6 (aRs C)
noncomputable def mU (C:Cx) (σ:St):List DOp->(Fr->Prop)->Fr->Prop:=aW6 (aRr C σ)
noncomputable def wpZ (C:Cx):DC->(Exit->Fr->St->Prop)->Fr->St->Prop:=aW6 (wpX C)
theorem mG (C:Cx):aTe C=aRs C:=jG _
theorem pD (C:Cx) (σ:St):mU C σ=aRr C σ:=jG _
theorem uB (C:Cx):wpZ C=wpX C:=jG _
section
variable (C : Cx) (σ : St) (f : Fr) (Q : Exit -> Fr -> St -> Prop) (K : Fr -> St -> Prop) (K1 : Fr -> Prop) (a b c : DC) (dst : Option Nat) (g : Option (Nat × Bool)) (k : DK) (rest pre post : List DOp) (x : Opd) (id : Nat)
theorem aKc : aTe C [] K f σ=K f σ:=by rw [mG]; rfl
theorem aOt : aTe C (⟨dst,g,k⟩ :: rest) K f σ=gd g f (opX C σ (evO f) k (aBu f dst (aTe C rest K))) (aTe C rest K (f.put dst .und) σ):=by rw [mG]; rfl
theorem aVv : mU C σ [] K1 f=K1 f:=by rw [pD]; rfl
theorem aOq : mU C σ (⟨dst,g,k⟩ :: rest) K1 f=gd g f (pX C σ (evO f) k (aBt f dst (mU C σ rest K1))) (mU C σ rest K1 (f.put dst .und)):=by rw [pD]; rfl
def aMq (C:Cx) (post:List DOp) (Q:Exit->Fr->St->Prop) (σ:St) (f:Fr):Prop:=aTe C post (kY Q) f σ
theorem aMu : wpZ C .skip Q f σ=Q .normal f σ:=by rw [uB]; rfl
theorem aHr : wpZ C (.reg pre post) Q f σ=mU C σ pre (aMq C post Q σ) f:=by
 have e:aMq C post Q σ=aR2 C post Q σ:=by funext f; unfold aMq aR2; rw [mG]
 rw [uB,pD,e]; rfl
def dY (C:Cx) (k:DK) (K:Fr->D->St->Prop) (σ:St) (f1:Fr):Prop:=opX C σ (evO f1) k (K f1)
def unZ (C:Cx) (un:Bool) (mid:List DOp) (f1:Fr) (σ:St) (K:Fr->St->Prop) (σ1:St) (f2:Fr):Prop:=(if un=true then mU C σ mid (eqF f2) f1 else True)/\ K f2 σ1
def aBk (C:Cx) (pre:List DOp) (dst:Option Nat) (mid:List DOp) (un:Bool) (post:List DOp) (Q:Exit->Fr->St->Prop) (f:Fr) (σ:St) (f1:Fr) (d:D) (σ1:St):Prop:=
 mU C σ1 pre (eqF f1) f/\mU C σ1 mid (unZ C un mid (f1.put dst d) σ (aTe C post (kY Q)) σ1) (f1.put dst d)
theorem aMx {mid:List DOp} {un:Bool}:wpZ C (.regm pre ⟨dst,g,k⟩ mid un post) Q f σ=mU C σ pre (dY C k (aBk C pre dst mid un post Q f σ) σ) f:=by
 have e:dY C k (aBk C pre dst mid un post Q f σ) σ=aR6 C k (aEt C pre dst mid un post Q f σ) σ:=by
  funext f1;unfold dY aR6;congr 1;funext d σ1;unfold aBk aEt
  have e2:unZ C un mid (f1.put dst d) σ (aTe C post (kY Q)) σ1=unK C un mid (f1.put dst d) σ (aRs C post (kY Q)) σ1:=by
   funext f2; unfold unZ unK; rw [mG,pD]
  rw [e2,pD]
 rw [uB,pD,e]; rfl
theorem aJm (f:Fr):eqF f f=True:=eq_true rfl
theorem aHp : wpZ C (.seq a b) Q f σ=wpZ C a (mP (wpZ C b Q) Q) f σ:=by rw [uB]; rfl
theorem aM0 : wpZ C (.cond x a b) Q f σ=cdB (evO f x) (wpZ C a Q f σ) (wpZ C b Q f σ):=by rw [uB]; rfl
theorem aPt : wpZ C (.block id c) Q f σ=wpZ C c (rB id Q) f σ:=by rw [uB]; rfl
theorem aMy : wpZ C (.loop c) Q f σ=wpS C (.loop c) f σ Q:=by rw [uB]; rfl
theorem aMv {g:Opd} {ps:List Nat}:wpZ C (.rfun g ps a c) Q f σ=wpS C (.rfun g ps a c) f σ Q:=by rw [uB]; rfl
theorem aMz : wpZ C (.exit id) Q f σ=Q (.exit id) f σ:=by rw [uB]; rfl
theorem aHq : wpZ C .ret Q f σ=Q .ret f σ:=by rw [uB]; rfl
theorem aPs {it:Nat} {m:Opd} {out nx more next pair:Nat} {rst:List DOp} {code:DC}:wpZ C (.mloop pre it m out nx more next pair rst code) Q f σ=aTe C pre (aW7 C it m out nx more next pair rst code Q) f σ:=by rw [uB,mG]; rfl
end
theorem xQ {C:Cx} (hm:C.P.follows .mixedOrders=true) {dc:DC} {f:Fr} {σ:St} {Q:Exit->Fr->St->Prop} (h:wpZ C dc Q f σ):wpS C dc f σ Q:=
 aIg hm (by rw [<- jS,<- uB]; exact h)
theorem xX.go_fn {P:Program} {g:FuncId} {fn:Func} {own:List Nat} {N:Nat} {dc:DC} {rs:List yW} {args:List D} {σ:St} {d:D} {σ':St} (hm:P.follows .mixedOrders=true) (hf:P.funcs[g]?=some fn)
  (hc:xU P own fn=some (N,dc,rs)) (hla:args.length<=N)
  (h:D.factL args->wpZ ⟨P,N,σ.nx,own,none⟩ dc (aR7 ⟨P,N,σ.nx,own,none⟩ rs d σ') (jT 0 args) σ):xX P g args σ d σ':=
 xX.of_fn hm hf hc hla fun hfa=>by rw [<- jS,<- uB]; exact h hfa
end Go.Pd
namespace Go.Pd
open Go
theorem aU3 (s:BitVec 64) (w:Nat):s >>> w &&& 1#64=if s.getLsbD w then 1#64 else 0#64:=by
 apply BitVec.eq_of_toNat_eq;rw [BitVec.toNat_and,BitVec.toNat_ushiftRight];have:(1#64).toNat=1:=rfl;rw [this,Nat.and_one_is_mod];unfold BitVec.getLsbD;rw [Nat.testBit_eq_decide_div_mod_eq,Nat.shiftRight_eq_div_pow]
 by_cases h:s.toNat / 2 ^ w % 2=1
 ·simp [h]
 ·simp [h]; omega
theorem aZf {k:Nat} (hk:k<62):aMb .i64 1 k=((2 ^ k:Nat):Int):=by
 have hp:2 ^ k<2 ^ 62:=Nat.pow_lt_pow_right (by omega) hk;unfold aMb
 have e:min (k:Int).toNat IntKind.i64.bits=k:=by
  have:IntKind.i64.bits=64:=rfl;rw [this,Int.toNat_natCast]; omega
 rw [e,Int.one_mul,wrap_i64]
 ·simp
 ·have:((2:Int)^ k)= ((2 ^ k:Nat):Int):=by simp
  rw [this];exact⟨Int.le_trans (by decide) (Int.natCast_nonneg _),Int.le_trans (Int.ofNat_le.2 (Nat.le_of_lt hp)) (by decide)⟩
theorem or_zero {a k:Nat} (h:a<2 ^ k) (hk:k<62):rM .or .i64 (a:Int) (aMb .i64 0 k)= (a:Int):=by
 have hp:2 ^ k<2 ^ 62:=Nat.pow_lt_pow_right (by omega) hk
 have e1:aMb .i64 0 k=0:=by
  unfold aMb;rw [Int.zero_mul]; rfl
 rw [e1];show IntKind.i64.wrap ((BitVec.ofInt 64 (a:Int) ||| BitVec.ofInt 64 0).toNat:Int)= _;rw [BitVec.ofInt_natCast,BitVec.toNat_or,BitVec.toNat_ofNat,Nat.mod_eq_of_lt (by omega)];have:(BitVec.ofInt 64 0).toNat=0:=rfl;rw [this,Nat.or_zero];exact wrap_i64 (by omega)
end Go.Pd
namespace Go.Pd
open Go
theorem zL (key sz:Nat):xG key sz [] = .nils:=rfl
theorem eR (key sz:Nat) (e:List D) (r:List (List D)):xG key sz (e :: r)= .osl key sz (r.length+1):=rfl
theorem zM (key sz:Nat):xE key sz [] = []:=rfl
theorem eT (key sz:Nat) (e:List D) (r:List (List D)):xE key sz (e :: r)= [(key,⟨sz,e :: r⟩)]:=rfl
theorem qI (k:IntKind):rows k [] = []:=rfl
theorem jE (k:IntKind) (n:Int) (l:List Int):rows k (n :: l)= [.int k n] :: rows k l:=rfl
theorem aL (k:IntKind) (l:List Int) (n:Int):rows k l ++ [[.int k n]]=rows k (l ++ [n]):=by simp [rows]
theorem aZh (l:List (List (BitVec 64))) (r:List (BitVec 64)):rr l ++ [[.sl 1 (us r)]]=rr (l ++ [r]):=by simp [rr,aEm]
theorem aIk : rr [] = []:=rfl
theorem aQs (l:List (BitVec 64)) (r:List (List (BitVec 64))):rr (l :: r)= [.sl 1 (us l)] :: rr r:=rfl
variable [tM]
theorem aNg {key m n sz:Nat} {els:List (List D)} (hs:0<sz) (hp:∀ e ∈ els,D.isPureL e=true) {ρ:Nat->Nat}:vw ⟨m,xE key sz els⟩ ⟨n,[]⟩ ρ (xG key sz els) (.sl sz els):=by
 cases els with
 | nil=>simp [xG,vw]
 | cons e r=>
  simp only [xG,xE,vw];refine⟨trivial,hs,by simp,⟨sz,e :: r⟩,by simp [St.get,St.look],rfl,Nat.le_refl _,by simp,hp⟩
theorem mT.name {n0 n m sz j:Nat} {els:List (List D)} {d d':D} (hn:n0<=n) (hp:∀ e ∈ els,D.isPureL e=true) (hv:vw ⟨m,[(j,⟨sz,els⟩)]⟩ ⟨n+1,[(n,⟨sz,els⟩)]⟩ (fun k=>if k=n then j else k) d d'):mT n0 ⟨m,[(j,⟨sz,els⟩)]⟩ d ⟨n+1,[(n,⟨sz,els⟩)]⟩ d':=by
 refine .inr ⟨fun k=>if k=n then j else k,by show n0<=n+1; omega,fun k hk=>if_neg (by omega),hv,?_,?_⟩
 ·intro p hp';simp only [List.mem_singleton] at hp';subst hp';exact⟨Nat.lt_succ_self n,⟨sz,els⟩,by simp [St.get,St.look],rfl,.same hp⟩
 ·intro p hp' q hq' _;simp only [List.mem_singleton] at hp' hq';rw [hp',hq']
end Go.Pd
namespace Go.Pd
open Go
def wK (sz:Nat):List (List D)->Option Ob
 | []=>none
 | e :: r=>some ⟨sz,e :: r⟩
theorem yR {k s:Nat} {els:List (List D)} {r:List (Nat × Ob)} {k':Nat}:St.look (xE k s els++r) k'=if k=k' then(wK s els).or (St.look r k') else St.look r k':=by
 cases els with
 | nil=>simp [xE,wK]
 | cons e l=>simp [xE,wK,St.look]
theorem gZ {k s:Nat} {els:List (List D)} {k':Nat}:St.look (xE k s els) k'=if k=k' then wK s els else none:=by
 have:=yR (k:=k) (s:=s) (els:=els) (r:=[]) (k':=k');simp only [List.append_nil,St.look,Option.or_none] at this;exact this
theorem gS {k s:Nat} {els:List (List D)} {r:List (Nat × Ob)} {k':Nat}:yQ (xE k s els++r) k'=if k=k' then yQ r k' else xE k s els++yQ r k':=by
 cases els with
 | nil=>simp [xE]
 | cons e l=>simp [xE,yQ]
theorem aYr {k s:Nat} {els:List (List D)} {k':Nat}:yQ (xE k s els) k'=if k=k' then [] else xE k s els:=by
 have:=gS (k:=k) (s:=s) (els:=els) (r:=[]) (k':=k');simp only [List.append_nil,yQ] at this;exact this
theorem aVl : ∀ {r:List (Nat × Ob)} {k:Nat} {o:Ob},St.look r k=none->wF r k o=r
 | [],_,_,_=>rfl
 | (j,o') :: r,k,o,h=>by
  simp only [St.look] at h
  split at h
  ·cases h
  ·rename_i hn;simp only [wF,if_neg hn,aVl h]
theorem eN : ∀ {r:List (Nat × Ob)} {k:Nat},St.look r k=none->yQ r k=r
 | [],_,_=>rfl
 | (j,o') :: r,k,h=>by
  simp only [St.look] at h
  split at h
  ·cases h
  ·rename_i hn;simp only [yQ,if_neg hn,eN h]
theorem aP {k s:Nat} {els els':List (List D)} {r:List (Nat × Ob)} (hl:els'.length=els.length) (h:St.look r k=none):wF (xE k s els++r) k ⟨s,els'⟩= xE k s els'++r:=by
 cases els with
 | nil=>
  have:els' = []:=List.eq_nil_of_length_eq_zero (by simpa using hl);subst this;simp only [xE,List.nil_append];exact aVl h
 | cons e l=>
  cases els' with
  | nil=>simp at hl
  | cons e' l'=>simp [xE,wF]
theorem fI {k s:Nat} {els els':List (List D)} (hl:els'.length=els.length):wF (xE k s els) k ⟨s,els'⟩= xE k s els':=by
 have:=aP (k:=k) (s:=s) (r:=[]) hl rfl;simp only [List.append_nil] at this;exact this
theorem aYi {k s:Nat} {els:List (List D)} {r:List (Nat × Ob)} {k':Nat} {o:Ob} (h:k≠k'):wF (xE k s els++r) k' o=xE k s els++wF r k' o:=by
 cases els with
 | nil=>simp [xE]
 | cons e l=>simp [xE,wF,h]
theorem aWs (k s:Nat) (els:List (List D)):(xG k s els).cells=some [xG k s els]:=by cases els <;> rfl
theorem aOv (k s:Nat) (els:List (List D)):(xG k s els).one=true:=by cases els <;> rfl
theorem aNz (k s n:Nat):(D.osl k s n).cells=some [.osl k s n]:=rfl
theorem aNv (k s l n:Nat):(D.sub k s l n).cells=some [.sub k s l n]:=rfl
theorem aN0 (k:IntKind) (n:Int):(D.int k n).cells=some [.int k n]:=rfl
theorem aRj (b:Bool):(D.bool b).cells=some [.bool b]:=rfl
theorem aNw (s:ByteArray):(D.str s).cells=some [.str s]:=rfl
theorem aJu (sz:Nat) (els:List (List D)):(D.sl sz els).cells=some [.sl sz els]:=rfl
theorem aRe : D.nils.cells=some [.nils]:=rfl
theorem aN1 : D.emp.cells=some [.emp]:=rfl
theorem aN2 (cs:List D):(D.agg cs).cells=some cs:=rfl
theorem aJv (f:FuncId) (cs:List D):(D.fn f cs).cells=some [.fn f cs]:=rfl
theorem aNx (a b c d:Nat):(D.ref a b c d).cells=some [.ref a b c d]:=rfl
theorem aNy (cs:List D):(D.ptr cs).cells=some [.ptr cs]:=rfl
theorem aRi (k:Nat):(D.mref k).cells=some [.mref k]:=rfl
theorem aRf : D.nilp.cells=some [.nilp]:=rfl
theorem aRg : D.nilm.cells=some [.nilm]:=rfl
theorem aRh : D.nilf.cells=some [.nilf]:=rfl
theorem aGu (k:IntKind) (n:Int):(D.int k n).one=true:=rfl
theorem aKj (b:Bool):(D.bool b).one=true:=rfl
theorem aGo (s:ByteArray):(D.str s).one=true:=rfl
theorem aCd (sz:Nat) (els:List (List D)):(D.sl sz els).one=true:=rfl
theorem aKe : D.nils.one=true:=rfl
theorem aGw : D.emp.one=true:=rfl
theorem aCe (f:FuncId) (cs:List D):(D.fn f cs).one=true:=rfl
theorem aGq (a b c d:Nat):(D.ref a b c d).one=true:=rfl
theorem aGs (a b c:Nat):(D.osl a b c).one=true:=rfl
theorem aGr (cs:List D):(D.ptr cs).one=true:=rfl
theorem aKi (k:Nat):(D.mref k).one=true:=rfl
theorem aKf : D.nilp.one=true:=rfl
theorem aKg : D.nilm.one=true:=rfl
theorem aKh : D.nilf.one=true:=rfl
section
variable [tM]
theorem aN7 {q:Bool} {σ:St} {sz bytes key:Nat} {els:List (List D)} {rw:List (List D)} {K:D->St->Prop} (h:σ.get key=wK sz els) (h0:rw ≠ []) :
  aTj q σ sz bytes (xG key sz els) (some rw) K=((∀ r ∈ rw,zA r=true)/\ (els.length+rw.length)* bytes<=140737488355328/\els.length+rw.length<=1000000000000 /\
   K (xG σ.nx sz (els++rw)) ⟨σ.nx+1,xE σ.nx sz (els++rw)++ yQ σ.objs key⟩):=by
 cases els with
 | nil=>
  obtain⟨r,rs,rfl⟩:∃ r rs,rw=r :: rs:=by cases rw with | nil=>exact absurd rfl h0 | cons r rs=>exact⟨r,rs,rfl⟩
  have he:yQ σ.objs key=σ.objs:=eN h;simp only [aTj,xG,xE,St.new,he,List.nil_append,List.length_nil,Nat.zero_add];simp
 | cons e l=>
  have e1:l.length+1+rw.length=l.length+rw.length+1:=by omega
  simp only [aTj,xG,h,wK,St.erase,St.new,xE];simp [xG,xE,e1]
theorem aRn {q:Bool} {nx:Nat} {objs:List (Nat × Ob)} {sz bytes key:Nat} {els:List (List D)} {r:List D} {rs:List (List D)} {K:D->St->Prop} (h:St.look objs key=wK sz els) :
  aTj q ⟨nx,objs⟩ sz bytes (xG key sz els) (some (r :: rs)) K=((∀ x ∈ r :: rs,zA x=true)/\ (els.length+(r :: rs).length)* bytes<=140737488355328/\els.length+(r :: rs).length<=1000000000000 /\
   K (xG nx sz (els++r :: rs)) ⟨nx+1,xE nx sz (els++r :: rs)++ yQ objs key⟩):=aN7 h (by simp)
theorem aJ4 {q:Bool} {σ:St} {sz bytes:Nat} {r:List D} {rs:List (List D)} {K:D->St->Prop} :
  aTj q σ sz bytes .nils (some (r :: rs)) K=((∀ x ∈ r :: rs,zA x=true)/\ (r :: rs).length*bytes<=140737488355328/\(r :: rs).length<=1000000000000/\K (.osl σ.nx sz (r :: rs).length) (σ.new ⟨sz,r :: rs⟩)):=by
 simp [aTj]
theorem aJ3 {q:Bool} {σ:St} {sz sz' bytes key n:Nat} {rows:List (List D)} {K:D->St->Prop} :
  aTj q σ sz bytes (.osl key sz' n) (some rows) K=((∀ x ∈ rows,zA x=true)/\ match σ.get key with
   | some ob=>sz=sz'/\ob.sz=sz/\n<=ob.els.length/\(n+rows.length)* bytes<=140737488355328/\n+rows.length<=1000000000000/\K (.osl σ.nx sz (n+rows.length)) ((σ.erase key).new ⟨sz,ob.els.take n++rows⟩)
   | none=>False):=rfl
def aI8 (nx:Nat) (objs:List (Nat × Ob)) (n key sz i off:Nat) (ds:List D) (K:D->St->Prop):Option Ob->Prop
 | some ob=>ob.sz=sz/\i<ob.els.length/\ds.length=n/\off+n<=sz/\zA ds=true/\K .und ⟨nx,wF objs key ⟨sz,ob.els.set i (fZ (ob.els.getD i []) off ds)⟩⟩
 | none=>False
@[congr] theorem aE1 {nx : Nat} {objs : List (Nat × Ob)} {n key sz i off : Nat} {ds : List D} {K : D -> St -> Prop} {o o' : Option Ob} (h : o = o') : aI8 nx objs n key sz i off ds K o = aI8 nx objs n key sz i off ds K o' := by rw [h]
theorem aLh {nx:Nat} {objs:List (Nat × Ob)} {n key sz i off:Nat} {ds:List D} {K:D->St->Prop}:aE8 ⟨nx,objs⟩ n (.ref key sz i off) (some ds) K=aI8 nx objs n key sz i off ds K (St.look objs key):=by
 simp only [aE8,St.get];cases St.look objs key <;> rfl
theorem aP1 {nx:Nat} {objs:List (Nat × Ob)} {n key sz i off:Nat} {ds:List D} {K:D->St->Prop} {sz':Nat} {els:List (List D)} :
  aI8 nx objs n key sz i off ds K (some ⟨sz',els⟩)= (sz'=sz/\i<els.length/\ds.length=n/\off+n<=sz/\zA ds=true/\K .und ⟨nx,wF objs key ⟨sz,els.set i (fZ (els.getD i []) off ds)⟩⟩):=rfl
theorem aP2 {nx:Nat} {objs:List (Nat × Ob)} {n key sz i off:Nat} {ds:List D} {K:D->St->Prop} {els:List (List D)} :
  aI8 nx objs n key sz i off ds K (wK sz els)= (i<els.length/\ds.length=n/\off+n<=sz/\zA ds=true/\K .und ⟨nx,wF objs key ⟨sz,els.set i (fZ (els.getD i []) off ds)⟩⟩):=by
 cases els with
 | nil=>simp [aI8,wK]
 | cons e l=>simp [aI8,wK]
def aY6 (n:Nat) (ag:Bool) (sz i off:Nat) (K:D->Prop):Option Ob->Prop
 | some o=>o.sz=sz/\i<o.els.length/\off+n<=sz/\(ag=true\/n=1)/\ K (sI ag (((o.els.getD i []).drop off).take n))
 | none=>False
@[congr] theorem aEh {n sz i off : Nat} {ag : Bool} {K : D -> Prop} {o o' : Option Ob} (h : o = o') : aY6 n ag sz i off K o = aY6 n ag sz i off K o' := by rw [h]
theorem aO6 {nx:Nat} {objs:List (Nat × Ob)} {n key sz i off:Nat} {ag:Bool} {K:D->Prop}:aTu ⟨nx,objs⟩ n ag (.ref key sz i off) K=aY6 n ag sz i off K (St.look objs key):=by
 simp only [aTu,St.get];cases St.look objs key <;> rfl
theorem aSr {n sz i off:Nat} {ag:Bool} {K:D->Prop} {sz':Nat} {els:List (List D)}:aY6 n ag sz i off K (some ⟨sz',els⟩)= (sz'=sz/\i<els.length/\off+n<=sz/\(ag=true\/n=1)/\ K (sI ag (((els.getD i []).drop off).take n))):=rfl
theorem aSs {n sz i off:Nat} {ag:Bool} {K:D->Prop} {els:List (List D)}:aY6 n ag sz i off K (wK sz els)= (i<els.length/\off+n<=sz/\(ag=true\/n=1)/\ K (sI ag (((els.getD i []).drop off).take n))):=by
 cases els with
 | nil=>simp [aY6,wK]
 | cons e l=>simp [aY6,wK]
theorem aO7 {σ:St} {n:Nat} {ag:Bool} {cs:List D} {K:D->Prop}:aTu σ n ag (.ptr cs) K=(n<=cs.length/\(ag=true\/n=1)/\ K (sI ag (cs.take n))):=rfl
def aYw (kk:IntKind) (l:List (Int × D)):List (List D):=l.map fun p=>[.int kk p.1,p.2]
def sX (x:Int):List (Int × D)->Nat->Option (Nat × D)
 | [],_=>none
 | (m,d) :: r,i=>if x=m then some (i,d) else sX x r (i+1)
def aDd (l:List (Int × D)) (x:Int) (d:D):List (Int × D):=
 match sX x l 0 with
 | some (i,_)=>l.set i (x,d)
 | none=>l ++ [(x,d)]
theorem eU (kk:IntKind) (l:List (Int × D)):kZ kk (aYw kk l):=by
 intro row h;simp only [aYw,List.mem_map] at h;obtain⟨p,_,rfl⟩:=h;exact⟨_,_,rfl⟩
theorem lW (kk:IntKind) (x:Int):∀ (l:List (Int × D)) (i:Nat),rH x (aYw kk l) i=sX x l i
 | [],_=>rfl
 | (m,d) :: r,i=>by
  show rH x ([.int kk m,d] :: aYw kk r) i=_;rw [rH,sX,lW kk x r (i+1)]
theorem aSm (kk:IntKind) (l:List (Int × D)) (x:Int) (d:D):aY5 kk (aYw kk l) x d=aYw kk (aDd l x d):=by
 unfold aY5 aDd;rw [lW]
 cases sX x l 0 with
 | none=>simp [aYw]
 | some p=>simp [aYw,List.map_set]
theorem kE : ∀ {a b:List Int},a.map (D.int .i64)= b.map (D.int .i64)->a=b
 | [],[],_=>rfl
 | [],_ :: _,h=>by simp at h
 | _ :: _,[],h=>by simp at h
 | x :: a,y :: b,h=>by
  simp only [List.map_cons,List.cons.injEq,D.int.injEq,true_and] at h;rw [h.1,kE h.2]
theorem cC : ∀ {a b:List (List Int × D)},rJ a=rJ b->a=b
 | [],[],_=>rfl
 | [],_ :: _,h=>by simp [rJ] at h
 | _ :: _,[],h=>by simp [rJ] at h
 | (x,d) :: a,(y,e) :: b,h=>by
  simp only [rJ,List.map_cons,List.cons.injEq,D.agg.injEq,and_true] at h;obtain⟨⟨h1,h2⟩,h3⟩:=h;rw [kE h1,h2,cC (a:=a) (b:=b) h3]
theorem iS {nx:Nat} {objs:List (Nat × Ob)} {n:Nat} {zero:D} {ok:Bool} {key:Nat} {x:List Int} {l:List (List Int × D)} {cs:List D} {K:D->Prop} (hg:St.look objs key=some ⟨0,rJ l⟩) (hc:cs=x.map (D.int .i64)) (hx:x.length=n) (hl:∀ p ∈ l,p.1.length=n) :
  lJ ⟨nx,objs⟩ n zero ok (.mref key) (.agg cs) K=K (jY ok zero (rA x l 0)):=by
 subst hc;simp only [lJ,St.get,hg];refine propext ⟨fun h=>?_,fun h=>⟨trivial,x,l,⟨rfl,rfl,hx,hl⟩,h⟩⟩;obtain⟨_,x',l',⟨h1,h2,_,_⟩,h3⟩:=h;rw [kE h1,cC h2]; exact h3
theorem aSk {nx:Nat} {objs:List (Nat × Ob)} {n:Nat} {key:Nat} {y:List Int} {l:List (List Int × D)} {cs:List D} {x:D} {K:D->St->Prop} (hg:St.look objs key=some ⟨0,rJ l⟩) (hc:cs=y.map (D.int .i64)) (hx:y.length=n) (hl:∀ p ∈ l,p.1.length=n) :
  oE ⟨nx,objs⟩ n (.mref key) (.agg cs) x K=K .und ⟨nx,wF objs key ⟨0,rJ (dW y x l)⟩⟩:=by
 subst hc;simp only [oE,St.get,hg,St.set];refine propext ⟨fun h=>?_,fun h=>⟨trivial,y,l,⟨rfl,rfl,hx,hl⟩,h⟩⟩;obtain⟨_,x',l',⟨h1,h2,_,_⟩,h3⟩:=h;rw [kE h1,cC h2]; exact h3
theorem iU {nx:Nat} {objs:List (Nat × Ob)} {n:Nat} {key:Nat} {y:List Int} {l:List (List Int × D)} {cs:List D} {x:D} {K:D->St->Prop} (hg:St.look objs key=some ⟨0,rJ l⟩) (hc:cs=y.map (D.int .i64)) (hx:y.length=n) (hl:∀ p ∈ l,p.1.length=n) (hno:rA y l 0=none) :
  oE ⟨nx,objs⟩ n (.mref key) (.agg cs) x K=K .und ⟨nx,wF objs key ⟨0,rJ (l ++ [(y,x)])⟩⟩:=by
 rw [aSk hg hc hx hl,show dW y x l=l ++ [(y,x)] by unfold dW; rw [hno]]
def aTt (kk:IntKind) (x:Int) (zero:D) (ok:Bool) (K:D->Prop):Option Ob->Prop
 | some o=>o.sz=0/\kZ kk o.els/\K (jY ok zero (rH x o.els 0))
 | none=>False
@[congr] theorem aEe {kk : IntKind} {x : Int} {zero : D} {ok : Bool} {K : D -> Prop} {o o' : Option Ob} (h : o = o') : aTt kk x zero ok K o = aTt kk x zero ok K o' := by rw [h]
theorem aSq {nx:Nat} {objs:List (Nat × Ob)} {zero:D} {ok:Bool} {key:Nat} {kk:IntKind} {x:Int} {K:D->Prop}:aTs ⟨nx,objs⟩ zero ok (.mref key) (.int kk x) K=aTt kk x zero ok K (St.look objs key):=by
 simp only [aTs,St.get];cases St.look objs key <;> rfl
theorem aSp {σ:St} {zero:D} {ok:Bool} {kk:IntKind} {x:Int} {K:D->Prop}:aTs σ zero ok .nilm (.int kk x) K=K (jY ok zero none):=rfl
theorem eX {kk:IntKind} {x:Int} {zero:D} {ok:Bool} {K:D->Prop} {l:List (Int × D)}:aTt kk x zero ok K (some ⟨0,aYw kk l⟩)= K (jY ok zero (sX x l 0)):=by
 simp only [aTt,lW];exact propext ⟨fun h=>h.2.2,fun h=>⟨trivial,eU kk l,h⟩⟩
theorem aO5 {kk:IntKind} {x:Int} {zero:D} {ok:Bool} {K:D->Prop}:aTt kk x zero ok K (some ⟨0,[]⟩)= K (jY ok zero none):=eX (l:=[])
def aTp (nx:Nat) (objs:List (Nat × Ob)) (key:Nat) (kk:IntKind) (y:Int) (x:D) (K:D->St->Prop):Option Ob->Prop
 | some o=>o.sz=0/\kZ kk o.els/\K .und ⟨nx,wF objs key ⟨0,aY5 kk o.els y x⟩⟩
 | none=>False
@[congr] theorem aEc {nx : Nat} {objs : List (Nat × Ob)} {key : Nat} {kk : IntKind} {y : Int} {x : D} {K : D -> St -> Prop} {o o' : Option Ob} (h : o = o') : aTp nx objs key kk y x K o = aTp nx objs key kk y x K o' := by rw [h]
theorem aSl {nx:Nat} {objs:List (Nat × Ob)} {key:Nat} {kk:IntKind} {y:Int} {x:D} {K:D->St->Prop}:aR3 ⟨nx,objs⟩ (.mref key) (.int kk y) x K=aTp nx objs key kk y x K (St.look objs key):=by
 simp only [aR3,St.get];cases St.look objs key <;> rfl
theorem fC {nx:Nat} {objs:List (Nat × Ob)} {key:Nat} {kk:IntKind} {y:Int} {x:D} {K:D->St->Prop} {l:List (Int × D)}:aTp nx objs key kk y x K (some ⟨0,aYw kk l⟩)= K .und ⟨nx,wF objs key ⟨0,aYw kk (aDd l y x)⟩⟩:=by
 simp only [aTp,aSm];exact propext ⟨fun h=>h.2.2,fun h=>⟨trivial,eU kk l,h⟩⟩
theorem aO1 {nx:Nat} {objs:List (Nat × Ob)} {key:Nat} {kk:IntKind} {y:Int} {x:D} {K:D->St->Prop}:aTp nx objs key kk y x K (some ⟨0,[]⟩)= K .und ⟨nx,wF objs key ⟨0,aYw kk [(y,x)]⟩⟩:=fC (l:=[])
theorem aO0 (zero:D):jY true zero none = .tup [zero,.bool false]:=rfl
theorem aOz (zero:D) (i:Nat) (d:D):jY true zero (some (i,d))= .tup [d,.bool true]:=rfl
theorem aSj (zero:D):jY false zero none=zero:=rfl
theorem aSi (zero:D) (i:Nat) (d:D):jY false zero (some (i,d))= d:=rfl
theorem aFa {sz:Nat} {els:List (List D)} {K:D->Prop}:aMc (.sl sz els) K=K (.int .i64 els.length):=rfl
theorem aK8 {k sz n:Nat} {K:D->Prop}:aMc (.osl k sz n) K=K (.int .i64 n):=rfl
theorem aK7 {k sz lo n:Nat} {K:D->Prop}:aMc (.sub k sz lo n) K=K (.int .i64 n):=rfl
theorem aJd {sz key sz' lo len:Nat} {k:IntKind} {n:Int} {K:D->Prop}:aMi sz (.sub key sz' lo len) (.int k n) K=(sz=sz'/\0<=n/\n<len/\K (.ref key sz (lo+n.toNat) 0)):=rfl
theorem aO9 {K:D->Prop}:aMc .nils K=K (.int .i64 0):=rfl
theorem aK9 {K:D->Prop}:aMc .emp K=K (.int .i64 0):=rfl
theorem aFh {sz sz':Nat} {els:List (List D)} {k:IntKind} {n:Int} {K:D->Prop}:aMi sz (.sl sz' els) (.int k n) K=(sz=sz'/\0<=n/\n<els.length/\K (.ptr (els.getD n.toNat []))):=rfl
theorem aJe {sz key sz' len:Nat} {k:IntKind} {n:Int} {K:D->Prop}:aMi sz (.osl key sz' len) (.int k n) K=(sz=sz'/\0<=n/\n<len/\K (.ref key sz n.toNat 0)):=rfl
theorem aKs {neg:Bool} {K:D->Prop}:rE neg .nils .nils K=K (.bool (!neg)):=rfl
theorem aKr {neg:Bool} {K:D->Prop} {a b c:Nat}:rE neg (.osl a b c) .nils K=K (.bool neg):=rfl
theorem aKq {neg:Bool} {K:D->Prop} {a b c:Nat}:rE neg .nils (.osl a b c) K=K (.bool neg):=rfl
theorem aKp {neg:Bool} {K:D->Prop}:rE neg .emp .nils K=K (.bool neg):=rfl
theorem aKo {neg:Bool} {K:D->Prop}:rE neg .nils .emp K=K (.bool neg):=rfl
theorem aKn {neg:Bool} {K:D->Prop} {sz:Nat} {e:List D} {r:List (List D)}:rE neg (.sl sz (e :: r)) .nils K=K (.bool neg):=rfl
def aBo (nx:Nat) (objs:List (Nat × Ob)) (sz sz' bytes key n:Nat) (rows:List (List D)) (K:D->St->Prop):Option Ob->Prop
 | some ob=>sz=sz'/\ob.sz=sz/\n<=ob.els.length/\(n+rows.length)* bytes<=140737488355328/\n+rows.length<=1000000000000/\K (.osl nx sz (n+rows.length)) ⟨nx+1,(nx,⟨sz,ob.els.take n++rows⟩) :: yQ objs key⟩
 | none=>False
@[congr] theorem aE6 {nx : Nat} {objs : List (Nat × Ob)} {sz sz' bytes key n : Nat} {rows : List (List D)} {K : D -> St -> Prop} {o o' : Option Ob} (h : o = o') : aBo nx objs sz sz' bytes key n rows K o = aBo nx objs sz sz' bytes key n rows K o' := by rw [h]
theorem aN6 {q:Bool} {nx:Nat} {objs:List (Nat × Ob)} {sz sz' bytes key n:Nat} {rows:List (List D)} {K:D->St->Prop} :
  aTj q ⟨nx,objs⟩ sz bytes (.osl key sz' n) (some rows) K=((∀ x ∈ rows,zA x=true)/\ aBo nx objs sz sz' bytes key n rows K (St.look objs key)):=by
 rw [aJ3];simp only [St.get];cases St.look objs key <;> rfl
theorem aN8 {nx:Nat} {objs:List (Nat × Ob)} {sz sz' bytes key n:Nat} {rows:List (List D)} {K:D->St->Prop} {sz0:Nat} {els:List (List D)} :
  aBo nx objs sz sz' bytes key n rows K (some ⟨sz0,els⟩)= (sz=sz'/\sz0=sz/\n<=els.length/\(n+rows.length)* bytes<=140737488355328/\n+rows.length<=1000000000000/\K (.osl nx sz (n+rows.length)) ⟨nx+1,(nx,⟨sz,els.take n++rows⟩) :: yQ objs key⟩):=rfl
def aMt (q:Bool) (nx:Nat) (objs:List (Nat × Ob)) (sz sz' bytes key lo n:Nat) (rows:List (List D)) (K:D->St->Prop):Option Ob->Prop
 | some ob=>q=true/\sz=sz'/\ob.sz=sz/\lo+n<=ob.els.length/\(n+rows.length)* bytes<=140737488355328/\n+rows.length<=1000000000000 /\
  ∀ pre:List (List D),(pre = []\/pre=ob.els.take lo)->K (.sub nx sz pre.length (n+rows.length)) ⟨nx+1,(nx,⟨sz,pre++((ob.els.drop lo).take n++rows)⟩) :: yQ objs key⟩
 | none=>False
@[congr] theorem aEl {q : Bool} {nx : Nat} {objs : List (Nat × Ob)} {sz sz' bytes key lo n : Nat} {rows : List (List D)} {K : D -> St -> Prop} {o o' : Option Ob} (h : o = o') : aMt q nx objs sz sz' bytes key lo n rows K o = aMt q nx objs sz sz' bytes key lo n rows K o' := by rw [h]
theorem aN5 {q:Bool} {nx:Nat} {objs:List (Nat × Ob)} {sz sz' bytes key lo n:Nat} {rows:List (List D)} {K:D->St->Prop} :
  aTj q ⟨nx,objs⟩ sz bytes (.sub key sz' lo n) (some rows) K=((∀ x ∈ rows,zA x=true)/\ aMt q nx objs sz sz' bytes key lo n rows K (St.look objs key)):=by
 simp only [aTj,St.get];cases St.look objs key <;> rfl
theorem aRo {q:Bool} {nx:Nat} {objs:List (Nat × Ob)} {sz sz' bytes key lo n:Nat} {rows:List (List D)} {K:D->St->Prop} {sz0:Nat} {els:List (List D)} :
  aMt q nx objs sz sz' bytes key lo n rows K (some ⟨sz0,els⟩)= (q=true/\sz=sz'/\sz0=sz/\lo+n<=els.length/\(n+rows.length)* bytes<=140737488355328/\n+rows.length<=1000000000000 /\
   ∀ pre:List (List D),(pre = []\/pre=els.take lo)->K (.sub nx sz pre.length (n+rows.length)) ⟨nx+1,(nx,⟨sz,pre++((els.drop lo).take n++rows)⟩) :: yQ objs key⟩):=rfl
theorem aNa {key sz:Nat} {els:List (List D)} {K:D->Prop}:aMc (xG key sz els) K=K (.int .i64 els.length):=by
 cases els <;> simp [aMc,xG]
theorem aNf {key sz sz':Nat} {els:List (List D)} {k:IntKind} {n:Int} {K:D->Prop}:aMi sz' (xG key sz els) (.int k n) K=(sz'=sz/\0<=n/\n<els.length/\K (.ref key sz n.toNat 0)):=by
 cases els with
 | nil=>simp only [aMi,xG,List.length_nil]; simp; intro _ h1 h2; omega
 | cons e l=>simp [aMi,xG]; rintro rfl _ _; rfl
theorem aWb {key sz:Nat} {neg:Bool} {els:List (List D)} {K:D->Prop}:rE neg (xG key sz els) .nils K=K (.bool (if neg then !els.isEmpty else els.isEmpty)):=by
 cases els <;> cases neg <;> simp [rE,xG]
def sw : List (Nat × Nat)->Nat->Nat
 | [],k=>k
 | (a,b) :: r,k=>if k=a then b else sw r k
def uK (els:List (List D)):Prop:=∀ e ∈ els,D.isPureL e=true
theorem yK (l:List (BitVec 64)):uK (us l)= True:=eq_true (sY l)
theorem tH (l:List (List (BitVec 64))):uK (rr l)= True:=eq_true (aZi l)
theorem aSe (k:IntKind) (l:List Int):uK (rows k l)= True:=eq_true (uW k l)
theorem aOn : uK []=True:=by simp [uK]
theorem aYo (a b:List (List D)):uK (a++b)= (uK a/\uK b):=by
 simp only [uK,List.mem_append];exact propext ⟨fun h=>⟨fun e he=>h e (.inl he),fun e he=>h e (.inr he)⟩,fun h e he=>he.elim (h.1 e) (h.2 e)⟩
theorem aOl (l:List (BitVec 64)) (i:Nat) (s:BitVec 64):uK ((us l).set i [.int .u64 (ui s)])= True:=by rw [oF,yK]
theorem aHv {σ σ':St} {ρ:Nat->Nat} {a b sz:Nat} {els:List (List D)}:vw σ σ' ρ (xG a sz els) (xG b sz els)= (els = []\/(b<σ'.nx/\a=ρ b)):=by
 cases els with
 | nil=>simp [xG,vw]
 | cons e l=>simp [xG,vw]
def aA9 (σ':St) (ρ:Nat->Nat) (k0:Nat):Prop:=∀ p ∈ σ'.objs,ρ p.1≠k0
theorem aTy {σ σ':St} {ρ:Nat->Nat} {k0 sz:Nat} {els:List (List D)} (hs:0<sz) (h:aA9 σ' ρ k0) (hg:σ.get k0=wK sz els) (hp:uK els):vw σ σ' ρ (xG k0 sz els) (.sl sz els)= True:=by
 cases els with
 | nil=>simp [xG,vw]
 | cons e l=>
  refine eq_true ?_;simp only [xG,vw];exact⟨trivial,hs,h,⟨sz,e :: l⟩,hg,rfl,Nat.le_refl _,by simp,hp⟩
def vwQ (σ σ':St) (ρ:Nat->Nat) (as bs:List (List D)):Prop:=vwE σ σ' ρ as bs
theorem aM8 {σ σ':St} {ρ:Nat->Nat} {els:List (List D)} (h:uK els):vwQ σ σ' ρ els els=True:=eq_true (.same h)
end
section
variable [tM]
theorem aVd {σ σ':St} {ρ:Nat->Nat}:∀ {a:List D},D.isPureL a=true->vwL σ σ' ρ a a:=by
 intro a h
 have key:∀ d:D,d.isPure=true->vw σ σ' ρ d d:=by
  intro d
  refine D.rec (motive_1:=fun d=>d.isPure=true->vw σ σ' ρ d d) (motive_2:=fun _=>True) (motive_3:=fun cs=>D.isPureL cs=true->vwL σ σ' ρ cs cs)
   ?top ?und ?int ?bool ?str ?sl ?nils ?emp ?agg ?tup ?fn ?ref ?osl ?sub ?ptr ?mref ?nilp ?nilm ?nilf ?adr trivial (fun _ _ _ _=>trivial) ?nil ?cons d
  case agg=>intro cs ih h; simp only [D.isPure] at h; simp only [vw]; exact⟨trivial,ih h⟩
  case tup=>intro cs ih h; simp only [D.isPure] at h; simp only [vw]; exact⟨trivial,ih h⟩
  case fn=>intro f cs ih h; simp only [D.isPure] at h; simp only [vw]; exact⟨trivial,trivial,ih h⟩
  case ref=>intro k sz i off h; simp [D.isPure] at h
  case osl=>intro k sz n h; simp [D.isPure] at h
  case sub=>intro k sz lo n h; simp [D.isPure] at h
  case mref=>intro k h; simp [D.isPure] at h
  case nil=>intro _; simp [vwL]
  case cons=>
   intro d r h1 h2 h;simp only [D.isPureL,Bool.and_eq_true] at h;simp only [vwL];exact⟨h1 h.1,h2 h.2⟩
  case ptr=>intro cs _ _; simp [vw]
  all_goals intros; simp [vw]
 induction a with
 | nil=>simp [vwL]
 | cons d r ih=>
  simp only [D.isPureL,Bool.and_eq_true] at h;simp only [vwL];exact⟨key d h.1,ih h.2⟩
theorem aVe {σ σ':St} {ρ:Nat->Nat}:∀ {els:List (List D)} {a b:List D},uK els->a.length=b.length->vwL σ σ' ρ a b->vwE σ σ' ρ (els ++ [a]) (els ++ [b])
 | [],a,b,_,hl,h=>.cons hl h .nil
 | e :: r,a,b,hp,hl,h=>.cons rfl (aVd (hp e (by simp))) (aVe (fun x hx=>hp x (by simp [hx])) hl h)
theorem aDv {σ σ':St} {ρ:Nat->Nat} {els:List (List D)} {a b:List D} (h:vwQ σ σ' ρ (els ++ [a]) (els ++ [b])):a.length=b.length/\vwL σ σ' ρ a b:=by
 have:=(dU (show vwE σ σ' ρ (els ++ [a]) (els ++ [b]) from h)).2 els.length (by simp);have e1:∀ x:List D,(els ++ [x]).getD els.length []=x:=by intro x; simp [List.getD]
 rw [e1,e1] at this;refine⟨this.1,?_⟩
 rcases this.2 with h | ⟨h1,h2⟩
 ·exact h
 ·rw [h1]; exact aVd h2
theorem dD {σ σ':St} {ρ:Nat->Nat} {els:List (List D)} {a b:List D} (hp:uK els):vwQ σ σ' ρ (els ++ [a]) (els ++ [b])= (a.length=b.length/\vwL σ σ' ρ a b):=
 propext ⟨fun h=>aDv h,fun h=>aVe hp h.1 h.2⟩
theorem aHw {σ σ':St} {ρ:Nat->Nat} {a b:List D}:vwQ σ σ' ρ [a] [b]=(a.length=b.length/\vwL σ σ' ρ a b):=dD (els:=[]) (by simp [uK])
theorem aDu {σ σ':St} {ρ:Nat->Nat} {l:List (List (BitVec 64))} {r:List (BitVec 64)} {x:D}:vwQ σ σ' ρ (rr l ++ [[x]]) (rr (l ++ [r]))= vwL σ σ' ρ [x] [.sl 1 (us r)]:=by
 rw [<- aZh,dD (aZi l)];simp
def yO (σ σ':St) (ρ:Nat->Nat) (p:Nat × Ob):Prop:=p.1<σ'.nx/\∃ ob,σ.get (ρ p.1)= some ob/\ob.sz=p.2.sz/\vwQ σ σ' ρ ob.els p.2.els
def mN (σ σ':St) (ρ:Nat->Nat) (l:List (Nat × Ob)):Prop:=∀ p ∈ l,yO σ σ' ρ p
theorem jJ {σ σ':St} {ρ:Nat->Nat}:mN σ σ' ρ []=True:=by simp [mN]
theorem lY {σ σ':St} {ρ:Nat->Nat} {p:Nat × Ob} {l:List (Nat × Ob)}:mN σ σ' ρ (p :: l)= (yO σ σ' ρ p/\mN σ σ' ρ l):=by simp [mN]
theorem fK {σ σ':St} {ρ:Nat->Nat} {k sz:Nat} {els:List (List D)} {l:List (Nat × Ob)} (hk:k<σ'.nx) (hg:σ.get (ρ k)= wK sz els) (hp:uK els):mN σ σ' ρ (xE k sz els++l)= mN σ σ' ρ l:=by
 cases els with
 | nil=>rfl
 | cons e r=>
  simp only [xE,List.cons_append,List.nil_append,lY];refine propext ⟨fun h=>h.2,fun h=>⟨⟨hk,⟨sz,e :: r⟩,hg,rfl,.same hp⟩,h⟩⟩
theorem aZ4 {σ σ':St} {ρ:Nat->Nat} {k sz:Nat} {els:List (List D)} (hk:k<σ'.nx) (hg:σ.get (ρ k)= wK sz els) (hp:uK els):mN σ σ' ρ (xE k sz els)= True:=by
 have:=fK (l:=[]) hk hg hp;rw [List.append_nil,jJ] at this;exact this
theorem aJg {sz:Nat} {els:List (List D)} (h:els ≠ []):wK sz els=some ⟨sz,els⟩:=by
 cases els with
 | nil=>exact absurd rfl h
 | cons e r=>rfl
theorem iC {σ σ':St} {ρ:Nat->Nat} {k sz:Nat} {els els':List (List D)} {l:List (Nat × Ob)} (hk:k<σ'.nx) (hg:σ.get (ρ k)= wK sz els') (hq:vwQ σ σ' ρ els' els):mN σ σ' ρ (xE k sz els++l)= mN σ σ' ρ l:=by
 cases els with
 | nil=>rfl
 | cons e r=>
  have hne:els' ≠ []:=by
   rintro rfl;have:=(dU (show vwE σ σ' ρ [] (e :: r) from hq)).1;simp at this
  simp only [xE,List.cons_append,List.nil_append,lY];refine propext ⟨fun h=>h.2,fun h=>⟨⟨hk,⟨sz,els'⟩,?_,rfl,hq⟩,h⟩⟩;rw [hg,aJg hne]
theorem aYg {σ σ':St} {ρ:Nat->Nat} {k sz:Nat} {els els':List (List D)} (hk:k<σ'.nx) (hg:σ.get (ρ k)= wK sz els') (hq:vwQ σ σ' ρ els' els):mN σ σ' ρ (xE k sz els)= True:=by
 have:=iC (l:=[]) hk hg hq;rw [List.append_nil,jJ] at this;exact this
def inL (ks:List Nat) (l:List (Nat × Ob)):Prop:=∀ p ∈ l,p.1 ∈ ks
theorem aQ4 {ks:List Nat}:inL ks []=True:=by simp [inL]
theorem aUk {ks:List Nat} {p:Nat × Ob} {l:List (Nat × Ob)}:inL ks (p :: l)= (p.1 ∈ ks/\inL ks l):=by simp [inL]
theorem aUj {ks:List Nat} {k sz:Nat} {els:List (List D)} {l:List (Nat × Ob)} (h:k ∈ ks):inL ks (xE k sz els++l)= inL ks l:=by
 cases els with
 | nil=>rfl
 | cons e r=>simp [xE,aUk,h]
theorem aNe {ks:List Nat} {k sz:Nat} {els:List (List D)} (h:k ∈ ks):inL ks (xE k sz els)= True:=by
 have:=aUj (sz:=sz) (els:=els) (l:=[]) h;rw [List.append_nil,aQ4] at this;exact this
def dZ (ρ:Nat->Nat) (k0:Nat) (l:List (Nat × Ob)):Prop:=∀ p ∈ l,ρ p.1≠k0
theorem aF5 {σ':St} {ρ:Nat->Nat} {k0:Nat}:aA9 σ' ρ k0=dZ ρ k0 σ'.objs:=propext Iff.rfl
theorem aX4 {ρ:Nat->Nat} {k0:Nat}:dZ ρ k0 []=True:=by simp [dZ]
theorem eG {ρ:Nat->Nat} {k0:Nat} {p:Nat × Ob} {l:List (Nat × Ob)}:dZ ρ k0 (p :: l)= (ρ p.1≠k0/\dZ ρ k0 l):=by simp [dZ]
theorem eH {ρ:Nat->Nat} {k0 k sz:Nat} {els:List (List D)} {l:List (Nat × Ob)}:dZ ρ k0 (xE k sz els++l)= ((els = []\/ρ k≠k0)/\ dZ ρ k0 l):=by
 cases els with
 | nil=>simp [xE]
 | cons e r=>simp [xE,eG]
theorem aWu {ρ:Nat->Nat} {k0 k sz:Nat} {els:List (List D)}:dZ ρ k0 (xE k sz els)= (els = []\/ρ k≠k0):=by
 have:=eH (ρ:=ρ) (k0:=k0) (k:=k) (sz:=sz) (els:=els) (l:=[]);rw [List.append_nil,aX4,and_true] at this;exact this
theorem xM.ren {C:Cx} {f f':Fr} {σ σ':St} (l:List (Nat × Nat)) (ks:List Nat) (hn:C.n0<=σ'.nx) (h0:∀ p ∈ l,C.n0<=p.1) (hd:(ks.map (sw l)).Nodup)
  (h:inL ks σ'.objs/\mN σ σ' (sw l) σ'.objs/\vwF σ σ' (sw l) f f'):xM C f σ f' σ':=by
 obtain⟨hk,hs,hf⟩:=h
 refine xM.view (sw l) hn ?_ hf ?_ ?_
 ·intro k hk
  induction l with
  | nil=>rfl
  | cons p l ih=>
   obtain⟨a,b⟩:=p;have:C.n0<=a:=h0 (a,b) (by simp);simp only [sw];rw [if_neg (by omega)];have hm:∀ p ∈ l,C.n0<=p.1:=fun p hp=>h0 p (by simp [hp]);clear ih hd hs hf h0
   induction l with
   | nil=>rfl
   | cons q l ih=>
    obtain⟨c,d⟩:=q;have:C.n0<=c:=hm (c,d) (by simp);simp only [sw];rw [if_neg (by omega)];exact ih fun p hp=>hm p (by simp [hp])
 ·intro p hp;obtain⟨h1,ob,h2,h3,h4⟩:=hs p hp;exact⟨h1,ob,h2,h3,h4⟩
 ·intro p hp q hq e;have h1:=hk p hp;have h2:=hk q hq
  have inj:∀ (ks:List Nat),(ks.map (sw l)).Nodup->∀ a ∈ ks,∀ b ∈ ks,sw l a=sw l b->a=b:=by
   intro ks
   induction ks with
   | nil=>intro _ a ha; simp at ha
   | cons x ks ih=>
    intro hd a ha b hb e;simp only [List.map_cons,List.nodup_cons,List.mem_map,not_exists,not_and] at hd
    rcases List.mem_cons.1 ha with h1 | h1 <;> rcases List.mem_cons.1 hb with h2 | h2
    ·rw [h1,h2]
    ·rw [h1] at e; exact absurd e.symm (hd.1 b h2)
    ·rw [h2] at e; exact absurd e (hd.1 a h1)
    ·exact ih hd.2 a h1 b h2 e
  exact inj ks hd _ h1 _ h2 e
theorem mT.ren {n0:Nat} {σ σ':St} {d d':D} (l:List (Nat × Nat)) (ks:List Nat) (hn:n0<=σ'.nx) (h0:∀ p ∈ l,n0<=p.1) (hd:(ks.map (sw l)).Nodup)
  (h:inL ks σ'.objs/\mN σ σ' (sw l) σ'.objs/\vw σ σ' (sw l) d d'):mT n0 σ d σ' d':=by
 obtain⟨hk,hs,hf⟩:=h
 refine .inr ⟨sw l,hn,?_,hf,?_,?_⟩
 ·intro k hk;have hm:∀ p ∈ l,n0<=p.1:=h0;clear hd hs hf h0
  induction l with
  | nil=>rfl
  | cons q l ih=>
   obtain⟨c,d⟩:=q;have:n0<=c:=hm (c,d) (by simp);simp only [sw];rw [if_neg (by omega)];exact ih fun p hp=>hm p (by simp [hp])
 ·intro p hp;obtain⟨h1,ob,h2,h3,h4⟩:=hs p hp;exact⟨h1,ob,h2,h3,h4⟩
 ·intro p hp q hq e;have h1:=hk p hp;have h2:=hk q hq
  have inj:∀ (ks:List Nat),(ks.map (sw l)).Nodup->∀ a ∈ ks,∀ b ∈ ks,sw l a=sw l b->a=b:=by
   intro ks
   induction ks with
   | nil=>intro _ a ha; simp at ha
   | cons x ks ih=>
    intro hd a ha b hb e;simp only [List.map_cons,List.nodup_cons,List.mem_map,not_exists,not_and] at hd
    rcases List.mem_cons.1 ha with h1 | h1 <;> rcases List.mem_cons.1 hb with h2 | h2
    ·rw [h1,h2]
    ·rw [h1] at e; exact absurd e.symm (hd.1 b h2)
    ·rw [h2] at e; exact absurd e (hd.1 a h1)
    ·exact ih hd.2 a h1 b h2 e
  exact inj ks hd _ h1 _ h2 e
def aTm (C:Cx) (Q:Exit->Fr->St->Prop) (e:Exit) (f:Fr) (σ:St):Prop:=∃ f' σ',xM C f σ f' σ'/\Q e f' σ'
theorem aTm.keep {C:Cx} {Q:Exit->Fr->St->Prop} {e:Exit} {f:Fr} {σ:St} (h:Q e f σ):aTm C Q e f σ:=⟨f,σ,xM.refl,h⟩
theorem aTm.go {C:Cx} {Q:Exit->Fr->St->Prop} {e:Exit} {f:Fr} {σ:St} (f':Fr) (σ':St) (hw:xM C f σ f' σ') (h:Q e f' σ'):aTm C Q e f σ:=⟨f',σ',hw,h⟩
theorem aPu {C:Cx} {dc:DC} {f:Fr} {σ:St} {Q:Exit->Fr->St->Prop} (h:wpS C dc f σ (aTm C Q)):wpS C dc f σ Q:=by
 intro code hc E a w G;refine wpIn_mono (h code hc E a w G) fun e a' w' hh=>?_;obtain⟨f1,σ1,G1,f2,σ2,hw,hq⟩:=hh;exact⟨f2,σ2,hw E a' w' G1,hq⟩
theorem tV {C:Cx} {dc:DC} {f:Fr} {σ:St} {Q:Exit->Fr->St->Prop} {α:Type} (g:α->Fr) (s:α->St) (I:α->Prop) (m:α->Nat) (a0:α) (h0:I a0) (hw:xM C f σ (g a0) (s a0))
  (round:∀ a,I a->wpS C dc (g a) (s a) (mP (fun f' σ'=>∃ a',I a'/\xM C f' σ' (g a') (s a')/\ m a'<m a) (aTm C Q))):wpS C (.loop dc) f σ Q:=
 aPu (xV g s I m a0 h0 hw round)
end
theorem aDm : ((0:Nat):Int)= 0:=rfl
theorem tY {k:Nat} (h:k<9223372036854775807):IntKind.i64.wrap ((k:Int)+ 1)= ((k+1:Nat):Int):=by
 rw [wrap_i64 (by omega)]; omega
section
variable [tM]
theorem aAj (f:Fr) (n:Nat):evO f (.t n)= Fr.get f n:=rfl
theorem aAk (f:Fr) (d:D):evO f (.c d)= d:=rfl
theorem aL7 (f:Fr) (t:Nat) (d:D):Fr.put f (some t) d=(t,d) :: f:=rfl
theorem aL8 (f:Fr) (d:D):Fr.put f none d=f:=rfl
theorem get_nil (n:Nat):Fr.get [] n = .top:=rfl
theorem aJh (t:Nat) (d:D) (r:Fr) (n:Nat):Fr.get ((t,d) :: r) n=if t=n then d else Fr.get r n:=rfl
theorem look_nil (k:Nat):St.look [] k=none:=rfl
theorem xY (j:Nat) (o:Ob) (r:List (Nat × Ob)) (k:Nat):St.look ((j,o) :: r) k=if j=k then some o else St.look r k:=rfl
theorem aLq (k:Nat) (o:Ob):wF [] k o = []:=rfl
theorem tU (j:Nat) (o:Ob) (r:List (Nat × Ob)) (k:Nat) (o':Ob):wF ((j,o) :: r) k o'=if j=k then(j,o') :: r else(j,o) :: wF r k o':=rfl
theorem aS6 (k:Nat):yQ [] k = []:=rfl
theorem aWk (j:Nat) (o:Ob) (r:List (Nat × Ob)) (k:Nat):yQ ((j,o) :: r) k=if j=k then yQ r k else(j,o) :: yQ r k:=rfl
theorem aCq (n:Nat) (l:List (Nat × Ob)) (k:Nat):St.get ⟨n,l⟩ k=St.look l k:=rfl
theorem set_mk (n:Nat) (l:List (Nat × Ob)) (k:Nat) (o:Ob):St.set ⟨n,l⟩ k o=⟨n,wF l k o⟩:=rfl
theorem aCi (n:Nat) (l:List (Nat × Ob)) (o:Ob):St.new ⟨n,l⟩ o=⟨n+1,(n,o) :: l⟩:=rfl
theorem aJl (n:Nat) (l:List (Nat × Ob)) (k:Nat):St.erase ⟨n,l⟩ k=⟨n,yQ l k⟩:=rfl
theorem aOg (σ:St) (sz sz':Nat) (els:List (List D)):rowsOf σ sz (.sl sz' els)= if sz=sz' then some els else none:=rfl
theorem aZ9 (σ:St) (sz:Nat):rowsOf σ sz .nils=some []:=rfl
theorem aT3 (σ:St) (sz:Nat):rowsOf σ sz .emp=some []:=rfl
def zD :=And.intro @aMu (And.intro @aHr (And.intro @aMx (And.intro @aHp (And.intro @aM0 (And.intro @aPt (And.intro @aMy (And.intro @aMv (And.intro @aMz (And.intro @aHq (And.intro @aPs (And.intro @aVv (And.intro @aOq (And.intro @aKc (And.intro @aOt (And.intro @aFn @aFm)))))))))))))))
def zT :=And.intro @aAj (And.intro @aAk (And.intro @aL7 (And.intro @aL8 (And.intro @get_nil (And.intro @aJh (And.intro @look_nil (And.intro @xY (And.intro @aLq (And.intro @tU (And.intro @aS6 (And.intro @aWk (And.intro @aCq (And.intro @set_mk (And.intro @aCi (And.intro @aJl (And.intro @aOg (And.intro @aZ9 (And.intro @aT3 (And.intro @Int.cast_ofNat_Int (And.intro @aDm (And.intro @Int.toNat_zero (And.intro @Int.toNat_one (And.intro @beq_self_eq_true.{0} (And.intro @bne_self_eq_false.{0} (And.intro @Bool.false_eq_true (And.intro @aJm (And.intro @aJj (And.intro @aFo (And.intro @aJx (And.intro @aRn (And.intro @aJ4 (And.intro @aN6 (And.intro @aN8 (And.intro @aN5 (And.intro @aRo (And.intro @aLh (And.intro @aP1 (And.intro @aP2 (And.intro @aNa (And.intro @aFa (And.intro @aK8 (And.intro @aK7 (And.intro @aO9 (And.intro @aK9 (And.intro @aNf (And.intro @aFh (And.intro @aJe (And.intro @aJd (And.intro @aWb (And.intro @aKs (And.intro @aKr (And.intro @aKq (And.intro @aKp (And.intro @aKo (And.intro @aKn (And.intro @aO6 (And.intro @aSr (And.intro @aSs (And.intro @aO7 (And.intro @aKt (And.intro @aKu (And.intro @aG2 (And.intro @aSq (And.intro @aSp (And.intro @eX (And.intro @aO5 (And.intro @aSl (And.intro @fC (And.intro @aO1 (And.intro @aO0 (And.intro @aOz (And.intro @aSj (And.intro @aSi (And.intro @yR (And.intro @gZ (And.intro @gS (And.intro @aYr (And.intro @aP (And.intro @fI (And.intro @aYi (And.intro @Option.or_none.{0} (And.intro @List.length_set.{0} (And.intro @aWs (And.intro @aOv (And.intro @Nat.lt_irrefl (And.intro @xF (And.intro @xT (And.intro @aQo (And.intro @true_and (And.intro @and_true (And.intro @List.getD_cons_zero.{0} (And.intro @List.getD_cons_succ.{0} (And.intro @List.length_cons.{0} (And.intro @List.length_nil.{0} (And.intro @Bool.not_true (And.intro @Bool.not_false (And.intro @List.map_cons.{0,0} (And.intro @List.map_nil.{0,0} (And.intro @List.nil_append.{0} (And.intro @List.cons_append.{0} (And.intro @List.append_nil.{0} (And.intro @aOr (And.intro @aOs (And.intro @List.take_succ_cons.{0} (And.intro @List.take_zero.{0} (And.intro @List.drop_succ_cons.{0} (And.intro @List.drop_zero.{0} (And.intro @false_implies (And.intro @or_true (And.intro @true_or (And.intro @Nat.le_refl (And.intro @Int.toNat_natCast (And.intro @and_self (And.intro @aBm (And.intro @aBl (And.intro @bXj (And.intro @bXi (And.intro @aD4 (And.intro @aB9 (And.intro @aIi (And.intro @aPz (And.intro @aD5 (And.intro @aDy (And.intro @aD2 (And.intro @aD0 (And.intro @aDz (And.intro @aD1 (And.intro @aIj (And.intro @aD3 (And.intro @aD6 (And.intro @not_false_eq_true (And.intro @aNz (And.intro @aNv (And.intro @aN0 (And.intro @aRj (And.intro @aNw (And.intro @aJu (And.intro @aRe (And.intro @aN1 (And.intro @aN2 (And.intro @aJv (And.intro @aNx (And.intro @aNy (And.intro @aRi (And.intro @aRf (And.intro @aRg (And.intro @aRh (And.intro @aGu (And.intro @aKj (And.intro @aGo (And.intro @aCd (And.intro @aKe (And.intro @aGw (And.intro @aCe (And.intro @aGq (And.intro @aGs (And.intro @aGr (And.intro @aKi (And.intro @aKf (And.intro @aKg (And.intro @aKh (And.intro @List.all_cons.{0} (And.intro @List.all_nil.{0} (And.intro @Bool.and_true (And.intro @Bool.and_self (And.intro @List.set_cons_zero.{0} (And.intro @List.set_cons_succ.{0} (And.intro @Nat.zero_add (And.intro @Nat.add_zero (And.intro @Nat.zero_lt_succ (And.intro @Nat.lt_add_one (And.intro @decide_true (And.intro @decide_false (And.intro @gt_iff_lt.{0} (And.intro @ge_iff_le.{0} (And.intro @yE (And.intro @aH8 (And.intro @Bool.true_and (And.intro @decide_eq_true_eq (And.intro @decide_eq_false_iff_not (And.intro @zL (And.intro @eR (And.intro @zM (And.intro @eT (And.intro @aOd (And.intro @aL (And.intro @aZc (And.intro @aZh (And.intro @qI (And.intro @jE (And.intro @aW4 (And.intro @aZd (And.intro @List.mem_singleton.{0} (And.intro @List.cons_ne_nil.{0} (And.intro @List.take_length.{0} (And.intro @Option.map_some.{0,0} (And.intro @Option.map_none.{0,0} (And.intro @List.length_append.{0} (And.intro @aIk @aQs)))))))))))))))))))))))))))))))))))))))))))))))))))))))))))))))))))))))))))))))))))))))))))))))))))))))))))))))))))))))))))))))))))))))))))))))))))))))))))))))))))))))))))))))))))))))))))))))))))))))
def zR :=And.intro @aDm (And.intro @aUj (And.intro @aNe (And.intro @aUk (And.intro @aQ4 (And.intro @fK (And.intro @aZ4 (And.intro @iC (And.intro @aYg (And.intro @lY (And.intro @jJ (And.intro @aDu (And.intro @dD (And.intro @aM8 (And.intro @aHw (And.intro @aHv (And.intro @aTy (And.intro @aF5 (And.intro @eH (And.intro @aWu (And.intro @eG (And.intro @aX4 (And.intro @yK (And.intro @tH (And.intro @aSe (And.intro @aOn (And.intro @aYo (And.intro @aOl (And.intro @yR (And.intro @gZ (And.intro @Option.or_none.{0} (And.intro @Nat.zero_lt_succ (And.intro @Nat.lt_add_one (And.intro @Option.some.injEq.{0} (And.intro @and_true (And.intro @true_and (And.intro @and_self (And.intro @or_true (And.intro @true_or (And.intro @not_false_eq_true (And.intro @List.mem_cons.{0} (And.intro @List.mem_singleton.{0} (And.intro @List.not_mem_nil.{0} (And.intro @D.int.injEq (And.intro @D.bool.injEq (And.intro @D.sl.injEq (And.intro @D.ref.injEq (And.intro @List.length_cons.{0} (And.intro @List.length_nil.{0} (And.intro @aZc (And.intro @aL (And.intro @aZh (And.intro @Nat.zero_add (And.intro @aZd (And.intro @aW4 (And.intro @aIk (And.intro @aQs (And.intro @qI @jE)))))))))))))))))))))))))))))))))))))))))))))))))))))))))
end
end Go.Pd
namespace Go.Pd
open Go Go.ChangeShapes Go.WideShapes Go.RowKit
def aZ : List (Nat × Nat)->Nat->Nat->Bool
 | [],o,n=>o==n
 | (a,s) :: r,o,n=>(a==o)&& aZ r (o+s) n
def tX (P:Program):Nat->TypeId->Bool
 | 0,_=>false
 | n+1,t=>match P.underlying t with
  | some .bool=>true
  | some (.int _)=>true
  | some .string=>true
  | some (.slice e)=>tX P n e&&decide (0<P.cellsOf e)
  | some (.struct fs)=>(fs.toList.all fun f=>tX P n f.type)&& aZ (fs.toList.map fun f=>(f.offset,P.cellsOf f.type)) 0 (P.cellsOf t)
  | some (.array k e)=>tX P n e&&(P.cellsOf t==k*P.cellsOf e)
  | _=>false
mutual
def yI (P:Program):Nat->TypeId->List D->Prop
 | 0,_,_=>False
 | n+1,t,ds=>match P.underlying t with
  | some .bool=>∃ b,ds = [.bool b]
  | some (.int k)=>∃ i,ds = [.int k i]
  | some .string=>∃ s,ds = [.str s]
  | some (.slice e)=>∃ els,ds = [.sl (P.cellsOf e) els]/\∀ row ∈ els,yI P n e row
  | some (.struct fs)=>tK P n (fs.toList.map fun f=>f.type) ds
  | some (.array k e)=>tK P n (List.replicate k e) ds
  | _=>False
def tK (P:Program):Nat->List TypeId->List D->Prop
 | _,[],ds=>ds = []
 | n,f :: fs,ds=>∃ a b,ds=a++b/\yI P n f a/\tK P n fs b
end
def jR (P:Program) (n:Nat) (t:TypeId) (d:D):Prop:=
 match P.underlying t with
 | some (.struct _)=>∃ ds,d = .agg ds/\yI P n t ds
 | some (.array _ _)=>∃ ds,d = .agg ds/\yI P n t ds
 | _=>yI P n t [d]
def aZg (P:Program) (n:Nat):List TypeId->List D->Prop
 | [],as=>as = []
 | t :: ts,as=>∃ a r,as=a :: r/\jR P n t a/\aZg P n ts r
def aRw (w:World) (cs:List Value) (ds:List D):Prop:=ds.length=cs.length/\∀ j,j<ds.length->RP (fun _=>False) w (cs.getD j undef) (ds.getD j .top)
theorem hZ {w:World} {a b:List Value} {x y:List D} (h:aRw w a x) (h':aRw w b y):aRw w (a++b) (x++y):=by
 refine⟨by simp [h.1,h'.1],fun j hj=>?_⟩;simp only [List.getD]
 by_cases hx:j<x.length
 ·rw [List.getElem?_append_left hx,List.getElem?_append_left (by rw [<- h.1]; exact hx)];exact h.2 j hx
 ·have h1:=h.1;rw [List.getElem?_append_right (by omega),List.getElem?_append_right (by omega),<- h.1];rw [List.length_append] at hj;exact h'.2 (j-x.length) (by omega)
section
variable {H : Type} {enc : TypeId × Value -> H} {P : Program} {w : World} {sp : Nat -> Bool} {held : Bool}
theorem aXt {n:Nat} (key:∀ (t:TypeId) (cs:List Value) (fuel:Nat) (x:DataW H × List MemPlace),tX P n t=true->DataW.trod enc P w 0 sp held fuel t cs=some x->∃ ds,aRw w cs ds/\yI P n t ds) {cs:List Value} {fuel:Nat} :
  ∀ (fl:List Field) (o:Nat),(fl.all fun f=>tX P n f.type)= true->aZ (fl.map fun f=>(f.offset,P.cellsOf f.type)) o cs.length=true ->
   (∀ f ∈ fl,∃ x,DataW.trod enc P w 0 sp held fuel f.type ((cs.drop f.offset).take (P.cellsOf f.type))= some x)->∃ ds,aRw w (cs.drop o) ds/\tK P n (fl.map fun f=>f.type) ds
 | [],o,_,hc,_=>by
  simp only [List.map_nil,aZ,beq_iff_eq] at hc;subst hc;exact⟨[],by simp [aRw],by simp [tK]⟩
 | f :: fl,o,hp,hc,hx=>by
  simp only [List.all_cons,Bool.and_eq_true] at hp;simp only [List.map_cons,aZ,Bool.and_eq_true,beq_iff_eq] at hc;obtain⟨x,h1⟩:=hx f (by simp);obtain⟨a,ha,hsa⟩:=key _ _ _ _ hp.1 h1;obtain⟨b,hb,hsb⟩:=aXt key fl (o+P.cellsOf f.type) hp.2 hc.2 fun g hg=>hx g (by simp [hg]);refine⟨a++b,?_,by simp only [List.map_cons,tK]; exact⟨a,b,rfl,hsa,hsb⟩⟩;rw [hc.1] at ha
  have e:cs.drop o=(cs.drop o).take (P.cellsOf f.type)++ cs.drop (o+P.cellsOf f.type):=by
   rw [<- List.drop_drop,List.take_append_drop]
  rw [e];exact hZ ha hb
theorem aI0 {n:Nat} (key:∀ (t:TypeId) (cs:List Value) (fuel:Nat) (x:DataW H × List MemPlace),tX P n t=true->DataW.trod enc P w 0 sp held fuel t cs=some x->∃ ds,aRw w cs ds/\yI P n t ds) {cs:List Value} {fuel:Nat} {e:TypeId} (hp:tX P n e=true) :
  ∀ (k o:Nat),cs.length=(o+k)* P.cellsOf e ->
   (∀ i,o<=i->i<o+k->∃ x,DataW.trod enc P w 0 sp held fuel e ((cs.drop (i*P.cellsOf e)).take (P.cellsOf e))= some x)->∃ ds,aRw w (cs.drop (o*P.cellsOf e)) ds/\tK P n (List.replicate k e) ds
 | 0,o,hl,_=>⟨[],by rw [List.drop_eq_nil_of_le (by rw [hl]; simp)]; simp [aRw],by simp [tK]⟩
 | k+1,o,hl,hx=>by
  obtain⟨x,h1⟩:=hx o (Nat.le_refl _) (by omega);obtain⟨a,ha,hsa⟩:=key _ _ _ _ hp h1;obtain⟨b,hb,hsb⟩:=aI0 key hp k (o+1) (by rw [hl]; congr 1; omega) fun i h1 h2=>hx i (by omega) (by omega);refine⟨a++b,?_,by simp only [List.replicate_succ,tK]; exact⟨a,b,rfl,hsa,hsb⟩⟩
  have e1:cs.drop (o*P.cellsOf e)= (cs.drop (o*P.cellsOf e)).take (P.cellsOf e)++ cs.drop ((o+1)* P.cellsOf e):=by
   rw [Nat.succ_mul,<- List.drop_drop,List.take_append_drop]
  rw [e1];exact hZ ha hb
theorem dS : ∀ (n:Nat) (t:TypeId) (cs:List Value) (fuel:Nat) (x:DataW H × List MemPlace),tX P n t=true->DataW.trod enc P w 0 sp held fuel t cs=some x->∃ ds,aRw w cs ds/\yI P n t ds
 | 0,t,cs,fuel,x,hp,_=>by simp [tX] at hp
 | n + 1,t,cs,fuel,x,hp,h=>by
  unfold tX at hp;unfold yI
  split at hp
  ·rename_i hu;obtain⟨b,rfl,_⟩:=DataW.trod_bool hu h;exact⟨[.bool b],⟨rfl,fun j hj=>by simp at hj; subst hj; exact .bool b⟩,⟨b,rfl⟩⟩
  ·rename_i k hu;obtain⟨i,rfl,_,hw⟩:=DataW.trod_int hu h;refine⟨[.int k i],⟨rfl,fun j hj=>?_⟩,⟨i,rfl⟩⟩;simp at hj; subst hj;simp only [Lit.wf,Bool.and_eq_true,decide_eq_true_eq] at hw;exact .int hw
  ·rename_i hu;obtain⟨s,rfl,_,hs⟩:=DataW.trod_string hu h;exact⟨[.str s],⟨rfl,fun j hj=>by simp at hj; subst hj; exact .str hs⟩,⟨s,rfl⟩⟩
  ·rename_i e hu;simp only [Bool.and_eq_true,decide_eq_true_eq] at hp
   rcases Deep.open_slice hu h with ⟨rfl,_⟩ | ⟨a,len,cap,m,fu,Dd,Pl,rfl,_,hl,hm,hmm,_,hx⟩
   ·exact⟨[.sl (P.cellsOf e) []],⟨rfl,fun j hj=>by simp at hj; subst hj; exact .sl0 none 0 _ (fun _=>rfl)⟩,⟨[],rfl,by simp⟩⟩
   ·have hle:len<=m:=by rw [hmm]; split <;> omega
    by_cases h0:len=0
    ·subst h0;exact⟨[.sl (P.cellsOf e) []],⟨rfl,fun j hj=>by simp at hj; subst hj; exact .sl0 (some a) cap _ (fun h=>by cases h)⟩,⟨[],rfl,by simp⟩⟩
    ·obtain⟨f,hf⟩:=Deep.choose_lt (α:=List Value × List D) (n:=len) (p:=fun i y=>w.cells? 0 (a.add (i*P.cellsOf e)) (P.cellsOf e)= some y.1/\aRw w y.1 y.2/\yI P n e y.2) fun i hi=>by
      obtain⟨cs',h1,h2⟩:=hx i (by omega);obtain⟨ds,h3,h4⟩:=dS n e cs' fu _ hp.1 h2;exact⟨(cs',ds),h1,h3,h4⟩
     have hcells:∀ i,i<len->∀ j,j<P.cellsOf e->w.cell? ((a.add (i*P.cellsOf e)).add j)= some ((f i).1.getD j undef):=by
      intro i hi j hj;obtain⟨_,h2,h3⟩:=World.cells?_some (hf i hi).1;rw [h3 j hj];simp [List.getD,show j<(f i).1.length by omega]
     have hlen:∀ i,i<len->(f i).1.length=P.cellsOf e:=fun i hi=>(World.cells?_some (hf i hi).1).2.1
     have hspot:a.spot=none:=by
      have:=World.cell?_spot (hcells 0 (by omega) 0 hp.2);simpa [Addr.add] using this
     obtain⟨b,off,spot⟩:=a;simp only at hspot;subst hspot
     have hadd:∀ i j,((⟨b,off,none⟩:Addr).add i).add j=⟨b,off+i+j,none⟩:=by
      intro i j;rw [Deep.add_add];unfold Addr.add
      by_cases h:i+j=0
      ·have h1:i=0:=by omega
       have h2:j=0:=by omega
       subst h1; subst h2; rfl
      ·rw [if_neg h]; simp [Nat.add_assoc]
     have els:∀ i,i<len->((List.range len).map fun i=>(f i).2).getD i []=(f i).2:=by
      intro i hi;simp [List.getD,hi]
     refine⟨[.sl (P.cellsOf e) ((List.range len).map fun i=>(f i).2)],⟨rfl,fun j hj=>?_⟩,⟨_,rfl,?_⟩⟩
     ·simp at hj; subst hj;simp only [List.getD_cons_zero]
      have:=RP.sl (M:=fun _=>False) (w:=w) (b:=b) (off:=off) (cap:=cap) (sz:=P.cellsOf e) (els:=(List.range len).map fun i=>(f i).2) (fun i j=>(f i).1.getD j undef) hp.2 (fun h=>h) (by simpa using hl) hm ?_ ?_ ?_
      ·simpa using this
      ·intro x hx';simp only [List.mem_map,List.mem_range] at hx';obtain⟨i,hi,rfl⟩:=hx';rw [(hf i hi).2.1.1,hlen i hi]
      ·intro i hi j hj;have hi':i<len:=by simpa using hi
       have:=hcells i hi' j hj;rw [hadd] at this;exact this
      ·intro i hi j hj;have hi':i<len:=by simpa using hi
       rw [els i hi'];exact(hf i hi').2.1.2 j (by rw [(hf i hi').2.1.1,hlen i hi']; exact hj)
     ·intro row hrow;simp only [List.mem_map,List.mem_range] at hrow;obtain⟨i,hi,rfl⟩:=hrow;exact(hf i hi).2.2
  ·rename_i fs hu;simp only [Bool.and_eq_true] at hp;obtain⟨xs,n',_,_,hlen,hsz,hf⟩:=DataW.trod_struct hu h;rw [<- hlen] at hp
   obtain⟨ds,h1,h2⟩:=aXt (fun t cs fuel x=>dS n t cs fuel x) (fuel:=n') fs.toList 0 hp.1 hp.2 fun g hg=>by
    obtain⟨i,hi,rfl⟩:=List.getElem_of_mem hg;have hi':i<fs.size:=by simpa using hi
    have:=hf i fs[i] (by simp [hi']);refine⟨xs[i]'(by omega),?_⟩;simp only [Array.getElem_toList];rw [this];simp [show i<xs.length by omega]
   exact⟨ds,by simpa using h1,h2⟩
  ·rename_i k e hu;simp only [Bool.and_eq_true,beq_iff_eq] at hp;obtain⟨xs,m,_,_,hlen,hxs,hf⟩:=DataW.trod_array hu h
   obtain⟨ds,h1,h2⟩:=aI0 (fun t cs fuel x=>dS n t cs fuel x) (fuel:=m) hp.1 k 0 (by rw [hlen,hp.2]; simp) fun i _ hi=>by
    have:=hf i (by omega);rw [this];simp [show i<xs.length by omega]
   exact⟨ds,by simpa using h1,h2⟩
  ·cases hp
end
section
variable {H : Type} {enc : TypeId × Value -> H} {P : Program} {w : World} {sp : Nat -> Bool} {held : Bool}
theorem aYp {r:Reach} {b:Nat} {t:TypeId} {v:Value} {k:Nat} {e:TypeId} (ht:P.underlying t=some (.array k e)) (h:Value.okWide P w r b t v):∃ cs,v = .agg cs/\cs.size=P.cellsOf t:=by
 simp only [Value.okWide,ht] at h;obtain⟨cs,h1,h2,_⟩:=h;exact⟨cs,h1,h2⟩
theorem aC4 {n:Nat} {b:Nat} {t:TypeId} {v:Value} {d:DataW H} {ps:List MemPlace} (hp:tX P n t=true) (hv:Value.okWide P w .any b t v) (h:DataW.Trod enc P w 0 sp held t v d ps):∃ a,RP (fun _=>False) w v a/\jR P n t a:=by
 obtain⟨fuel,h⟩:=h;obtain⟨ds,h1,h2⟩:=dS n t _ fuel _ hp h;unfold jR
 split
 ·rename_i fs hu;obtain⟨cs,rfl,_⟩:=okWide_struct hu hv;refine⟨.agg ds,.agg (by rw [h1.1]; rfl) fun j hj=>?_,ds,rfl,h2⟩;have:=h1.2 j hj
  have e:(Value.agg cs).cells.toList.getD j undef=cs.getD j undef:=by
   simp [Value.cells,List.getD,Array.getD];by_cases hj:j<cs.size <;> simp [hj]
  rw [e] at this;exact this
 ·rename_i k e hu;obtain⟨cs,rfl,_⟩:=aYp hu hv;refine⟨.agg ds,.agg (by rw [h1.1]; rfl) fun j hj=>?_,ds,rfl,h2⟩;have:=h1.2 j hj
  have e:(Value.agg cs).cells.toList.getD j undef=cs.getD j undef:=by
   simp [Value.cells,List.getD,Array.getD];by_cases hj:j<cs.size <;> simp [hj]
  rw [e] at this;exact this
 ·rename_i hns hna
  have one:∃ x,ds = [x]:=by
   cases n with
   | zero=>simp [tX] at hp
   | succ n=>
    unfold yI at h2
    split at h2
    ·obtain⟨b,rfl⟩:=h2; exact⟨_,rfl⟩
    ·obtain⟨b,rfl⟩:=h2; exact⟨_,rfl⟩
    ·obtain⟨b,rfl⟩:=h2; exact⟨_,rfl⟩
    ·obtain⟨b,rfl,_⟩:=h2; exact⟨_,rfl⟩
    ·rename_i fs hu; exact absurd hu (hns fs)
    ·rename_i k e hu; exact absurd hu (hna k e)
    ·cases h2
  obtain⟨x,rfl⟩:=one;refine⟨x,?_,h2⟩;have hx:=h1.2 0 (by simp);simp only [List.getD_cons_zero] at hx;have hlen:=h1.1
  cases v with
  | agg cs=>
   exfalso;unfold Value.okWide at hv
   split at hv
   ·rename_i fs hu; exact absurd hu (hns fs)
   ·rename_i k e hu; exact absurd hu (hna k e)
   ·rename_i h3 h4
    cases n with
    | zero=>simp [tX] at hp
    | succ n=>
     unfold tX at hp;unfold Cell.okWide at hv;split at hp <;> rename_i hu <;> simp [hu,Cell.ok] at hv
     all_goals first | exact absurd hu (hns _) | exact absurd hu (hna _ _) | cases hp
  | _=>simpa [Value.cells] using hx
theorem aPg {n:Nat} {b:Nat}:∀ {ts:List TypeId} {vs:List Value} {ds:List (DataW H)} {ps:List MemPlace},(ts.all fun t=>tX P n t)= true->(∀ (j:Nat) t v,ts[j]?=some t->vs[j]?=some v->Value.okWide P w .any b t v) ->
  DataW.TrodAll enc P w 0 sp held ts vs ds ps->∃ as,as.length=vs.length/\vs.length=ts.length/\ds.length=ts.length/\(∀ j,j<as.length->RP (fun _=>False) w (vs.getD j undef) (as.getD j .top))/\ aZg P n ts as
 | [],vs,ds,ps,_,_,h=>by
  obtain⟨rfl,rfl,rfl⟩:=trodAll_nil h;exact⟨[],rfl,rfl,rfl,fun j hj=>by simp at hj,rfl⟩
 | t :: ts,vs,ds,ps,hp,hv,h=>by
  obtain⟨v,vs',d,ds',p,q,rfl,rfl,rfl,h1,h2⟩:=trodAll_cons h;simp only [List.all_cons,Bool.and_eq_true] at hp;obtain⟨a,r1,s1⟩:=aC4 hp.1 (hv 0 t v rfl rfl) h1;obtain⟨as,l1,l2,l3,r2,s2⟩:=aPg hp.2 (fun j t v h1 h2=>hv (j+1) t v h1 h2) h2;refine⟨a :: as,by simp [l1],by simp [l2],by simp [l3],fun j hj=>?_,a,as,rfl,s1,s2⟩
  cases j with
  | zero=>exact r1
  | succ j=>exact r2 j (by simpa using hj)
theorem mZ (hl:laidOutB P=true) {W W':World} (hb:Below W.heap.size W W'):∀ {ts:List TypeId} {vs:List Value} {ds:List (DataW H)} {ps:List MemPlace},(ts.all fun t=>P.readableRec t&&decide (t<P.types.size))= true ->
  (∀ x ∈ ps,x.block<W.heap.size)->DataW.TrodAll enc P W 0 (fun _=>true) true ts vs ds ps->DataW.TrodAll enc P W' 0 (fun b=>decide (b<W.heap.size)) true ts vs ds ps
 | [],vs,ds,ps,_,_,h=>by
  obtain⟨rfl,rfl,rfl⟩:=trodAll_nil h;exact rfl
 | t :: ts,vs,ds,ps,hr,hlt,h=>by
  obtain⟨v,vs',d,ds',p,q,rfl,rfl,rfl,h1,h2⟩:=trodAll_cons h;simp only [List.all_cons,Bool.and_eq_true,decide_eq_true_eq] at hr;exact⟨p,q,Below.trod hl hr.1.1 hr.1.2 h1 hb fun x hx=>hlt x (by simp [hx]),mZ hl hb hr.2 (fun x hx=>hlt x (by simp [hx])) h2,rfl⟩
theorem fL {W:World}:∀ {ts:List TypeId} {vs:List Value} {ds:List (DataW H)} {ps:List MemPlace},DataW.TrodAll enc P W 0 sp held ts vs ds ps->∀ x ∈ ps,x.block<W.heap.size
 | [],vs,ds,ps,h=>by
  obtain⟨rfl,rfl,rfl⟩:=trodAll_nil h;intro x hx; simp at hx
 | t :: ts,vs,ds,ps,h=>by
  obtain⟨v,vs',d,ds',p,q,rfl,rfl,rfl,⟨m,hm⟩,h2⟩:=trodAll_cons h;intro x hx
  rcases List.mem_append.1 hx with hx | hx
  ·exact DataW.trod_lt m _ _ _ hm x hx
  ·exact fL h2 x hx
end
section
variable [tM]
theorem yX.calls {P:Program} {g:FuncId} {args:List D} {b:Bool} (h:yX P g args (.bool b)) {w:World} {vals:Array Value} (ht:aTv w fun _=>False) (hl:vals.size=args.length)
  (hv:∀ j,j<args.length->RP (fun _=>False) w (vals.getD j undef) (args.getD j .top)):Calls P g vals w fun e w'=>e = .returned (.bool b)/\ Below w.heap.size w w':=by
 have hM:∀ b,Mof (fun _=>False) (fun _=>0) St0 b->False:=by
  rintro b (h | ⟨k,o,hk,_⟩)
  ·exact h
  ·cases hk
 have hS:wL (fun _=>False) w St0 (fun _=>0):=⟨fun b hb=>hb.elim,(fun k o hk=>by cases hk),(fun k k' o o' hk=>by cases hk),(fun k o hk=>by cases hk),ht.keep (Nat.le_refl _) (fun _ _ _=>rfl) fun b _ hb=>hM b hb⟩;refine(h.run _ w _ vals hS hl fun j hj=>.pure ((hv j hj).keep (fun _ _ _=>rfl) fun b _ hb=>hM b hb)).mono fun e w' hh=>?_;obtain⟨v,ι',rfl,k1,k2,k3,k4,k5,k6⟩:=hh;have K0:Kept w w' fun _=>False:=k1.mono fun b _ ⟨k,o,hk,_⟩=>by cases hk
 rw [k6.bool_inv];exact⟨rfl,K0.below⟩
end
theorem aZ2 (a:Array Value) (j:Nat) (d:Value):a.getD j d=a.toList.getD j d:=by
 simp [List.getD,Array.getD];by_cases h:j<a.size <;> simp [h]
theorem aJa {H:Type} {enc:TypeId × Value->H} {P:Program} {f:Func} {s:ChangeSpec} {W W':World} {args:Array Value} {ds gs:List (DataW H)} {before:List MemPlace} {tb:TypeId}
  (hl:laidOutB P=true) (hr:(f.params.toList.all fun t=>P.readableRec t&&decide (t<P.types.size))= true) (hb:f.resultTypes = #[tb]) (htb:P.underlying tb=some .bool) (hsv:s.vars = [])
  (hW:DataW.Whole enc P f.params.toList s.vars false W args.toList ds gs before) (hs:s.fn H (ds++gs)= { results:=[.lit (.bool true)],args:=ds }) (bel:Below W.heap.size W W') :
  s.post enc P f false true false false W args (.bool true) W':=by
 have hW':=hW;obtain⟨p,q,hA,hV,rfl,hfz,hnd⟩:=hW;rw [hsv] at hV;obtain⟨rfl,rfl⟩:=trodVars_none hV;have hA2:=mZ hl bel hr (fL hA) hA
 refine⟨_,_,_,[],p,[],hW',?_,?_,?_,bel.frame _,fun h=>by cases h⟩
 ·rw [hs,hb];exact trodAll_mk1 (shut_bool htb _)
 ·rw [hs];exact hA2
 ·rw [hs,hsv];rfl
abbrev dO (i:Nat) (k:DK):DOp:=⟨some i,none,k⟩
abbrev dF (i j:Nat) (k:DK):DOp:=⟨some i,some (j,false),k⟩
abbrev dT (i j:Nat) (k:DK):DOp:=⟨some i,some (j,true),k⟩
abbrev Opd.i (n:Int):Opd:=.c (.int .i64 n)
abbrev dM (i j:Nat):DOp:=⟨some i,none,.mv (.t j)⟩
abbrev dL (i j:Nat):DOp:=⟨some i,none,.load 1 false (.t j)⟩
abbrev dG (i n j:Nat):DOp:=⟨some i,none,.fld n (.t j)⟩
abbrev DC.r (l:List DOp) (c:DC):DC:=.seq (.reg [] l) c
abbrev DK.cf (f:FuncId) (l:List Opd):DK:=.call (.c (.fn f [])) l
def zW.{u} :=And.intro @ne_eq.{u} (And.intro @forall_const.{u} (And.intro @implies_true.{u} @forall_eq.{u}))
section
variable [tM]
def zU :=And.intro @dY.eq_1 (And.intro @aBk.eq_1 (And.intro @unZ.eq_1 (And.intro @mP.eq_1 (And.intro @mP.eq_2 (And.intro @rB.eq_1 (And.intro @rB.eq_2 (And.intro @opX.eq_1 (And.intro @opX.eq_2 (And.intro @opX.eq_3 (And.intro @opX.eq_4 (And.intro @opX.eq_5 (And.intro @opX.eq_6 (And.intro @opX.eq_7 (And.intro @opX.eq_8 (And.intro @opX.eq_9 (And.intro @opX.eq_10 (And.intro @opX.eq_11 (And.intro @opX.eq_12 (And.intro @opX.eq_13 (And.intro @opX.eq_14 (And.intro @opX.eq_15 (And.intro @opV.eq_1 (And.intro @opV.eq_2 (And.intro @opV.eq_3 (And.intro @opV.eq_4 (And.intro @opV.eq_5 (And.intro @opV.eq_6 (And.intro @opV.eq_7 (And.intro @opV.eq_8 (And.intro @opV.eq_9 (And.intro @opV.eq_10 (And.intro @opV.eq_11 (And.intro @opV.eq_12 (And.intro @opV.eq_13 (And.intro @opV.eq_14 (And.intro @opV.eq_15 (And.intro @pX.eq_1 (And.intro @pX.eq_2 (And.intro @pX.eq_3 (And.intro @pX.eq_4 (And.intro @pX.eq_5 (And.intro @pX.eq_6 (And.intro @pX.eq_7 (And.intro @pX.eq_8 (And.intro @pW.eq_1 (And.intro @pW.eq_2 (And.intro @pW.eq_3 (And.intro @pW.eq_4 (And.intro @pW.eq_5 (And.intro @pW.eq_6 (And.intro @pW.eq_7 (And.intro @pW.eq_8 (And.intro @pW.eq_9 (And.intro @pW.eq_10 (And.intro @pW.eq_11 (And.intro @pW.eq_12 (And.intro @pW.eq_13 (And.intro @pW.eq_14 (And.intro @pW.eq_15 (And.intro @pW.eq_16 (And.intro @pW.eq_17 (And.intro @pW.eq_18 (And.intro @pW.eq_19 (And.intro @pW.eq_20 (And.intro @pW.eq_21 (And.intro @pW.eq_22 (And.intro @pW.eq_23 (And.intro @pW.eq_24 (And.intro @pW.eq_25 (And.intro @pW.eq_26 (And.intro @pW.eq_27 (And.intro @pW.eq_28 (And.intro @aBu.eq_1 (And.intro @aBt.eq_1 (And.intro @atK.eq_1 (And.intro @kY.eq_1 @aMq.eq_1))))))))))))))))))))))))))))))))))))))))))))))))))))))))))))))))))))))))))))
def zV :=And.intro @St0.eq_1 (And.intro @jT.eq_1 (And.intro @jT.eq_2 (And.intro @lM.eq_1 (And.intro @lM.eq_2 (And.intro @lM.eq_3 (And.intro @lM.eq_4 (And.intro @lM.eq_5 (And.intro @lM.eq_6 (And.intro @lM.eq_7 (And.intro @lM.eq_8 (And.intro @lM.eq_9 (And.intro @lM.eq_10 (And.intro @lM.eq_11 (And.intro @lM.eq_12 (And.intro @lM.eq_13 (And.intro @lM.eq_14 (And.intro @lM.eq_15 (And.intro @lM.eq_16 (And.intro @lM.eq_17 (And.intro @aR7.eq_1 (And.intro @gF.eq_1 (And.intro @gF.eq_2 (And.intro @gF.eq_3 (And.intro @gF.eq_4 (And.intro @gF.eq_5 (And.intro @gF.eq_6 (And.intro @aWz.eq_1 (And.intro @aWz.eq_2 (And.intro @aEm.eq_1 (And.intro @zA.eq_1 (And.intro @fZ.eq_1 (And.intro @fZ.eq_2 (And.intro @bXe.eq_1 (And.intro @bJ.eq_1 (And.intro @bJ.eq_2 (And.intro @aY7.eq_1 (And.intro @aY7.eq_2 (And.intro @List.replicate.eq_1.{0} (And.intro @List.replicate.eq_2.{0} (And.intro @rowsOf.eq_1 (And.intro @rowsOf.eq_2 (And.intro @rowsOf.eq_3 (And.intro @rowsOf.eq_4 @rowsOf.eq_5)))))))))))))))))))))))))))))))))))))))))))
end
theorem sd {p q:Prop} (b:q) (a:p:=by first | omega | exact aPx _ | exact Int.natCast_nonneg _ | rfl | exact aOe _ _ | exact aR9 _ | (intro _ h; cases h; done)):p/\q:=⟨a,b⟩
section
variable [tM]
theorem cr {P:Program} {g:FuncId} {args:List D} {d:D} {s:St} (hc:yX P g args d) (hp:D.isPureL args=true:=by simp [D.isPureL,D.isPure]):xX P g args s d s:=xX.of_runs hc hp
theorem cq {P:Program} {g:FuncId} {args:List D} {d:D} {s:St} (hc:yX P g args d) (hp:D.isPureL args=true:=by rfl):xX P g args s d s:=xX.of_runs hc hp
end
end Go.Pd
