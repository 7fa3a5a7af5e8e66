/- Part X6. -/
import Derived.Test.YtndfaefmmcoapaaGreatUaX5
import Derived.Carry
import Derived.ChangeArms
import Derived.Deep.Slices
import Derived.ProofKit
import Derived.OpenShut
set_option linter.unusedSectionVars false
set_option linter.unusedVariables false
set_option linter.unusedSimpArgs false
set_option linter.defProp false
namespace Go.Pd
open Go
def ui (s:BitVec 64):Int:=s.toNat
theorem aZf (s:BitVec 64):0<=ui s:=by unfold ui; omega
theorem aYz {s t:BitVec 64}:ui s=ui t ↔ s=t:=by
 unfold ui
 constructor
 ·intro h; exact BitVec.eq_of_toNat_eq (by omega)
 ·rintro rfl; rfl
theorem bVp {n:Int} (h0:0<=n) (h1:n<18446744073709551616):ui (BitVec.ofInt 64 n)= n:=by unfold ui;rw [BitVec.toNat_ofInt];have:n % 2 ^ 64=n:=Int.emod_eq_of_lt h0 (by omega);omega
theorem wK (s:BitVec 64):BitVec.ofInt 64 (ui s)= s:=by unfold ui;rw [BitVec.ofInt_natCast];simp
theorem nX (s:BitVec 64):IntKind.u64.wrap (s.toNat:Int)= ui s:=by unfold ui;have:=s.isLt;exact wrap_u64 ⟨by omega,by omega⟩
theorem bY0 (s t:BitVec 64):rB .and .u64 (ui s) (ui t)= ui (s &&& t):=by show IntKind.u64.wrap ((BitVec.ofInt 64 (ui s)&&& BitVec.ofInt 64 (ui t)).toNat:Int)= _;rw [wK,wK,nX]
theorem bVo (s t:BitVec 64):rB .or .u64 (ui s) (ui t)= ui (s ||| t):=by show IntKind.u64.wrap ((BitVec.ofInt 64 (ui s) ||| BitVec.ofInt 64 (ui t)).toNat:Int)= _;rw [wK,wK,nX]
theorem aEx (s t:BitVec 64):rB .xor .u64 (ui s) (ui t)= ui (s ^^^ t):=by show IntKind.u64.wrap ((BitVec.ofInt 64 (ui s)^^^ BitVec.ofInt 64 (ui t)).toNat:Int)= _;rw [wK,wK,nX]
theorem aLq (s t:BitVec 64):rB .andNot .u64 (ui s) (ui t)= ui (s &&& ~~~t):=by show IntKind.u64.wrap ((BitVec.ofInt 64 (ui s)&&& ~~~BitVec.ofInt 64 (ui t)).toNat:Int)= _;rw [wK,wK,nX]
theorem gV (n:Int):IntKind.u64.wrap n=ui (BitVec.ofInt 64 n):=by unfold ui;rw [BitVec.toNat_ofInt];simp [IntKind.wrap,IntKind.signed,IntKind.bits];omega
theorem bY1 (s t:BitVec 64):IntKind.u64.wrap (ui s+ui t)= ui (s+t):=by rw [gV,BitVec.ofInt_add,wK,wK]
theorem bYu (s t:BitVec 64):IntKind.u64.wrap (ui s-ui t)= ui (s-t):=by rw [gV];congr 1;rw [Int.sub_eq_add_neg,BitVec.ofInt_add,BitVec.ofInt_neg,wK,wK,BitVec.sub_eq_add_neg]
theorem bYy (s t:BitVec 64):IntKind.u64.wrap (ui s*ui t)= ui (s*t):=by rw [gV,BitVec.ofInt_mul,wK,wK]
theorem bYw (s:BitVec 64) (k:Int):aIb .u64 (ui s) k=ui (s <<< k.toNat):=by
 unfold aIb;rw [gV];congr 1;rw [BitVec.ofInt_mul,wK];show s*BitVec.ofInt 64 (2 ^ min k.toNat 64)= _;apply BitVec.eq_of_toNat_eq;rw [BitVec.toNat_mul,BitVec.toNat_shiftLeft,Nat.shiftLeft_eq]
 have e:(BitVec.ofInt 64 (2 ^ min k.toNat 64)).toNat=2 ^ min k.toNat 64 % 2 ^ 64:=by
  have:((2:Int)^ min k.toNat 64)= ((2 ^ min k.toNat 64:Nat):Int):=by norm_cast
  rw [this,BitVec.ofInt_natCast,BitVec.toNat_ofNat]
 rw [e,Nat.mul_mod_mod]
 rcases Nat.lt_or_ge k.toNat 64 with h | h
 ·rw [Nat.min_eq_left (by omega)]
 ·rw [Nat.min_eq_right h];obtain⟨m,hm⟩:=Nat.exists_eq_add_of_le h;rw [hm,Nat.pow_add,<- Nat.mul_assoc,Nat.mul_right_comm];simp
theorem bYv (s:BitVec 64) (k:Int):aOy .u64 (ui s) k=ui (s >>> k.toNat):=by
 unfold aOy ui;rw [BitVec.toNat_ushiftRight,Nat.shiftRight_eq_div_pow];show (s.toNat:Int).fdiv (2 ^ min k.toNat 64)= _;have:((2:Int)^ min k.toNat 64)= ((2 ^ min k.toNat 64:Nat):Int):=by norm_cast
 rw [this,Int.fdiv_eq_ediv_of_nonneg _ (Int.natCast_nonneg _),<- Int.natCast_ediv];congr 1
 rcases Nat.lt_or_ge k.toNat 64 with h | h
 ·rw [Nat.min_eq_left (by omega)]
 ·rw [Nat.min_eq_right h];have h1:=s.isLt;rw [Nat.div_eq_of_lt h1,Nat.div_eq_of_lt (Nat.lt_of_lt_of_le h1 (Nat.pow_le_pow_right (by omega) h))]
theorem bYx (s t:BitVec 64):(ui s).tmod (ui t)= ui (s % t):=by unfold ui;rw [BitVec.toNat_umod,Int.tmod_eq_emod_of_nonneg (by omega),Int.natCast_emod]
theorem aEy (s t:BitVec 64):(ui s==ui t)= (s==t):=by
 by_cases h:s=t
 ·subst h; simp
 ·have:ui s≠ui t:=fun e=>h (aYz.1 e);rw [beq_eq_false_iff_ne.2 this,beq_eq_false_iff_ne.2 h]
theorem bYz (s t:BitVec 64):(ui s != ui t)= (s != t):=by simp only [bne,aEy]
theorem bWu : D.int .u64 0=D.int .u64 (ui 0#64):=rfl
theorem bWt : D.int .u64 1=D.int .u64 (ui 1#64):=rfl
theorem bU8 : D.int .u64 2=D.int .u64 (ui 2#64):=rfl
theorem bU7 : D.int .u64 18446744073709551615=D.int .u64 (ui 18446744073709551615#64):=rfl
theorem bY2 : ui 2#64≠0:=by decide
def us (l:List (BitVec 64)):List (List D):=l.map fun s=>[.int .u64 (ui s)]
def bXe (l:List (BitVec 64)):D:=.sl 1 (us l)
theorem xR (l:List (BitVec 64)):(us l).length=l.length:=by simp [us]
theorem cA : us [] = []:=rfl
theorem aV4 (s:BitVec 64) (l:List (BitVec 64)):us (s :: l)= [.int .u64 (ui s)] :: us l:=rfl
theorem zH (l:List (BitVec 64)) {i:Nat} (h:i<l.length):(us l).getD i [] = [.int .u64 (ui (l.getD i 0))]:=by simp [us,List.getD,h]
theorem tE (l:List (BitVec 64)):∀ e ∈ us l,D.xV e=true:=by intro e he;simp only [us,List.mem_map] at he;obtain⟨n,_,rfl⟩:=he;rfl
theorem aNg (l:List (BitVec 64)):∀ e ∈ us l,wD e=true:=by intro e he;simp only [us,List.mem_map] at he;obtain⟨n,_,rfl⟩:=he;rfl
theorem aNz (l:List (BitVec 64)) (n:Nat):(us l).take n=us (l.take n):=by simp [us,List.map_take]
theorem aE (l:List (BitVec 64)) (s:BitVec 64):us l ++ [[.int .u64 (ui s)]]=us (l ++ [s]):=by simp [us]
theorem nH (l:List (BitVec 64)) (i:Nat) (s:BitVec 64):(us l).set i [.int .u64 (ui s)]=us (l.set i s):=by simp [us,List.map_set]
theorem iK (n:Nat) (s:BitVec 64):List.replicate n [D.int .u64 (ui s)]=us (List.replicate n s):=by simp [us]
theorem bX8 : ∀ {els:List (List D)},(∀ e ∈ els,∃ n:Int,e = [.int .u64 n])->D.aIv els->∃ l,els=us l
 | [],_,_=>⟨[],rfl⟩
 | e :: r,h,hf=>by obtain⟨n,rfl⟩:=h e (by simp);obtain⟨l,rfl⟩:=bX8 (fun e he=>h e (by simp [he])) hf.2;have h1:=hf.1;simp only [D.sO,D.fact,and_true] at h1;obtain⟨h1,h2⟩:=h1;refine⟨BitVec.ofInt 64 n :: l,?_⟩;have:ui (BitVec.ofInt 64 n)= n:=bVp (by simpa [IntKind.min,IntKind.signed] using h1) (by have:IntKind.u64.max=18446744073709551615:=rfl; omega);simp [us,this]
theorem aKl (d:D):qF false [d]=d:=rfl
theorem aKm (cs:List D):qF true cs = .agg cs:=rfl
def xA (key sz:Nat):List (List D)->D
 | []=>.xL
 | e :: r=>.osl key sz (e :: r).length
def yY (key sz:Nat):List (List D)->List (Nat × Ob)
 | []=>[]
 | e :: r=>[(key,⟨sz,e :: r⟩)]
end Go.Pd
namespace Go.Pd
open Go
variable [rV]
def xO (f:Fr):Fr->Prop
 | []=>True
 | (t,d) :: r=>f.get t=d/\xO f r
omit [rV] in
theorem aZj {f:Fr}:∀ {f':Fr},xO f f'->∀ t,f'.get t = .top\/f'.get t=f.get t
 | [],_,t=>.inl rfl
 | (s,d) :: r,h,t=>by
  simp only [Fr.get]
  split
  ·rename_i e; subst e; exact .inr h.1.symm
  ·exact aZj h.2 t
theorem xH.same {C:Cx} {f f':Fr} {σ:St} (h:xO f f'):xH C f σ f' σ:=xH.frame (aZj h)
end Go.Pd
namespace Go.Pd
open Go
def rr (ll:List (List (BitVec 64))):List (List D):=ll.map fun l=>[bXe l]
def bU4 (ll:List (List (BitVec 64))):D:=.sl 1 (rr ll)
theorem zK (l:List (List (BitVec 64))):(rr l).length=l.length:=by simp [rr]
theorem nG (l:List (List (BitVec 64))) {i:Nat} (h:i<l.length):(rr l).getD i [] = [.sl 1 (us (l.getD i []))]:=by simp [rr,bXe,List.getD,h]
theorem aCw (l:List (List (BitVec 64))) (n:Nat):(rr l).take n=rr (l.take n):=by simp [rr,List.map_take]
theorem aV9 (l:List (List (BitVec 64))):∀ e ∈ rr l,D.xV e=true:=by intro e he;simp only [rr,List.mem_map] at he;obtain⟨n,_,rfl⟩:=he;simp [D.xV,D.xG,bXe]
end Go.Pd
namespace Go.Pd
open Go
theorem nC.same {n0:Nat} {σ:St} {d:D}:nC n0 σ d σ d:=.inl ⟨rfl,rfl⟩
theorem nC.drop {n0 n:Nat} {σ:St} {d d':D} (hn:n0<=n) (h:vw σ ⟨n,[]⟩ (fun k=>k) d d'):nC n0 σ d ⟨n,[]⟩ d':= .inr ⟨fun k=>k,hn,fun _ _=>rfl,h,by simp [stays],by simp [uS]⟩
end Go.Pd
namespace Go.Pd
open Go
universe u
variable [rV]
def atK (σ:St) (K:D->St->Prop) (d:D):Prop:=K d σ
def bW8 (f:Fr) (dst:Option Nat) (K:Fr->St->Prop) (d:D) (σ:St):Prop:=K (f.put dst d) σ
def bW7 (f:Fr) (dst:Option Nat) (K:Fr->Prop) (d:D):Prop:=K (f.put dst d)
def iB (Q:Exit->Fr->St->Prop) (f:Fr) (σ:St):Prop:=Q .normal f σ
def gdB (d:D) (want:Bool) (yes no:Prop):Prop:=
 match d with
 | .bool b=>if b=want then yes else no
 | .und=>no
 | _=>False
theorem aFv (b want:Bool) (yes no:Prop):gdB (.bool b) want yes no=if b=want then yes else no:=rfl
theorem aAf (want:Bool) (yes no:Prop):gdB .und want yes no=no:=rfl
@[congr] theorem bWl {d d' : D} {want : Bool} {yes no : Prop} (h : d = d') : gdB d want yes no = gdB d' want yes no := by rw [h]
def gd (g:Option (Nat × Bool)) (f:Fr) (yes no:Prop):Prop:=
 match g with
 | none=>yes
 | some (j,want)=>gdB (f.get j) want yes no
theorem aAe (f:Fr) (yes no:Prop):gd none f yes no=yes:=rfl
theorem aAd (j:Nat) (want:Bool) (f:Fr) (yes no:Prop):gd (some (j,want)) f yes no=gdB (f.get j) want yes no:=rfl
theorem bYf (o:DOp) (f:Fr) (yes no:Prop):yL o f yes no=gd o.guard f yes no:=by
 unfold yL gd
 split
 ·rename_i h; rw [h]
 ·rename_i h; rw [h]; rfl
def aQf (q:Bool) (σ:St) (sz bytes:Nat) (x:D) (y:Option (List (List D))) (K:D->St->Prop):Prop:=
 match y with
 | none=>False
 | some rows=>(∀ r ∈ rows,wD r=true)/\ match x with
  | .xL=>rows.length*bytes<=140737488355328/\rows.length<=8000000000000/\(rows = []->K .xL σ)/\ (rows ≠ []->K (.osl σ.nx sz rows.length) (σ.new ⟨sz,rows⟩))
  | .osl key sz' n=>match σ.get key with
   | some ob=>sz=sz'/\ob.sz=sz/\n<=ob.els.length/\(n+rows.length)* bytes<=140737488355328/\n+rows.length<=8000000000000 /\
    K (.osl σ.nx sz (n+rows.length)) ((σ.erase key).new ⟨sz,ob.els.take n++rows⟩)
   | none=>False
  | .sub key sz' lo n=>match σ.get key with
   | some ob=>q=true/\sz=sz'/\ob.sz=sz/\lo+n<=ob.els.length/\(n+rows.length)* bytes<=140737488355328/\n+rows.length<=8000000000000 /\
    ∀ pre:List (List D),(pre = []\/pre=ob.els.take lo)->K (.sub σ.nx sz pre.length (n+rows.length)) ((σ.erase key).new ⟨sz,pre++((ob.els.drop lo).take n++rows)⟩)
   | none=>False
  | _=>False
def bXz (σ:St) (n:Nat) (a:D) (x:Option (List D)) (K:D->St->Prop):Prop:=
 match a,x with
 | .ref key sz i off,some ds=>match σ.get key with
  | some ob=>ob.sz=sz/\i<ob.els.length/\ds.length=n/\off+n<=sz/\wD ds=true/\K .und (σ.set key ⟨sz,ob.els.set i (cF (ob.els.getD i []) off ds)⟩)
  | none=>False
 | _,_=>False
def aId (x:D) (K:D->Prop):Prop:=
 match x with
 | .sl _ els=>K (.int .i64 els.length)
 | .osl _ _ n=>K (.int .i64 n)
 | .sub _ _ _ n=>K (.int .i64 n)
 | .xL=>K (.int .i64 0)
 | .emp=>K (.int .i64 0)
 | _=>False
def aIj (sz:Nat) (x i:D) (K:D->Prop):Prop:=
 match x,i with
 | .sl sz' els,.int _ n=>sz=sz'/\0<=n/\n<els.length/\K (.ptr (els.getD n.toNat []))
 | .osl key sz' len,.int _ n=>sz=sz'/\0<=n/\n<len/\K (.ref key sz n.toNat 0)
 | .sub key sz' lo len,.int _ n=>sz=sz'/\0<=n/\n<len/\K (.ref key sz (lo+n.toNat) 0)
 | _,_=>False
def oX (neg:Bool) (x y:D) (K:D->Prop):Prop:=
 match x,y with
 | .xL,.xL=>K (.bool (!neg))
 | .osl ..,.xL | .xL,.osl ..=>K (.bool neg)
 | .emp,.xL | .xL,.emp=>K (.bool neg)
 | .sl _ (_ :: _),.xL=>K (.bool neg)
 | _,_=>False
def aQr (σ:St) (n:Nat) (ag:Bool) (x:D) (K:D->Prop):Prop:=
 match x with
 | .ref key sz i off=>match σ.get key with
  | some o=>o.sz=sz/\i<o.els.length/\off+n<=sz/\(ag=true\/n=1)/\ K (qF ag (((o.els.getD i []).drop off).take n))
  | none=>False
 | .ptr cs=>n<=cs.length/\(ag=true\/n=1)/\ K (qF ag (cs.take n))
 | _=>False
def bXi (x:D) (K:D->Prop):Prop:=
 match x with
 | .ref key sz i off=>K (.ref key sz i off)
 | .ptr cs=>K (.ptr cs)
 | .fn f cs=>K (.fn f cs)
 | _=>False
@[congr] theorem bXu {x x' : D} {K : D -> Prop} (h : x = x') : bXi x K = bXi x' K := by rw [h]
theorem aG2 {key sz i off:Nat} {K:D->Prop}:bXi (.ref key sz i off) K=K (.ref key sz i off):=rfl
theorem aG3 {cs:List D} {K:D->Prop}:bXi (.ptr cs) K=K (.ptr cs):=rfl
theorem aBo {f:FuncId} {cs:List D} {K:D->Prop}:bXi (.fn f cs) K=K (.fn f cs):=rfl
def aQp (σ:St) (zero:D) (ok:Bool) (m k:D) (K:D->Prop):Prop:=
 match m,k with
 | .vC key,.int kk x=>match σ.get key with
  | some o=>o.sz=0/\iA kk o.els/\K (iE ok zero (pB x o.els 0))
  | none=>False
 | .kC,.int _ _=>K (iE ok zero none)
 | _,_=>False
def aNa (σ:St) (m k x:D) (K:D->St->Prop):Prop:=
 match m,k with
 | .vC key,.int kk y=>match σ.get key with
  | some o=>o.sz=0/\iA kk o.els/\K .und (σ.set key ⟨0,aVx kk o.els y x⟩)
  | none=>False
 | _,_=>False
def iM (σ:St) (n:Nat) (zero:D) (ok:Bool) (m k:D) (K:D->Prop):Prop:=
 match m,k with
 | .vC key,.agg cs=>match σ.get key with
  | some o=>o.sz=0/\∃ (x:List Int) (l:List (List Int × D)),(cs=x.map (D.int .i64)/\ o.els=pC l/\x.length=n/\∀ p ∈ l,p.1.length=n)/\ K (iE ok zero (oV x l 0))
  | none=>False
 | _,_=>False
def lV (σ:St) (n:Nat) (m k x:D) (K:D->St->Prop):Prop:=
 match m,k with
 | .vC key,.agg cs=>match σ.get key with
  | some o=>o.sz=0/\∃ (y:List Int) (l:List (List Int × D)),(cs=y.map (D.int .i64)/\ o.els=pC l/\(y.length=n/\∀ p ∈ l,p.1.length=n))/\ K .und (σ.set key ⟨0,pC (aH y x l)⟩)
  | none=>False
 | _,_=>False
def aD7 (σ:St) (zero m k:D) (K:D->St->Prop):Prop:=
 match m,k with
 | .vC key,.int kk y=>match σ.get key with
  | some o=>o.sz=0/\iA kk o.els/\o.els.length<=1000000000/\(match pB y o.els 0 with
   | some (i,d)=>K (.tup [d,.int .i64 i]) (σ.set key ⟨0,o.els⟩)
   | none=>K (.tup [zero,.int .i64 o.els.length]) (σ.set key ⟨0,o.els ++ [[.int kk y,zero]]⟩))
  | none=>False
 | _,_=>False
def aD9 (σ:St) (m s x:D) (K:D->St->Prop):Prop:=
 match m,s with
 | .vC key,.int _ i=>match σ.get key with
  | some o=>o.sz=0/\0<=i/\i<o.els.length/\(∃ kk y d,o.els.getD i.toNat [] = [.int kk y,d]/\K .und (σ.set key ⟨0,o.els.set i.toNat [.int kk y,x]⟩))
  | none=>False
 | _,_=>False
@[congr] theorem aA5 {σ : St} {zero : D} {ok : Bool} {m m' k k' : D} {K : D -> Prop} (h : m = m') (h' : k = k') : aQp σ zero ok m k K = aQp σ zero ok m' k' K := by rw [h, h']
@[congr] theorem aA3 {σ : St} {m m' k k' x x' : D} {K : D -> St -> Prop} (h : m = m') (h' : k = k') (h2 : x = x') : aNa σ m k x K = aNa σ m' k' x' K := by rw [h, h', h2]
@[congr] theorem aDo {σ : St} {n : Nat} {zero : D} {ok : Bool} {m m' k k' : D} {K : D -> Prop} (h : m = m') (h' : k = k') : iM σ n zero ok m k K = iM σ n zero ok m' k' K := by rw [h, h']
@[congr] theorem aDm {σ : St} {n : Nat} {m m' k k' x x' : D} {K : D -> St -> Prop} (h : m = m') (h' : k = k') (h2 : x = x') : lV σ n m k x K = lV σ n m' k' x' K := by rw [h, h', h2]
@[congr] theorem aA7 {σ : St} {zero m m' k k' : D} {K : D -> St -> Prop} (h : m = m') (h' : k = k') : aD7 σ zero m k K = aD7 σ zero m' k' K := by rw [h, h']
@[congr] theorem bXa {σ : St} {m m' k k' x x' : D} {K : D -> St -> Prop} (h : m = m') (h' : k = k') (h2 : x = x') : aD9 σ m k x K = aD9 σ m' k' x' K := by rw [h, h', h2]
@[congr] theorem bXx {q : Bool} {σ : St} {sz bytes : Nat} {x x' : D} {y y' : Option (List (List D))} {K : D -> St -> Prop} (h : x = x') (h' : y = y') : aQf q σ sz bytes x y K = aQf q σ sz bytes x' y' K := by rw [h, h']
@[congr] theorem bXs {σ : St} {n : Nat} {x x' : D} {y y' : Option (List D)} {K : D -> St -> Prop} (h : x = x') (h' : y = y') : bXz σ n x y K = bXz σ n x' y' K := by rw [h, h']
@[congr] theorem bXv {x x' : D} {K : D -> Prop} (h : x = x') : aId x K = aId x' K := by rw [h]
@[congr] theorem bXw {sz : Nat} {x x' i i' : D} {K : D -> Prop} (h : x = x') (h' : i = i') : aIj sz x i K = aIj sz x' i' K := by rw [h, h']
@[congr] theorem aDl {neg : Bool} {x x' i i' : D} {K : D -> Prop} (h : x = x') (h' : i = i') : oX neg x i K = oX neg x' i' K := by rw [h, h']
@[congr] theorem aA8 {σ : St} {n : Nat} {ag : Bool} {x x' : D} {K : D -> Prop} (h : x = x') : aQr σ n ag x K = aQr σ n ag x' K := by rw [h]
def pX (C:Cx) (σ:St) (ev:Opd->D) (k:DK) (K:D->Prop):Prop:=
 match k with
 | .len x=>aId (ev x) K
 | .idx sz x i=>aIj sz (ev x) (ev i) K
 | .aL neg x y=>oX neg (ev x) (ev y) K
 | .load n ag x=>aQr σ n ag (ev x) K
 | .aIc zero ok m k=>aQp σ zero ok (ev m) (ev k) K
 | .aYu n zero ok m k=>iM σ n zero ok (ev m) (ev k) K
 | .nck x=>bXi (ev x) K
 | k=>pW C σ ev k K
theorem bYb (C:Cx) (σ:St) (ev:Opd->D) (k:DK) (K:D->Prop):pX C σ ev k K=pW C σ ev k K:=by cases k <;> rfl
def opX (C:Cx) (σ:St) (ev:Opd->D) (k:DK) (K:D->St->Prop):Prop:=
 match k with
 | .box x=>opV C σ ev (.box x) K
 | .alloc z=>opV C σ ev (.alloc z) K
 | .store n a x=>bXz σ n (ev a) (ev x).cells K
 | .app sz bytes x y=>aQf (C.own.contains 77777) σ sz bytes (ev x) (rowsOf σ sz (ev y)) K
 | .cE sz bytes zero len cap=>opV C σ ev (.cE sz bytes zero len cap) K
 | .aN sz len zero parts=>opV C σ ev (.aN sz len zero parts) K
 | .clr zero x=>opV C σ ev (.clr zero x) K
 | .cpy x y=>opV C σ ev (.cpy x y) K
 | .call fn args=>opV C σ ev (.call fn args) K
 | .mkm=>opV C σ ev .mkm K
 | .aVk m k x=>aNa σ (ev m) (ev k) (ev x) K
 | .jZ n m k x=>lV σ n (ev m) (ev k) (ev x) K
 | .aOr zero m k=>aD7 σ zero (ev m) (ev k) K
 | .aOt m s x=>aD9 σ (ev m) (ev s) (ev x) K
 | k=>pX C σ ev k (atK σ K)
theorem aNm (C:Cx) (σ:St) (ev:Opd->D) (k:DK) (K:D->St->Prop):opX C σ ev k K=opV C σ ev k K:=by cases k <;> first | rfl | (show pX _ _ _ _ _=_; rw [bYb]; rfl)
def aOp (C:Cx):List DOp->(Fr->St->Prop)->Fr->St->Prop
 | [],K,f,σ=>K f σ
 | ⟨dst,g,k⟩ :: rest,K,f,σ=>gd g f (opX C σ (evO f) k (bW8 f dst (aOp C rest K))) (aOp C rest K (f.put dst .und) σ)
theorem fS (C:Cx) (K:Fr->St->Prop):∀ (ops:List DOp) (f:Fr) (σ:St),aOp C ops K f σ=pI C ops f σ K
 | [],f,σ=>rfl
 | o :: rest,f,σ=>by
  have ih:aOp C rest K=fun f σ=>pI C rest f σ K:=by funext f σ; exact fS C K rest f σ
  unfold aOp pI;rw [bYf,aNm,ih];rfl
def aOo (C:Cx) (σ:St):List DOp->(Fr->Prop)->Fr->Prop
 | [],K,f=>K f
 | ⟨dst,g,k⟩ :: rest,K,f=>gd g f (pX C σ (evO f) k (bW7 f dst (aOo C σ rest K))) (aOo C σ rest K (f.put dst .und))
theorem mZ (C:Cx) (σ:St) (K:Fr->Prop):∀ (ops:List DOp) (f:Fr),aOo C σ ops K f=tI C σ ops f K
 | [],f=>rfl
 | o :: rest,f=>by
  have ih:aOo C σ rest K=fun f=>tI C σ rest f K:=by funext f; exact mZ C σ K rest f
  unfold aOo tI;rw [bYf,bYb,ih];rfl
def aO9 (C:Cx) (post:List DOp) (Q:Exit->Fr->St->Prop) (σ:St) (f:Fr):Prop:=aOp C post (iB Q) f σ
def cdB (d:D) (p q:Prop):Prop:=
 match d with
 | .bool t=>if t=true then p else q
 | _=>False
theorem aEb (t:Bool) (p q:Prop):cdB (.bool t) p q=if t=true then p else q:=rfl
@[congr] theorem bWm {d d' : D} {p q : Prop} (h : d = d') : cdB d p q = cdB d' p q := by rw [h]
def aT5 (C:Cx) (it:Nat) (m:Opd) (out nx more next pair:Nat) (rest:List DOp) (code:DC) (Q:Exit->Fr->St->Prop) (f:Fr) (σ:St):Prop:=aY3 C it m out nx more next pair rest code f σ Q
@[congr] theorem aDn {C : Cx} {it : Nat} {m : Opd} {out nx more next pair : Nat} {rest : List DOp} {code : DC} {Q : Exit -> Fr -> St -> Prop} {f f' : Fr} {σ : St} (h : f = f') : aT5 C it m out nx more next pair rest code Q f σ = aT5 C it m out nx more next pair rest code Q f' σ := by rw [h]
def aMl (C:Cx) (code:DC) (out next:Nat) (J:Fr->St->Prop) (Q:Exit->Fr->St->Prop) (f:Fr) (σ:St):Prop:=wpS C code f σ (oW next (kA J (oW out Q)))
@[congr] theorem aEn {C : Cx} {code : DC} {out next : Nat} {J : Fr -> St -> Prop} {Q : Exit -> Fr -> St -> Prop} {f f' : Fr} {σ : St} (h : f = f') : aMl C code out next J Q f σ = aMl C code out next J Q f' σ := by rw [h]
def aNd (C:Cx) (k:DK) (K:Fr->D->St->Prop) (σ:St) (f1:Fr):Prop:=opX C σ (evO f1) k (K f1)
def eqF (f:Fr) (g:Fr):Prop:=g=f
def unK (C:Cx) (un:Bool) (mid:List DOp) (f1:Fr) (σ:St) (K:Fr->St->Prop) (σ1:St) (f2:Fr):Prop:=(if un=true then aOo C σ mid (eqF f2) f1 else True)/\ K f2 σ1
def bXj (C:Cx) (pre:List DOp) (dst:Option Nat) (mid:List DOp) (un:Bool) (post:List DOp) (Q:Exit->Fr->St->Prop) (f:Fr) (σ:St) (f1:Fr) (d:D) (σ1:St):Prop:= aOo C σ1 pre (eqF f1) f/\aOo C σ1 mid (unK C un mid (f1.put dst d) σ (aOp C post (iB Q)) σ1) (f1.put dst d)
theorem aBw {C:Cx} {pre:List DOp} {dst:Option Nat} {mid:List DOp} {un:Bool} {post:List DOp} {Q:Exit->Fr->St->Prop} {f:Fr} {σ:St} {f1:Fr} {d:D} {σ1:St} :
  bXj C pre dst mid un post Q f σ f1 d σ1=bX4 C pre dst mid un f σ (fun f σ=>pI C post f σ fun f σ=>Q .normal f σ) f1 d σ1:=by
 unfold bXj bX4;rw [mZ,mZ]
 have:unK C un mid (f1.put dst d) σ (aOp C post (iB Q)) σ1=fun f2=>(if un=true then tI C σ mid (f1.put dst d) (fun g=>g=f2) else True)/\ pI C post f2 σ1 fun f σ=>Q .normal f σ:=by funext f2;unfold unK;rw [mZ,fS];rfl
 rw [this];rfl
def wpX (C:Cx):DC->(Exit->Fr->St->Prop)->Fr->St->Prop
 | .skip,Q,f,σ=>Q .normal f σ
 | .reg pre post,Q,f,σ=>aOo C σ pre (aO9 C post Q σ) f
 | .aIh pre m mid un post,Q,f,σ=>aOo C σ pre (aNd C m.k (bXj C pre m.dst mid un post Q f σ) σ) f
 | .aEo pre m1 mid1 m2 mid2 post,Q,f,σ=>wpD C (.aEo pre m1 mid1 m2 mid2 post) f σ Q
 | .seq a b,Q,f,σ=>wpX C a (kA (wpX C b Q) Q) f σ
 | .cond c a b,Q,f,σ=>cdB (evO f c) (wpX C a Q f σ) (wpX C b Q f σ)
 | .block id c,Q,f,σ=>wpX C c (oW id Q) f σ
 | .loop c,Q,f,σ=>wpS C (.loop c) f σ Q
 | .aOn g ps a c,Q,f,σ=>wpS C (.aOn g ps a c) f σ Q
 | .aVr pre m1 mid1 m2 mid2 post free,Q,f,σ=>wpS C (.aVr pre m1 mid1 m2 mid2 post free) f σ Q
 | .aTx pre m mid un post fl,Q,f,σ=>wpS C (.aTx pre m mid un post fl) f σ Q
 | .exit id,Q,f,σ=>Q (.exit id) f σ
 | .ret,Q,f,σ=>Q .ret f σ
 | .rng ..,_,_,_=>False
 | .nxt ..,_,_,_=>False
 | .ent ..,_,_,_=>False
 | .aYs pre it m out nx more next pair rest code,Q,f,σ=>aOp C pre (aT5 C it m out nx more next pair rest code Q) f σ
theorem fY (C:Cx):∀ (dc:DC) (Q:Exit->Fr->St->Prop) (f:Fr) (σ:St),wpX C dc Q f σ=wpD C dc f σ Q
 | .skip,Q,f,σ=>rfl
 | .reg pre post,Q,f,σ=>by
  unfold wpX wpD;rw [mZ]
  have:aO9 C post Q σ=fun f=>pI C post f σ fun f σ=>Q .normal f σ:=by funext f;unfold aO9;rw [fS];rfl
  rw [this]
 | .aIh pre m mid un post,Q,f,σ=>by
  unfold wpX wpD;rw [mZ]
  have:aNd C m.k (bXj C pre m.dst mid un post Q f σ) σ=fun f1=>opV C σ (evO f1) m.k fun d σ1=>bX4 C pre m.dst mid un f σ (fun f σ=>pI C post f σ fun f σ=>Q .normal f σ) f1 d σ1:=by funext f1;unfold aNd;rw [aNm];congr 1;funext d σ1;exact aBw
  rw [this]
 | .aEo ..,Q,f,σ=>rfl
 | .seq a b,Q,f,σ=>by
  have ih:wpX C b Q=fun f σ=>wpD C b f σ Q:=by funext f σ; exact fY C b Q f σ
  unfold wpX;rw [fY C a,ih];rfl
 | .cond c a b,Q,f,σ=>by unfold wpX;rw [fY C a,fY C b];rfl
 | .block id c,Q,f,σ=>by unfold wpX; rw [fY C c]; rfl
 | .loop c,Q,f,σ=>rfl
 | .aOn g ps a c,Q,f,σ=>rfl
 | .aVr ..,Q,f,σ=>rfl
 | .aTx ..,Q,f,σ=>rfl
 | .exit id,Q,f,σ=>rfl
 | .ret,Q,f,σ=>rfl
 | .rng ..,_,_,_=>rfl
 | .nxt ..,_,_,_=>rfl
 | .ent ..,_,_,_=>rfl
 | .aYs pre it m out nx more next pair rest code,Q,f,σ=>by unfold wpX wpD; rw [fS]; rfl
noncomputable def aT4 {α:Sort u} (a:α):α:=Classical.choose (⟨a,rfl⟩:∃ b:α,b=a)
theorem fD {α:Sort u} (a:α):aT4 a=a:=Classical.choose_spec (⟨a,rfl⟩:∃ b:α,b=a)
noncomputable def aQa (C:Cx):List DOp->(Fr->St->Prop)->Fr->St->Prop:=aT4 (aOp C)
noncomputable def kG (C:Cx) (σ:St):List DOp->(Fr->Prop)->Fr->Prop:=aT4 (aOo C σ)
noncomputable def wpZ (C:Cx):DC->(Exit->Fr->St->Prop)->Fr->St->Prop:=aT4 (wpX C)
theorem jQ (C:Cx):aQa C=aOp C:=fD _
theorem mY (C:Cx) (σ:St):kG C σ=aOo C σ:=fD _
theorem sN (C:Cx):wpZ C=wpX C:=fD _
section
variable (C : Cx) (σ : St) (f : Fr) (Q : Exit -> Fr -> St -> Prop) (K : Fr -> St -> Prop) (K1 : Fr -> Prop) (a b c : DC) (dst : Option Nat) (g : Option (Nat × Bool)) (k : DK) (rest pre post : List DOp) (x : Opd) (id : Nat)
theorem aGl : aQa C [] K f σ=K f σ:=by rw [jQ]; rfl
theorem aKn : aQa C (⟨dst,g,k⟩ :: rest) K f σ=gd g f (opX C σ (evO f) k (bW8 f dst (aQa C rest K))) (aQa C rest K (f.put dst .und) σ):=by rw [jQ]; rfl
theorem aSv : kG C σ [] K1 f=K1 f:=by rw [mY]; rfl
theorem aKk : kG C σ (⟨dst,g,k⟩ :: rest) K1 f=gd g f (pX C σ (evO f) k (bW7 f dst (kG C σ rest K1))) (kG C σ rest K1 (f.put dst .und)):=by rw [mY]; rfl
def aIr (C:Cx) (post:List DOp) (Q:Exit->Fr->St->Prop) (σ:St) (f:Fr):Prop:=aQa C post (iB Q) f σ
theorem aIx : wpZ C .skip Q f σ=Q .normal f σ:=by rw [sN]; rfl
theorem aCe : wpZ C (.reg pre post) Q f σ=kG C σ pre (aIr C post Q σ) f:=by
 have e:aIr C post Q σ=aO9 C post Q σ:=by funext f; unfold aIr aO9; rw [jQ]
 rw [sN,mY,e]; rfl
def aJ (C:Cx) (k:DK) (K:Fr->D->St->Prop) (σ:St) (f1:Fr):Prop:=opX C σ (evO f1) k (K f1)
def unZ (C:Cx) (un:Bool) (mid:List DOp) (f1:Fr) (σ:St) (K:Fr->St->Prop) (σ1:St) (f2:Fr):Prop:=(if un=true then kG C σ mid (eqF f2) f1 else True)/\ K f2 σ1
def bWs (C:Cx) (pre:List DOp) (dst:Option Nat) (mid:List DOp) (un:Bool) (post:List DOp) (Q:Exit->Fr->St->Prop) (f:Fr) (σ:St) (f1:Fr) (d:D) (σ1:St):Prop:= kG C σ1 pre (eqF f1) f/\kG C σ1 mid (unZ C un mid (f1.put dst d) σ (aQa C post (iB Q)) σ1) (f1.put dst d)
theorem aI0 {mid:List DOp} {un:Bool}:wpZ C (.aIh pre ⟨dst,g,k⟩ mid un post) Q f σ=kG C σ pre (aJ C k (bWs C pre dst mid un post Q f σ) σ) f:=by
 have e:aJ C k (bWs C pre dst mid un post Q f σ) σ=aNd C k (bXj C pre dst mid un post Q f σ) σ:=by
  funext f1;unfold aJ aNd;congr 1;funext d σ1;unfold bWs bXj
  have e2:unZ C un mid (f1.put dst d) σ (aQa C post (iB Q)) σ1=unK C un mid (f1.put dst d) σ (aOp C post (iB Q)) σ1:=by funext f2; unfold unZ unK; rw [jQ,mY]
  rw [e2,mY]
 rw [sN,mY,e]; rfl
theorem aFz (f:Fr):eqF f f=True:=eq_true rfl
theorem aCc : wpZ C (.seq a b) Q f σ=wpZ C a (kA (wpZ C b Q) Q) f σ:=by rw [sN]; rfl
theorem aI3 : wpZ C (.cond x a b) Q f σ=cdB (evO f x) (wpZ C a Q f σ) (wpZ C b Q f σ):=by rw [sN]; rfl
theorem aLl : wpZ C (.block id c) Q f σ=wpZ C c (oW id Q) f σ:=by rw [sN]; rfl
theorem aI1 : wpZ C (.loop c) Q f σ=wpS C (.loop c) f σ Q:=by rw [sN]; rfl
theorem aIy {g:Opd} {ps:List Nat}:wpZ C (.aOn g ps a c) Q f σ=wpS C (.aOn g ps a c) f σ Q:=by rw [sN]; rfl
theorem aI2 : wpZ C (.exit id) Q f σ=Q (.exit id) f σ:=by rw [sN]; rfl
theorem aCd : wpZ C .ret Q f σ=Q .ret f σ:=by rw [sN]; rfl
theorem aLk {it:Nat} {m:Opd} {out nx more next pair:Nat} {rst:List DOp} {code:DC}:wpZ C (.aYs pre it m out nx more next pair rst code) Q f σ=aQa C pre (aT5 C it m out nx more next pair rst code Q) f σ:=by rw [sN,jQ]; rfl
end
theorem xP {C:Cx} (hm:C.P.follows .mixedOrders=true) {dc:DC} {f:Fr} {σ:St} {Q:Exit->Fr->St->Prop} (h:wpZ C dc Q f σ):wpS C dc f σ Q:= aEv hm (by rw [<- fY,<- sN]; exact h)
theorem xX.xQ {P:Program} {g:FuncId} {fn:Func} {own:List Nat} {N:Nat} {dc:DC} {rs:List yR} {args:List D} {σ:St} {d:D} {σ':St} (hm:P.follows .mixedOrders=true) (hf:P.funcs[g]?=some fn)
  (hc:xT P own fn=some (N,dc,rs)) (hla:args.length<=N)
  (h:D.sO args->wpZ ⟨P,N,σ.nx,own,none⟩ dc (aNe ⟨P,N,σ.nx,own,none⟩ rs d σ') (fX 0 args) σ):xX P g args σ d σ':=
 xX.bVw hm hf hc hla fun hfa=>by rw [<- fY,<- sN]; exact h hfa
end Go.Pd
namespace Go.Pd
open Go
theorem aYa (s:BitVec 64) (w:Nat):s >>> w &&& 1#64=if s.getLsbD w then 1#64 else 0#64:=by
 apply BitVec.eq_of_toNat_eq;rw [BitVec.toNat_and,BitVec.toNat_ushiftRight];have:(1#64).toNat=1:=rfl;rw [this,Nat.and_one_is_mod];unfold BitVec.getLsbD;rw [Nat.testBit_eq_decide_div_mod_eq,Nat.shiftRight_eq_div_pow]
 by_cases h:s.toNat / 2 ^ w % 2=1
 ·simp [h]
 ·simp [h]; omega
theorem aV7 {k:Nat} (hk:k<62):aIb .i64 1 k=((2 ^ k:Nat):Int):=by
 have hp:2 ^ k<2 ^ 62:=Nat.pow_lt_pow_right (by omega) hk;unfold aIb
 have e:min (k:Int).toNat IntKind.i64.bits=k:=by have:IntKind.i64.bits=64:=rfl;rw [this,Int.toNat_natCast]; omega
 rw [e,Int.one_mul,wrap_i64]
 ·simp
 ·have:((2:Int)^ k)= ((2 ^ k:Nat):Int):=by simp
  rw [this];exact⟨Int.le_trans (by decide) (Int.natCast_nonneg _),Int.le_trans (Int.ofNat_le.2 (Nat.le_of_lt hp)) (by decide)⟩
theorem or_zero {a k:Nat} (h:a<2 ^ k) (hk:k<62):rB .or .i64 (a:Int) (aIb .i64 0 k)= (a:Int):=by
 have hp:2 ^ k<2 ^ 62:=Nat.pow_lt_pow_right (by omega) hk
 have e1:aIb .i64 0 k=0:=by unfold aIb;rw [Int.zero_mul]; rfl
 rw [e1];show IntKind.i64.wrap ((BitVec.ofInt 64 (a:Int) ||| BitVec.ofInt 64 0).toNat:Int)= _;rw [BitVec.ofInt_natCast,BitVec.toNat_or,BitVec.toNat_ofNat,Nat.mod_eq_of_lt (by omega)];have:(BitVec.ofInt 64 0).toNat=0:=rfl;rw [this,Nat.or_zero];exact wrap_i64 (by omega)
end Go.Pd
namespace Go.Pd
open Go
theorem zM (key sz:Nat):xA key sz [] = .xL:=rfl
theorem aX (key sz:Nat) (e:List D) (r:List (List D)):xA key sz (e :: r)= .osl key sz (r.length+1):=rfl
theorem zN (key sz:Nat):yY key sz [] = []:=rfl
theorem bA (key sz:Nat) (e:List D) (r:List (List D)):yY key sz (e :: r)= [(key,⟨sz,e :: r⟩)]:=rfl
theorem oF (k:IntKind):rows k [] = []:=rfl
theorem fC (k:IntKind) (n:Int) (l:List Int):rows k (n :: l)= [.int k n] :: rows k l:=rfl
theorem aZl (k:IntKind) (l:List Int) (n:Int):rows k l ++ [[.int k n]]=rows k (l ++ [n]):=by simp [rows]
theorem aV8 (l:List (List (BitVec 64))) (r:List (BitVec 64)):rr l ++ [[.sl 1 (us r)]]=rr (l ++ [r]):=by simp [rr,bXe]
theorem aEz : rr [] = []:=rfl
theorem aN7 (l:List (BitVec 64)) (r:List (List (BitVec 64))):rr (l :: r)= [.sl 1 (us l)] :: rr r:=rfl
variable [rV]
theorem aJd {key m n sz:Nat} {els:List (List D)} (hs:0<sz) (hp:∀ e ∈ els,D.xV e=true) {ρ:Nat->Nat}:vw ⟨m,yY key sz els⟩ ⟨n,[]⟩ ρ (xA key sz els) (.sl sz els):=by
 cases els with
 | nil=>simp [xA,vw]
 | cons e r=> simp only [xA,yY,vw];refine⟨trivial,hs,by simp,⟨sz,e :: r⟩,by simp [St.get,St.look],rfl,Nat.le_refl _,by simp,hp⟩
theorem nC.name {n0 n m sz j:Nat} {els:List (List D)} {d d':D} (hn:n0<=n) (hp:∀ e ∈ els,D.xV e=true) (hv:vw ⟨m,[(j,⟨sz,els⟩)]⟩ ⟨n+1,[(n,⟨sz,els⟩)]⟩ (fun k=>if k=n then j else k) d d'):nC n0 ⟨m,[(j,⟨sz,els⟩)]⟩ d ⟨n+1,[(n,⟨sz,els⟩)]⟩ d':=by
 refine .inr ⟨fun k=>if k=n then j else k,by show n0<=n+1; omega,fun k hk=>if_neg (by omega),hv,?_,?_⟩
 ·intro p hp';simp only [List.mem_singleton] at hp';subst hp';exact⟨Nat.lt_succ_self n,⟨sz,els⟩,by simp [St.get,St.look],rfl,.same hp⟩
 ·intro p hp' q hq' _;simp only [List.mem_singleton] at hp' hq';rw [hp',hq']
end Go.Pd
namespace Go.Pd
open Go
def vL (sz:Nat):List (List D)->Option Ob
 | []=>none
 | e :: r=>some ⟨sz,e :: r⟩
theorem yG {k s:Nat} {els:List (List D)} {r:List (Nat × Ob)} {k':Nat}:St.look (yY k s els++r) k'=if k=k' then(vL s els).or (St.look r k') else St.look r k':=by
 cases els with
 | nil=>simp [yY,vL]
 | cons e l=>simp [yY,vL,St.look]
theorem dQ {k s:Nat} {els:List (List D)} {k':Nat}:St.look (yY k s els) k'=if k=k' then vL s els else none:=by have:=yG (k:=k) (s:=s) (els:=els) (r:=[]) (k':=k');simp only [List.append_nil,St.look,Option.or_none] at this;exact this
theorem cX {k s:Nat} {els:List (List D)} {r:List (Nat × Ob)} {k':Nat}:yF (yY k s els++r) k'=if k=k' then yF r k' else yY k s els++yF r k':=by
 cases els with
 | nil=>simp [yY]
 | cons e l=>simp [yY,yF]
theorem aVf {k s:Nat} {els:List (List D)} {k':Nat}:yF (yY k s els) k'=if k=k' then [] else yY k s els:=by have:=cX (k:=k) (s:=s) (els:=els) (r:=[]) (k':=k');simp only [List.append_nil,yF] at this;exact this
theorem aSk : ∀ {r:List (Nat × Ob)} {k:Nat} {o:Ob},St.look r k=none->vH r k o=r
 | [],_,_,_=>rfl
 | (j,o') :: r,k,o,h=>by
  simp only [St.look] at h
  split at h
  ·cases h
  ·rename_i hn;simp only [vH,if_neg hn,aSk h]
theorem aV : ∀ {r:List (Nat × Ob)} {k:Nat},St.look r k=none->yF r k=r
 | [],_,_=>rfl
 | (j,o') :: r,k,h=>by
  simp only [St.look] at h
  split at h
  ·cases h
  ·rename_i hn;simp only [yF,if_neg hn,aV h]
theorem aZh {k s:Nat} {els els':List (List D)} {r:List (Nat × Ob)} (hl:els'.length=els.length) (h:St.look r k=none):vH (yY k s els++r) k ⟨s,els'⟩= yY k s els'++r:=by
 cases els with
 | nil=> have:els' = []:=List.eq_nil_of_length_eq_zero (by simpa using hl);subst this;simp only [yY,List.nil_append];exact aSk h
 | cons e l=>
  cases els' with
  | nil=>simp at hl
  | cons e' l'=>simp [yY,vH]
theorem bP {k s:Nat} {els els':List (List D)} (hl:els'.length=els.length):vH (yY k s els) k ⟨s,els'⟩= yY k s els':=by have:=aZh (k:=k) (s:=s) (r:=[]) hl rfl;simp only [List.append_nil] at this;exact this
theorem aW6 {k s:Nat} {els:List (List D)} {r:List (Nat × Ob)} {k':Nat} {o:Ob} (h:k≠k'):vH (yY k s els++r) k' o=yY k s els++vH r k' o:=by
 cases els with
 | nil=>simp [yY]
 | cons e l=>simp [yY,vH,h]
theorem aTo (k s:Nat) (els:List (List D)):(xA k s els).cells=some [xA k s els]:=by cases els <;> rfl
theorem aKq (k s:Nat) (els:List (List D)):(xA k s els).one=true:=by cases els <;> rfl
theorem aJv (k s n:Nat):(D.osl k s n).cells=some [.osl k s n]:=rfl
theorem aJr (k s l n:Nat):(D.sub k s l n).cells=some [.sub k s l n]:=rfl
theorem aJw (k:IntKind) (n:Int):(D.int k n).cells=some [.int k n]:=rfl
theorem aOe (b:Bool):(D.bool b).cells=some [.bool b]:=rfl
theorem aJs (s:ByteArray):(D.str s).cells=some [.str s]:=rfl
theorem aF8 (sz:Nat) (els:List (List D)):(D.sl sz els).cells=some [.sl sz els]:=rfl
theorem aP9 : D.xL.cells=some [.xL]:=rfl
theorem aJx : D.emp.cells=some [.emp]:=rfl
theorem aJy (cs:List D):(D.agg cs).cells=some cs:=rfl
theorem aF9 (f:FuncId) (cs:List D):(D.fn f cs).cells=some [.fn f cs]:=rfl
theorem aJt (a b c d:Nat):(D.ref a b c d).cells=some [.ref a b c d]:=rfl
theorem aJu (cs:List D):(D.ptr cs).cells=some [.ptr cs]:=rfl
theorem aOd (k:Nat):(D.vC k).cells=some [.vC k]:=rfl
theorem aOa : D.nK.cells=some [.nK]:=rfl
theorem aOb : D.kC.cells=some [.kC]:=rfl
theorem aOc : D.gF.cells=some [.gF]:=rfl
theorem aBh (k:IntKind) (n:Int):(D.int k n).one=true:=rfl
theorem aGs (b:Bool):(D.bool b).one=true:=rfl
theorem aBb (s:ByteArray):(D.str s).one=true:=rfl
theorem bZf (sz:Nat) (els:List (List D)):(D.sl sz els).one=true:=rfl
theorem aGn : D.xL.one=true:=rfl
theorem aBi : D.emp.one=true:=rfl
theorem bZh (f:FuncId) (cs:List D):(D.fn f cs).one=true:=rfl
theorem aBd (a b c d:Nat):(D.ref a b c d).one=true:=rfl
theorem aBg (a b c:Nat):(D.osl a b c).one=true:=rfl
theorem aBe (cs:List D):(D.ptr cs).one=true:=rfl
theorem aGr (k:Nat):(D.vC k).one=true:=rfl
theorem aGo : D.nK.one=true:=rfl
theorem aGp : D.kC.one=true:=rfl
theorem aGq : D.gF.one=true:=rfl
section
variable [rV]
theorem aJ6 {q:Bool} {σ:St} {sz bytes key:Nat} {els:List (List D)} {rw:List (List D)} {K:D->St->Prop} (h:σ.get key=vL sz els) (h0:rw ≠ []) :
  aQf q σ sz bytes (xA key sz els) (some rw) K=((∀ r ∈ rw,wD r=true)/\ (els.length+rw.length)* bytes<=140737488355328/\els.length+rw.length<=8000000000000 /\
   K (xA σ.nx sz (els++rw)) ⟨σ.nx+1,yY σ.nx sz (els++rw)++ yF σ.xS key⟩):=by
 cases els with
 | nil=>
  obtain⟨r,rs,rfl⟩:∃ r rs,rw=r :: rs:=by cases rw with | nil=>exact absurd rfl h0 | cons r rs=>exact⟨r,rs,rfl⟩
  have he:yF σ.xS key=σ.xS:=aV h;simp only [aQf,xA,yY,St.new,he,List.nil_append,List.length_nil,Nat.zero_add];simp
 | cons e l=>
  have e1:l.length+1+rw.length=l.length+rw.length+1:=by omega
  simp only [aQf,xA,h,vL,St.erase,St.new,yY];simp [xA,yY,e1]
theorem aOh {q:Bool} {nx:Nat} {xS:List (Nat × Ob)} {sz bytes key:Nat} {els:List (List D)} {r:List D} {rs:List (List D)} {K:D->St->Prop} (h:St.look xS key=vL sz els) :
  aQf q ⟨nx,xS⟩ sz bytes (xA key sz els) (some (r :: rs)) K=((∀ x ∈ r :: rs,wD x=true)/\ (els.length+(r :: rs).length)* bytes<=140737488355328/\els.length+(r :: rs).length<=8000000000000 /\
   K (xA nx sz (els++r :: rs)) ⟨nx+1,yY nx sz (els++r :: rs)++ yF xS key⟩):=aJ6 h (by simp)
theorem aEj {q:Bool} {σ:St} {sz bytes:Nat} {r:List D} {rs:List (List D)} {K:D->St->Prop} :
  aQf q σ sz bytes .xL (some (r :: rs)) K=((∀ x ∈ r :: rs,wD x=true)/\ (r :: rs).length*bytes<=140737488355328/\(r :: rs).length<=8000000000000/\K (.osl σ.nx sz (r :: rs).length) (σ.new ⟨sz,r :: rs⟩)):=by
 simp [aQf]
theorem aEi {q:Bool} {σ:St} {sz sz' bytes key n:Nat} {rows:List (List D)} {K:D->St->Prop} :
  aQf q σ sz bytes (.osl key sz' n) (some rows) K=((∀ x ∈ rows,wD x=true)/\ match σ.get key with
   | some ob=>sz=sz'/\ob.sz=sz/\n<=ob.els.length/\(n+rows.length)* bytes<=140737488355328/\n+rows.length<=8000000000000/\K (.osl σ.nx sz (n+rows.length)) ((σ.erase key).new ⟨sz,ob.els.take n++rows⟩)
   | none=>False):=rfl
def aDp (nx:Nat) (xS:List (Nat × Ob)) (n key sz i off:Nat) (ds:List D) (K:D->St->Prop):Option Ob->Prop
 | some ob=>ob.sz=sz/\i<ob.els.length/\ds.length=n/\off+n<=sz/\wD ds=true/\K .und ⟨nx,vH xS key ⟨sz,ob.els.set i (cF (ob.els.getD i []) off ds)⟩⟩
 | none=>False
@[congr] theorem bXt {nx : Nat} {xS : List (Nat × Ob)} {n key sz i off : Nat} {ds : List D} {K : D -> St -> Prop} {o o' : Option Ob} (h : o = o') : aDp nx xS n key sz i off ds K o = aDp nx xS n key sz i off ds K o' := by rw [h]
theorem aHl {nx:Nat} {xS:List (Nat × Ob)} {n key sz i off:Nat} {ds:List D} {K:D->St->Prop}:bXz ⟨nx,xS⟩ n (.ref key sz i off) (some ds) K=aDp nx xS n key sz i off ds K (St.look xS key):=by simp only [bXz,St.get];cases St.look xS key <;> rfl
theorem aLw {nx:Nat} {xS:List (Nat × Ob)} {n key sz i off:Nat} {ds:List D} {K:D->St->Prop} {sz':Nat} {els:List (List D)} :
  aDp nx xS n key sz i off ds K (some ⟨sz',els⟩)= (sz'=sz/\i<els.length/\ds.length=n/\off+n<=sz/\wD ds=true/\K .und ⟨nx,vH xS key ⟨sz,els.set i (cF (els.getD i []) off ds)⟩⟩):=rfl
theorem aLx {nx:Nat} {xS:List (Nat × Ob)} {n key sz i off:Nat} {ds:List D} {K:D->St->Prop} {els:List (List D)} :
  aDp nx xS n key sz i off ds K (vL sz els)= (i<els.length/\ds.length=n/\off+n<=sz/\wD ds=true/\K .und ⟨nx,vH xS key ⟨sz,els.set i (cF (els.getD i []) off ds)⟩⟩):=by
 cases els with
 | nil=>simp [aDp,vL]
 | cons e l=>simp [aDp,vL]
def aVy (n:Nat) (ag:Bool) (sz i off:Nat) (K:D->Prop):Option Ob->Prop
 | some o=>o.sz=sz/\i<o.els.length/\off+n<=sz/\(ag=true\/n=1)/\ K (qF ag (((o.els.getD i []).drop off).take n))
 | none=>False
@[congr] theorem aA9 {n sz i off : Nat} {ag : Bool} {K : D -> Prop} {o o' : Option Ob} (h : o = o') : aVy n ag sz i off K o = aVy n ag sz i off K o' := by rw [h]
theorem aK1 {nx:Nat} {xS:List (Nat × Ob)} {n key sz i off:Nat} {ag:Bool} {K:D->Prop}:aQr ⟨nx,xS⟩ n ag (.ref key sz i off) K=aVy n ag sz i off K (St.look xS key):=by simp only [aQr,St.get];cases St.look xS key <;> rfl
theorem aPo {n sz i off:Nat} {ag:Bool} {K:D->Prop} {sz':Nat} {els:List (List D)}:aVy n ag sz i off K (some ⟨sz',els⟩)= (sz'=sz/\i<els.length/\off+n<=sz/\(ag=true\/n=1)/\ K (qF ag (((els.getD i []).drop off).take n))):=rfl
theorem aPp {n sz i off:Nat} {ag:Bool} {K:D->Prop} {els:List (List D)}:aVy n ag sz i off K (vL sz els)= (i<els.length/\off+n<=sz/\(ag=true\/n=1)/\ K (qF ag (((els.getD i []).drop off).take n))):=by
 cases els with
 | nil=>simp [aVy,vL]
 | cons e l=>simp [aVy,vL]
theorem aK2 {σ:St} {n:Nat} {ag:Bool} {cs:List D} {K:D->Prop}:aQr σ n ag (.ptr cs) K=(n<=cs.length/\(ag=true\/n=1)/\ K (qF ag (cs.take n))):=rfl
def cR (kk:IntKind) (l:List (Int × D)):List (List D):=l.map fun p=>[.int kk p.1,p.2]
def uC (x:Int):List (Int × D)->Nat->Option (Nat × D)
 | [],_=>none
 | (m,d) :: r,i=>if x=m then some (i,d) else uC x r (i+1)
def aEt (l:List (Int × D)) (x:Int) (d:D):List (Int × D):=
 match uC x l 0 with
 | some (i,_)=>l.set i (x,d)
 | none=>l ++ [(x,d)]
theorem aG4 (kk:IntKind):cR kk [] = []:=rfl
theorem bB (kk:IntKind) (l:List (Int × D)):iA kk (cR kk l):=by intro row h;simp only [cR,List.mem_map] at h;obtain⟨p,_,rfl⟩:=h;exact⟨_,_,rfl⟩
theorem jC (kk:IntKind) (x:Int):∀ (l:List (Int × D)) (i:Nat),pB x (cR kk l) i=uC x l i
 | [],_=>rfl
 | (m,d) :: r,i=>by show pB x ([.int kk m,d] :: cR kk r) i=_;rw [pB,uC,jC kk x r (i+1)]
theorem aPj (kk:IntKind) (l:List (Int × D)) (x:Int) (d:D):aVx kk (cR kk l) x d=cR kk (aEt l x d):=by
 unfold aVx aEt;rw [jC]
 cases uC x l 0 with
 | none=>simp [cR]
 | some p=>simp [cR,List.map_set]
theorem gL : ∀ {a b:List Int},a.map (D.int .i64)= b.map (D.int .i64)->a=b
 | [],[],_=>rfl
 | [],_ :: _,h=>by simp at h
 | _ :: _,[],h=>by simp at h
 | x :: a,y :: b,h=>by simp only [List.map_cons,List.cons.injEq,D.int.injEq,true_and] at h;rw [h.1,gL h.2]
theorem aYc : ∀ {a b:List (List Int × D)},pC a=pC b->a=b
 | [],[],_=>rfl
 | [],_ :: _,h=>by simp [pC] at h
 | _ :: _,[],h=>by simp [pC] at h
 | (x,d) :: a,(y,e) :: b,h=>by simp only [pC,List.map_cons,List.cons.injEq,D.agg.injEq,and_true] at h;obtain⟨⟨h1,h2⟩,h3⟩:=h;rw [gL h1,h2,aYc (a:=a) (b:=b) h3]
theorem eP {nx:Nat} {xS:List (Nat × Ob)} {n:Nat} {zero:D} {ok:Bool} {key:Nat} {x:List Int} {l:List (List Int × D)} {cs:List D} {K:D->Prop} (hg:St.look xS key=some ⟨0,pC l⟩) (hc:cs=x.map (D.int .i64)) (hx:x.length=n) (hl:∀ p ∈ l,p.1.length=n) :
  iM ⟨nx,xS⟩ n zero ok (.vC key) (.agg cs) K=K (iE ok zero (oV x l 0)):=by
 subst hc;simp only [iM,St.get,hg];refine propext ⟨fun h=>?_,fun h=>⟨trivial,x,l,⟨rfl,rfl,hx,hl⟩,h⟩⟩;obtain⟨_,x',l',⟨h1,h2,_,_⟩,h3⟩:=h;rw [gL h1,aYc h2]; exact h3
theorem aPh {nx:Nat} {xS:List (Nat × Ob)} {n:Nat} {key:Nat} {y:List Int} {l:List (List Int × D)} {cs:List D} {x:D} {K:D->St->Prop} (hg:St.look xS key=some ⟨0,pC l⟩) (hc:cs=y.map (D.int .i64)) (hx:y.length=n) (hl:∀ p ∈ l,p.1.length=n) :
  lV ⟨nx,xS⟩ n (.vC key) (.agg cs) x K=K .und ⟨nx,vH xS key ⟨0,pC (aH y x l)⟩⟩:=by
 subst hc;simp only [lV,St.get,hg,St.set];refine propext ⟨fun h=>?_,fun h=>⟨trivial,y,l,⟨rfl,rfl,hx,hl⟩,h⟩⟩;obtain⟨_,x',l',⟨h1,h2,_,_⟩,h3⟩:=h;rw [gL h1,aYc h2]; exact h3
theorem eT {nx:Nat} {xS:List (Nat × Ob)} {n:Nat} {key:Nat} {y:List Int} {l:List (List Int × D)} {cs:List D} {x:D} {K:D->St->Prop} (hg:St.look xS key=some ⟨0,pC l⟩) (hc:cs=y.map (D.int .i64)) (hx:y.length=n) (hl:∀ p ∈ l,p.1.length=n) (hno:oV y l 0=none) :
  lV ⟨nx,xS⟩ n (.vC key) (.agg cs) x K=K .und ⟨nx,vH xS key ⟨0,pC (l ++ [(y,x)])⟩⟩:=by
 rw [aPh hg hc hx hl,show aH y x l=l ++ [(y,x)] by unfold aH; rw [hno]]
def aQq (kk:IntKind) (x:Int) (zero:D) (ok:Bool) (K:D->Prop):Option Ob->Prop
 | some o=>o.sz=0/\iA kk o.els/\K (iE ok zero (pB x o.els 0))
 | none=>False
@[congr] theorem aA6 {kk : IntKind} {x : Int} {zero : D} {ok : Bool} {K : D -> Prop} {o o' : Option Ob} (h : o = o') : aQq kk x zero ok K o = aQq kk x zero ok K o' := by rw [h]
theorem aPn {nx:Nat} {xS:List (Nat × Ob)} {zero:D} {ok:Bool} {key:Nat} {kk:IntKind} {x:Int} {K:D->Prop}:aQp ⟨nx,xS⟩ zero ok (.vC key) (.int kk x) K=aQq kk x zero ok K (St.look xS key):=by simp only [aQp,St.get];cases St.look xS key <;> rfl
theorem aPm {σ:St} {zero:D} {ok:Bool} {kk:IntKind} {x:Int} {K:D->Prop}:aQp σ zero ok .kC (.int kk x) K=K (iE ok zero none):=rfl
theorem bH {kk:IntKind} {x:Int} {zero:D} {ok:Bool} {K:D->Prop} {l:List (Int × D)}:aQq kk x zero ok K (some ⟨0,cR kk l⟩)= K (iE ok zero (uC x l 0)):=by simp only [aQq,jC];exact propext ⟨fun h=>h.2.2,fun h=>⟨trivial,bB kk l,h⟩⟩
theorem aK0 {kk:IntKind} {x:Int} {zero:D} {ok:Bool} {K:D->Prop}:aQq kk x zero ok K (some ⟨0,[]⟩)= K (iE ok zero none):=bH (l:=[])
def aQm (nx:Nat) (xS:List (Nat × Ob)) (key:Nat) (kk:IntKind) (y:Int) (x:D) (K:D->St->Prop):Option Ob->Prop
 | some o=>o.sz=0/\iA kk o.els/\K .und ⟨nx,vH xS key ⟨0,aVx kk o.els y x⟩⟩
 | none=>False
@[congr] theorem aA4 {nx : Nat} {xS : List (Nat × Ob)} {key : Nat} {kk : IntKind} {y : Int} {x : D} {K : D -> St -> Prop} {o o' : Option Ob} (h : o = o') : aQm nx xS key kk y x K o = aQm nx xS key kk y x K o' := by rw [h]
theorem aPi {nx:Nat} {xS:List (Nat × Ob)} {key:Nat} {kk:IntKind} {y:Int} {x:D} {K:D->St->Prop}:aNa ⟨nx,xS⟩ (.vC key) (.int kk y) x K=aQm nx xS key kk y x K (St.look xS key):=by simp only [aNa,St.get];cases St.look xS key <;> rfl
theorem bK {nx:Nat} {xS:List (Nat × Ob)} {key:Nat} {kk:IntKind} {y:Int} {x:D} {K:D->St->Prop} {l:List (Int × D)}:aQm nx xS key kk y x K (some ⟨0,cR kk l⟩)= K .und ⟨nx,vH xS key ⟨0,cR kk (aEt l y x)⟩⟩:=by simp only [aQm,aPj];exact propext ⟨fun h=>h.2.2,fun h=>⟨trivial,bB kk l,h⟩⟩
theorem aKw {nx:Nat} {xS:List (Nat × Ob)} {key:Nat} {kk:IntKind} {y:Int} {x:D} {K:D->St->Prop}:aQm nx xS key kk y x K (some ⟨0,[]⟩)= K .und ⟨nx,vH xS key ⟨0,cR kk [(y,x)]⟩⟩:=bK (l:=[])
theorem aKv (zero:D):iE true zero none = .tup [zero,.bool false]:=rfl
theorem aKu (zero:D) (i:Nat) (d:D):iE true zero (some (i,d))= .tup [d,.bool true]:=rfl
theorem aPg (zero:D):iE false zero none=zero:=rfl
theorem aPf (zero:D) (i:Nat) (d:D):iE false zero (some (i,d))= d:=rfl
theorem aBy {sz:Nat} {els:List (List D)} {K:D->Prop}:aId (.sl sz els) K=K (.int .i64 els.length):=rfl
theorem aFj {k sz n:Nat} {K:D->Prop}:aId (.osl k sz n) K=K (.int .i64 n):=rfl
theorem aFi {k sz lo n:Nat} {K:D->Prop}:aId (.sub k sz lo n) K=K (.int .i64 n):=rfl
theorem aFn {sz key sz' lo len:Nat} {k:IntKind} {n:Int} {K:D->Prop}:aIj sz (.sub key sz' lo len) (.int k n) K=(sz=sz'/\0<=n/\n<len/\K (.ref key sz (lo+n.toNat) 0)):=rfl
theorem aK4 {K:D->Prop}:aId .xL K=K (.int .i64 0):=rfl
theorem aFk {K:D->Prop}:aId .emp K=K (.int .i64 0):=rfl
theorem aB7 {sz sz':Nat} {els:List (List D)} {k:IntKind} {n:Int} {K:D->Prop}:aIj sz (.sl sz' els) (.int k n) K=(sz=sz'/\0<=n/\n<els.length/\K (.ptr (els.getD n.toNat []))):=rfl
theorem aFo {sz key sz' len:Nat} {k:IntKind} {n:Int} {K:D->Prop}:aIj sz (.osl key sz' len) (.int k n) K=(sz=sz'/\0<=n/\n<len/\K (.ref key sz n.toNat 0)):=rfl
theorem aG1 {neg:Bool} {K:D->Prop}:oX neg .xL .xL K=K (.bool (!neg)):=rfl
theorem aG0 {neg:Bool} {K:D->Prop} {a b c:Nat}:oX neg (.osl a b c) .xL K=K (.bool neg):=rfl
theorem aGz {neg:Bool} {K:D->Prop} {a b c:Nat}:oX neg .xL (.osl a b c) K=K (.bool neg):=rfl
theorem aGy {neg:Bool} {K:D->Prop}:oX neg .emp .xL K=K (.bool neg):=rfl
theorem aGx {neg:Bool} {K:D->Prop}:oX neg .xL .emp K=K (.bool neg):=rfl
theorem aGw {neg:Bool} {K:D->Prop} {sz:Nat} {e:List D} {r:List (List D)}:oX neg (.sl sz (e :: r)) .xL K=K (.bool neg):=rfl
def bW1 (nx:Nat) (xS:List (Nat × Ob)) (sz sz' bytes key n:Nat) (rows:List (List D)) (K:D->St->Prop):Option Ob->Prop
 | some ob=>sz=sz'/\ob.sz=sz/\n<=ob.els.length/\(n+rows.length)* bytes<=140737488355328/\n+rows.length<=8000000000000/\K (.osl nx sz (n+rows.length)) ⟨nx+1,(nx,⟨sz,ob.els.take n++rows⟩) :: yF xS key⟩
 | none=>False
@[congr] theorem bXy {nx : Nat} {xS : List (Nat × Ob)} {sz sz' bytes key n : Nat} {rows : List (List D)} {K : D -> St -> Prop} {o o' : Option Ob} (h : o = o') : bW1 nx xS sz sz' bytes key n rows K o = bW1 nx xS sz sz' bytes key n rows K o' := by rw [h]
theorem aJ5 {q:Bool} {nx:Nat} {xS:List (Nat × Ob)} {sz sz' bytes key n:Nat} {rows:List (List D)} {K:D->St->Prop} :
  aQf q ⟨nx,xS⟩ sz bytes (.osl key sz' n) (some rows) K=((∀ x ∈ rows,wD x=true)/\ bW1 nx xS sz sz' bytes key n rows K (St.look xS key)):=by
 rw [aEi];simp only [St.get];cases St.look xS key <;> rfl
theorem aJ7 {nx:Nat} {xS:List (Nat × Ob)} {sz sz' bytes key n:Nat} {rows:List (List D)} {K:D->St->Prop} {sz0:Nat} {els:List (List D)} :
  bW1 nx xS sz sz' bytes key n rows K (some ⟨sz0,els⟩)= (sz=sz'/\sz0=sz/\n<=els.length/\(n+rows.length)* bytes<=140737488355328/\n+rows.length<=8000000000000/\K (.osl nx sz (n+rows.length)) ⟨nx+1,(nx,⟨sz,els.take n++rows⟩) :: yF xS key⟩):=rfl
def aIw (q:Bool) (nx:Nat) (xS:List (Nat × Ob)) (sz sz' bytes key lo n:Nat) (rows:List (List D)) (K:D->St->Prop):Option Ob->Prop
 | some ob=>q=true/\sz=sz'/\ob.sz=sz/\lo+n<=ob.els.length/\(n+rows.length)* bytes<=140737488355328/\n+rows.length<=8000000000000 /\
  ∀ pre:List (List D),(pre = []\/pre=ob.els.take lo)->K (.sub nx sz pre.length (n+rows.length)) ⟨nx+1,(nx,⟨sz,pre++((ob.els.drop lo).take n++rows)⟩) :: yF xS key⟩
 | none=>False
@[congr] theorem bXd {q : Bool} {nx : Nat} {xS : List (Nat × Ob)} {sz sz' bytes key lo n : Nat} {rows : List (List D)} {K : D -> St -> Prop} {o o' : Option Ob} (h : o = o') : aIw q nx xS sz sz' bytes key lo n rows K o = aIw q nx xS sz sz' bytes key lo n rows K o' := by rw [h]
theorem aJ4 {q:Bool} {nx:Nat} {xS:List (Nat × Ob)} {sz sz' bytes key lo n:Nat} {rows:List (List D)} {K:D->St->Prop} :
  aQf q ⟨nx,xS⟩ sz bytes (.sub key sz' lo n) (some rows) K=((∀ x ∈ rows,wD x=true)/\ aIw q nx xS sz sz' bytes key lo n rows K (St.look xS key)):=by
 simp only [aQf,St.get];cases St.look xS key <;> rfl
theorem aOi {q:Bool} {nx:Nat} {xS:List (Nat × Ob)} {sz sz' bytes key lo n:Nat} {rows:List (List D)} {K:D->St->Prop} {sz0:Nat} {els:List (List D)} :
  aIw q nx xS sz sz' bytes key lo n rows K (some ⟨sz0,els⟩)= (q=true/\sz=sz'/\sz0=sz/\lo+n<=els.length/\(n+rows.length)* bytes<=140737488355328/\n+rows.length<=8000000000000 /\
   ∀ pre:List (List D),(pre = []\/pre=els.take lo)->K (.sub nx sz pre.length (n+rows.length)) ⟨nx+1,(nx,⟨sz,pre++((els.drop lo).take n++rows)⟩) :: yF xS key⟩):=rfl
theorem aK5 {key sz:Nat} {els:List (List D)} {K:D->Prop}:aId (xA key sz els) K=K (.int .i64 els.length):=by cases els <;> simp [aId,xA]
theorem aJa {key sz sz':Nat} {els:List (List D)} {k:IntKind} {n:Int} {K:D->Prop}:aIj sz' (xA key sz els) (.int k n) K=(sz'=sz/\0<=n/\n<els.length/\K (.ref key sz n.toNat 0)):=by
 cases els with
 | nil=>simp only [aIj,xA,List.length_nil]; simp; intro _ h1 h2; omega
 | cons e l=>simp [aIj,xA]; rintro rfl _ _; rfl
theorem aU9 {key sz:Nat} {neg:Bool} {els:List (List D)} {K:D->Prop}:oX neg (xA key sz els) .xL K=K (.bool (if neg then !els.isEmpty else els.isEmpty)):=by cases els <;> cases neg <;> simp [oX,xA]
def sw : List (Nat × Nat)->Nat->Nat
 | [],k=>k
 | (a,b) :: r,k=>if k=a then b else sw r k
def uD (els:List (List D)):Prop:=∀ e ∈ els,D.xV e=true
theorem yW (l:List (BitVec 64)):uD (us l)= True:=eq_true (tE l)
theorem wB (l:List (List (BitVec 64))):uD (rr l)= True:=eq_true (aV9 l)
theorem aPc (k:IntKind) (l:List Int):uD (rows k l)= True:=eq_true (tM k l)
theorem aKi : uD []=True:=by simp [uD]
theorem aPd {kk:IntKind} {l:List (Int × D)} (h:∀ p ∈ l,p.2.xG=true):uD (cR kk l):=by intro e he;simp only [cR,List.mem_map] at he;obtain⟨p,hp,rfl⟩:=he;simp [D.xV,D.xG,h p hp]
theorem aVc (a b:List (List D)):uD (a++b)= (uD a/\uD b):=by simp only [uD,List.mem_append];exact propext ⟨fun h=>⟨fun e he=>h e (.inl he),fun e he=>h e (.inr he)⟩,fun h e he=>he.elim (h.1 e) (h.2 e)⟩
theorem aKg (l:List (BitVec 64)) (i:Nat) (s:BitVec 64):uD ((us l).set i [.int .u64 (ui s)])= True:=by rw [nH,yW]
theorem aCi {σ σ':St} {ρ:Nat->Nat} {a b sz:Nat} {els:List (List D)}:vw σ σ' ρ (xA a sz els) (xA b sz els)= (els = []\/(b<σ'.nx/\a=ρ b)):=by
 cases els with
 | nil=>simp [xA,vw]
 | cons e l=>simp [xA,vw]
def bUx (σ':St) (ρ:Nat->Nat) (k0:Nat):Prop:=∀ p ∈ σ'.xS,ρ p.1≠k0
theorem aQv {σ σ':St} {ρ:Nat->Nat} {k0 sz:Nat} {els:List (List D)} (hs:0<sz) (h:bUx σ' ρ k0) (hg:σ.get k0=vL sz els) (hp:uD els):vw σ σ' ρ (xA k0 sz els) (.sl sz els)= True:=by
 cases els with
 | nil=>simp [xA,vw]
 | cons e l=> refine eq_true ?_;simp only [xA,vw];exact⟨trivial,hs,h,⟨sz,e :: l⟩,hg,rfl,Nat.le_refl _,by simp,hp⟩
def vwQ (σ σ':St) (ρ:Nat->Nat) (as bs:List (List D)):Prop:=vwE σ σ' ρ as bs
theorem aHb {σ σ':St} {ρ:Nat->Nat} {els:List (List D)} (h:uD els):vwQ σ σ' ρ els els=True:=eq_true (.same h)
end
section
variable [rV]
theorem aSd {σ σ':St} {ρ:Nat->Nat}:∀ {a:List D},D.xV a=true->vwL σ σ' ρ a a:=by
 intro a h
 have key:∀ d:D,d.xG=true->vw σ σ' ρ d d:=by
  intro d
  refine D.rec (motive_1:=fun d=>d.xG=true->vw σ σ' ρ d d) (motive_2:=fun _=>True) (motive_3:=fun cs=>D.xV cs=true->vwL σ σ' ρ cs cs)
   ?top ?und ?int ?bool ?str ?sl ?xL ?emp ?agg ?tup ?fn ?ref ?osl ?sub ?ptr ?vC ?nK ?kC ?gF ?adr trivial (fun _ _ _ _=>trivial) ?nil ?cons d
  case agg=>intro cs ih h; simp only [D.xG] at h; simp only [vw]; exact⟨trivial,ih h⟩
  case tup=>intro cs ih h; simp only [D.xG] at h; simp only [vw]; exact⟨trivial,ih h⟩
  case fn=>intro f cs ih h; simp only [D.xG] at h; simp only [vw]; exact⟨trivial,trivial,ih h⟩
  case ref=>intro k sz i off h; simp [D.xG] at h
  case osl=>intro k sz n h; simp [D.xG] at h
  case sub=>intro k sz lo n h; simp [D.xG] at h
  case vC=>intro k h; simp [D.xG] at h
  case nil=>intro _; simp [vwL]
  case cons=> intro d r h1 h2 h;simp only [D.xV,Bool.and_eq_true] at h;simp only [vwL];exact⟨h1 h.1,h2 h.2⟩
  case ptr=>intro cs _ _; simp [vw]
  all_goals intros; simp [vw]
 induction a with
 | nil=>simp [vwL]
 | cons d r ih=> simp only [D.xV,Bool.and_eq_true] at h;simp only [vwL];exact⟨key d h.1,ih h.2⟩
theorem aSe {σ σ':St} {ρ:Nat->Nat}:∀ {els:List (List D)} {a b:List D},uD els->a.length=b.length->vwL σ σ' ρ a b->vwE σ σ' ρ (els ++ [a]) (els ++ [b])
 | [],a,b,_,hl,h=>.cons hl h .nil
 | e :: r,a,b,hp,hl,h=>.cons rfl (aSd (hp e (by simp))) (aSe (fun x hx=>hp x (by simp [hx])) hl h)
theorem bYr {σ σ':St} {ρ:Nat->Nat} {els:List (List D)} {a b:List D} (h:vwQ σ σ' ρ (els ++ [a]) (els ++ [b])):a.length=b.length/\vwL σ σ' ρ a b:=by
 have:=(aF (show vwE σ σ' ρ (els ++ [a]) (els ++ [b]) from h)).2 els.length (by simp);have e1:∀ x:List D,(els ++ [x]).getD els.length []=x:=by intro x; simp [List.getD]
 rw [e1,e1] at this;refine⟨this.1,?_⟩
 rcases this.2 with h | ⟨h1,h2⟩
 ·exact h
 ·rw [h1]; exact aSd h2
theorem aXh {σ σ':St} {ρ:Nat->Nat} {els:List (List D)} {a b:List D} (hp:uD els):vwQ σ σ' ρ (els ++ [a]) (els ++ [b])= (a.length=b.length/\vwL σ σ' ρ a b):= propext ⟨fun h=>bYr h,fun h=>aSe hp h.1 h.2⟩
theorem aCj {σ σ':St} {ρ:Nat->Nat} {a b:List D}:vwQ σ σ' ρ [a] [b]=(a.length=b.length/\vwL σ σ' ρ a b):=aXh (els:=[]) (by simp [uD])
theorem bYq {σ σ':St} {ρ:Nat->Nat} {l:List (List (BitVec 64))} {r:List (BitVec 64)} {x:D}:vwQ σ σ' ρ (rr l ++ [[x]]) (rr (l ++ [r]))= vwL σ σ' ρ [x] [.sl 1 (us r)]:=by rw [<- aV8,aXh (aV9 l)];simp
def yZ (σ σ':St) (ρ:Nat->Nat) (p:Nat × Ob):Prop:=p.1<σ'.nx/\∃ ob,σ.get (ρ p.1)= some ob/\ob.sz=p.2.sz/\vwQ σ σ' ρ ob.els p.2.els
def jX (σ σ':St) (ρ:Nat->Nat) (l:List (Nat × Ob)):Prop:=∀ p ∈ l,yZ σ σ' ρ p
theorem fH {σ σ':St} {ρ:Nat->Nat}:jX σ σ' ρ []=True:=by simp [jX]
theorem jF {σ σ':St} {ρ:Nat->Nat} {p:Nat × Ob} {l:List (Nat × Ob)}:jX σ σ' ρ (p :: l)= (yZ σ σ' ρ p/\jX σ σ' ρ l):=by simp [jX]
theorem bR {σ σ':St} {ρ:Nat->Nat} {k sz:Nat} {els:List (List D)} {l:List (Nat × Ob)} (hk:k<σ'.nx) (hg:σ.get (ρ k)= vL sz els) (hp:uD els):jX σ σ' ρ (yY k sz els++l)= jX σ σ' ρ l:=by
 cases els with
 | nil=>rfl
 | cons e r=> simp only [yY,List.cons_append,List.nil_append,jF];refine propext ⟨fun h=>h.2,fun h=>⟨⟨hk,⟨sz,e :: r⟩,hg,rfl,.same hp⟩,h⟩⟩
theorem aU1 {σ σ':St} {ρ:Nat->Nat} {k sz:Nat} {els:List (List D)} (hk:k<σ'.nx) (hg:σ.get (ρ k)= vL sz els) (hp:uD els):jX σ σ' ρ (yY k sz els)= True:=by have:=bR (l:=[]) hk hg hp;rw [List.append_nil,fH] at this;exact this
theorem aFs {sz:Nat} {els:List (List D)} (h:els ≠ []):vL sz els=some ⟨sz,els⟩:=by
 cases els with
 | nil=>exact absurd rfl h
 | cons e r=>rfl
theorem dX {σ σ':St} {ρ:Nat->Nat} {k sz:Nat} {els els':List (List D)} {l:List (Nat × Ob)} (hk:k<σ'.nx) (hg:σ.get (ρ k)= vL sz els') (hq:vwQ σ σ' ρ els' els):jX σ σ' ρ (yY k sz els++l)= jX σ σ' ρ l:=by
 cases els with
 | nil=>rfl
 | cons e r=>
  have hne:els' ≠ []:=by rintro rfl;have:=(aF (show vwE σ σ' ρ [] (e :: r) from hq)).1;simp at this
  simp only [yY,List.cons_append,List.nil_append,jF];refine propext ⟨fun h=>h.2,fun h=>⟨⟨hk,⟨sz,els'⟩,?_,rfl,hq⟩,h⟩⟩;rw [hg,aFs hne]
theorem aW4 {σ σ':St} {ρ:Nat->Nat} {k sz:Nat} {els els':List (List D)} (hk:k<σ'.nx) (hg:σ.get (ρ k)= vL sz els') (hq:vwQ σ σ' ρ els' els):jX σ σ' ρ (yY k sz els)= True:=by have:=dX (l:=[]) hk hg hq;rw [List.append_nil,fH] at this;exact this
def inL (ks:List Nat) (l:List (Nat × Ob)):Prop:=∀ p ∈ l,p.1 ∈ ks
theorem aMr {ks:List Nat}:inL ks []=True:=by simp [inL]
theorem aRh {ks:List Nat} {p:Nat × Ob} {l:List (Nat × Ob)}:inL ks (p :: l)= (p.1 ∈ ks/\inL ks l):=by simp [inL]
theorem aRg {ks:List Nat} {k sz:Nat} {els:List (List D)} {l:List (Nat × Ob)} (h:k ∈ ks):inL ks (yY k sz els++l)= inL ks l:=by
 cases els with
 | nil=>rfl
 | cons e r=>simp [yY,aRh,h]
theorem aK9 {ks:List Nat} {k sz:Nat} {els:List (List D)} (h:k ∈ ks):inL ks (yY k sz els)= True:=by have:=aRg (sz:=sz) (els:=els) (l:=[]) h;rw [List.append_nil,aMr] at this;exact this
def aI (ρ:Nat->Nat) (k0:Nat) (l:List (Nat × Ob)):Prop:=∀ p ∈ l,ρ p.1≠k0
theorem aAx {σ':St} {ρ:Nat->Nat} {k0:Nat}:bUx σ' ρ k0=aI ρ k0 σ'.xS:=propext Iff.rfl
theorem aWs {ρ:Nat->Nat} {k0:Nat}:aI ρ k0 []=True:=by simp [aI]
theorem aP {ρ:Nat->Nat} {k0:Nat} {p:Nat × Ob} {l:List (Nat × Ob)}:aI ρ k0 (p :: l)= (ρ p.1≠k0/\aI ρ k0 l):=by simp [aI]
theorem aQ {ρ:Nat->Nat} {k0 k sz:Nat} {els:List (List D)} {l:List (Nat × Ob)}:aI ρ k0 (yY k sz els++l)= ((els = []\/ρ k≠k0)/\ aI ρ k0 l):=by
 cases els with
 | nil=>simp [yY]
 | cons e r=>simp [yY,aP]
theorem aTq {ρ:Nat->Nat} {k0 k sz:Nat} {els:List (List D)}:aI ρ k0 (yY k sz els)= (els = []\/ρ k≠k0):=by have:=aQ (ρ:=ρ) (k0:=k0) (k:=k) (sz:=sz) (els:=els) (l:=[]);rw [List.append_nil,aWs,and_true] at this;exact this
theorem xH.ren {C:Cx} {f f':Fr} {σ σ':St} (l:List (Nat × Nat)) (ks:List Nat) (hn:C.n0<=σ'.nx) (h0:∀ p ∈ l,C.n0<=p.1) (hd:(ks.map (sw l)).Nodup)
  (h:inL ks σ'.xS/\jX σ σ' (sw l) σ'.xS/\vwF σ σ' (sw l) f f'):xH C f σ f' σ':=by
 obtain⟨hk,hs,hf⟩:=h
 refine xH.view (sw l) hn ?_ hf ?_ ?_
 ·intro k hk
  induction l with
  | nil=>rfl
  | cons p l ih=>
   obtain⟨a,b⟩:=p;have:C.n0<=a:=h0 (a,b) (by simp);simp only [sw];rw [if_neg (by omega)];have hm:∀ p ∈ l,C.n0<=p.1:=fun p hp=>h0 p (by simp [hp]);clear ih hd hs hf h0
   induction l with
   | nil=>rfl
   | cons q l ih=> obtain⟨c,d⟩:=q;have:C.n0<=c:=hm (c,d) (by simp);simp only [sw];rw [if_neg (by omega)];exact ih fun p hp=>hm p (by simp [hp])
 ·intro p hp;obtain⟨h1,ob,h2,h3,h4⟩:=hs p hp;exact⟨h1,ob,h2,h3,h4⟩
 ·intro p hp q hq e;have h1:=hk p hp;have h2:=hk q hq
  have inj:∀ (ks:List Nat),(ks.map (sw l)).Nodup->∀ a ∈ ks,∀ b ∈ ks,sw l a=sw l b->a=b:=by
   intro ks
   induction ks with
   | nil=>intro _ a ha; simp at ha
   | cons x ks ih=>
    intro hd a ha b hb e;simp only [List.map_cons,List.nodup_cons,List.mem_map,not_exists,not_and] at hd
    rcases List.mem_cons.1 ha with h1 | h1 <;> rcases List.mem_cons.1 hb with h2 | h2
    ·rw [h1,h2]
    ·rw [h1] at e; exact absurd e.symm (hd.1 b h2)
    ·rw [h2] at e; exact absurd e (hd.1 a h1)
    ·exact ih hd.2 a h1 b h2 e
  exact inj ks hd _ h1 _ h2 e
theorem nC.ren {n0:Nat} {σ σ':St} {d d':D} (l:List (Nat × Nat)) (ks:List Nat) (hn:n0<=σ'.nx) (h0:∀ p ∈ l,n0<=p.1) (hd:(ks.map (sw l)).Nodup)
  (h:inL ks σ'.xS/\jX σ σ' (sw l) σ'.xS/\vw σ σ' (sw l) d d'):nC n0 σ d σ' d':=by
 obtain⟨hk,hs,hf⟩:=h
 refine .inr ⟨sw l,hn,?_,hf,?_,?_⟩
 ·intro k hk;have hm:∀ p ∈ l,n0<=p.1:=h0;clear hd hs hf h0
  induction l with
  | nil=>rfl
  | cons q l ih=> obtain⟨c,d⟩:=q;have:n0<=c:=hm (c,d) (by simp);simp only [sw];rw [if_neg (by omega)];exact ih fun p hp=>hm p (by simp [hp])
 ·intro p hp;obtain⟨h1,ob,h2,h3,h4⟩:=hs p hp;exact⟨h1,ob,h2,h3,h4⟩
 ·intro p hp q hq e;have h1:=hk p hp;have h2:=hk q hq
  have inj:∀ (ks:List Nat),(ks.map (sw l)).Nodup->∀ a ∈ ks,∀ b ∈ ks,sw l a=sw l b->a=b:=by
   intro ks
   induction ks with
   | nil=>intro _ a ha; simp at ha
   | cons x ks ih=>
    intro hd a ha b hb e;simp only [List.map_cons,List.nodup_cons,List.mem_map,not_exists,not_and] at hd
    rcases List.mem_cons.1 ha with h1 | h1 <;> rcases List.mem_cons.1 hb with h2 | h2
    ·rw [h1,h2]
    ·rw [h1] at e; exact absurd e.symm (hd.1 b h2)
    ·rw [h2] at e; exact absurd e (hd.1 a h1)
    ·exact ih hd.2 a h1 b h2 e
  exact inj ks hd _ h1 _ h2 e
def aQi (C:Cx) (Q:Exit->Fr->St->Prop) (e:Exit) (f:Fr) (σ:St):Prop:=∃ f' σ',xH C f σ f' σ'/\Q e f' σ'
theorem aQi.wW {C:Cx} {Q:Exit->Fr->St->Prop} {e:Exit} {f:Fr} {σ:St} (h:Q e f σ):aQi C Q e f σ:=⟨f,σ,xH.refl,h⟩
theorem aQi.go {C:Cx} {Q:Exit->Fr->St->Prop} {e:Exit} {f:Fr} {σ:St} (f':Fr) (σ':St) (hw:xH C f σ f' σ') (h:Q e f' σ'):aQi C Q e f σ:=⟨f',σ',hw,h⟩
theorem aLm {C:Cx} {dc:DC} {f:Fr} {σ:St} {Q:Exit->Fr->St->Prop} (h:wpS C dc f σ (aQi C Q)):wpS C dc f σ Q:=by intro code hc E a w G;refine wpIn_mono (h code hc E a w G) fun e a' w' hh=>?_;obtain⟨f1,σ1,G1,f2,σ2,hw,hq⟩:=hh;exact⟨f2,σ2,hw E a' w' G1,hq⟩
theorem uX {C:Cx} {dc:DC} {f:Fr} {σ:St} {Q:Exit->Fr->St->Prop} {α:Type} (g:α->Fr) (s:α->St) (I:α->Prop) (m:α->Nat) (a0:α) (h0:I a0) (hw:xH C f σ (g a0) (s a0))
  (round:∀ a,I a->wpS C dc (g a) (s a) (kA (fun f' σ'=>∃ a',I a'/\xH C f' σ' (g a') (s a')/\ m a'<m a) (aQi C Q))):wpS C (.loop dc) f σ Q:=
 aLm (xW g s I m a0 h0 hw round)
end
theorem bYh : ((0:Nat):Int)= 0:=rfl
theorem sL {k:Nat} (h:k<9223372036854775807):IntKind.i64.wrap ((k:Int)+ 1)= ((k+1:Nat):Int):=by rw [wrap_i64 (by omega)]; omega
section
variable [rV]
theorem bV4 (f:Fr) (n:Nat):evO f (.t n)= Fr.get f n:=rfl
theorem bV5 (f:Fr) (d:D):evO f (.c d)= d:=rfl
theorem aGe (f:Fr) (t:Nat) (d:D):Fr.put f (some t) d=(t,d) :: f:=rfl
theorem aGf (f:Fr) (d:D):Fr.put f none d=f:=rfl
theorem get_nil (n:Nat):Fr.get [] n = .top:=rfl
theorem aFt (t:Nat) (d:D) (r:Fr) (n:Nat):Fr.get ((t,d) :: r) n=if t=n then d else Fr.get r n:=rfl
theorem look_nil (k:Nat):St.look [] k=none:=rfl
theorem xY (j:Nat) (o:Ob) (r:List (Nat × Ob)) (k:Nat):St.look ((j,o) :: r) k=if j=k then some o else St.look r k:=rfl
theorem aHu (k:Nat) (o:Ob):vH [] k o = []:=rfl
theorem sG (j:Nat) (o:Ob) (r:List (Nat × Ob)) (k:Nat) (o':Ob):vH ((j,o) :: r) k o'=if j=k then(j,o') :: r else(j,o) :: vH r k o':=rfl
theorem aP1 (k:Nat):yF [] k = []:=rfl
theorem aTi (j:Nat) (o:Ob) (r:List (Nat × Ob)) (k:Nat):yF ((j,o) :: r) k=if j=k then yF r k else(j,o) :: yF r k:=rfl
theorem bZy (n:Nat) (l:List (Nat × Ob)) (k:Nat):St.get ⟨n,l⟩ k=St.look l k:=rfl
theorem set_mk (n:Nat) (l:List (Nat × Ob)) (k:Nat) (o:Ob):St.set ⟨n,l⟩ k o=⟨n,vH l k o⟩:=rfl
theorem bZl (n:Nat) (l:List (Nat × Ob)) (o:Ob):St.new ⟨n,l⟩ o=⟨n+1,(n,o) :: l⟩:=rfl
theorem aFy (n:Nat) (l:List (Nat × Ob)) (k:Nat):St.erase ⟨n,l⟩ k=⟨n,yF l k⟩:=rfl
theorem aKb (σ:St) (sz sz':Nat) (els:List (List D)):rowsOf σ sz (.sl sz' els)= if sz=sz' then some els else none:=rfl
theorem aU7 (σ:St) (sz:Nat):rowsOf σ sz .xL=some []:=rfl
theorem aQ1 (σ:St) (sz:Nat):rowsOf σ sz .emp=some []:=rfl
def zD :=And.intro @aIx (And.intro @aCe (And.intro @aI0 (And.intro @aCc (And.intro @aI3 (And.intro @aLl (And.intro @aI1 (And.intro @aIy (And.intro @aI2 (And.intro @aCd (And.intro @aLk (And.intro @aSv (And.intro @aKk (And.intro @aGl (And.intro @aKn (And.intro @aAe @aAd)))))))))))))))
def zT :=And.intro @bV4 (And.intro @bV5 (And.intro @aGe (And.intro @aGf (And.intro @get_nil (And.intro @aFt (And.intro @look_nil (And.intro @xY (And.intro @aHu (And.intro @sG (And.intro @aP1 (And.intro @aTi (And.intro @bZy (And.intro @set_mk (And.intro @bZl (And.intro @aFy (And.intro @aKb (And.intro @aU7 (And.intro @aQ1 (And.intro @Int.cast_ofNat_Int (And.intro @bYh (And.intro @Int.toNat_zero (And.intro @Int.toNat_one (And.intro @beq_self_eq_true.{0} (And.intro @bne_self_eq_false.{0} (And.intro @Bool.false_eq_true (And.intro @aFz (And.intro @aFv (And.intro @aAf (And.intro @aEb (And.intro @aOh (And.intro @aEj (And.intro @aJ5 (And.intro @aJ7 (And.intro @aJ4 (And.intro @aOi (And.intro @aHl (And.intro @aLw (And.intro @aLx (And.intro @aK5 (And.intro @aBy (And.intro @aFj (And.intro @aFi (And.intro @aK4 (And.intro @aFk (And.intro @aJa (And.intro @aB7 (And.intro @aFo (And.intro @aFn (And.intro @aU9 (And.intro @aG1 (And.intro @aG0 (And.intro @aGz (And.intro @aGy (And.intro @aGx (And.intro @aGw (And.intro @aK1 (And.intro @aPo (And.intro @aPp (And.intro @aK2 (And.intro @aG2 (And.intro @aG3 (And.intro @aBo (And.intro @aPn (And.intro @aPm (And.intro @bH (And.intro @aK0 (And.intro @aPi (And.intro @bK (And.intro @aKw (And.intro @aKv (And.intro @aKu (And.intro @aPg (And.intro @aPf (And.intro @yG (And.intro @dQ (And.intro @cX (And.intro @aVf (And.intro @aZh (And.intro @bP (And.intro @aW6 (And.intro @Option.or_none.{0} (And.intro @List.length_set.{0} (And.intro @aTo (And.intro @aKq (And.intro @Nat.lt_irrefl (And.intro @yX (And.intro @xR (And.intro @aNz (And.intro @true_and (And.intro @and_true (And.intro @List.getD_cons_zero.{0} (And.intro @List.getD_cons_succ.{0} (And.intro @List.length_cons.{0} (And.intro @List.length_nil.{0} (And.intro @Bool.not_true (And.intro @Bool.not_false (And.intro @List.map_cons.{0,0} (And.intro @List.map_nil.{0,0} (And.intro @List.nil_append.{0} (And.intro @List.cons_append.{0} (And.intro @List.append_nil.{0} (And.intro @aKl (And.intro @aKm (And.intro @List.take_succ_cons.{0} (And.intro @List.take_zero.{0} (And.intro @List.drop_succ_cons.{0} (And.intro @List.drop_zero.{0} (And.intro @false_implies (And.intro @or_true (And.intro @true_or (And.intro @Nat.le_refl (And.intro @Int.toNat_natCast (And.intro @and_self (And.intro @bWu (And.intro @bWt (And.intro @bU8 (And.intro @bU7 (And.intro @bY0 (And.intro @bVo (And.intro @aEx (And.intro @aLq (And.intro @bY1 (And.intro @bYu (And.intro @bYy (And.intro @bYw (And.intro @bYv (And.intro @bYx (And.intro @aEy (And.intro @bYz (And.intro @bY2 (And.intro @not_false_eq_true (And.intro @aJv (And.intro @aJr (And.intro @aJw (And.intro @aOe (And.intro @aJs (And.intro @aF8 (And.intro @aP9 (And.intro @aJx (And.intro @aJy (And.intro @aF9 (And.intro @aJt (And.intro @aJu (And.intro @aOd (And.intro @aOa (And.intro @aOb (And.intro @aOc (And.intro @aBh (And.intro @aGs (And.intro @aBb (And.intro @bZf (And.intro @aGn (And.intro @aBi (And.intro @bZh (And.intro @aBd (And.intro @aBg (And.intro @aBe (And.intro @aGr (And.intro @aGo (And.intro @aGp (And.intro @aGq (And.intro @List.all_cons.{0} (And.intro @List.all_nil.{0} (And.intro @Bool.and_true (And.intro @Bool.and_self (And.intro @List.set_cons_zero.{0} (And.intro @List.set_cons_succ.{0} (And.intro @Nat.zero_add (And.intro @Nat.add_zero (And.intro @Nat.zero_lt_succ (And.intro @Nat.lt_add_one (And.intro @decide_true (And.intro @decide_false (And.intro @gt_iff_lt.{0} (And.intro @ge_iff_le.{0} (And.intro @zK (And.intro @aCw (And.intro @Bool.true_and (And.intro @decide_eq_true_eq (And.intro @decide_eq_false_iff_not (And.intro @zM (And.intro @aX (And.intro @zN (And.intro @bA (And.intro @aL8 (And.intro @aZl (And.intro @aE (And.intro @aV8 (And.intro @oF (And.intro @fC (And.intro @cA (And.intro @aV4 (And.intro @List.mem_singleton.{0} (And.intro @List.cons_ne_nil.{0} (And.intro @List.take_length.{0} (And.intro @Option.map_some.{0,0} (And.intro @Option.map_none.{0,0} (And.intro @List.length_append.{0} (And.intro @aEz @aN7)))))))))))))))))))))))))))))))))))))))))))))))))))))))))))))))))))))))))))))))))))))))))))))))))))))))))))))))))))))))))))))))))))))))))))))))))))))))))))))))))))))))))))))))))))))))))))))))))))))))
def zR :=And.intro @bYh (And.intro @aRg (And.intro @aK9 (And.intro @aRh (And.intro @aMr (And.intro @bR (And.intro @aU1 (And.intro @dX (And.intro @aW4 (And.intro @jF (And.intro @fH (And.intro @bYq (And.intro @aXh (And.intro @aHb (And.intro @aCj (And.intro @aCi (And.intro @aQv (And.intro @aAx (And.intro @aQ (And.intro @aTq (And.intro @aP (And.intro @aWs (And.intro @yW (And.intro @wB (And.intro @aPc (And.intro @aKi (And.intro @aVc (And.intro @aKg (And.intro @yG (And.intro @dQ (And.intro @Option.or_none.{0} (And.intro @Nat.zero_lt_succ (And.intro @Nat.lt_add_one (And.intro @Option.some.injEq.{0} (And.intro @and_true (And.intro @true_and (And.intro @and_self (And.intro @or_true (And.intro @true_or (And.intro @not_false_eq_true (And.intro @List.mem_cons.{0} (And.intro @List.mem_singleton.{0} (And.intro @List.not_mem_nil.{0} (And.intro @D.int.injEq (And.intro @D.bool.injEq (And.intro @D.sl.injEq (And.intro @D.ref.injEq (And.intro @List.length_cons.{0} (And.intro @List.length_nil.{0} (And.intro @aE (And.intro @aZl (And.intro @aV8 (And.intro @Nat.zero_add (And.intro @aV4 (And.intro @cA (And.intro @aEz (And.intro @aN7 (And.intro @oF @fC)))))))))))))))))))))))))))))))))))))))))))))))))))))))))
end
end Go.Pd
namespace Go.Pd
open Go Go.ChangeShapes Go.WideShapes Go.RowKit
def aY9 : List (Nat × Nat)->Nat->Nat->Bool
 | [],o,n=>o==n
 | (a,s) :: r,o,n=>(a==o)&& aY9 r (o+s) n
def sM (P:Program):Nat->TypeId->Bool
 | 0,_=>false
 | n+1,t=>match P.underlying t with
  | some .bool=>true
  | some (.int _)=>true
  | some .string=>true
  | some (.slice e)=>sM P n e&&decide (0<P.cellsOf e)
  | some (.struct fs)=>(fs.toList.all fun f=>sM P n f.type)&& aY9 (fs.toList.map fun f=>(f.offset,P.cellsOf f.type)) 0 (P.cellsOf t)
  | some (.array k e)=>sM P n e&&(P.cellsOf t==k*P.cellsOf e)
  | _=>false
mutual
def zY (P:Program):Nat->TypeId->List D->Prop
 | 0,_,_=>False
 | n+1,t,ds=>match P.underlying t with
  | some .bool=>∃ b,ds = [.bool b]
  | some (.int k)=>∃ i,ds = [.int k i]
  | some .string=>∃ s,ds = [.str s]
  | some (.slice e)=>∃ els,ds = [.sl (P.cellsOf e) els]/\∀ row ∈ els,zY P n e row
  | some (.struct fs)=>rS P n (fs.toList.map fun f=>f.type) ds
  | some (.array k e)=>rS P n (List.replicate k e) ds
  | _=>False
def rS (P:Program):Nat->List TypeId->List D->Prop
 | _,[],ds=>ds = []
 | n,f :: fs,ds=>∃ a b,ds=a++b/\zY P n f a/\rS P n fs b
end
def lW (P:Program) (n:Nat) (t:TypeId) (d:D):Prop:=
 match P.underlying t with
 | some (.struct _)=>∃ ds,d = .agg ds/\zY P n t ds
 | some (.array _ _)=>∃ ds,d = .agg ds/\zY P n t ds
 | _=>zY P n t [d]
def aC (P:Program) (n:Nat):List TypeId->List D->Prop
 | [],as=>as = []
 | t :: ts,as=>∃ a r,as=a :: r/\lW P n t a/\aC P n ts r
def aO1 (w:World) (cs:List Value) (ds:List D):Prop:=ds.length=cs.length/\∀ j,j<ds.length->RP (fun _=>False) w (cs.getD j undef) (ds.getD j .top)
theorem dW {w:World} {a b:List Value} {x y:List D} (h:aO1 w a x) (h':aO1 w b y):aO1 w (a++b) (x++y):=by
 refine⟨by simp [h.1,h'.1],fun j hj=>?_⟩;simp only [List.getD]
 by_cases hx:j<x.length
 ·rw [List.getElem?_append_left hx,List.getElem?_append_left (by rw [<- h.1]; exact hx)];exact h.2 j hx
 ·have h1:=h.1;rw [List.getElem?_append_right (by omega),List.getElem?_append_right (by omega),<- h.1];rw [List.length_append] at hj;exact h'.2 (j-x.length) (by omega)
section
variable {H : Type} {enc : TypeId × Value -> H} {P : Program} {w : World} {sp : Nat -> Bool} {held : Bool}
theorem aWf {n:Nat} (key:∀ (t:TypeId) (cs:List Value) (fuel:Nat) (x:DataW H × List MemPlace),sM P n t=true->DataW.trod enc P w 0 sp held fuel t cs=some x->∃ ds,aO1 w cs ds/\zY P n t ds) {cs:List Value} {fuel:Nat} :
  ∀ (fl:List Field) (o:Nat),(fl.all fun f=>sM P n f.type)= true->aY9 (fl.map fun f=>(f.offset,P.cellsOf f.type)) o cs.length=true ->
   (∀ f ∈ fl,∃ x,DataW.trod enc P w 0 sp held fuel f.type ((cs.drop f.offset).take (P.cellsOf f.type))= some x)->∃ ds,aO1 w (cs.drop o) ds/\rS P n (fl.map fun f=>f.type) ds
 | [],o,_,hc,_=>by simp only [List.map_nil,aY9,beq_iff_eq] at hc;subst hc;exact⟨[],by simp [aO1],by simp [rS]⟩
 | f :: fl,o,hp,hc,hx=>by
  simp only [List.all_cons,Bool.and_eq_true] at hp;simp only [List.map_cons,aY9,Bool.and_eq_true,beq_iff_eq] at hc;obtain⟨x,h1⟩:=hx f (by simp);obtain⟨a,ha,hsa⟩:=key _ _ _ _ hp.1 h1;obtain⟨b,hb,hsb⟩:=aWf key fl (o+P.cellsOf f.type) hp.2 hc.2 fun g hg=>hx g (by simp [hg]);refine⟨a++b,?_,by simp only [List.map_cons,rS]; exact⟨a,b,rfl,hsa,hsb⟩⟩;rw [hc.1] at ha
  have e:cs.drop o=(cs.drop o).take (P.cellsOf f.type)++ cs.drop (o+P.cellsOf f.type):=by rw [<- List.drop_drop,List.take_append_drop]
  rw [e];exact dW ha hb
theorem aDj {n:Nat} (key:∀ (t:TypeId) (cs:List Value) (fuel:Nat) (x:DataW H × List MemPlace),sM P n t=true->DataW.trod enc P w 0 sp held fuel t cs=some x->∃ ds,aO1 w cs ds/\zY P n t ds) {cs:List Value} {fuel:Nat} {e:TypeId} (hp:sM P n e=true) :
  ∀ (k o:Nat),cs.length=(o+k)* P.cellsOf e ->
   (∀ i,o<=i->i<o+k->∃ x,DataW.trod enc P w 0 sp held fuel e ((cs.drop (i*P.cellsOf e)).take (P.cellsOf e))= some x)->∃ ds,aO1 w (cs.drop (o*P.cellsOf e)) ds/\rS P n (List.replicate k e) ds
 | 0,o,hl,_=>⟨[],by rw [List.drop_eq_nil_of_le (by rw [hl]; simp)]; simp [aO1],by simp [rS]⟩
 | k+1,o,hl,hx=>by
  obtain⟨x,h1⟩:=hx o (Nat.le_refl _) (by omega);obtain⟨a,ha,hsa⟩:=key _ _ _ _ hp h1;obtain⟨b,hb,hsb⟩:=aDj key hp k (o+1) (by rw [hl]; congr 1; omega) fun i h1 h2=>hx i (by omega) (by omega);refine⟨a++b,?_,by simp only [List.replicate_succ,rS]; exact⟨a,b,rfl,hsa,hsb⟩⟩
  have e1:cs.drop (o*P.cellsOf e)= (cs.drop (o*P.cellsOf e)).take (P.cellsOf e)++ cs.drop ((o+1)* P.cellsOf e):=by rw [Nat.succ_mul,<- List.drop_drop,List.take_append_drop]
  rw [e1];exact dW ha hb
theorem aD : ∀ (n:Nat) (t:TypeId) (cs:List Value) (fuel:Nat) (x:DataW H × List MemPlace),sM P n t=true->DataW.trod enc P w 0 sp held fuel t cs=some x->∃ ds,aO1 w cs ds/\zY P n t ds
 | 0,t,cs,fuel,x,hp,_=>by simp [sM] at hp
 | n + 1,t,cs,fuel,x,hp,h=>by
  unfold sM at hp;unfold zY
  split at hp
  ·rename_i hu;obtain⟨b,rfl,_⟩:=DataW.trod_bool hu h;exact⟨[.bool b],⟨rfl,fun j hj=>by simp at hj; subst hj; exact .bool b⟩,⟨b,rfl⟩⟩
  ·rename_i k hu;obtain⟨i,rfl,_,hw⟩:=DataW.trod_int hu h;refine⟨[.int k i],⟨rfl,fun j hj=>?_⟩,⟨i,rfl⟩⟩;simp at hj; subst hj;simp only [Lit.wf,Bool.and_eq_true,decide_eq_true_eq] at hw;exact .int hw
  ·rename_i hu;obtain⟨s,rfl,_,hs⟩:=DataW.trod_string hu h;exact⟨[.str s],⟨rfl,fun j hj=>by simp at hj; subst hj; exact .str hs⟩,⟨s,rfl⟩⟩
  ·rename_i e hu;simp only [Bool.and_eq_true,decide_eq_true_eq] at hp
   rcases Deep.open_slice hu h with ⟨rfl,_⟩ | ⟨a,len,cap,m,fu,Dd,Pl,rfl,_,hl,hm,hmm,_,hx⟩
   ·exact⟨[.sl (P.cellsOf e) []],⟨rfl,fun j hj=>by simp at hj; subst hj; exact .sl0 none 0 _ (fun _=>rfl)⟩,⟨[],rfl,by simp⟩⟩
   ·have hle:len<=m:=by rw [hmm]; split <;> omega
    by_cases h0:len=0
    ·subst h0;exact⟨[.sl (P.cellsOf e) []],⟨rfl,fun j hj=>by simp at hj; subst hj; exact .sl0 (some a) cap _ (fun h=>by cases h)⟩,⟨[],rfl,by simp⟩⟩
    ·obtain⟨f,hf⟩:=Deep.choose_lt (α:=List Value × List D) (n:=len) (p:=fun i y=>w.cells? 0 (a.add (i*P.cellsOf e)) (P.cellsOf e)= some y.1/\aO1 w y.1 y.2/\zY P n e y.2) fun i hi=>by obtain⟨cs',h1,h2⟩:=hx i (by omega);obtain⟨ds,h3,h4⟩:=aD n e cs' fu _ hp.1 h2;exact⟨(cs',ds),h1,h3,h4⟩
     have hcells:∀ i,i<len->∀ j,j<P.cellsOf e->w.cell? ((a.add (i*P.cellsOf e)).add j)= some ((f i).1.getD j undef):=by intro i hi j hj;obtain⟨_,h2,h3⟩:=World.cells?_some (hf i hi).1;rw [h3 j hj];simp [List.getD,show j<(f i).1.length by omega]
     have hlen:∀ i,i<len->(f i).1.length=P.cellsOf e:=fun i hi=>(World.cells?_some (hf i hi).1).2.1
     have hspot:a.spot=none:=by have:=World.cell?_spot (hcells 0 (by omega) 0 hp.2);simpa [Addr.add] using this
     obtain⟨b,off,spot⟩:=a;simp only at hspot;subst hspot
     have hadd:∀ i j,((⟨b,off,none⟩:Addr).add i).add j=⟨b,off+i+j,none⟩:=by
      intro i j;rw [Deep.add_add];unfold Addr.add
      by_cases h:i+j=0
      ·have h1:i=0:=by omega
       have h2:j=0:=by omega
       subst h1; subst h2; rfl
      ·rw [if_neg h]; simp [Nat.add_assoc]
     have els:∀ i,i<len->((List.range len).map fun i=>(f i).2).getD i []=(f i).2:=by intro i hi;simp [List.getD,hi]
     refine⟨[.sl (P.cellsOf e) ((List.range len).map fun i=>(f i).2)],⟨rfl,fun j hj=>?_⟩,⟨_,rfl,?_⟩⟩
     ·simp at hj; subst hj;simp only [List.getD_cons_zero]
      have:=RP.sl (M:=fun _=>False) (w:=w) (b:=b) (off:=off) (cap:=cap) (sz:=P.cellsOf e) (els:=(List.range len).map fun i=>(f i).2) (fun i j=>(f i).1.getD j undef) hp.2 (fun h=>h) (by simpa using hl) hm ?_ ?_ ?_
      ·simpa using this
      ·intro x hx';simp only [List.mem_map,List.mem_range] at hx';obtain⟨i,hi,rfl⟩:=hx';rw [(hf i hi).2.1.1,hlen i hi]
      ·intro i hi j hj;have hi':i<len:=by simpa using hi
       have:=hcells i hi' j hj;rw [hadd] at this;exact this
      ·intro i hi j hj;have hi':i<len:=by simpa using hi
       rw [els i hi'];exact(hf i hi').2.1.2 j (by rw [(hf i hi').2.1.1,hlen i hi']; exact hj)
     ·intro row hrow;simp only [List.mem_map,List.mem_range] at hrow;obtain⟨i,hi,rfl⟩:=hrow;exact(hf i hi).2.2
  ·rename_i fs hu;simp only [Bool.and_eq_true] at hp;obtain⟨xs,n',_,_,hlen,hsz,hf⟩:=DataW.trod_struct hu h;rw [<- hlen] at hp
   obtain⟨ds,h1,h2⟩:=aWf (fun t cs fuel x=>aD n t cs fuel x) (fuel:=n') fs.toList 0 hp.1 hp.2 fun g hg=>by
    obtain⟨i,hi,rfl⟩:=List.getElem_of_mem hg;have hi':i<fs.size:=by simpa using hi
    have:=hf i fs[i] (by simp [hi']);refine⟨xs[i]'(by omega),?_⟩;simp only [Array.getElem_toList];rw [this];simp [show i<xs.length by omega]
   exact⟨ds,by simpa using h1,h2⟩
  ·rename_i k e hu;simp only [Bool.and_eq_true,beq_iff_eq] at hp;obtain⟨xs,m,_,_,hlen,hxs,hf⟩:=DataW.trod_array hu h
   obtain⟨ds,h1,h2⟩:=aDj (fun t cs fuel x=>aD n t cs fuel x) (fuel:=m) hp.1 k 0 (by rw [hlen,hp.2]; simp) fun i _ hi=>by have:=hf i (by omega);rw [this];simp [show i<xs.length by omega]
   exact⟨ds,by simpa using h1,h2⟩
  ·cases hp
end
section
variable {H : Type} {enc : TypeId × Value -> H} {P : Program} {w : World} {sp : Nat -> Bool} {held : Bool}
theorem aVd {r:Reach} {b:Nat} {t:TypeId} {v:Value} {k:Nat} {e:TypeId} (ht:P.underlying t=some (.array k e)) (h:Value.okWide P w r b t v):∃ cs,v = .agg cs/\cs.size=P.cellsOf t:=by simp only [Value.okWide,ht] at h;obtain⟨cs,h1,h2,_⟩:=h;exact⟨cs,h1,h2⟩
theorem bWf {n:Nat} {b:Nat} {t:TypeId} {v:Value} {d:DataW H} {ps:List MemPlace} (hp:sM P n t=true) (hv:Value.okWide P w .any b t v) (h:DataW.Trod enc P w 0 sp held t v d ps):∃ a,RP (fun _=>False) w v a/\lW P n t a:=by
 obtain⟨fuel,h⟩:=h;obtain⟨ds,h1,h2⟩:=aD n t _ fuel _ hp h;unfold lW
 split
 ·rename_i fs hu;obtain⟨cs,rfl,_⟩:=okWide_struct hu hv;refine⟨.agg ds,.agg (by rw [h1.1]; rfl) fun j hj=>?_,ds,rfl,h2⟩;have:=h1.2 j hj
  have e:(Value.agg cs).cells.toList.getD j undef=cs.getD j undef:=by simp [Value.cells,List.getD,Array.getD];by_cases hj:j<cs.size <;> simp [hj]
  rw [e] at this;exact this
 ·rename_i k e hu;obtain⟨cs,rfl,_⟩:=aVd hu hv;refine⟨.agg ds,.agg (by rw [h1.1]; rfl) fun j hj=>?_,ds,rfl,h2⟩;have:=h1.2 j hj
  have e:(Value.agg cs).cells.toList.getD j undef=cs.getD j undef:=by simp [Value.cells,List.getD,Array.getD];by_cases hj:j<cs.size <;> simp [hj]
  rw [e] at this;exact this
 ·rename_i hns hna
  have one:∃ x,ds = [x]:=by
   cases n with
   | zero=>simp [sM] at hp
   | succ n=>
    unfold zY at h2
    split at h2
    ·obtain⟨b,rfl⟩:=h2; exact⟨_,rfl⟩
    ·obtain⟨b,rfl⟩:=h2; exact⟨_,rfl⟩
    ·obtain⟨b,rfl⟩:=h2; exact⟨_,rfl⟩
    ·obtain⟨b,rfl,_⟩:=h2; exact⟨_,rfl⟩
    ·rename_i fs hu; exact absurd hu (hns fs)
    ·rename_i k e hu; exact absurd hu (hna k e)
    ·cases h2
  obtain⟨x,rfl⟩:=one;refine⟨x,?_,h2⟩;have hx:=h1.2 0 (by simp);simp only [List.getD_cons_zero] at hx;have hlen:=h1.1
  cases v with
  | agg cs=>
   exfalso;unfold Value.okWide at hv
   split at hv
   ·rename_i fs hu; exact absurd hu (hns fs)
   ·rename_i k e hu; exact absurd hu (hna k e)
   ·rename_i h3 h4
    cases n with
    | zero=>simp [sM] at hp
    | succ n=>
     unfold sM at hp;unfold Cell.okWide at hv;split at hp <;> rename_i hu <;> simp [hu,Cell.ok] at hv
     all_goals first | exact absurd hu (hns _) | exact absurd hu (hna _ _) | cases hp
  | _=>simpa [Value.cells] using hx
theorem aUu {n:Nat} {b:Nat}:∀ {ts:List TypeId} {vs:List Value} {ds:List (DataW H)} {ps:List MemPlace},(ts.all fun t=>sM P n t)= true->(∀ (j:Nat) t v,ts[j]?=some t->vs[j]?=some v->Value.okWide P w .any b t v) ->
  DataW.TrodAll enc P w 0 sp held ts vs ds ps->∃ as,as.length=vs.length/\vs.length=ts.length/\ds.length=ts.length/\(∀ j,j<as.length->RP (fun _=>False) w (vs.getD j undef) (as.getD j .top))/\ aC P n ts as
 | [],vs,ds,ps,_,_,h=>by obtain⟨rfl,rfl,rfl⟩:=trodAll_nil h;exact⟨[],rfl,rfl,rfl,fun j hj=>by simp at hj,rfl⟩
 | t :: ts,vs,ds,ps,hp,hv,h=>by
  obtain⟨v,vs',d,ds',p,q,rfl,rfl,rfl,h1,h2⟩:=trodAll_cons h;simp only [List.all_cons,Bool.and_eq_true] at hp;obtain⟨a,r1,s1⟩:=bWf hp.1 (hv 0 t v rfl rfl) h1;obtain⟨as,l1,l2,l3,r2,s2⟩:=aUu hp.2 (fun j t v h1 h2=>hv (j+1) t v h1 h2) h2;refine⟨a :: as,by simp [l1],by simp [l2],by simp [l3],fun j hj=>?_,a,as,rfl,s1,s2⟩
  cases j with
  | zero=>exact r1
  | succ j=>exact r2 j (by simpa using hj)
theorem kH (hl:laidOutB P=true) {W W':World} (hb:Below W.heap.size W W'):∀ {ts:List TypeId} {vs:List Value} {ds:List (DataW H)} {ps:List MemPlace},(ts.all fun t=>P.readableRec t&&decide (t<P.types.size))= true ->
  (∀ x ∈ ps,x.block<W.heap.size)->DataW.TrodAll enc P W 0 (fun _=>true) true ts vs ds ps->DataW.TrodAll enc P W' 0 (fun b=>decide (b<W.heap.size)) true ts vs ds ps
 | [],vs,ds,ps,_,_,h=>by obtain⟨rfl,rfl,rfl⟩:=trodAll_nil h;exact rfl
 | t :: ts,vs,ds,ps,hr,hlt,h=>by obtain⟨v,vs',d,ds',p,q,rfl,rfl,rfl,h1,h2⟩:=trodAll_cons h;simp only [List.all_cons,Bool.and_eq_true,decide_eq_true_eq] at hr;exact⟨p,q,Below.trod hl hr.1.1 hr.1.2 h1 hb fun x hx=>hlt x (by simp [hx]),kH hl hb hr.2 (fun x hx=>hlt x (by simp [hx])) h2,rfl⟩
theorem bU {W:World}:∀ {ts:List TypeId} {vs:List Value} {ds:List (DataW H)} {ps:List MemPlace},DataW.TrodAll enc P W 0 sp held ts vs ds ps->∀ x ∈ ps,x.block<W.heap.size
 | [],vs,ds,ps,h=>by obtain⟨rfl,rfl,rfl⟩:=trodAll_nil h;intro x hx; simp at hx
 | t :: ts,vs,ds,ps,h=>by
  obtain⟨v,vs',d,ds',p,q,rfl,rfl,rfl,⟨m,hm⟩,h2⟩:=trodAll_cons h;intro x hx
  rcases List.mem_append.1 hx with hx | hx
  ·exact DataW.trod_lt m _ _ _ hm x hx
  ·exact bU h2 x hx
end
section
variable [rV]
theorem yU.calls {P:Program} {g:FuncId} {args:List D} {b:Bool} (h:yU P g args (.bool b)) {w:World} {vals:Array Value} (ht:aQs w fun _=>False) (hl:vals.size=args.length)
  (hv:∀ j,j<args.length->RP (fun _=>False) w (vals.getD j undef) (args.getD j .top)):Calls P g vals w fun e w'=>e = .returned (.bool b)/\ Below w.heap.size w w':=by
 have hM:∀ b,Mof (fun _=>False) (fun _=>0) St0 b->False:=by
  rintro b (h | ⟨k,o,hk,_⟩)
  ·exact h
  ·cases hk
 have hS:vN (fun _=>False) w St0 (fun _=>0):=⟨fun b hb=>hb.elim,(fun k o hk=>by cases hk),(fun k k' o o' hk=>by cases hk),(fun k o hk=>by cases hk),ht.wW (Nat.le_refl _) (fun _ _ _=>rfl) fun b _ hb=>hM b hb⟩;refine(h.run _ w _ vals hS hl fun j hj=>.pure ((hv j hj).wW (fun _ _ _=>rfl) fun b _ hb=>hM b hb)).mono fun e w' hh=>?_;obtain⟨v,ι',rfl,k1,k2,k3,k4,k5,k6⟩:=hh;have K0:Kept w w' fun _=>False:=k1.mono fun b _ ⟨k,o,hk,_⟩=>by cases hk
 rw [k6.pU];exact⟨rfl,K0.below⟩
end
theorem eB (a:Array Value) (j:Nat) (d:Value):a.getD j d=a.toList.getD j d:=by simp [List.getD,Array.getD];by_cases h:j<a.size <;> simp [h]
theorem aRc {H:Type} {enc:TypeId × Value->H} {P:Program} {f:Func} {s:ChangeSpec} {W W':World} {args:Array Value} {ds gs:List (DataW H)} {before:List MemPlace} {tb:TypeId}
  (hl:laidOutB P=true) (hr:(f.params.toList.all fun t=>P.readableRec t&&decide (t<P.types.size))= true) (hb:f.resultTypes = #[tb]) (htb:P.underlying tb=some .bool) (hsv:s.vars = [])
  (hW:DataW.Whole enc P f.params.toList s.vars false W args.toList ds gs before) (hs:s.fn H (ds++gs)= { results:=[.lit (.bool true)],args:=ds }) (bel:Below W.heap.size W W') :
  s.post enc P f false true false false W args (.bool true) W':=by
 have hW':=hW;obtain⟨p,q,hA,hV,rfl,hfz,hnd⟩:=hW;rw [hsv] at hV;obtain⟨rfl,rfl⟩:=trodVars_none hV;have hA2:=kH hl bel hr (bU hA) hA
 refine⟨_,_,_,[],p,[],hW',?_,?_,?_,bel.frame _,fun h=>by cases h⟩
 ·rw [hs,hb];exact trodAll_mk1 (shut_bool htb _)
 ·rw [hs];exact hA2
 ·rw [hs,hsv];rfl
abbrev dO (i:Nat) (k:DK):DOp:=⟨some i,none,k⟩
abbrev dF (i j:Nat) (k:DK):DOp:=⟨some i,some (j,false),k⟩
abbrev dT (i j:Nat) (k:DK):DOp:=⟨some i,some (j,true),k⟩
abbrev Opd.i (n:Int):Opd:=.c (.int .i64 n)
abbrev dM (i j:Nat):DOp:=⟨some i,none,.mv (.t j)⟩
abbrev dL (i j:Nat):DOp:=⟨some i,none,.load 1 false (.t j)⟩
abbrev dG (i n j:Nat):DOp:=⟨some i,none,.fld n (.t j)⟩
abbrev DC.r (l:List DOp) (c:DC):DC:=.seq (.reg [] l) c
abbrev DK.cf (f:FuncId) (l:List Opd):DK:=.call (.c (.fn f [])) l
abbrev bT (i:Nat) (o:BinOp) (a b:Nat):DOp:=⟨some i,none,.bin o (.t a) (.t b)⟩
abbrev bI (i:Nat) (o:BinOp) (a:Nat) (n:Int):DOp:=⟨some i,none,.bin o (.t a) (.i n)⟩
abbrev dI (i n a b:Nat):DOp:=⟨some i,none,.idx n (.t a) (.t b)⟩
abbrev dN (i a:Nat):DOp:=⟨some i,none,.len (.t a)⟩
abbrev fG (i j n a:Nat):DOp:=⟨some i,some (j,false),.fld n (.t a)⟩
abbrev fL (i j a:Nat):DOp:=⟨some i,some (j,false),.load 1 false (.t a)⟩
abbrev fN (i j a:Nat):DOp:=⟨some i,some (j,false),.len (.t a)⟩
abbrev fM (i j a:Nat):DOp:=⟨some i,some (j,false),.mv (.t a)⟩
abbrev dP (i a b:Nat):DOp:=⟨some i,none,.pick (.t a) (.c (.bool true)) (.t b)⟩
abbrev dE (i a n:Nat):DOp:=⟨some i,none,.bX6 (.t a) n⟩
abbrev dS (n a b:Nat):DOp:=⟨none,none,.store n (.t a) (.t b)⟩
abbrev dV (i:Nat) (b:Bool):DOp:=⟨some i,none,.mv (.c (.bool b))⟩
abbrev dJ (i:Nat) (n:Int):DOp:=⟨some i,none,.mv (.i n)⟩
abbrev dA (i n a:Nat):DOp:=⟨some i,none,.load n true (.t a)⟩
abbrev DC.w (a b:Nat) (c:DC):DC:=.seq (.cond (.t a) .skip (.exit b)) c
abbrev DC.g (l:List DOp):DC:=.reg [] l
def zS :=And.intro @D.int.injEq (And.intro @D.bool.injEq (And.intro @D.sl.injEq (And.intro @and_true (And.intro @true_and @and_self))))
def zW.{u} :=And.intro @ne_eq.{u} (And.intro @forall_const.{u} (And.intro @implies_true.{u} @forall_eq.{u}))
section
variable [rV]
def zU :=And.intro @aJ.eq_1 (And.intro @bWs.eq_1 (And.intro @unZ.eq_1 (And.intro @kA.eq_1 (And.intro @kA.eq_2 (And.intro @oW.eq_1 (And.intro @oW.eq_2 (And.intro @opX.eq_1 (And.intro @opX.eq_2 (And.intro @opX.eq_3 (And.intro @opX.eq_4 (And.intro @opX.eq_5 (And.intro @opX.eq_6 (And.intro @opX.eq_7 (And.intro @opX.eq_8 (And.intro @opX.eq_9 (And.intro @opX.eq_10 (And.intro @opX.eq_11 (And.intro @opX.eq_12 (And.intro @opX.eq_13 (And.intro @opX.eq_14 (And.intro @opX.eq_15 (And.intro @opV.eq_1 (And.intro @opV.eq_2 (And.intro @opV.eq_3 (And.intro @opV.eq_4 (And.intro @opV.eq_5 (And.intro @opV.eq_6 (And.intro @opV.eq_7 (And.intro @opV.eq_8 (And.intro @opV.eq_9 (And.intro @opV.eq_10 (And.intro @opV.eq_11 (And.intro @opV.eq_12 (And.intro @opV.eq_13 (And.intro @opV.eq_14 (And.intro @opV.eq_15 (And.intro @pX.eq_1 (And.intro @pX.eq_2 (And.intro @pX.eq_3 (And.intro @pX.eq_4 (And.intro @pX.eq_5 (And.intro @pX.eq_6 (And.intro @pX.eq_7 (And.intro @pX.eq_8 (And.intro @pW.eq_1 (And.intro @pW.eq_2 (And.intro @pW.eq_3 (And.intro @pW.eq_4 (And.intro @pW.eq_5 (And.intro @pW.eq_6 (And.intro @pW.eq_7 (And.intro @pW.eq_8 (And.intro @pW.eq_9 (And.intro @pW.eq_10 (And.intro @pW.eq_11 (And.intro @pW.eq_12 (And.intro @pW.eq_13 (And.intro @pW.eq_14 (And.intro @pW.eq_15 (And.intro @pW.eq_16 (And.intro @pW.eq_17 (And.intro @pW.eq_18 (And.intro @pW.eq_19 (And.intro @pW.eq_20 (And.intro @pW.eq_21 (And.intro @pW.eq_22 (And.intro @pW.eq_23 (And.intro @pW.eq_24 (And.intro @pW.eq_25 (And.intro @pW.eq_26 (And.intro @pW.eq_27 (And.intro @pW.eq_28 (And.intro @bW8.eq_1 (And.intro @bW7.eq_1 (And.intro @atK.eq_1 (And.intro @iB.eq_1 @aIr.eq_1))))))))))))))))))))))))))))))))))))))))))))))))))))))))))))))))))))))))))))
def zV :=And.intro @St0.eq_1 (And.intro @fX.eq_1 (And.intro @fX.eq_2 (And.intro @iR.eq_1 (And.intro @iR.eq_2 (And.intro @iR.eq_3 (And.intro @iR.eq_4 (And.intro @iR.eq_5 (And.intro @iR.eq_6 (And.intro @iR.eq_7 (And.intro @iR.eq_8 (And.intro @iR.eq_9 (And.intro @iR.eq_10 (And.intro @iR.eq_11 (And.intro @iR.eq_12 (And.intro @iR.eq_13 (And.intro @iR.eq_14 (And.intro @iR.eq_15 (And.intro @iR.eq_16 (And.intro @iR.eq_17 (And.intro @aNe.eq_1 (And.intro @cK.eq_1 (And.intro @cK.eq_2 (And.intro @cK.eq_3 (And.intro @cK.eq_4 (And.intro @cK.eq_5 (And.intro @cK.eq_6 (And.intro @aTw.eq_1 (And.intro @aTw.eq_2 (And.intro @bXe.eq_1 (And.intro @wD.eq_1 (And.intro @cF.eq_1 (And.intro @cF.eq_2 (And.intro @bU4.eq_1 (And.intro @aYx.eq_1 (And.intro @aYx.eq_2 (And.intro @aVz.eq_1 (And.intro @aVz.eq_2 (And.intro @List.replicate.eq_1.{0} (And.intro @List.replicate.eq_2.{0} (And.intro @rowsOf.eq_1 (And.intro @rowsOf.eq_2 (And.intro @rowsOf.eq_3 (And.intro @rowsOf.eq_4 @rowsOf.eq_5)))))))))))))))))))))))))))))))))))))))))))
end
theorem sd {p q:Prop} (b:q) (a:p:=by first | omega | exact aZf _ | exact Int.natCast_nonneg _ | rfl | exact aL9 _ _ | exact aNg _ | (intro _ h; cases h; done)):p/\q:=⟨a,b⟩
theorem nC.dv {n0 n:Nat} {σ:St} {d d':D} (hn:n0<=n:=by simp) (h:vw σ ⟨n,[]⟩ (fun k=>k) d d':=by simp [vw]):nC n0 σ d ⟨n,[]⟩ d':=.drop hn h
section
variable [rV]
theorem cr {P:Program} {g:FuncId} {args:List D} {d:D} {s:St} (hc:yU P g args d) (hp:D.xV args=true:=by simp [D.xV,D.xG]):xX P g args s d s:=xX.yT hc hp
theorem cq {P:Program} {g:FuncId} {args:List D} {d:D} {s:St} (hc:yU P g args d) (hp:D.xV args=true:=by rfl):xX P g args s d s:=xX.yT hc hp
end
end Go.Pd
