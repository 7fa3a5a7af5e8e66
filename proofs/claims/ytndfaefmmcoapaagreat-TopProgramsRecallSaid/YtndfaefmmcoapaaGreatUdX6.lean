/- Part X6. -/
import Derived.Test.YtndfaefmmcoapaaGreatUdX5
import Derived.Carry
import Derived.ChangeArms
import Derived.Deep.Slices
import Derived.ProofKit
import Derived.OpenShut
set_option linter.unusedSectionVars false
set_option linter.unusedVariables false
set_option linter.unusedSimpArgs false
set_option linter.defProp false
namespace Go.Pd
open Go
def ui (s:BitVec 64):Int:=s.toNat
theorem aL6 (s:BitVec 64):0<=ui s:=by unfold ui; omega
theorem aDt {s t:BitVec 64}:ui s=ui t ↔ s=t:=by
 unfold ui
 constructor
 ·intro h; exact BitVec.eq_of_toNat_eq (by omega)
 ·rintro rfl; rfl
theorem bUg {n:Int} (h0:0<=n) (h1:n<18446744073709551616):ui (BitVec.ofInt 64 n)= n:=by unfold ui;rw [BitVec.toNat_ofInt];have:n % 2 ^ 64=n:=Int.emod_eq_of_lt h0 (by omega);omega
theorem wH (s:BitVec 64):BitVec.ofInt 64 (ui s)= s:=by unfold ui;rw [BitVec.ofInt_natCast];simp
theorem nX (s:BitVec 64):IntKind.u64.wrap (s.toNat:Int)= ui s:=by unfold ui;have:=s.isLt;exact wrap_u64 ⟨by omega,by omega⟩
theorem bZ0 (s t:BitVec 64):pT .and .u64 (ui s) (ui t)= ui (s &&& t):=by show IntKind.u64.wrap ((BitVec.ofInt 64 (ui s)&&& BitVec.ofInt 64 (ui t)).toNat:Int)= _;rw [wH,wH,nX]
theorem bUf (s t:BitVec 64):pT .or .u64 (ui s) (ui t)= ui (s ||| t):=by show IntKind.u64.wrap ((BitVec.ofInt 64 (ui s) ||| BitVec.ofInt 64 (ui t)).toNat:Int)= _;rw [wH,wH,nX]
theorem aDs (s t:BitVec 64):pT .xor .u64 (ui s) (ui t)= ui (s ^^^ t):=by show IntKind.u64.wrap ((BitVec.ofInt 64 (ui s)^^^ BitVec.ofInt 64 (ui t)).toNat:Int)= _;rw [wH,wH,nX]
theorem aL7 (s t:BitVec 64):pT .andNot .u64 (ui s) (ui t)= ui (s &&& ~~~t):=by show IntKind.u64.wrap ((BitVec.ofInt 64 (ui s)&&& ~~~BitVec.ofInt 64 (ui t)).toNat:Int)= _;rw [wH,wH,nX]
theorem hZ (n:Int):IntKind.u64.wrap n=ui (BitVec.ofInt 64 n):=by unfold ui;rw [BitVec.toNat_ofInt];simp [IntKind.wrap,IntKind.signed,IntKind.bits];omega
theorem bZ1 (s t:BitVec 64):IntKind.u64.wrap (ui s+ui t)= ui (s+t):=by rw [hZ,BitVec.ofInt_add,wH,wH]
theorem bZu (s t:BitVec 64):IntKind.u64.wrap (ui s-ui t)= ui (s-t):=by rw [hZ];congr 1;rw [Int.sub_eq_add_neg,BitVec.ofInt_add,BitVec.ofInt_neg,wH,wH,BitVec.sub_eq_add_neg]
theorem bZy (s t:BitVec 64):IntKind.u64.wrap (ui s*ui t)= ui (s*t):=by rw [hZ,BitVec.ofInt_mul,wH,wH]
theorem bZw (s:BitVec 64) (k:Int):aIw .u64 (ui s) k=ui (s <<< k.toNat):=by
 unfold aIw;rw [hZ];congr 1;rw [BitVec.ofInt_mul,wH];show s*BitVec.ofInt 64 (2 ^ min k.toNat 64)= _;apply BitVec.eq_of_toNat_eq;rw [BitVec.toNat_mul,BitVec.toNat_shiftLeft,Nat.shiftLeft_eq]
 have e:(BitVec.ofInt 64 (2 ^ min k.toNat 64)).toNat=2 ^ min k.toNat 64 % 2 ^ 64:=by
  have:((2:Int)^ min k.toNat 64)= ((2 ^ min k.toNat 64:Nat):Int):=by norm_cast
  rw [this,BitVec.ofInt_natCast,BitVec.toNat_ofNat]
 rw [e,Nat.mul_mod_mod]
 rcases Nat.lt_or_ge k.toNat 64 with h | h
 ·rw [Nat.min_eq_left (by omega)]
 ·rw [Nat.min_eq_right h];obtain⟨m,hm⟩:=Nat.exists_eq_add_of_le h;rw [hm,Nat.pow_add,<- Nat.mul_assoc,Nat.mul_right_comm];simp
theorem bZv (s:BitVec 64) (k:Int):aI5 .u64 (ui s) k=ui (s >>> k.toNat):=by
 unfold aI5 ui;rw [BitVec.toNat_ushiftRight,Nat.shiftRight_eq_div_pow];show (s.toNat:Int).fdiv (2 ^ min k.toNat 64)= _;have:((2:Int)^ min k.toNat 64)= ((2 ^ min k.toNat 64:Nat):Int):=by norm_cast
 rw [this,Int.fdiv_eq_ediv_of_nonneg _ (Int.natCast_nonneg _),<- Int.natCast_ediv];congr 1
 rcases Nat.lt_or_ge k.toNat 64 with h | h
 ·rw [Nat.min_eq_left (by omega)]
 ·rw [Nat.min_eq_right h];have h1:=s.isLt;rw [Nat.div_eq_of_lt h1,Nat.div_eq_of_lt (Nat.lt_of_lt_of_le h1 (Nat.pow_le_pow_right (by omega) h))]
theorem bZx (s t:BitVec 64):(ui s).tmod (ui t)= ui (s % t):=by unfold ui;rw [BitVec.toNat_umod,Int.tmod_eq_emod_of_nonneg (by omega),Int.natCast_emod]
theorem aDu (s t:BitVec 64):(ui s==ui t)= (s==t):=by
 by_cases h:s=t
 ·subst h; simp
 ·have:ui s≠ui t:=fun e=>h (aDt.1 e);rw [beq_eq_false_iff_ne.2 this,beq_eq_false_iff_ne.2 h]
theorem bZz (s t:BitVec 64):(ui s != ui t)= (s != t):=by simp only [bne,aDu]
theorem bVn : D.int .u64 0=D.int .u64 (ui 0#64):=rfl
theorem bVm : D.int .u64 1=D.int .u64 (ui 1#64):=rfl
theorem bTt : D.int .u64 2=D.int .u64 (ui 2#64):=rfl
theorem bTs : D.int .u64 18446744073709551615=D.int .u64 (ui 18446744073709551615#64):=rfl
theorem bZ2 : ui 2#64≠0:=by decide
def us (l:List (BitVec 64)):List (List D):=l.map fun s=>[.int .u64 (ui s)]
def bYf (l:List (BitVec 64)):D:=.sl 1 (us l)
theorem xK (l:List (BitVec 64)):(us l).length=l.length:=by simp [us]
theorem aSm : us [] = []:=rfl
theorem aUg (s:BitVec 64) (l:List (BitVec 64)):us (s :: l)= [.int .u64 (ui s)] :: us l:=rfl
theorem uW (l:List (BitVec 64)) {i:Nat} (h:i<l.length):(us l).getD i [] = [.int .u64 (ui (l.getD i 0))]:=by simp [us,List.getD,h]
theorem rN (l:List (BitVec 64)):∀ e ∈ us l,D.xU e=true:=by intro e he;simp only [us,List.mem_map] at he;obtain⟨n,_,rfl⟩:=he;rfl
theorem aNx (l:List (BitVec 64)):∀ e ∈ us l,wK e=true:=by intro e he;simp only [us,List.mem_map] at he;obtain⟨n,_,rfl⟩:=he;rfl
theorem aMh (l:List (BitVec 64)) (n:Nat):(us l).take n=us (l.take n):=by simp [us,List.map_take]
theorem aUf (l:List (BitVec 64)) (s:BitVec 64):us l ++ [[.int .u64 (ui s)]]=us (l ++ [s]):=by simp [us]
theorem lU (l:List (BitVec 64)) (i:Nat) (s:BitVec 64):(us l).set i [.int .u64 (ui s)]=us (l.set i s):=by simp [us,List.map_set]
theorem iM (n:Nat) (s:BitVec 64):List.replicate n [D.int .u64 (ui s)]=us (List.replicate n s):=by simp [us]
theorem bZd : ∀ {els:List (List D)},(∀ e ∈ els,∃ n:Int,e = [.int .u64 n])->D.aHf els->∃ l,els=us l
 | [],_,_=>⟨[],rfl⟩
 | e :: r,h,hf=>by obtain⟨n,rfl⟩:=h e (by simp);obtain⟨l,rfl⟩:=bZd (fun e he=>h e (by simp [he])) hf.2;have h1:=hf.1;simp only [D.rG,D.fact,and_true] at h1;obtain⟨h1,h2⟩:=h1;refine⟨BitVec.ofInt 64 n :: l,?_⟩;have:ui (BitVec.ofInt 64 n)= n:=bUg (by simpa [IntKind.min,IntKind.signed] using h1) (by have:IntKind.u64.max=18446744073709551615:=rfl; omega);simp [us,this]
theorem aK3 (d:D):qP false [d]=d:=rfl
theorem aK4 (cs:List D):qP true cs = .agg cs:=rfl
def xA (key sz:Nat):List (List D)->D
 | []=>.xO
 | e :: r=>.osl key sz (e :: r).length
def yY (key sz:Nat):List (List D)->List (Nat × Ob)
 | []=>[]
 | e :: r=>[(key,⟨sz,e :: r⟩)]
end Go.Pd
namespace Go.Pd
open Go
variable [sC]
def xP (f:Fr):Fr->Prop
 | []=>True
 | (t,d) :: r=>f.get t=d/\xP f r
omit [sC] in
theorem aZ0 {f:Fr}:∀ {f':Fr},xP f f'->∀ t,f'.get t = .top\/f'.get t=f.get t
 | [],_,t=>.inl rfl
 | (s,d) :: r,h,t=>by
  simp only [Fr.get]
  split
  ·rename_i e; subst e; exact .inr h.1.symm
  ·exact aZ0 h.2 t
theorem xM.same {C:Cx} {f f':Fr} {σ:St} (h:xP f f'):xM C f σ f' σ:=xM.frame (aZ0 h)
end Go.Pd
namespace Go.Pd
open Go
def rr (ll:List (List (BitVec 64))):List (List D):=ll.map fun l=>[bYf l]
def bTp (ll:List (List (BitVec 64))):D:=.sl 1 (rr ll)
theorem zP (l:List (List (BitVec 64))):(rr l).length=l.length:=by simp [rr]
theorem nD (l:List (List (BitVec 64))) {i:Nat} (h:i<l.length):(rr l).getD i [] = [.sl 1 (us (l.getD i []))]:=by simp [rr,bYf,List.getD,h]
theorem aBr (l:List (List (BitVec 64))) (n:Nat):(rr l).take n=rr (l.take n):=by simp [rr,List.map_take]
theorem aUn (l:List (List (BitVec 64))):∀ e ∈ rr l,D.xU e=true:=by intro e he;simp only [rr,List.mem_map] at he;obtain⟨n,_,rfl⟩:=he;simp [D.xU,D.xL,bYf]
end Go.Pd
namespace Go.Pd
open Go
theorem iT.same {n0:Nat} {σ:St} {d:D}:iT n0 σ d σ d:=.inl ⟨rfl,rfl⟩
theorem iT.drop {n0 n:Nat} {σ:St} {d d':D} (hn:n0<=n) (h:vw σ ⟨n,[]⟩ (fun k=>k) d d'):iT n0 σ d ⟨n,[]⟩ d':= .inr ⟨fun k=>k,hn,fun _ _=>rfl,h,by simp [stays],by simp [uU]⟩
end Go.Pd
namespace Go.Pd
open Go
universe u
variable [sC]
def atK (σ:St) (K:D->St->Prop) (d:D):Prop:=K d σ
def bVx (f:Fr) (dst:Option Nat) (K:Fr->St->Prop) (d:D) (σ:St):Prop:=K (f.put dst d) σ
def bVw (f:Fr) (dst:Option Nat) (K:Fr->Prop) (d:D):Prop:=K (f.put dst d)
def iG (Q:Exit->Fr->St->Prop) (f:Fr) (σ:St):Prop:=Q .normal f σ
def gdB (d:D) (want:Bool) (yes no:Prop):Prop:=
 match d with
 | .bool b=>if b=want then yes else no
 | .und=>no
 | _=>False
theorem aEk (b want:Bool) (yes no:Prop):gdB (.bool b) want yes no=if b=want then yes else no:=rfl
theorem bXa (want:Bool) (yes no:Prop):gdB .und want yes no=no:=rfl
@[congr] theorem bVf {d d' : D} {want : Bool} {yes no : Prop} (h : d = d') : gdB d want yes no = gdB d' want yes no := by rw [h]
def gd (g:Option (Nat × Bool)) (f:Fr) (yes no:Prop):Prop:=
 match g with
 | none=>yes
 | some (j,want)=>gdB (f.get j) want yes no
theorem aA9 (f:Fr) (yes no:Prop):gd none f yes no=yes:=rfl
theorem aA8 (j:Nat) (want:Bool) (f:Fr) (yes no:Prop):gd (some (j,want)) f yes no=gdB (f.get j) want yes no:=rfl
theorem bZj (o:DOp) (f:Fr) (yes no:Prop):yP o f yes no=gd o.guard f yes no:=by
 unfold yP gd
 split
 ·rename_i h; rw [h]
 ·rename_i h; rw [h]; rfl
def aQy (q:Bool) (σ:St) (sz bytes:Nat) (x:D) (y:Option (List (List D))) (K:D->St->Prop):Prop:=
 match y with
 | none=>False
 | some rows=>(∀ r ∈ rows,wK r=true)/\ match x with
  | .xO=>rows.length*bytes<=140737488355328/\rows.length<=8000000000000/\(rows = []->K .xO σ)/\ (rows ≠ []->K (.osl σ.nx sz rows.length) (σ.new ⟨sz,rows⟩))
  | .osl key sz' n=>match σ.get key with
   | some ob=>sz=sz'/\ob.sz=sz/\n<=ob.els.length/\(n+rows.length)* bytes<=140737488355328/\n+rows.length<=8000000000000 /\
    K (.osl σ.nx sz (n+rows.length)) ((σ.erase key).new ⟨sz,ob.els.take n++rows⟩)
   | none=>False
  | .sub key sz' lo n=>match σ.get key with
   | some ob=>q=true/\sz=sz'/\ob.sz=sz/\lo+n<=ob.els.length/\(n+rows.length)* bytes<=140737488355328/\n+rows.length<=8000000000000 /\
    ∀ pre:List (List D),(pre = []\/pre=ob.els.take lo)->K (.sub σ.nx sz pre.length (n+rows.length)) ((σ.erase key).new ⟨sz,pre++((ob.els.drop lo).take n++rows)⟩)
   | none=>False
  | _=>False
def bY2 (σ:St) (n:Nat) (a:D) (x:Option (List D)) (K:D->St->Prop):Prop:=
 match a,x with
 | .ref key sz i off,some ds=>match σ.get key with
  | some ob=>ob.sz=sz/\i<ob.els.length/\ds.length=n/\off+n<=sz/\wK ds=true/\K .und (σ.set key ⟨sz,ob.els.set i (cE (ob.els.getD i []) off ds)⟩)
  | none=>False
 | _,_=>False
def aIz (x:D) (K:D->Prop):Prop:=
 match x with
 | .sl _ els=>K (.int .i64 els.length)
 | .osl _ _ n=>K (.int .i64 n)
 | .sub _ _ _ n=>K (.int .i64 n)
 | .xO=>K (.int .i64 0)
 | .emp=>K (.int .i64 0)
 | _=>False
def aI6 (sz:Nat) (x i:D) (K:D->Prop):Prop:=
 match x,i with
 | .sl sz' els,.int _ n=>sz=sz'/\0<=n/\n<els.length/\K (.ptr (els.getD n.toNat []))
 | .osl key sz' len,.int _ n=>sz=sz'/\0<=n/\n<len/\K (.ref key sz n.toNat 0)
 | .sub key sz' lo len,.int _ n=>sz=sz'/\0<=n/\n<len/\K (.ref key sz (lo+n.toNat) 0)
 | _,_=>False
def pK (neg:Bool) (x y:D) (K:D->Prop):Prop:=
 match x,y with
 | .xO,.xO=>K (.bool (!neg))
 | .osl ..,.xO | .xO,.osl ..=>K (.bool neg)
 | .emp,.xO | .xO,.emp=>K (.bool neg)
 | .sl _ (_ :: _),.xO=>K (.bool neg)
 | _,_=>False
def aQ7 (σ:St) (n:Nat) (ag:Bool) (x:D) (K:D->Prop):Prop:=
 match x with
 | .ref key sz i off=>match σ.get key with
  | some o=>o.sz=sz/\i<o.els.length/\off+n<=sz/\(ag=true\/n=1)/\ K (qP ag (((o.els.getD i []).drop off).take n))
  | none=>False
 | .ptr cs=>n<=cs.length/\(ag=true\/n=1)/\ K (qP ag (cs.take n))
 | _=>False
def bYi (x:D) (K:D->Prop):Prop:=
 match x with
 | .ref key sz i off=>K (.ref key sz i off)
 | .ptr cs=>K (.ptr cs)
 | .fn f cs=>K (.fn f cs)
 | _=>False
@[congr] theorem bYx {x x' : D} {K : D -> Prop} (h : x = x') : bYi x K = bYi x' K := by rw [h]
theorem aFs {key sz i off:Nat} {K:D->Prop}:bYi (.ref key sz i off) K=K (.ref key sz i off):=rfl
theorem aFt {cs:List D} {K:D->Prop}:bYi (.ptr cs) K=K (.ptr cs):=rfl
theorem aAl {f:FuncId} {cs:List D} {K:D->Prop}:bYi (.fn f cs) K=K (.fn f cs):=rfl
def aQ5 (σ:St) (zero:D) (ok:Bool) (m k:D) (K:D->Prop):Prop:=
 match m,k with
 | .zJ key,.int kk x=>match σ.get key with
  | some o=>o.sz=0/\iE kk o.els/\K (kA ok zero (pN x o.els 0))
  | none=>False
 | .mY,.int _ _=>K (kA ok zero none)
 | _,_=>False
def aNs (σ:St) (m k x:D) (K:D->St->Prop):Prop:=
 match m,k with
 | .zJ key,.int kk y=>match σ.get key with
  | some o=>o.sz=0/\iE kk o.els/\K .und (σ.set key ⟨0,aV6 kk o.els y x⟩)
  | none=>False
 | _,_=>False
def iQ (σ:St) (n:Nat) (zero:D) (ok:Bool) (m k:D) (K:D->Prop):Prop:=
 match m,k with
 | .zJ key,.agg cs=>match σ.get key with
  | some o=>o.sz=0/\∃ (x:List Int) (l:List (List Int × D)),(cs=x.map (D.int .i64)/\ o.els=pP l/\x.length=n/\∀ p ∈ l,p.1.length=n)/\ K (kA ok zero (pI x l 0))
  | none=>False
 | _,_=>False
def lT (σ:St) (n:Nat) (m k x:D) (K:D->St->Prop):Prop:=
 match m,k with
 | .zJ key,.agg cs=>match σ.get key with
  | some o=>o.sz=0/\∃ (y:List Int) (l:List (List Int × D)),(cs=y.map (D.int .i64)/\ o.els=pP l/\(y.length=n/\∀ p ∈ l,p.1.length=n))/\ K .und (σ.set key ⟨0,pP (aXc y x l)⟩)
  | none=>False
 | _,_=>False
def aC3 (σ:St) (zero m k:D) (K:D->St->Prop):Prop:=
 match m,k with
 | .zJ key,.int kk y=>match σ.get key with
  | some o=>o.sz=0/\iE kk o.els/\o.els.length<=1000000000/\(match pN y o.els 0 with
   | some (i,d)=>K (.tup [d,.int .i64 i]) (σ.set key ⟨0,o.els⟩)
   | none=>K (.tup [zero,.int .i64 o.els.length]) (σ.set key ⟨0,o.els ++ [[.int kk y,zero]]⟩))
  | none=>False
 | _,_=>False
def aC6 (σ:St) (m s x:D) (K:D->St->Prop):Prop:=
 match m,s with
 | .zJ key,.int _ i=>match σ.get key with
  | some o=>o.sz=0/\0<=i/\i<o.els.length/\(∃ kk y d,o.els.getD i.toNat [] = [.int kk y,d]/\K .und (σ.set key ⟨0,o.els.set i.toNat [.int kk y,x]⟩))
  | none=>False
 | _,_=>False
@[congr] theorem bX6 {σ : St} {zero : D} {ok : Bool} {m m' k k' : D} {K : D -> Prop} (h : m = m') (h' : k = k') : aQ5 σ zero ok m k K = aQ5 σ zero ok m' k' K := by rw [h, h']
@[congr] theorem bX4 {σ : St} {m m' k k' x x' : D} {K : D -> St -> Prop} (h : m = m') (h' : k = k') (h2 : x = x') : aNs σ m k x K = aNs σ m' k' x' K := by rw [h, h', h2]
@[congr] theorem aCm {σ : St} {n : Nat} {zero : D} {ok : Bool} {m m' k k' : D} {K : D -> Prop} (h : m = m') (h' : k = k') : iQ σ n zero ok m k K = iQ σ n zero ok m' k' K := by rw [h, h']
@[congr] theorem aCk {σ : St} {n : Nat} {m m' k k' x x' : D} {K : D -> St -> Prop} (h : m = m') (h' : k = k') (h2 : x = x') : lT σ n m k x K = lT σ n m' k' x' K := by rw [h, h', h2]
@[congr] theorem bX8 {σ : St} {zero m m' k k' : D} {K : D -> St -> Prop} (h : m = m') (h' : k = k') : aC3 σ zero m k K = aC3 σ zero m' k' K := by rw [h, h']
@[congr] theorem bYb {σ : St} {m m' k k' x x' : D} {K : D -> St -> Prop} (h : m = m') (h' : k = k') (h2 : x = x') : aC6 σ m k x K = aC6 σ m' k' x' K := by rw [h, h', h2]
@[congr] theorem bY0 {q : Bool} {σ : St} {sz bytes : Nat} {x x' : D} {y y' : Option (List (List D))} {K : D -> St -> Prop} (h : x = x') (h' : y = y') : aQy q σ sz bytes x y K = aQy q σ sz bytes x' y' K := by rw [h, h']
@[congr] theorem bYv {σ : St} {n : Nat} {x x' : D} {y y' : Option (List D)} {K : D -> St -> Prop} (h : x = x') (h' : y = y') : bY2 σ n x y K = bY2 σ n x' y' K := by rw [h, h']
@[congr] theorem bYy {x x' : D} {K : D -> Prop} (h : x = x') : aIz x K = aIz x' K := by rw [h]
@[congr] theorem bYz {sz : Nat} {x x' i i' : D} {K : D -> Prop} (h : x = x') (h' : i = i') : aI6 sz x i K = aI6 sz x' i' K := by rw [h, h']
@[congr] theorem aCj {neg : Bool} {x x' i i' : D} {K : D -> Prop} (h : x = x') (h' : i = i') : pK neg x i K = pK neg x' i' K := by rw [h, h']
@[congr] theorem bX9 {σ : St} {n : Nat} {ag : Bool} {x x' : D} {K : D -> Prop} (h : x = x') : aQ7 σ n ag x K = aQ7 σ n ag x' K := by rw [h]
def pX (C:Cx) (σ:St) (ev:Opd->D) (k:DK) (K:D->Prop):Prop:=
 match k with
 | .len x=>aIz (ev x) K
 | .idx sz x i=>aI6 sz (ev x) (ev i) K
 | .cK neg x y=>pK neg (ev x) (ev y) K
 | .load n ag x=>aQ7 σ n ag (ev x) K
 | .aNj zero ok m k=>aQ5 σ zero ok (ev m) (ev k) K
 | .aY6 n zero ok m k=>iQ σ n zero ok (ev m) (ev k) K
 | .nck x=>bYi (ev x) K
 | k=>pW C σ ev k K
theorem bZe (C:Cx) (σ:St) (ev:Opd->D) (k:DK) (K:D->Prop):pX C σ ev k K=pW C σ ev k K:=by cases k <;> rfl
def opX (C:Cx) (σ:St) (ev:Opd->D) (k:DK) (K:D->St->Prop):Prop:=
 match k with
 | .box x=>opV C σ ev (.box x) K
 | .alloc z=>opV C σ ev (.alloc z) K
 | .store n a x=>bY2 σ n (ev a) (ev x).cells K
 | .app sz bytes x y=>aQy (C.own.contains 77777) σ sz bytes (ev x) (rowsOf σ sz (ev y)) K
 | .cD sz bytes zero len cap=>opV C σ ev (.cD sz bytes zero len cap) K
 | .aY0 sz len zero parts=>opV C σ ev (.aY0 sz len zero parts) K
 | .clr zero x=>opV C σ ev (.clr zero x) K
 | .cpy x y=>opV C σ ev (.cpy x y) K
 | .call fn args=>opV C σ ev (.call fn args) K
 | .mkm=>opV C σ ev .mkm K
 | .aY1 m k x=>aNs σ (ev m) (ev k) (ev x) K
 | .jZ n m k x=>lT σ n (ev m) (ev k) (ev x) K
 | .aO8 zero m k=>aC3 σ zero (ev m) (ev k) K
 | .aNa m s x=>aC6 σ (ev m) (ev s) (ev x) K
 | k=>pX C σ ev k (atK σ K)
theorem aN1 (C:Cx) (σ:St) (ev:Opd->D) (k:DK) (K:D->St->Prop):opX C σ ev k K=opV C σ ev k K:=by cases k <;> first | rfl | (show pX _ _ _ _ _=_; rw [bZe]; rfl)
def aO6 (C:Cx):List DOp->(Fr->St->Prop)->Fr->St->Prop
 | [],K,f,σ=>K f σ
 | ⟨dst,g,k⟩ :: rest,K,f,σ=>gd g f (opX C σ (evO f) k (bVx f dst (aO6 C rest K))) (aO6 C rest K (f.put dst .und) σ)
theorem jS (C:Cx) (K:Fr->St->Prop):∀ (ops:List DOp) (f:Fr) (σ:St),aO6 C ops K f σ=pR C ops f σ K
 | [],f,σ=>rfl
 | o :: rest,f,σ=>by
  have ih:aO6 C rest K=fun f σ=>pR C rest f σ K:=by funext f σ; exact jS C K rest f σ
  unfold aO6 pR;rw [bZj,aN1,ih];rfl
def aO5 (C:Cx) (σ:St):List DOp->(Fr->Prop)->Fr->Prop
 | [],K,f=>K f
 | ⟨dst,g,k⟩ :: rest,K,f=>gd g f (pX C σ (evO f) k (bVw f dst (aO5 C σ rest K))) (aO5 C σ rest K (f.put dst .und))
theorem mS (C:Cx) (σ:St) (K:Fr->Prop):∀ (ops:List DOp) (f:Fr),aO5 C σ ops K f=tL C σ ops f K
 | [],f=>rfl
 | o :: rest,f=>by
  have ih:aO5 C σ rest K=fun f=>tL C σ rest f K:=by funext f; exact mS C σ K rest f
  unfold aO5 tL;rw [bZj,bZe,ih];rfl
def aNr (C:Cx) (post:List DOp) (Q:Exit->Fr->St->Prop) (σ:St) (f:Fr):Prop:=aO6 C post (iG Q) f σ
def cdB (d:D) (p q:Prop):Prop:=
 match d with
 | .bool t=>if t=true then p else q
 | _=>False
theorem aE1 (t:Bool) (p q:Prop):cdB (.bool t) p q=if t=true then p else q:=rfl
@[congr] theorem bVg {d d' : D} {p q : Prop} (h : d = d') : cdB d p q = cdB d' p q := by rw [h]
def aZe (C:Cx) (it:Nat) (m:Opd) (out nx more next pair:Nat) (rest:List DOp) (code:DC) (Q:Exit->Fr->St->Prop) (f:Fr) (σ:St):Prop:=aZd C it m out nx more next pair rest code f σ Q
@[congr] theorem aCl {C : Cx} {it : Nat} {m : Opd} {out nx more next pair : Nat} {rest : List DOp} {code : DC} {Q : Exit -> Fr -> St -> Prop} {f f' : Fr} {σ : St} (h : f = f') : aZe C it m out nx more next pair rest code Q f σ = aZe C it m out nx more next pair rest code Q f' σ := by rw [h]
def aXi (C:Cx) (code:DC) (out next:Nat) (J:Fr->St->Prop) (Q:Exit->Fr->St->Prop) (f:Fr) (σ:St):Prop:=wpS C code f σ (tF next (mV J (tF out Q)))
@[congr] theorem aDg {C : Cx} {code : DC} {out next : Nat} {J : Fr -> St -> Prop} {Q : Exit -> Fr -> St -> Prop} {f f' : Fr} {σ : St} (h : f = f') : aXi C code out next J Q f σ = aXi C code out next J Q f' σ := by rw [h]
def aNv (C:Cx) (k:DK) (K:Fr->D->St->Prop) (σ:St) (f1:Fr):Prop:=opX C σ (evO f1) k (K f1)
def eqF (f:Fr) (g:Fr):Prop:=g=f
def unK (C:Cx) (un:Bool) (mid:List DOp) (f1:Fr) (σ:St) (K:Fr->St->Prop) (σ1:St) (f2:Fr):Prop:=(if un=true then aO5 C σ mid (eqF f2) f1 else True)/\ K f2 σ1
def bYk (C:Cx) (pre:List DOp) (dst:Option Nat) (mid:List DOp) (un:Bool) (post:List DOp) (Q:Exit->Fr->St->Prop) (f:Fr) (σ:St) (f1:Fr) (d:D) (σ1:St):Prop:= aO5 C σ1 pre (eqF f1) f/\aO5 C σ1 mid (unK C un mid (f1.put dst d) σ (aO6 C post (iG Q)) σ1) (f1.put dst d)
theorem aAs {C:Cx} {pre:List DOp} {dst:Option Nat} {mid:List DOp} {un:Bool} {post:List DOp} {Q:Exit->Fr->St->Prop} {f:Fr} {σ:St} {f1:Fr} {d:D} {σ1:St} :
  bYk C pre dst mid un post Q f σ f1 d σ1=bY7 C pre dst mid un f σ (fun f σ=>pR C post f σ fun f σ=>Q .normal f σ) f1 d σ1:=by
 unfold bYk bY7;rw [mS,mS]
 have:unK C un mid (f1.put dst d) σ (aO6 C post (iG Q)) σ1=fun f2=>(if un=true then tL C σ mid (f1.put dst d) (fun g=>g=f2) else True)/\ pR C post f2 σ1 fun f σ=>Q .normal f σ:=by funext f2;unfold unK;rw [mS,jS];rfl
 rw [this];rfl
def wpX (C:Cx):DC->(Exit->Fr->St->Prop)->Fr->St->Prop
 | .skip,Q,f,σ=>Q .normal f σ
 | .reg pre post,Q,f,σ=>aO5 C σ pre (aNr C post Q σ) f
 | .aIx pre m mid un post,Q,f,σ=>aO5 C σ pre (aNv C m.k (bYk C pre m.dst mid un post Q f σ) σ) f
 | .aDh pre m1 mid1 m2 mid2 post,Q,f,σ=>wpD C (.aDh pre m1 mid1 m2 mid2 post) f σ Q
 | .seq a b,Q,f,σ=>wpX C a (mV (wpX C b Q) Q) f σ
 | .cond c a b,Q,f,σ=>cdB (evO f c) (wpX C a Q f σ) (wpX C b Q f σ)
 | .block id c,Q,f,σ=>wpX C c (tF id Q) f σ
 | .loop c,Q,f,σ=>wpS C (.loop c) f σ Q
 | .aO4 g ps a c,Q,f,σ=>wpS C (.aO4 g ps a c) f σ Q
 | .aV0 pre m1 mid1 m2 mid2 post free,Q,f,σ=>wpS C (.aV0 pre m1 mid1 m2 mid2 post free) f σ Q
 | .aSd pre m mid un post fl,Q,f,σ=>wpS C (.aSd pre m mid un post fl) f σ Q
 | .exit id,Q,f,σ=>Q (.exit id) f σ
 | .ret,Q,f,σ=>Q .ret f σ
 | .rng ..,_,_,_=>False
 | .nxt ..,_,_,_=>False
 | .ent ..,_,_,_=>False
 | .aD pre it m out nx more next pair rest code,Q,f,σ=>aO6 C pre (aZe C it m out nx more next pair rest code Q) f σ
theorem gG (C:Cx):∀ (dc:DC) (Q:Exit->Fr->St->Prop) (f:Fr) (σ:St),wpX C dc Q f σ=wpD C dc f σ Q
 | .skip,Q,f,σ=>rfl
 | .reg pre post,Q,f,σ=>by
  unfold wpX wpD;rw [mS]
  have:aNr C post Q σ=fun f=>pR C post f σ fun f σ=>Q .normal f σ:=by funext f;unfold aNr;rw [jS];rfl
  rw [this]
 | .aIx pre m mid un post,Q,f,σ=>by
  unfold wpX wpD;rw [mS]
  have:aNv C m.k (bYk C pre m.dst mid un post Q f σ) σ=fun f1=>opV C σ (evO f1) m.k fun d σ1=>bY7 C pre m.dst mid un f σ (fun f σ=>pR C post f σ fun f σ=>Q .normal f σ) f1 d σ1:=by funext f1;unfold aNv;rw [aN1];congr 1;funext d σ1;exact aAs
  rw [this]
 | .aDh ..,Q,f,σ=>rfl
 | .seq a b,Q,f,σ=>by
  have ih:wpX C b Q=fun f σ=>wpD C b f σ Q:=by funext f σ; exact gG C b Q f σ
  unfold wpX;rw [gG C a,ih];rfl
 | .cond c a b,Q,f,σ=>by unfold wpX;rw [gG C a,gG C b];rfl
 | .block id c,Q,f,σ=>by unfold wpX; rw [gG C c]; rfl
 | .loop c,Q,f,σ=>rfl
 | .aO4 g ps a c,Q,f,σ=>rfl
 | .aV0 ..,Q,f,σ=>rfl
 | .aSd ..,Q,f,σ=>rfl
 | .exit id,Q,f,σ=>rfl
 | .ret,Q,f,σ=>rfl
 | .rng ..,_,_,_=>rfl
 | .nxt ..,_,_,_=>rfl
 | .ent ..,_,_,_=>rfl
 | .aD pre it m out nx more next pair rest code,Q,f,σ=>by unfold wpX wpD; rw [jS]; rfl
noncomputable def aSo {α:Sort u} (a:α):α:=Classical.choose (⟨a,rfl⟩:∃ b:α,b=a)
theorem fB {α:Sort u} (a:α):aSo a=a:=Classical.choose_spec (⟨a,rfl⟩:∃ b:α,b=a)
noncomputable def aSf (C:Cx):List DOp->(Fr->St->Prop)->Fr->St->Prop:=aSo (aO6 C)
noncomputable def kD (C:Cx) (σ:St):List DOp->(Fr->Prop)->Fr->Prop:=aSo (aO5 C σ)
noncomputable def wpZ (C:Cx):DC->(Exit->Fr->St->Prop)->Fr->St->Prop:=aSo (wpX C)
theorem mR (C:Cx):aSf C=aO6 C:=fB _
theorem mT (C:Cx) (σ:St):kD C σ=aO5 C σ:=fB _
theorem sR (C:Cx):wpZ C=wpX C:=fB _
section
variable (C : Cx) (σ : St) (f : Fr) (Q : Exit -> Fr -> St -> Prop) (K : Fr -> St -> Prop) (K1 : Fr -> Prop) (a b c : DC) (dst : Option Nat) (g : Option (Nat × Bool)) (k : DK) (rest pre post : List DOp) (x : Opd) (id : Nat)
theorem aG9 : aSf C [] K f σ=K f σ:=by rw [mR]; rfl
theorem aK5 : aSf C (⟨dst,g,k⟩ :: rest) K f σ=gd g f (opX C σ (evO f) k (bVx f dst (aSf C rest K))) (aSf C rest K (f.put dst .und) σ):=by rw [mR]; rfl
theorem aRj : kD C σ [] K1 f=K1 f:=by rw [mT]; rfl
theorem aK2 : kD C σ (⟨dst,g,k⟩ :: rest) K1 f=gd g f (pX C σ (evO f) k (bVw f dst (kD C σ rest K1))) (kD C σ rest K1 (f.put dst .und)):=by rw [mT]; rfl
def aHc (C:Cx) (post:List DOp) (Q:Exit->Fr->St->Prop) (σ:St) (f:Fr):Prop:=aSf C post (iG Q) f σ
theorem aHi : wpZ C .skip Q f σ=Q .normal f σ:=by rw [sR]; rfl
theorem aBc : wpZ C (.reg pre post) Q f σ=kD C σ pre (aHc C post Q σ) f:=by
 have e:aHc C post Q σ=aNr C post Q σ:=by funext f; unfold aHc aNr; rw [mR]
 rw [sR,mT,e]; rfl
def aA (C:Cx) (k:DK) (K:Fr->D->St->Prop) (σ:St) (f1:Fr):Prop:=opX C σ (evO f1) k (K f1)
def unZ (C:Cx) (un:Bool) (mid:List DOp) (f1:Fr) (σ:St) (K:Fr->St->Prop) (σ1:St) (f2:Fr):Prop:=(if un=true then kD C σ mid (eqF f2) f1 else True)/\ K f2 σ1
def bVl (C:Cx) (pre:List DOp) (dst:Option Nat) (mid:List DOp) (un:Bool) (post:List DOp) (Q:Exit->Fr->St->Prop) (f:Fr) (σ:St) (f1:Fr) (d:D) (σ1:St):Prop:= kD C σ1 pre (eqF f1) f/\kD C σ1 mid (unZ C un mid (f1.put dst d) σ (aSf C post (iG Q)) σ1) (f1.put dst d)
theorem aHl {mid:List DOp} {un:Bool}:wpZ C (.aIx pre ⟨dst,g,k⟩ mid un post) Q f σ=kD C σ pre (aA C k (bVl C pre dst mid un post Q f σ) σ) f:=by
 have e:aA C k (bVl C pre dst mid un post Q f σ) σ=aNv C k (bYk C pre dst mid un post Q f σ) σ:=by
  funext f1;unfold aA aNv;congr 1;funext d σ1;unfold bVl bYk
  have e2:unZ C un mid (f1.put dst d) σ (aSf C post (iG Q)) σ1=unK C un mid (f1.put dst d) σ (aO6 C post (iG Q)) σ1:=by funext f2; unfold unZ unK; rw [mR,mT]
  rw [e2,mT]
 rw [sR,mT,e]; rfl
theorem aEq (f:Fr):eqF f f=True:=eq_true rfl
theorem aBa : wpZ C (.seq a b) Q f σ=wpZ C a (mV (wpZ C b Q) Q) f σ:=by rw [sR]; rfl
theorem aHo : wpZ C (.cond x a b) Q f σ=cdB (evO f x) (wpZ C a Q f σ) (wpZ C b Q f σ):=by rw [sR]; rfl
theorem aL1 : wpZ C (.block id c) Q f σ=wpZ C c (tF id Q) f σ:=by rw [sR]; rfl
theorem aHm : wpZ C (.loop c) Q f σ=wpS C (.loop c) f σ Q:=by rw [sR]; rfl
theorem aHj {g:Opd} {ps:List Nat}:wpZ C (.aO4 g ps a c) Q f σ=wpS C (.aO4 g ps a c) f σ Q:=by rw [sR]; rfl
theorem aHn : wpZ C (.exit id) Q f σ=Q (.exit id) f σ:=by rw [sR]; rfl
theorem aBb : wpZ C .ret Q f σ=Q .ret f σ:=by rw [sR]; rfl
theorem aL0 {it:Nat} {m:Opd} {out nx more next pair:Nat} {rst:List DOp} {code:DC}:wpZ C (.aD pre it m out nx more next pair rst code) Q f σ=aSf C pre (aZe C it m out nx more next pair rst code Q) f σ:=by rw [sR,mR]; rfl
end
theorem xN {C:Cx} (hm:C.P.follows .mixedOrders=true) {dc:DC} {f:Fr} {σ:St} {Q:Exit->Fr->St->Prop} (h:wpZ C dc Q f σ):wpS C dc f σ Q:= aDr hm (by rw [<- gG,<- sR]; exact h)
theorem xY.xR {P:Program} {g:FuncId} {fn:Func} {own:List Nat} {N:Nat} {dc:DC} {rs:List yR} {args:List D} {σ:St} {d:D} {σ':St} (hm:P.follows .mixedOrders=true) (hf:P.funcs[g]?=some fn)
  (hc:xT P own fn=some (N,dc,rs)) (hla:args.length<=N)
  (h:D.rG args->wpZ ⟨P,N,σ.nx,own,none⟩ dc (aHg ⟨P,N,σ.nx,own,none⟩ rs d σ') (cJ 0 args) σ):xY P g args σ d σ':=
 xY.bUq hm hf hc hla fun hfa=>by rw [<- gG,<- sR]; exact h hfa
end Go.Pd
namespace Go.Pd
open Go
theorem aQi (s:BitVec 64) (w:Nat):s >>> w &&& 1#64=if s.getLsbD w then 1#64 else 0#64:=by
 apply BitVec.eq_of_toNat_eq;rw [BitVec.toNat_and,BitVec.toNat_ushiftRight];have:(1#64).toNat=1:=rfl;rw [this,Nat.and_one_is_mod];unfold BitVec.getLsbD;rw [Nat.testBit_eq_decide_div_mod_eq,Nat.shiftRight_eq_div_pow]
 by_cases h:s.toNat / 2 ^ w % 2=1
 ·simp [h]
 ·simp [h]; omega
theorem aUk {k:Nat} (hk:k<62):aIw .i64 1 k=((2 ^ k:Nat):Int):=by
 have hp:2 ^ k<2 ^ 62:=Nat.pow_lt_pow_right (by omega) hk;unfold aIw
 have e:min (k:Int).toNat IntKind.i64.bits=k:=by have:IntKind.i64.bits=64:=rfl;rw [this,Int.toNat_natCast]; omega
 rw [e,Int.one_mul,wrap_i64]
 ·simp
 ·have:((2:Int)^ k)= ((2 ^ k:Nat):Int):=by simp
  rw [this];exact⟨Int.le_trans (by decide) (Int.natCast_nonneg _),Int.le_trans (Int.ofNat_le.2 (Nat.le_of_lt hp)) (by decide)⟩
theorem or_zero {a k:Nat} (h:a<2 ^ k) (hk:k<62):pT .or .i64 (a:Int) (aIw .i64 0 k)= (a:Int):=by
 have hp:2 ^ k<2 ^ 62:=Nat.pow_lt_pow_right (by omega) hk
 have e1:aIw .i64 0 k=0:=by unfold aIw;rw [Int.zero_mul]; rfl
 rw [e1];show IntKind.i64.wrap ((BitVec.ofInt 64 (a:Int) ||| BitVec.ofInt 64 0).toNat:Int)= _;rw [BitVec.ofInt_natCast,BitVec.toNat_or,BitVec.toNat_ofNat,Nat.mod_eq_of_lt (by omega)];have:(BitVec.ofInt 64 0).toNat=0:=rfl;rw [this,Nat.or_zero];exact wrap_i64 (by omega)
end Go.Pd
namespace Go.Pd
open Go
theorem zA (key sz:Nat):xA key sz [] = .xO:=rfl
theorem aS (key sz:Nat) (e:List D) (r:List (List D)):xA key sz (e :: r)= .osl key sz (r.length+1):=rfl
theorem zB (key sz:Nat):yY key sz [] = []:=rfl
theorem aT (key sz:Nat) (e:List D) (r:List (List D)):yY key sz (e :: r)= [(key,⟨sz,e :: r⟩)]:=rfl
theorem lO (k:IntKind):rows k [] = []:=rfl
theorem fA (k:IntKind) (n:Int) (l:List Int):rows k (n :: l)= [.int k n] :: rows k l:=rfl
theorem aZ3 (k:IntKind) (l:List Int) (n:Int):rows k l ++ [[.int k n]]=rows k (l ++ [n]):=by simp [rows]
theorem aUm (l:List (List (BitVec 64))) (r:List (BitVec 64)):rr l ++ [[.sl 1 (us r)]]=rr (l ++ [r]):=by simp [rr,bYf]
theorem aDy : rr [] = []:=rfl
theorem aMs (l:List (BitVec 64)) (r:List (List (BitVec 64))):rr (l :: r)= [.sl 1 (us l)] :: rr r:=rfl
variable [sC]
theorem aJw {key m n sz:Nat} {els:List (List D)} (hs:0<sz) (hp:∀ e ∈ els,D.xU e=true) {ρ:Nat->Nat}:vw ⟨m,yY key sz els⟩ ⟨n,[]⟩ ρ (xA key sz els) (.sl sz els):=by
 cases els with
 | nil=>simp [xA,vw]
 | cons e r=> simp only [xA,yY,vw];refine⟨trivial,hs,by simp,⟨sz,e :: r⟩,by simp [St.get,St.look],rfl,Nat.le_refl _,by simp,hp⟩
theorem iT.name {n0 n m sz j:Nat} {els:List (List D)} {d d':D} (hn:n0<=n) (hp:∀ e ∈ els,D.xU e=true) (hv:vw ⟨m,[(j,⟨sz,els⟩)]⟩ ⟨n+1,[(n,⟨sz,els⟩)]⟩ (fun k=>if k=n then j else k) d d'):iT n0 ⟨m,[(j,⟨sz,els⟩)]⟩ d ⟨n+1,[(n,⟨sz,els⟩)]⟩ d':=by
 refine .inr ⟨fun k=>if k=n then j else k,by show n0<=n+1; omega,fun k hk=>if_neg (by omega),hv,?_,?_⟩
 ·intro p hp';simp only [List.mem_singleton] at hp';subst hp';exact⟨Nat.lt_succ_self n,⟨sz,els⟩,by simp [St.get,St.look],rfl,.same hp⟩
 ·intro p hp' q hq' _;simp only [List.mem_singleton] at hp' hq';rw [hp',hq']
end Go.Pd
namespace Go.Pd
open Go
def uP (sz:Nat):List (List D)->Option Ob
 | []=>none
 | e :: r=>some ⟨sz,e :: r⟩
theorem yG {k s:Nat} {els:List (List D)} {r:List (Nat × Ob)} {k':Nat}:St.look (yY k s els++r) k'=if k=k' then(uP s els).or (St.look r k') else St.look r k':=by
 cases els with
 | nil=>simp [yY,uP]
 | cons e l=>simp [yY,uP,St.look]
theorem mK {k s:Nat} {els:List (List D)} {k':Nat}:St.look (yY k s els) k'=if k=k' then uP s els else none:=by have:=yG (k:=k) (s:=s) (els:=els) (r:=[]) (k':=k');simp only [List.append_nil,St.look,Option.or_none] at this;exact this
theorem cY {k s:Nat} {els:List (List D)} {r:List (Nat × Ob)} {k':Nat}:yF (yY k s els++r) k'=if k=k' then yF r k' else yY k s els++yF r k':=by
 cases els with
 | nil=>simp [yY]
 | cons e l=>simp [yY,yF]
theorem aVr {k s:Nat} {els:List (List D)} {k':Nat}:yF (yY k s els) k'=if k=k' then [] else yY k s els:=by have:=cY (k:=k) (s:=s) (els:=els) (r:=[]) (k':=k');simp only [List.append_nil,yF] at this;exact this
theorem aS5 : ∀ {r:List (Nat × Ob)} {k:Nat} {o:Ob},St.look r k=none->uR r k o=r
 | [],_,_,_=>rfl
 | (j,o') :: r,k,o,h=>by
  simp only [St.look] at h
  split at h
  ·cases h
  ·rename_i hn;simp only [uR,if_neg hn,aS5 h]
theorem aO : ∀ {r:List (Nat × Ob)} {k:Nat},St.look r k=none->yF r k=r
 | [],_,_=>rfl
 | (j,o') :: r,k,h=>by
  simp only [St.look] at h
  split at h
  ·cases h
  ·rename_i hn;simp only [yF,if_neg hn,aO h]
theorem aZy {k s:Nat} {els els':List (List D)} {r:List (Nat × Ob)} (hl:els'.length=els.length) (h:St.look r k=none):uR (yY k s els++r) k ⟨s,els'⟩= yY k s els'++r:=by
 cases els with
 | nil=> have:els' = []:=List.eq_nil_of_length_eq_zero (by simpa using hl);subst this;simp only [yY,List.nil_append];exact aS5 h
 | cons e l=>
  cases els' with
  | nil=>simp at hl
  | cons e' l'=>simp [yY,uR]
theorem bM {k s:Nat} {els els':List (List D)} (hl:els'.length=els.length):uR (yY k s els) k ⟨s,els'⟩= yY k s els':=by have:=aZy (k:=k) (s:=s) (r:=[]) hl rfl;simp only [List.append_nil] at this;exact this
theorem aVi {k s:Nat} {els:List (List D)} {r:List (Nat × Ob)} {k':Nat} {o:Ob} (h:k≠k'):uR (yY k s els++r) k' o=yY k s els++uR r k' o:=by
 cases els with
 | nil=>simp [yY]
 | cons e l=>simp [yY,uR,h]
theorem aT5 (k s:Nat) (els:List (List D)):(xA k s els).cells=some [xA k s els]:=by cases els <;> rfl
theorem aK7 (k s:Nat) (els:List (List D)):(xA k s els).one=true:=by cases els <;> rfl
theorem aIe (k s n:Nat):(D.osl k s n).cells=some [.osl k s n]:=rfl
theorem aIa (k s l n:Nat):(D.sub k s l n).cells=some [.sub k s l n]:=rfl
theorem aIf (k:IntKind) (n:Int):(D.int k n).cells=some [.int k n]:=rfl
theorem aOv (b:Bool):(D.bool b).cells=some [.bool b]:=rfl
theorem aIb (s:ByteArray):(D.str s).cells=some [.str s]:=rfl
theorem aEy (sz:Nat) (els:List (List D)):(D.sl sz els).cells=some [.sl sz els]:=rfl
theorem aOq : D.xO.cells=some [.xO]:=rfl
theorem aIg : D.emp.cells=some [.emp]:=rfl
theorem aIh (cs:List D):(D.agg cs).cells=some cs:=rfl
theorem aEz (f:FuncId) (cs:List D):(D.fn f cs).cells=some [.fn f cs]:=rfl
theorem aIc (a b c d:Nat):(D.ref a b c d).cells=some [.ref a b c d]:=rfl
theorem aId (cs:List D):(D.ptr cs).cells=some [.ptr cs]:=rfl
theorem aOu (k:Nat):(D.zJ k).cells=some [.zJ k]:=rfl
theorem aOr : D.iY.cells=some [.iY]:=rfl
theorem aOs : D.mY.cells=some [.mY]:=rfl
theorem aOt : D.pQ.cells=some [.pQ]:=rfl
theorem aAa (k:IntKind) (n:Int):(D.int k n).one=true:=rfl
theorem aFf (b:Bool):(D.bool b).one=true:=rfl
theorem aB4 (s:ByteArray):(D.str s).one=true:=rfl
theorem bWh (sz:Nat) (els:List (List D)):(D.sl sz els).one=true:=rfl
theorem aFa : D.xO.one=true:=rfl
theorem aAc : D.emp.one=true:=rfl
theorem bWi (f:FuncId) (cs:List D):(D.fn f cs).one=true:=rfl
theorem aB6 (a b c d:Nat):(D.ref a b c d).one=true:=rfl
theorem aB8 (a b c:Nat):(D.osl a b c).one=true:=rfl
theorem aB7 (cs:List D):(D.ptr cs).one=true:=rfl
theorem aFe (k:Nat):(D.zJ k).one=true:=rfl
theorem aFb : D.iY.one=true:=rfl
theorem aFc : D.mY.one=true:=rfl
theorem aFd : D.pQ.one=true:=rfl
section
variable [sC]
theorem aIq {q:Bool} {σ:St} {sz bytes key:Nat} {els:List (List D)} {rw:List (List D)} {K:D->St->Prop} (h:σ.get key=uP sz els) (h0:rw ≠ []) :
  aQy q σ sz bytes (xA key sz els) (some rw) K=((∀ r ∈ rw,wK r=true)/\ (els.length+rw.length)* bytes<=140737488355328/\els.length+rw.length<=8000000000000 /\
   K (xA σ.nx sz (els++rw)) ⟨σ.nx+1,yY σ.nx sz (els++rw)++ yF σ.xZ key⟩):=by
 cases els with
 | nil=>
  obtain⟨r,rs,rfl⟩:∃ r rs,rw=r :: rs:=by cases rw with | nil=>exact absurd rfl h0 | cons r rs=>exact⟨r,rs,rfl⟩
  have he:yF σ.xZ key=σ.xZ:=aO h;simp only [aQy,xA,yY,St.new,he,List.nil_append,List.length_nil,Nat.zero_add];simp
 | cons e l=>
  have e1:l.length+1+rw.length=l.length+rw.length+1:=by omega
  simp only [aQy,xA,h,uP,St.erase,St.new,yY];simp [xA,yY,e1]
theorem aOy {q:Bool} {nx:Nat} {xZ:List (Nat × Ob)} {sz bytes key:Nat} {els:List (List D)} {r:List D} {rs:List (List D)} {K:D->St->Prop} (h:St.look xZ key=uP sz els) :
  aQy q ⟨nx,xZ⟩ sz bytes (xA key sz els) (some (r :: rs)) K=((∀ x ∈ r :: rs,wK x=true)/\ (els.length+(r :: rs).length)* bytes<=140737488355328/\els.length+(r :: rs).length<=8000000000000 /\
   K (xA nx sz (els++r :: rs)) ⟨nx+1,yY nx sz (els++r :: rs)++ yF xZ key⟩):=aIq h (by simp)
theorem aDc {q:Bool} {σ:St} {sz bytes:Nat} {r:List D} {rs:List (List D)} {K:D->St->Prop} :
  aQy q σ sz bytes .xO (some (r :: rs)) K=((∀ x ∈ r :: rs,wK x=true)/\ (r :: rs).length*bytes<=140737488355328/\(r :: rs).length<=8000000000000/\K (.osl σ.nx sz (r :: rs).length) (σ.new ⟨sz,r :: rs⟩)):=by
 simp [aQy]
theorem aDb {q:Bool} {σ:St} {sz sz' bytes key n:Nat} {rows:List (List D)} {K:D->St->Prop} :
  aQy q σ sz bytes (.osl key sz' n) (some rows) K=((∀ x ∈ rows,wK x=true)/\ match σ.get key with
   | some ob=>sz=sz'/\ob.sz=sz/\n<=ob.els.length/\(n+rows.length)* bytes<=140737488355328/\n+rows.length<=8000000000000/\K (.osl σ.nx sz (n+rows.length)) ((σ.erase key).new ⟨sz,ob.els.take n++rows⟩)
   | none=>False):=rfl
def aCp (nx:Nat) (xZ:List (Nat × Ob)) (n key sz i off:Nat) (ds:List D) (K:D->St->Prop):Option Ob->Prop
 | some ob=>ob.sz=sz/\i<ob.els.length/\ds.length=n/\off+n<=sz/\wK ds=true/\K .und ⟨nx,uR xZ key ⟨sz,ob.els.set i (cE (ob.els.getD i []) off ds)⟩⟩
 | none=>False
@[congr] theorem bYw {nx : Nat} {xZ : List (Nat × Ob)} {n key sz i off : Nat} {ds : List D} {K : D -> St -> Prop} {o o' : Option Ob} (h : o = o') : aCp nx xZ n key sz i off ds K o = aCp nx xZ n key sz i off ds K o' := by rw [h]
theorem aH8 {nx:Nat} {xZ:List (Nat × Ob)} {n key sz i off:Nat} {ds:List D} {K:D->St->Prop}:bY2 ⟨nx,xZ⟩ n (.ref key sz i off) (some ds) K=aCp nx xZ n key sz i off ds K (St.look xZ key):=by simp only [bY2,St.get];cases St.look xZ key <;> rfl
theorem aKb {nx:Nat} {xZ:List (Nat × Ob)} {n key sz i off:Nat} {ds:List D} {K:D->St->Prop} {sz':Nat} {els:List (List D)} :
  aCp nx xZ n key sz i off ds K (some ⟨sz',els⟩)= (sz'=sz/\i<els.length/\ds.length=n/\off+n<=sz/\wK ds=true/\K .und ⟨nx,uR xZ key ⟨sz,els.set i (cE (els.getD i []) off ds)⟩⟩):=rfl
theorem aKc {nx:Nat} {xZ:List (Nat × Ob)} {n key sz i off:Nat} {ds:List D} {K:D->St->Prop} {els:List (List D)} :
  aCp nx xZ n key sz i off ds K (uP sz els)= (i<els.length/\ds.length=n/\off+n<=sz/\wK ds=true/\K .und ⟨nx,uR xZ key ⟨sz,els.set i (cE (els.getD i []) off ds)⟩⟩):=by
 cases els with
 | nil=>simp [aCp,uP]
 | cons e l=>simp [aCp,uP]
def aV8 (n:Nat) (ag:Bool) (sz i off:Nat) (K:D->Prop):Option Ob->Prop
 | some o=>o.sz=sz/\i<o.els.length/\off+n<=sz/\(ag=true\/n=1)/\ K (qP ag (((o.els.getD i []).drop off).take n))
 | none=>False
@[congr] theorem bYa {n sz i off : Nat} {ag : Bool} {K : D -> Prop} {o o' : Option Ob} (h : o = o') : aV8 n ag sz i off K o = aV8 n ag sz i off K o' := by rw [h]
theorem aJj {nx:Nat} {xZ:List (Nat × Ob)} {n key sz i off:Nat} {ag:Bool} {K:D->Prop}:aQ7 ⟨nx,xZ⟩ n ag (.ref key sz i off) K=aV8 n ag sz i off K (St.look xZ key):=by simp only [aQ7,St.get];cases St.look xZ key <;> rfl
theorem aP6 {n sz i off:Nat} {ag:Bool} {K:D->Prop} {sz':Nat} {els:List (List D)}:aV8 n ag sz i off K (some ⟨sz',els⟩)= (sz'=sz/\i<els.length/\off+n<=sz/\(ag=true\/n=1)/\ K (qP ag (((els.getD i []).drop off).take n))):=rfl
theorem aP7 {n sz i off:Nat} {ag:Bool} {K:D->Prop} {els:List (List D)}:aV8 n ag sz i off K (uP sz els)= (i<els.length/\off+n<=sz/\(ag=true\/n=1)/\ K (qP ag (((els.getD i []).drop off).take n))):=by
 cases els with
 | nil=>simp [aV8,uP]
 | cons e l=>simp [aV8,uP]
theorem aJk {σ:St} {n:Nat} {ag:Bool} {cs:List D} {K:D->Prop}:aQ7 σ n ag (.ptr cs) K=(n<=cs.length/\(ag=true\/n=1)/\ K (qP ag (cs.take n))):=rfl
def qS (kk:IntKind) (l:List (Int × D)):List (List D):=l.map fun p=>[.int kk p.1,p.2]
def wL (x:Int):List (Int × D)->Nat->Option (Nat × D)
 | [],_=>none
 | (m,d) :: r,i=>if x=m then some (i,d) else wL x r (i+1)
def aVx (l:List (Int × D)) (x:Int) (d:D):List (Int × D):=
 match wL x l 0 with
 | some (i,_)=>l.set i (x,d)
 | none=>l ++ [(x,d)]
theorem aRs (kk:IntKind) (l:List (Int × D)):(qS kk l).length=l.length:=by simp [qS]
theorem aU (kk:IntKind) (l:List (Int × D)):iE kk (qS kk l):=by intro row h;simp only [qS,List.mem_map] at h;obtain⟨p,_,rfl⟩:=h;exact⟨_,_,rfl⟩
theorem jG (kk:IntKind) (x:Int):∀ (l:List (Int × D)) (i:Nat),pN x (qS kk l) i=wL x l i
 | [],_=>rfl
 | (m,d) :: r,i=>by show pN x ([.int kk m,d] :: qS kk r) i=_;rw [pN,wL,jG kk x r (i+1)]
theorem aP1 (kk:IntKind) (l:List (Int × D)) (x:Int) (d:D):aV6 kk (qS kk l) x d=qS kk (aVx l x d):=by
 unfold aV6 aVx;rw [jG]
 cases wL x l 0 with
 | none=>simp [qS]
 | some p=>simp [qS,List.map_set]
theorem gR : ∀ {a b:List Int},a.map (D.int .i64)= b.map (D.int .i64)->a=b
 | [],[],_=>rfl
 | [],_ :: _,h=>by simp at h
 | _ :: _,[],h=>by simp at h
 | x :: a,y :: b,h=>by simp only [List.map_cons,List.cons.injEq,D.int.injEq,true_and] at h;rw [h.1,gR h.2]
theorem aYn : ∀ {a b:List (List Int × D)},pP a=pP b->a=b
 | [],[],_=>rfl
 | [],_ :: _,h=>by simp [pP] at h
 | _ :: _,[],h=>by simp [pP] at h
 | (x,d) :: a,(y,e) :: b,h=>by simp only [pP,List.map_cons,List.cons.injEq,D.agg.injEq,and_true] at h;obtain⟨⟨h1,h2⟩,h3⟩:=h;rw [gR h1,h2,aYn (a:=a) (b:=b) h3]
theorem eM {nx:Nat} {xZ:List (Nat × Ob)} {n:Nat} {zero:D} {ok:Bool} {key:Nat} {x:List Int} {l:List (List Int × D)} {cs:List D} {K:D->Prop} (hg:St.look xZ key=some ⟨0,pP l⟩) (hc:cs=x.map (D.int .i64)) (hx:x.length=n) (hl:∀ p ∈ l,p.1.length=n) :
  iQ ⟨nx,xZ⟩ n zero ok (.zJ key) (.agg cs) K=K (kA ok zero (pI x l 0)):=by
 subst hc;simp only [iQ,St.get,hg];refine propext ⟨fun h=>?_,fun h=>⟨trivial,x,l,⟨rfl,rfl,hx,hl⟩,h⟩⟩;obtain⟨_,x',l',⟨h1,h2,_,_⟩,h3⟩:=h;rw [gR h1,aYn h2]; exact h3
theorem aPz {nx:Nat} {xZ:List (Nat × Ob)} {n:Nat} {key:Nat} {y:List Int} {l:List (List Int × D)} {cs:List D} {x:D} {K:D->St->Prop} (hg:St.look xZ key=some ⟨0,pP l⟩) (hc:cs=y.map (D.int .i64)) (hx:y.length=n) (hl:∀ p ∈ l,p.1.length=n) :
  lT ⟨nx,xZ⟩ n (.zJ key) (.agg cs) x K=K .und ⟨nx,uR xZ key ⟨0,pP (aXc y x l)⟩⟩:=by
 subst hc;simp only [lT,St.get,hg,St.set];refine propext ⟨fun h=>?_,fun h=>⟨trivial,y,l,⟨rfl,rfl,hx,hl⟩,h⟩⟩;obtain⟨_,x',l',⟨h1,h2,_,_⟩,h3⟩:=h;rw [gR h1,aYn h2]; exact h3
theorem eO {nx:Nat} {xZ:List (Nat × Ob)} {n:Nat} {key:Nat} {y:List Int} {l:List (List Int × D)} {cs:List D} {x:D} {K:D->St->Prop} (hg:St.look xZ key=some ⟨0,pP l⟩) (hc:cs=y.map (D.int .i64)) (hx:y.length=n) (hl:∀ p ∈ l,p.1.length=n) (hno:pI y l 0=none) :
  lT ⟨nx,xZ⟩ n (.zJ key) (.agg cs) x K=K .und ⟨nx,uR xZ key ⟨0,pP (l ++ [(y,x)])⟩⟩:=by
 rw [aPz hg hc hx hl,show aXc y x l=l ++ [(y,x)] by unfold aXc; rw [hno]]
def aQ6 (kk:IntKind) (x:Int) (zero:D) (ok:Bool) (K:D->Prop):Option Ob->Prop
 | some o=>o.sz=0/\iE kk o.els/\K (kA ok zero (pN x o.els 0))
 | none=>False
@[congr] theorem bX7 {kk : IntKind} {x : Int} {zero : D} {ok : Bool} {K : D -> Prop} {o o' : Option Ob} (h : o = o') : aQ6 kk x zero ok K o = aQ6 kk x zero ok K o' := by rw [h]
theorem aP5 {nx:Nat} {xZ:List (Nat × Ob)} {zero:D} {ok:Bool} {key:Nat} {kk:IntKind} {x:Int} {K:D->Prop}:aQ5 ⟨nx,xZ⟩ zero ok (.zJ key) (.int kk x) K=aQ6 kk x zero ok K (St.look xZ key):=by simp only [aQ5,St.get];cases St.look xZ key <;> rfl
theorem aP4 {σ:St} {zero:D} {ok:Bool} {kk:IntKind} {x:Int} {K:D->Prop}:aQ5 σ zero ok .mY (.int kk x) K=K (kA ok zero none):=rfl
theorem bA {kk:IntKind} {x:Int} {zero:D} {ok:Bool} {K:D->Prop} {l:List (Int × D)}:aQ6 kk x zero ok K (some ⟨0,qS kk l⟩)= K (kA ok zero (wL x l 0)):=by simp only [aQ6,jG];exact propext ⟨fun h=>h.2.2,fun h=>⟨trivial,aU kk l,h⟩⟩
theorem aJh {kk:IntKind} {x:Int} {zero:D} {ok:Bool} {K:D->Prop}:aQ6 kk x zero ok K (some ⟨0,[]⟩)= K (kA ok zero none):=bA (l:=[])
def aQ2 (nx:Nat) (xZ:List (Nat × Ob)) (key:Nat) (kk:IntKind) (y:Int) (x:D) (K:D->St->Prop):Option Ob->Prop
 | some o=>o.sz=0/\iE kk o.els/\K .und ⟨nx,uR xZ key ⟨0,aV6 kk o.els y x⟩⟩
 | none=>False
@[congr] theorem bX5 {nx : Nat} {xZ : List (Nat × Ob)} {key : Nat} {kk : IntKind} {y : Int} {x : D} {K : D -> St -> Prop} {o o' : Option Ob} (h : o = o') : aQ2 nx xZ key kk y x K o = aQ2 nx xZ key kk y x K o' := by rw [h]
theorem aP0 {nx:Nat} {xZ:List (Nat × Ob)} {key:Nat} {kk:IntKind} {y:Int} {x:D} {K:D->St->Prop}:aNs ⟨nx,xZ⟩ (.zJ key) (.int kk y) x K=aQ2 nx xZ key kk y x K (St.look xZ key):=by simp only [aNs,St.get];cases St.look xZ key <;> rfl
theorem bE {nx:Nat} {xZ:List (Nat × Ob)} {key:Nat} {kk:IntKind} {y:Int} {x:D} {K:D->St->Prop} {l:List (Int × D)}:aQ2 nx xZ key kk y x K (some ⟨0,qS kk l⟩)= K .und ⟨nx,uR xZ key ⟨0,qS kk (aVx l y x)⟩⟩:=by simp only [aQ2,aP1];exact propext ⟨fun h=>h.2.2,fun h=>⟨trivial,aU kk l,h⟩⟩
theorem aJd {nx:Nat} {xZ:List (Nat × Ob)} {key:Nat} {kk:IntKind} {y:Int} {x:D} {K:D->St->Prop}:aQ2 nx xZ key kk y x K (some ⟨0,[]⟩)= K .und ⟨nx,uR xZ key ⟨0,qS kk [(y,x)]⟩⟩:=bE (l:=[])
theorem aJc (zero:D):kA true zero none = .tup [zero,.bool false]:=rfl
theorem aJb (zero:D) (i:Nat) (d:D):kA true zero (some (i,d))= .tup [d,.bool true]:=rfl
theorem aPy (zero:D):kA false zero none=zero:=rfl
theorem aPx (zero:D) (i:Nat) (d:D):kA false zero (some (i,d))= d:=rfl
theorem aAt {sz:Nat} {els:List (List D)} {K:D->Prop}:aIz (.sl sz els) K=K (.int .i64 els.length):=rfl
theorem aEb {k sz n:Nat} {K:D->Prop}:aIz (.osl k sz n) K=K (.int .i64 n):=rfl
theorem aEa {k sz lo n:Nat} {K:D->Prop}:aIz (.sub k sz lo n) K=K (.int .i64 n):=rfl
theorem aEg {sz key sz' lo len:Nat} {k:IntKind} {n:Int} {K:D->Prop}:aI6 sz (.sub key sz' lo len) (.int k n) K=(sz=sz'/\0<=n/\n<len/\K (.ref key sz (lo+n.toNat) 0)):=rfl
theorem aJm {K:D->Prop}:aIz .xO K=K (.int .i64 0):=rfl
theorem aEc {K:D->Prop}:aIz .emp K=K (.int .i64 0):=rfl
theorem aA1 {sz sz':Nat} {els:List (List D)} {k:IntKind} {n:Int} {K:D->Prop}:aI6 sz (.sl sz' els) (.int k n) K=(sz=sz'/\0<=n/\n<els.length/\K (.ptr (els.getD n.toNat []))):=rfl
theorem aEh {sz key sz' len:Nat} {k:IntKind} {n:Int} {K:D->Prop}:aI6 sz (.osl key sz' len) (.int k n) K=(sz=sz'/\0<=n/\n<len/\K (.ref key sz n.toNat 0)):=rfl
theorem aFr {neg:Bool} {K:D->Prop}:pK neg .xO .xO K=K (.bool (!neg)):=rfl
theorem aFq {neg:Bool} {K:D->Prop} {a b c:Nat}:pK neg (.osl a b c) .xO K=K (.bool neg):=rfl
theorem aFp {neg:Bool} {K:D->Prop} {a b c:Nat}:pK neg .xO (.osl a b c) K=K (.bool neg):=rfl
theorem aFo {neg:Bool} {K:D->Prop}:pK neg .emp .xO K=K (.bool neg):=rfl
theorem aFn {neg:Bool} {K:D->Prop}:pK neg .xO .emp K=K (.bool neg):=rfl
theorem aFm {neg:Bool} {K:D->Prop} {sz:Nat} {e:List D} {r:List (List D)}:pK neg (.sl sz (e :: r)) .xO K=K (.bool neg):=rfl
def bVr (nx:Nat) (xZ:List (Nat × Ob)) (sz sz' bytes key n:Nat) (rows:List (List D)) (K:D->St->Prop):Option Ob->Prop
 | some ob=>sz=sz'/\ob.sz=sz/\n<=ob.els.length/\(n+rows.length)* bytes<=140737488355328/\n+rows.length<=8000000000000/\K (.osl nx sz (n+rows.length)) ⟨nx+1,(nx,⟨sz,ob.els.take n++rows⟩) :: yF xZ key⟩
 | none=>False
@[congr] theorem bY1 {nx : Nat} {xZ : List (Nat × Ob)} {sz sz' bytes key n : Nat} {rows : List (List D)} {K : D -> St -> Prop} {o o' : Option Ob} (h : o = o') : bVr nx xZ sz sz' bytes key n rows K o = bVr nx xZ sz sz' bytes key n rows K o' := by rw [h]
theorem aIp {q:Bool} {nx:Nat} {xZ:List (Nat × Ob)} {sz sz' bytes key n:Nat} {rows:List (List D)} {K:D->St->Prop} :
  aQy q ⟨nx,xZ⟩ sz bytes (.osl key sz' n) (some rows) K=((∀ x ∈ rows,wK x=true)/\ bVr nx xZ sz sz' bytes key n rows K (St.look xZ key)):=by
 rw [aDb];simp only [St.get];cases St.look xZ key <;> rfl
theorem aIr {nx:Nat} {xZ:List (Nat × Ob)} {sz sz' bytes key n:Nat} {rows:List (List D)} {K:D->St->Prop} {sz0:Nat} {els:List (List D)} :
  bVr nx xZ sz sz' bytes key n rows K (some ⟨sz0,els⟩)= (sz=sz'/\sz0=sz/\n<=els.length/\(n+rows.length)* bytes<=140737488355328/\n+rows.length<=8000000000000/\K (.osl nx sz (n+rows.length)) ⟨nx+1,(nx,⟨sz,els.take n++rows⟩) :: yF xZ key⟩):=rfl
def aHh (q:Bool) (nx:Nat) (xZ:List (Nat × Ob)) (sz sz' bytes key lo n:Nat) (rows:List (List D)) (K:D->St->Prop):Option Ob->Prop
 | some ob=>q=true/\sz=sz'/\ob.sz=sz/\lo+n<=ob.els.length/\(n+rows.length)* bytes<=140737488355328/\n+rows.length<=8000000000000 /\
  ∀ pre:List (List D),(pre = []\/pre=ob.els.take lo)->K (.sub nx sz pre.length (n+rows.length)) ⟨nx+1,(nx,⟨sz,pre++((ob.els.drop lo).take n++rows)⟩) :: yF xZ key⟩
 | none=>False
@[congr] theorem bYe {q : Bool} {nx : Nat} {xZ : List (Nat × Ob)} {sz sz' bytes key lo n : Nat} {rows : List (List D)} {K : D -> St -> Prop} {o o' : Option Ob} (h : o = o') : aHh q nx xZ sz sz' bytes key lo n rows K o = aHh q nx xZ sz sz' bytes key lo n rows K o' := by rw [h]
theorem aIo {q:Bool} {nx:Nat} {xZ:List (Nat × Ob)} {sz sz' bytes key lo n:Nat} {rows:List (List D)} {K:D->St->Prop} :
  aQy q ⟨nx,xZ⟩ sz bytes (.sub key sz' lo n) (some rows) K=((∀ x ∈ rows,wK x=true)/\ aHh q nx xZ sz sz' bytes key lo n rows K (St.look xZ key)):=by
 simp only [aQy,St.get];cases St.look xZ key <;> rfl
theorem aOz {q:Bool} {nx:Nat} {xZ:List (Nat × Ob)} {sz sz' bytes key lo n:Nat} {rows:List (List D)} {K:D->St->Prop} {sz0:Nat} {els:List (List D)} :
  aHh q nx xZ sz sz' bytes key lo n rows K (some ⟨sz0,els⟩)= (q=true/\sz=sz'/\sz0=sz/\lo+n<=els.length/\(n+rows.length)* bytes<=140737488355328/\n+rows.length<=8000000000000 /\
   ∀ pre:List (List D),(pre = []\/pre=els.take lo)->K (.sub nx sz pre.length (n+rows.length)) ⟨nx+1,(nx,⟨sz,pre++((els.drop lo).take n++rows)⟩) :: yF xZ key⟩):=rfl
theorem aJn {key sz:Nat} {els:List (List D)} {K:D->Prop}:aIz (xA key sz els) K=K (.int .i64 els.length):=by cases els <;> simp [aIz,xA]
theorem aJs {key sz sz':Nat} {els:List (List D)} {k:IntKind} {n:Int} {K:D->Prop}:aI6 sz' (xA key sz els) (.int k n) K=(sz'=sz/\0<=n/\n<els.length/\K (.ref key sz n.toNat 0)):=by
 cases els with
 | nil=>simp only [aI6,xA,List.length_nil]; simp; intro _ h1 h2; omega
 | cons e l=>simp [aI6,xA]; rintro rfl _ _; rfl
theorem aTt {key sz:Nat} {neg:Bool} {els:List (List D)} {K:D->Prop}:pK neg (xA key sz els) .xO K=K (.bool (if neg then !els.isEmpty else els.isEmpty)):=by cases els <;> cases neg <;> simp [pK,xA]
def sw : List (Nat × Nat)->Nat->Nat
 | [],k=>k
 | (a,b) :: r,k=>if k=a then b else sw r k
def tR (els:List (List D)):Prop:=∀ e ∈ els,D.xU e=true
theorem yD (l:List (BitVec 64)):tR (us l)= True:=eq_true (rN l)
theorem rV (l:List (List (BitVec 64))):tR (rr l)= True:=eq_true (aUn l)
theorem aPu (k:IntKind) (l:List Int):tR (rows k l)= True:=eq_true (uG k l)
theorem aK0 : tR []=True:=by simp [tR]
theorem aPv {kk:IntKind} {l:List (Int × D)} (h:∀ p ∈ l,p.2.xL=true):tR (qS kk l):=by intro e he;simp only [qS,List.mem_map] at he;obtain⟨p,hp,rfl⟩:=he;simp [D.xU,D.xL,h p hp]
theorem aVm (a b:List (List D)):tR (a++b)= (tR a/\tR b):=by simp only [tR,List.mem_append];exact propext ⟨fun h=>⟨fun e he=>h e (.inl he),fun e he=>h e (.inr he)⟩,fun h e he=>he.elim (h.1 e) (h.2 e)⟩
theorem aKy (l:List (BitVec 64)) (i:Nat) (s:BitVec 64):tR ((us l).set i [.int .u64 (ui s)])= True:=by rw [lU,yD]
theorem aMf {σ σ':St} {ρ:Nat->Nat} {a b sz:Nat} {els:List (List D)}:vw σ σ' ρ (xA a sz els) (xA b sz els)= (els = []\/(b<σ'.nx/\a=ρ b)):=by
 cases els with
 | nil=>simp [xA,vw]
 | cons e l=>simp [xA,vw]
def bTk (σ':St) (ρ:Nat->Nat) (k0:Nat):Prop:=∀ p ∈ σ'.xZ,ρ p.1≠k0
theorem aPc {σ σ':St} {ρ:Nat->Nat} {k0 sz:Nat} {els:List (List D)} (hs:0<sz) (h:bTk σ' ρ k0) (hg:σ.get k0=uP sz els) (hp:tR els):vw σ σ' ρ (xA k0 sz els) (.sl sz els)= True:=by
 cases els with
 | nil=>simp [xA,vw]
 | cons e l=> refine eq_true ?_;simp only [xA,vw];exact⟨trivial,hs,h,⟨sz,e :: l⟩,hg,rfl,Nat.le_refl _,by simp,hp⟩
def vwQ (σ σ':St) (ρ:Nat->Nat) (as bs:List (List D)):Prop:=vwE σ σ' ρ as bs
theorem aHv {σ σ':St} {ρ:Nat->Nat} {els:List (List D)} (h:tR els):vwQ σ σ' ρ els els=True:=eq_true (.same h)
end
section
variable [sC]
theorem aSw {σ σ':St} {ρ:Nat->Nat}:∀ {a:List D},D.xU a=true->vwL σ σ' ρ a a:=by
 intro a h
 have key:∀ d:D,d.xL=true->vw σ σ' ρ d d:=by
  intro d
  refine D.rec (motive_1:=fun d=>d.xL=true->vw σ σ' ρ d d) (motive_2:=fun _=>True) (motive_3:=fun cs=>D.xU cs=true->vwL σ σ' ρ cs cs)
   ?top ?und ?int ?bool ?str ?sl ?xO ?emp ?agg ?tup ?fn ?ref ?osl ?sub ?ptr ?zJ ?iY ?mY ?pQ ?adr trivial (fun _ _ _ _=>trivial) ?nil ?cons d
  case agg=>intro cs ih h; simp only [D.xL] at h; simp only [vw]; exact⟨trivial,ih h⟩
  case tup=>intro cs ih h; simp only [D.xL] at h; simp only [vw]; exact⟨trivial,ih h⟩
  case fn=>intro f cs ih h; simp only [D.xL] at h; simp only [vw]; exact⟨trivial,trivial,ih h⟩
  case ref=>intro k sz i off h; simp [D.xL] at h
  case osl=>intro k sz n h; simp [D.xL] at h
  case sub=>intro k sz lo n h; simp [D.xL] at h
  case zJ=>intro k h; simp [D.xL] at h
  case nil=>intro _; simp [vwL]
  case cons=> intro d r h1 h2 h;simp only [D.xU,Bool.and_eq_true] at h;simp only [vwL];exact⟨h1 h.1,h2 h.2⟩
  case ptr=>intro cs _ _; simp [vw]
  all_goals intros; simp [vw]
 induction a with
 | nil=>simp [vwL]
 | cons d r ih=> simp only [D.xU,Bool.and_eq_true] at h;simp only [vwL];exact⟨key d h.1,ih h.2⟩
theorem aSx {σ σ':St} {ρ:Nat->Nat}:∀ {els:List (List D)} {a b:List D},tR els->a.length=b.length->vwL σ σ' ρ a b->vwE σ σ' ρ (els ++ [a]) (els ++ [b])
 | [],a,b,_,hl,h=>.cons hl h .nil
 | e :: r,a,b,hp,hl,h=>.cons rfl (aSw (hp e (by simp))) (aSx (fun x hx=>hp x (by simp [hx])) hl h)
theorem bZs {σ σ':St} {ρ:Nat->Nat} {els:List (List D)} {a b:List D} (h:vwQ σ σ' ρ (els ++ [a]) (els ++ [b])):a.length=b.length/\vwL σ σ' ρ a b:=by
 have:=(aXd (show vwE σ σ' ρ (els ++ [a]) (els ++ [b]) from h)).2 els.length (by simp);have e1:∀ x:List D,(els ++ [x]).getD els.length []=x:=by intro x; simp [List.getD]
 rw [e1,e1] at this;refine⟨this.1,?_⟩
 rcases this.2 with h | ⟨h1,h2⟩
 ·exact h
 ·rw [h1]; exact aSw h2
theorem aXs {σ σ':St} {ρ:Nat->Nat} {els:List (List D)} {a b:List D} (hp:tR els):vwQ σ σ' ρ (els ++ [a]) (els ++ [b])= (a.length=b.length/\vwL σ σ' ρ a b):= propext ⟨fun h=>bZs h,fun h=>aSx hp h.1 h.2⟩
theorem aBf {σ σ':St} {ρ:Nat->Nat} {a b:List D}:vwQ σ σ' ρ [a] [b]=(a.length=b.length/\vwL σ σ' ρ a b):=aXs (els:=[]) (by simp [tR])
theorem bZr {σ σ':St} {ρ:Nat->Nat} {l:List (List (BitVec 64))} {r:List (BitVec 64)} {x:D}:vwQ σ σ' ρ (rr l ++ [[x]]) (rr (l ++ [r]))= vwL σ σ' ρ [x] [.sl 1 (us r)]:=by rw [<- aUm,aXs (aUn l)];simp
def yK (σ σ':St) (ρ:Nat->Nat) (p:Nat × Ob):Prop:=p.1<σ'.nx/\∃ ob,σ.get (ρ p.1)= some ob/\ob.sz=p.2.sz/\vwQ σ σ' ρ ob.els p.2.els
def jY (σ σ':St) (ρ:Nat->Nat) (l:List (Nat × Ob)):Prop:=∀ p ∈ l,yK σ σ' ρ p
theorem fE {σ σ':St} {ρ:Nat->Nat}:jY σ σ' ρ []=True:=by simp [jY]
theorem jI {σ σ':St} {ρ:Nat->Nat} {p:Nat × Ob} {l:List (Nat × Ob)}:jY σ σ' ρ (p :: l)= (yK σ σ' ρ p/\jY σ σ' ρ l):=by simp [jY]
theorem bO {σ σ':St} {ρ:Nat->Nat} {k sz:Nat} {els:List (List D)} {l:List (Nat × Ob)} (hk:k<σ'.nx) (hg:σ.get (ρ k)= uP sz els) (hp:tR els):jY σ σ' ρ (yY k sz els++l)= jY σ σ' ρ l:=by
 cases els with
 | nil=>rfl
 | cons e r=> simp only [yY,List.cons_append,List.nil_append,jI];refine propext ⟨fun h=>h.2,fun h=>⟨⟨hk,⟨sz,e :: r⟩,hg,rfl,.same hp⟩,h⟩⟩
theorem aTl {σ σ':St} {ρ:Nat->Nat} {k sz:Nat} {els:List (List D)} (hk:k<σ'.nx) (hg:σ.get (ρ k)= uP sz els) (hp:tR els):jY σ σ' ρ (yY k sz els)= True:=by have:=bO (l:=[]) hk hg hp;rw [List.append_nil,fE] at this;exact this
theorem aYd {sz:Nat} {els:List (List D)} (h:els ≠ []):uP sz els=some ⟨sz,els⟩:=by
 cases els with
 | nil=>exact absurd rfl h
 | cons e r=>rfl
theorem dZ {σ σ':St} {ρ:Nat->Nat} {k sz:Nat} {els els':List (List D)} {l:List (Nat × Ob)} (hk:k<σ'.nx) (hg:σ.get (ρ k)= uP sz els') (hq:vwQ σ σ' ρ els' els):jY σ σ' ρ (yY k sz els++l)= jY σ σ' ρ l:=by
 cases els with
 | nil=>rfl
 | cons e r=>
  have hne:els' ≠ []:=by rintro rfl;have:=(aXd (show vwE σ σ' ρ [] (e :: r) from hq)).1;simp at this
  simp only [yY,List.cons_append,List.nil_append,jI];refine propext ⟨fun h=>h.2,fun h=>⟨⟨hk,⟨sz,els'⟩,?_,rfl,hq⟩,h⟩⟩;rw [hg,aYd hne]
theorem aVg {σ σ':St} {ρ:Nat->Nat} {k sz:Nat} {els els':List (List D)} (hk:k<σ'.nx) (hg:σ.get (ρ k)= uP sz els') (hq:vwQ σ σ' ρ els' els):jY σ σ' ρ (yY k sz els)= True:=by have:=dZ (l:=[]) hk hg hq;rw [List.append_nil,fE] at this;exact this
def inL (ks:List Nat) (l:List (Nat × Ob)):Prop:=∀ p ∈ l,p.1 ∈ ks
theorem aLc {ks:List Nat}:inL ks []=True:=by simp [inL]
theorem aR5 {ks:List Nat} {p:Nat × Ob} {l:List (Nat × Ob)}:inL ks (p :: l)= (p.1 ∈ ks/\inL ks l):=by simp [inL]
theorem aR4 {ks:List Nat} {k sz:Nat} {els:List (List D)} {l:List (Nat × Ob)} (h:k ∈ ks):inL ks (yY k sz els++l)= inL ks l:=by
 cases els with
 | nil=>rfl
 | cons e r=>simp [yY,aR5,h]
theorem aJr {ks:List Nat} {k sz:Nat} {els:List (List D)} (h:k ∈ ks):inL ks (yY k sz els)= True:=by have:=aR4 (sz:=sz) (els:=els) (l:=[]) h;rw [List.append_nil,aLc] at this;exact this
def aXb (ρ:Nat->Nat) (k0:Nat) (l:List (Nat × Ob)):Prop:=∀ p ∈ l,ρ p.1≠k0
theorem bXx {σ':St} {ρ:Nat->Nat} {k0:Nat}:bTk σ' ρ k0=aXb ρ k0 σ'.xZ:=propext Iff.rfl
theorem aW7 {ρ:Nat->Nat} {k0:Nat}:aXb ρ k0 []=True:=by simp [aXb]
theorem aJ {ρ:Nat->Nat} {k0:Nat} {p:Nat × Ob} {l:List (Nat × Ob)}:aXb ρ k0 (p :: l)= (ρ p.1≠k0/\aXb ρ k0 l):=by simp [aXb]
theorem aK {ρ:Nat->Nat} {k0 k sz:Nat} {els:List (List D)} {l:List (Nat × Ob)}:aXb ρ k0 (yY k sz els++l)= ((els = []\/ρ k≠k0)/\ aXb ρ k0 l):=by
 cases els with
 | nil=>simp [yY]
 | cons e r=>simp [yY,aJ]
theorem aT7 {ρ:Nat->Nat} {k0 k sz:Nat} {els:List (List D)}:aXb ρ k0 (yY k sz els)= (els = []\/ρ k≠k0):=by have:=aK (ρ:=ρ) (k0:=k0) (k:=k) (sz:=sz) (els:=els) (l:=[]);rw [List.append_nil,aW7,and_true] at this;exact this
theorem xM.ren {C:Cx} {f f':Fr} {σ σ':St} (l:List (Nat × Nat)) (ks:List Nat) (hn:C.n0<=σ'.nx) (h0:∀ p ∈ l,C.n0<=p.1) (hd:(ks.map (sw l)).Nodup)
  (h:inL ks σ'.xZ/\jY σ σ' (sw l) σ'.xZ/\vwF σ σ' (sw l) f f'):xM C f σ f' σ':=by
 obtain⟨hk,hs,hf⟩:=h
 refine xM.view (sw l) hn ?_ hf ?_ ?_
 ·intro k hk
  induction l with
  | nil=>rfl
  | cons p l ih=>
   obtain⟨a,b⟩:=p;have:C.n0<=a:=h0 (a,b) (by simp);simp only [sw];rw [if_neg (by omega)];have hm:∀ p ∈ l,C.n0<=p.1:=fun p hp=>h0 p (by simp [hp]);clear ih hd hs hf h0
   induction l with
   | nil=>rfl
   | cons q l ih=> obtain⟨c,d⟩:=q;have:C.n0<=c:=hm (c,d) (by simp);simp only [sw];rw [if_neg (by omega)];exact ih fun p hp=>hm p (by simp [hp])
 ·intro p hp;obtain⟨h1,ob,h2,h3,h4⟩:=hs p hp;exact⟨h1,ob,h2,h3,h4⟩
 ·intro p hp q hq e;have h1:=hk p hp;have h2:=hk q hq
  have inj:∀ (ks:List Nat),(ks.map (sw l)).Nodup->∀ a ∈ ks,∀ b ∈ ks,sw l a=sw l b->a=b:=by
   intro ks
   induction ks with
   | nil=>intro _ a ha; simp at ha
   | cons x ks ih=>
    intro hd a ha b hb e;simp only [List.map_cons,List.nodup_cons,List.mem_map,not_exists,not_and] at hd
    rcases List.mem_cons.1 ha with h1 | h1 <;> rcases List.mem_cons.1 hb with h2 | h2
    ·rw [h1,h2]
    ·rw [h1] at e; exact absurd e.symm (hd.1 b h2)
    ·rw [h2] at e; exact absurd e (hd.1 a h1)
    ·exact ih hd.2 a h1 b h2 e
  exact inj ks hd _ h1 _ h2 e
theorem iT.ren {n0:Nat} {σ σ':St} {d d':D} (l:List (Nat × Nat)) (ks:List Nat) (hn:n0<=σ'.nx) (h0:∀ p ∈ l,n0<=p.1) (hd:(ks.map (sw l)).Nodup)
  (h:inL ks σ'.xZ/\jY σ σ' (sw l) σ'.xZ/\vw σ σ' (sw l) d d'):iT n0 σ d σ' d':=by
 obtain⟨hk,hs,hf⟩:=h
 refine .inr ⟨sw l,hn,?_,hf,?_,?_⟩
 ·intro k hk;have hm:∀ p ∈ l,n0<=p.1:=h0;clear hd hs hf h0
  induction l with
  | nil=>rfl
  | cons q l ih=> obtain⟨c,d⟩:=q;have:n0<=c:=hm (c,d) (by simp);simp only [sw];rw [if_neg (by omega)];exact ih fun p hp=>hm p (by simp [hp])
 ·intro p hp;obtain⟨h1,ob,h2,h3,h4⟩:=hs p hp;exact⟨h1,ob,h2,h3,h4⟩
 ·intro p hp q hq e;have h1:=hk p hp;have h2:=hk q hq
  have inj:∀ (ks:List Nat),(ks.map (sw l)).Nodup->∀ a ∈ ks,∀ b ∈ ks,sw l a=sw l b->a=b:=by
   intro ks
   induction ks with
   | nil=>intro _ a ha; simp at ha
   | cons x ks ih=>
    intro hd a ha b hb e;simp only [List.map_cons,List.nodup_cons,List.mem_map,not_exists,not_and] at hd
    rcases List.mem_cons.1 ha with h1 | h1 <;> rcases List.mem_cons.1 hb with h2 | h2
    ·rw [h1,h2]
    ·rw [h1] at e; exact absurd e.symm (hd.1 b h2)
    ·rw [h2] at e; exact absurd e (hd.1 a h1)
    ·exact ih hd.2 a h1 b h2 e
  exact inj ks hd _ h1 _ h2 e
def aQ1 (C:Cx) (Q:Exit->Fr->St->Prop) (e:Exit) (f:Fr) (σ:St):Prop:=∃ f' σ',xM C f σ f' σ'/\Q e f' σ'
theorem aQ1.zI {C:Cx} {Q:Exit->Fr->St->Prop} {e:Exit} {f:Fr} {σ:St} (h:Q e f σ):aQ1 C Q e f σ:=⟨f,σ,xM.refl,h⟩
theorem aQ1.go {C:Cx} {Q:Exit->Fr->St->Prop} {e:Exit} {f:Fr} {σ:St} (f':Fr) (σ':St) (hw:xM C f σ f' σ') (h:Q e f' σ'):aQ1 C Q e f σ:=⟨f',σ',hw,h⟩
theorem aZq {C:Cx} {dc:DC} {f:Fr} {σ:St} {Q:Exit->Fr->St->Prop} (h:wpS C dc f σ (aQ1 C Q)):wpS C dc f σ Q:=by intro code hc E a w G;refine wpIn_mono (h code hc E a w G) fun e a' w' hh=>?_;obtain⟨f1,σ1,G1,f2,σ2,hw,hq⟩:=hh;exact⟨f2,σ2,hw E a' w' G1,hq⟩
theorem aFx {C:Cx} (hmx:C.P.follows .mixedOrders=true) {it:Nat} {m:Opd} {out nx more next pair:Nat} {rest:List DOp} {code:DC} {Q:Exit->Fr->St->Prop} {f:Fr} {σ:St} (key:Nat) (els:List (List D)) (hm:evO f m = .zJ key) (hob:σ.get key=some ⟨0,els⟩)
  {α:Type} (g:List Nat->α->Fr) (s:List Nat->α->St) (J:List Nat->α->Prop) (a0:α) (h0:J [] a0)
  (hw:∀ b,xM { C with n0:=max C.n0 (key+1) } ((it,.adr b) :: f) σ ((it,.adr b) :: g [] a0) (s [] a0))
  (hkey:∀ seen a,J seen a->(s seen a).get key=some ⟨0,els⟩)
  (done:∀ b seen a,J seen a->seen.Nodup->(∀ j ∈ seen,j<els.length)->seen.length=els.length->Q .normal ((more,.top) :: (nx,.top) :: (it,.adr b) :: g seen a) (s seen a))
  (round:∀ b seen a i,J seen a->seen.Nodup->(∀ j ∈ seen,j<els.length)->i<els.length->i ∉ seen ->
   aSf { C with n0:=max C.n0 (key+1) } rest (aXi { C with n0:=max C.n0 (key+1) } code out next (fun f' σ'=>∃ a',J (seen ++ [i]) a'/\f'=(it,.adr b) :: g (seen ++ [i]) a'/\σ'=s (seen ++ [i]) a') Q)
    ((pair,.tup (els.getD i [])) :: (more,.top) :: (nx,.top) :: (it,.adr b) :: g seen a) (s seen a)) (hrd:C.rd=none:=by rfl) :
  aZe C it m out nx more next pair rest code Q f σ:=by
 refine⟨key,els,hrd,hm,hob,fun b=>⟨fun seen f σ=>∃ a,J seen a/\f=(it,.adr b) :: g seen a/\σ=s seen a,⟨_,_,hw b,a0,h0,rfl,rfl⟩,?_,?_⟩⟩
 ·rintro seen f σ ⟨a,hj,rfl,rfl⟩;exact⟨by simp [Fr.get],hkey seen a hj⟩
 ·rintro seen f σ ⟨a,hj,rfl,rfl⟩ hnd hlt;refine⟨fun hl=>done b seen a hj hnd hlt hl,fun i hi hni=>?_⟩;have h:=round b seen a i hj hnd hlt hi hni;rw [mR,jS] at h;exact h
theorem aJa {C:Cx} (hmx:C.P.follows .mixedOrders=true) {code:DC} {out next:Nat} {Q:Exit->Fr->St->Prop} {f:Fr} {σ:St} {α:Type} {J:α->Prop} {g:α->Fr} {s:α->St}
  (h:wpZ C code (tF next (mV (fun f' σ'=>∃ a',J a'/\xM C f' σ' (g a') (s a')) (tF out Q))) f σ):aXi C code out next (fun f' σ'=>∃ a',J a'/\f'=g a'/\σ'=s a') Q f σ:=by
 have h2:=xN hmx h;refine aZq (aHs h2 fun e f1 σ1 hq=>?_)
 cases e with
 | normal=> obtain⟨a',hj',hwk⟩:=hq;exact⟨_,_,hwk,a',hj',rfl,rfl⟩
 | exit j=>
  simp only [tF,mV] at hq
  by_cases hj2:j=next
  ·rw [if_pos hj2] at hq;obtain⟨a',hj',hwk⟩:=hq;refine⟨_,_,hwk,?_⟩;simp only [tF,mV];rw [if_pos hj2];exact⟨a',hj',rfl,rfl⟩
  ·rw [if_neg hj2] at hq;refine⟨f1,σ1,xM.refl,?_⟩;simp only [tF,mV];rw [if_neg hj2];exact hq
 | goto l=>exact⟨f1,σ1,xM.refl,hq⟩
 | ret=>exact⟨f1,σ1,xM.refl,hq⟩
 | panic ch=>exact⟨f1,σ1,xM.refl,hq⟩
 | outgrown=>exact⟨f1,σ1,xM.refl,hq⟩
theorem zN {C:Cx} {dc:DC} {f:Fr} {σ:St} {Q:Exit->Fr->St->Prop} {α:Type} (g:α->Fr) (s:α->St) (I:α->Prop) (m:α->Nat) (a0:α) (h0:I a0) (hw:xM C f σ (g a0) (s a0))
  (round:∀ a,I a->wpS C dc (g a) (s a) (mV (fun f' σ'=>∃ a',I a'/\xM C f' σ' (g a') (s a')/\ m a'<m a) (aQ1 C Q))):wpS C (.loop dc) f σ Q:=
 aZq (xQ g s I m a0 h0 hw round)
end
theorem bZk : ((0:Nat):Int)= 0:=rfl
theorem yH {k:Nat} (h:k<9223372036854775807):IntKind.i64.wrap ((k:Int)+ 1)= ((k+1:Nat):Int):=by rw [wrap_i64 (by omega)]; omega
section
variable [sC]
theorem bUx (f:Fr) (n:Nat):evO f (.t n)= Fr.get f n:=rfl
theorem bUy (f:Fr) (d:D):evO f (.c d)= d:=rfl
theorem aG0 (f:Fr) (t:Nat) (d:D):Fr.put f (some t) d=(t,d) :: f:=rfl
theorem aG1 (f:Fr) (d:D):Fr.put f none d=f:=rfl
theorem get_nil (n:Nat):Fr.get [] n = .top:=rfl
theorem aEj (t:Nat) (d:D) (r:Fr) (n:Nat):Fr.get ((t,d) :: r) n=if t=n then d else Fr.get r n:=rfl
theorem look_nil (k:Nat):St.look [] k=none:=rfl
theorem xX (j:Nat) (o:Ob) (r:List (Nat × Ob)) (k:Nat):St.look ((j,o) :: r) k=if j=k then some o else St.look r k:=rfl
theorem aGh (k:Nat) (o:Ob):uR [] k o = []:=rfl
theorem sM (j:Nat) (o:Ob) (r:List (Nat × Ob)) (k:Nat) (o':Ob):uR ((j,o) :: r) k o'=if j=k then(j,o') :: r else(j,o) :: uR r k o':=rfl
theorem aOh (k:Nat):yF [] k = []:=rfl
theorem aT2 (j:Nat) (o:Ob) (r:List (Nat × Ob)) (k:Nat):yF ((j,o) :: r) k=if j=k then yF r k else(j,o) :: yF r k:=rfl
theorem aN7 (n:Nat) (l:List (Nat × Ob)) (k:Nat):St.get ⟨n,l⟩ k=St.look l k:=rfl
theorem set_mk (n:Nat) (l:List (Nat × Ob)) (k:Nat) (o:Ob):St.set ⟨n,l⟩ k o=⟨n,uR l k o⟩:=rfl
theorem bWm (n:Nat) (l:List (Nat × Ob)) (o:Ob):St.new ⟨n,l⟩ o=⟨n+1,(n,o) :: l⟩:=rfl
theorem aEp (n:Nat) (l:List (Nat × Ob)) (k:Nat):St.erase ⟨n,l⟩ k=⟨n,yF l k⟩:=rfl
theorem aKq (σ:St) (sz sz':Nat) (els:List (List D)):rowsOf σ sz (.sl sz' els)= if sz=sz' then some els else none:=rfl
theorem aTq (σ:St) (sz:Nat):rowsOf σ sz .xO=some []:=rfl
theorem aPn (σ:St) (sz:Nat):rowsOf σ sz .emp=some []:=rfl
def zD :=And.intro @aHi (And.intro @aBc (And.intro @aHl (And.intro @aBa (And.intro @aHo (And.intro @aL1 (And.intro @aHm (And.intro @aHj (And.intro @aHn (And.intro @aBb (And.intro @aL0 (And.intro @aRj (And.intro @aK2 (And.intro @aG9 (And.intro @aK5 (And.intro @aA9 @aA8)))))))))))))))
def zT :=And.intro @bUx (And.intro @bUy (And.intro @aG0 (And.intro @aG1 (And.intro @get_nil (And.intro @aEj (And.intro @look_nil (And.intro @xX (And.intro @aGh (And.intro @sM (And.intro @aOh (And.intro @aT2 (And.intro @aN7 (And.intro @set_mk (And.intro @bWm (And.intro @aEp (And.intro @aKq (And.intro @aTq (And.intro @aPn (And.intro @Int.cast_ofNat_Int (And.intro @bZk (And.intro @Int.toNat_zero (And.intro @Int.toNat_one (And.intro @beq_self_eq_true.{0} (And.intro @bne_self_eq_false.{0} (And.intro @Bool.false_eq_true (And.intro @aEq (And.intro @aEk (And.intro @bXa (And.intro @aE1 (And.intro @aOy (And.intro @aDc (And.intro @aIp (And.intro @aIr (And.intro @aIo (And.intro @aOz (And.intro @aH8 (And.intro @aKb (And.intro @aKc (And.intro @aJn (And.intro @aAt (And.intro @aEb (And.intro @aEa (And.intro @aJm (And.intro @aEc (And.intro @aJs (And.intro @aA1 (And.intro @aEh (And.intro @aEg (And.intro @aTt (And.intro @aFr (And.intro @aFq (And.intro @aFp (And.intro @aFo (And.intro @aFn (And.intro @aFm (And.intro @aJj (And.intro @aP6 (And.intro @aP7 (And.intro @aJk (And.intro @aFs (And.intro @aFt (And.intro @aAl (And.intro @aP5 (And.intro @aP4 (And.intro @bA (And.intro @aJh (And.intro @aP0 (And.intro @bE (And.intro @aJd (And.intro @aJc (And.intro @aJb (And.intro @aPy (And.intro @aPx (And.intro @yG (And.intro @mK (And.intro @cY (And.intro @aVr (And.intro @aZy (And.intro @bM (And.intro @aVi (And.intro @Option.or_none.{0} (And.intro @List.length_set.{0} (And.intro @aT5 (And.intro @aK7 (And.intro @Nat.lt_irrefl (And.intro @yW (And.intro @xK (And.intro @aMh (And.intro @true_and (And.intro @and_true (And.intro @List.getD_cons_zero.{0} (And.intro @List.getD_cons_succ.{0} (And.intro @List.length_cons.{0} (And.intro @List.length_nil.{0} (And.intro @Bool.not_true (And.intro @Bool.not_false (And.intro @List.map_cons.{0,0} (And.intro @List.map_nil.{0,0} (And.intro @List.nil_append.{0} (And.intro @List.cons_append.{0} (And.intro @List.append_nil.{0} (And.intro @aK3 (And.intro @aK4 (And.intro @List.take_succ_cons.{0} (And.intro @List.take_zero.{0} (And.intro @List.drop_succ_cons.{0} (And.intro @List.drop_zero.{0} (And.intro @false_implies (And.intro @or_true (And.intro @true_or (And.intro @Nat.le_refl (And.intro @Int.toNat_natCast (And.intro @and_self (And.intro @bVn (And.intro @bVm (And.intro @bTt (And.intro @bTs (And.intro @bZ0 (And.intro @bUf (And.intro @aDs (And.intro @aL7 (And.intro @bZ1 (And.intro @bZu (And.intro @bZy (And.intro @bZw (And.intro @bZv (And.intro @bZx (And.intro @aDu (And.intro @bZz (And.intro @bZ2 (And.intro @not_false_eq_true (And.intro @aIe (And.intro @aIa (And.intro @aIf (And.intro @aOv (And.intro @aIb (And.intro @aEy (And.intro @aOq (And.intro @aIg (And.intro @aIh (And.intro @aEz (And.intro @aIc (And.intro @aId (And.intro @aOu (And.intro @aOr (And.intro @aOs (And.intro @aOt (And.intro @aAa (And.intro @aFf (And.intro @aB4 (And.intro @bWh (And.intro @aFa (And.intro @aAc (And.intro @bWi (And.intro @aB6 (And.intro @aB8 (And.intro @aB7 (And.intro @aFe (And.intro @aFb (And.intro @aFc (And.intro @aFd (And.intro @List.all_cons.{0} (And.intro @List.all_nil.{0} (And.intro @Bool.and_true (And.intro @Bool.and_self (And.intro @List.set_cons_zero.{0} (And.intro @List.set_cons_succ.{0} (And.intro @Nat.zero_add (And.intro @Nat.add_zero (And.intro @Nat.zero_lt_succ (And.intro @Nat.lt_add_one (And.intro @decide_true (And.intro @decide_false (And.intro @gt_iff_lt.{0} (And.intro @ge_iff_le.{0} (And.intro @zP (And.intro @aBr (And.intro @Bool.true_and (And.intro @decide_eq_true_eq (And.intro @decide_eq_false_iff_not (And.intro @zA (And.intro @aS (And.intro @zB (And.intro @aT (And.intro @aZ2 (And.intro @aZ3 (And.intro @aUf (And.intro @aUm (And.intro @lO (And.intro @fA (And.intro @aSm (And.intro @aUg (And.intro @List.mem_singleton.{0} (And.intro @List.cons_ne_nil.{0} (And.intro @List.take_length.{0} (And.intro @Option.map_some.{0,0} (And.intro @Option.map_none.{0,0} (And.intro @List.length_append.{0} (And.intro @aDy @aMs)))))))))))))))))))))))))))))))))))))))))))))))))))))))))))))))))))))))))))))))))))))))))))))))))))))))))))))))))))))))))))))))))))))))))))))))))))))))))))))))))))))))))))))))))))))))))))))))))))))))
def zR :=And.intro @bZk (And.intro @aR4 (And.intro @aJr (And.intro @aR5 (And.intro @aLc (And.intro @bO (And.intro @aTl (And.intro @dZ (And.intro @aVg (And.intro @jI (And.intro @fE (And.intro @bZr (And.intro @aXs (And.intro @aHv (And.intro @aBf (And.intro @aMf (And.intro @aPc (And.intro @bXx (And.intro @aK (And.intro @aT7 (And.intro @aJ (And.intro @aW7 (And.intro @yD (And.intro @rV (And.intro @aPu (And.intro @aK0 (And.intro @aVm (And.intro @aKy (And.intro @yG (And.intro @mK (And.intro @Option.or_none.{0} (And.intro @Nat.zero_lt_succ (And.intro @Nat.lt_add_one (And.intro @Option.some.injEq.{0} (And.intro @and_true (And.intro @true_and (And.intro @and_self (And.intro @or_true (And.intro @true_or (And.intro @not_false_eq_true (And.intro @List.mem_cons.{0} (And.intro @List.mem_singleton.{0} (And.intro @List.not_mem_nil.{0} (And.intro @D.int.injEq (And.intro @D.bool.injEq (And.intro @D.sl.injEq (And.intro @D.ref.injEq (And.intro @List.length_cons.{0} (And.intro @List.length_nil.{0} (And.intro @aUf (And.intro @aZ3 (And.intro @aUm (And.intro @Nat.zero_add (And.intro @aUg (And.intro @aSm (And.intro @aDy (And.intro @aMs (And.intro @lO @fA)))))))))))))))))))))))))))))))))))))))))))))))))))))))))
end
end Go.Pd
namespace Go.Pd
open Go Go.ChangeShapes Go.WideShapes Go.RowKit
def aZk : List (Nat × Nat)->Nat->Nat->Bool
 | [],o,n=>o==n
 | (a,s) :: r,o,n=>(a==o)&& aZk r (o+s) n
def sQ (P:Program):Nat->TypeId->Bool
 | 0,_=>false
 | n+1,t=>match P.underlying t with
  | some .bool=>true
  | some (.int _)=>true
  | some .string=>true
  | some (.slice e)=>sQ P n e&&decide (0<P.cellsOf e)
  | some (.struct fs)=>(fs.toList.all fun f=>sQ P n f.type)&& aZk (fs.toList.map fun f=>(f.offset,P.cellsOf f.type)) 0 (P.cellsOf t)
  | some (.array k e)=>sQ P n e&&(P.cellsOf t==k*P.cellsOf e)
  | _=>false
mutual
def zX (P:Program):Nat->TypeId->List D->Prop
 | 0,_,_=>False
 | n+1,t,ds=>match P.underlying t with
  | some .bool=>∃ b,ds = [.bool b]
  | some (.int k)=>∃ i,ds = [.int k i]
  | some .string=>∃ s,ds = [.str s]
  | some (.slice e)=>∃ els,ds = [.sl (P.cellsOf e) els]/\∀ row ∈ els,zX P n e row
  | some (.struct fs)=>pM P n (fs.toList.map fun f=>f.type) ds
  | some (.array k e)=>pM P n (List.replicate k e) ds
  | _=>False
def pM (P:Program):Nat->List TypeId->List D->Prop
 | _,[],ds=>ds = []
 | n,f :: fs,ds=>∃ a b,ds=a++b/\zX P n f a/\pM P n fs b
end
def iR (P:Program) (n:Nat) (t:TypeId) (d:D):Prop:=
 match P.underlying t with
 | some (.struct _)=>∃ ds,d = .agg ds/\zX P n t ds
 | some (.array _ _)=>∃ ds,d = .agg ds/\zX P n t ds
 | _=>zX P n t [d]
def aNf (w:World) (cs:List Value) (ds:List D):Prop:=ds.length=cs.length/\∀ j,j<ds.length->RP (fun _=>False) w (cs.getD j undef) (ds.getD j .top)
theorem dR {w:World} {a b:List Value} {x y:List D} (h:aNf w a x) (h':aNf w b y):aNf w (a++b) (x++y):=by
 refine⟨by simp [h.1,h'.1],fun j hj=>?_⟩;simp only [List.getD]
 by_cases hx:j<x.length
 ·rw [List.getElem?_append_left hx,List.getElem?_append_left (by rw [<- h.1]; exact hx)];exact h.2 j hx
 ·have h1:=h.1;rw [List.getElem?_append_right (by omega),List.getElem?_append_right (by omega),<- h.1];rw [List.length_append] at hj;exact h'.2 (j-x.length) (by omega)
section
variable {H : Type} {enc : TypeId × Value -> H} {P : Program} {w : World} {sp : Nat -> Bool} {held : Bool}
end
section
variable {H : Type} {enc : TypeId × Value -> H} {P : Program} {w : World} {sp : Nat -> Bool} {held : Bool}
theorem aVo {r:Reach} {b:Nat} {t:TypeId} {v:Value} {k:Nat} {e:TypeId} (ht:P.underlying t=some (.array k e)) (h:Value.okWide P w r b t v):∃ cs,v = .agg cs/\cs.size=P.cellsOf t:=by simp only [Value.okWide,ht] at h;obtain⟨cs,h1,h2,_⟩:=h;exact⟨cs,h1,h2⟩
theorem kG (hl:laidOutB P=true) {W W':World} (hb:Below W.heap.size W W'):∀ {ts:List TypeId} {vs:List Value} {ds:List (DataW H)} {ps:List MemPlace},(ts.all fun t=>P.readableRec t&&decide (t<P.types.size))= true ->
  (∀ x ∈ ps,x.block<W.heap.size)->DataW.TrodAll enc P W 0 (fun _=>true) true ts vs ds ps->DataW.TrodAll enc P W' 0 (fun b=>decide (b<W.heap.size)) true ts vs ds ps
 | [],vs,ds,ps,_,_,h=>by obtain⟨rfl,rfl,rfl⟩:=trodAll_nil h;exact rfl
 | t :: ts,vs,ds,ps,hr,hlt,h=>by obtain⟨v,vs',d,ds',p,q,rfl,rfl,rfl,h1,h2⟩:=trodAll_cons h;simp only [List.all_cons,Bool.and_eq_true,decide_eq_true_eq] at hr;exact⟨p,q,Below.trod hl hr.1.1 hr.1.2 h1 hb fun x hx=>hlt x (by simp [hx]),kG hl hb hr.2 (fun x hx=>hlt x (by simp [hx])) h2,rfl⟩
theorem bR {W:World}:∀ {ts:List TypeId} {vs:List Value} {ds:List (DataW H)} {ps:List MemPlace},DataW.TrodAll enc P W 0 sp held ts vs ds ps->∀ x ∈ ps,x.block<W.heap.size
 | [],vs,ds,ps,h=>by obtain⟨rfl,rfl,rfl⟩:=trodAll_nil h;intro x hx; simp at hx
 | t :: ts,vs,ds,ps,h=>by
  obtain⟨v,vs',d,ds',p,q,rfl,rfl,rfl,⟨m,hm⟩,h2⟩:=trodAll_cons h;intro x hx
  rcases List.mem_append.1 hx with hx | hx
  ·exact DataW.trod_lt m _ _ _ hm x hx
  ·exact bR h2 x hx
end
section
variable [sC]
theorem yB.calls {P:Program} {g:FuncId} {args:List D} {b:Bool} (h:yB P g args (.bool b)) {w:World} {vals:Array Value} (ht:aQ9 w fun _=>False) (hl:vals.size=args.length)
  (hv:∀ j,j<args.length->RP (fun _=>False) w (vals.getD j undef) (args.getD j .top)):Calls P g vals w fun e w'=>e = .returned (.bool b)/\ Below w.heap.size w w':=by
 have hM:∀ b,Mof (fun _=>False) (fun _=>0) St0 b->False:=by
  rintro b (h | ⟨k,o,hk,_⟩)
  ·exact h
  ·cases hk
 have hS:vQ (fun _=>False) w St0 (fun _=>0):=⟨fun b hb=>hb.elim,(fun k o hk=>by cases hk),(fun k k' o o' hk=>by cases hk),(fun k o hk=>by cases hk),ht.zI (Nat.le_refl _) (fun _ _ _=>rfl) fun b _ hb=>hM b hb⟩;refine(h.run _ w _ vals hS hl fun j hj=>.pure ((hv j hj).zI (fun _ _ _=>rfl) fun b _ hb=>hM b hb)).mono fun e w' hh=>?_;obtain⟨v,ι',rfl,k1,k2,k3,k4,k5,k6⟩:=hh;have K0:Kept w w' fun _=>False:=k1.mono fun b _ ⟨k,o,hk,_⟩=>by cases hk
 rw [k6.qF];exact⟨rfl,K0.below⟩
end
theorem aTi (a:Array Value) (j:Nat) (d:Value):a.getD j d=a.toList.getD j d:=by simp [List.getD,Array.getD];by_cases h:j<a.size <;> simp [h]
theorem aEd {H:Type} {enc:TypeId × Value->H} {P:Program} {f:Func} {s:ChangeSpec} {W W':World} {args:Array Value} {ds gs:List (DataW H)} {before:List MemPlace} {tb:TypeId}
  (hl:laidOutB P=true) (hr:(f.params.toList.all fun t=>P.readableRec t&&decide (t<P.types.size))= true) (hb:f.resultTypes = #[tb]) (htb:P.underlying tb=some .bool) (hsv:s.vars = [])
  (hW:DataW.Whole enc P f.params.toList s.vars false W args.toList ds gs before) (hs:s.fn H (ds++gs)= { results:=[.lit (.bool true)],args:=ds }) (bel:Below W.heap.size W W') :
  s.post enc P f false true false false W args (.bool true) W':=by
 have hW':=hW;obtain⟨p,q,hA,hV,rfl,hfz,hnd⟩:=hW;rw [hsv] at hV;obtain⟨rfl,rfl⟩:=trodVars_none hV;have hA2:=kG hl bel hr (bR hA) hA
 refine⟨_,_,_,[],p,[],hW',?_,?_,?_,bel.frame _,fun h=>by cases h⟩
 ·rw [hs,hb];exact trodAll_mk1 (shut_bool htb _)
 ·rw [hs];exact hA2
 ·rw [hs,hsv];rfl
abbrev dO (i:Nat) (k:DK):DOp:=⟨some i,none,k⟩
abbrev dF (i j:Nat) (k:DK):DOp:=⟨some i,some (j,false),k⟩
abbrev dT (i j:Nat) (k:DK):DOp:=⟨some i,some (j,true),k⟩
abbrev Opd.i (n:Int):Opd:=.c (.int .i64 n)
abbrev dM (i j:Nat):DOp:=⟨some i,none,.mv (.t j)⟩
abbrev dL (i j:Nat):DOp:=⟨some i,none,.load 1 false (.t j)⟩
abbrev dG (i n j:Nat):DOp:=⟨some i,none,.fld n (.t j)⟩
abbrev DC.r (l:List DOp) (c:DC):DC:=.seq (.reg [] l) c
abbrev DK.cf (f:FuncId) (l:List Opd):DK:=.call (.c (.fn f [])) l
abbrev bT (i:Nat) (o:BinOp) (a b:Nat):DOp:=⟨some i,none,.bin o (.t a) (.t b)⟩
abbrev bI (i:Nat) (o:BinOp) (a:Nat) (n:Int):DOp:=⟨some i,none,.bin o (.t a) (.i n)⟩
abbrev dI (i n a b:Nat):DOp:=⟨some i,none,.idx n (.t a) (.t b)⟩
abbrev dN (i a:Nat):DOp:=⟨some i,none,.len (.t a)⟩
abbrev fG (i j n a:Nat):DOp:=⟨some i,some (j,false),.fld n (.t a)⟩
abbrev fL (i j a:Nat):DOp:=⟨some i,some (j,false),.load 1 false (.t a)⟩
abbrev fN (i j a:Nat):DOp:=⟨some i,some (j,false),.len (.t a)⟩
abbrev fM (i j a:Nat):DOp:=⟨some i,some (j,false),.mv (.t a)⟩
abbrev dP (i a b:Nat):DOp:=⟨some i,none,.pick (.t a) (.c (.bool true)) (.t b)⟩
abbrev dE (i a n:Nat):DOp:=⟨some i,none,.bZa (.t a) n⟩
abbrev dS (n a b:Nat):DOp:=⟨none,none,.store n (.t a) (.t b)⟩
abbrev dV (i:Nat) (b:Bool):DOp:=⟨some i,none,.mv (.c (.bool b))⟩
abbrev dJ (i:Nat) (n:Int):DOp:=⟨some i,none,.mv (.i n)⟩
abbrev dA (i n a:Nat):DOp:=⟨some i,none,.load n true (.t a)⟩
abbrev DC.w (a b:Nat) (c:DC):DC:=.seq (.cond (.t a) .skip (.exit b)) c
abbrev DC.g (l:List DOp):DC:=.reg [] l
def zS :=And.intro @D.int.injEq (And.intro @D.bool.injEq (And.intro @D.sl.injEq (And.intro @and_true (And.intro @true_and @and_self))))
def zW.{u} :=And.intro @ne_eq.{u} (And.intro @forall_const.{u} (And.intro @implies_true.{u} @forall_eq.{u}))
section
variable [sC]
def zU :=And.intro @aA.eq_1 (And.intro @bVl.eq_1 (And.intro @unZ.eq_1 (And.intro @mV.eq_1 (And.intro @mV.eq_2 (And.intro @tF.eq_1 (And.intro @tF.eq_2 (And.intro @opX.eq_1 (And.intro @opX.eq_2 (And.intro @opX.eq_3 (And.intro @opX.eq_4 (And.intro @opX.eq_5 (And.intro @opX.eq_6 (And.intro @opX.eq_7 (And.intro @opX.eq_8 (And.intro @opX.eq_9 (And.intro @opX.eq_10 (And.intro @opX.eq_11 (And.intro @opX.eq_12 (And.intro @opX.eq_13 (And.intro @opX.eq_14 (And.intro @opX.eq_15 (And.intro @opV.eq_1 (And.intro @opV.eq_2 (And.intro @opV.eq_3 (And.intro @opV.eq_4 (And.intro @opV.eq_5 (And.intro @opV.eq_6 (And.intro @opV.eq_7 (And.intro @opV.eq_8 (And.intro @opV.eq_9 (And.intro @opV.eq_10 (And.intro @opV.eq_11 (And.intro @opV.eq_12 (And.intro @opV.eq_13 (And.intro @opV.eq_14 (And.intro @opV.eq_15 (And.intro @pX.eq_1 (And.intro @pX.eq_2 (And.intro @pX.eq_3 (And.intro @pX.eq_4 (And.intro @pX.eq_5 (And.intro @pX.eq_6 (And.intro @pX.eq_7 (And.intro @pX.eq_8 (And.intro @pW.eq_1 (And.intro @pW.eq_2 (And.intro @pW.eq_3 (And.intro @pW.eq_4 (And.intro @pW.eq_5 (And.intro @pW.eq_6 (And.intro @pW.eq_7 (And.intro @pW.eq_8 (And.intro @pW.eq_9 (And.intro @pW.eq_10 (And.intro @pW.eq_11 (And.intro @pW.eq_12 (And.intro @pW.eq_13 (And.intro @pW.eq_14 (And.intro @pW.eq_15 (And.intro @pW.eq_16 (And.intro @pW.eq_17 (And.intro @pW.eq_18 (And.intro @pW.eq_19 (And.intro @pW.eq_20 (And.intro @pW.eq_21 (And.intro @pW.eq_22 (And.intro @pW.eq_23 (And.intro @pW.eq_24 (And.intro @pW.eq_25 (And.intro @pW.eq_26 (And.intro @pW.eq_27 (And.intro @pW.eq_28 (And.intro @bVx.eq_1 (And.intro @bVw.eq_1 (And.intro @atK.eq_1 (And.intro @iG.eq_1 @aHc.eq_1))))))))))))))))))))))))))))))))))))))))))))))))))))))))))))))))))))))))))))
def zV :=And.intro @St0.eq_1 (And.intro @cJ.eq_1 (And.intro @cJ.eq_2 (And.intro @iU.eq_1 (And.intro @iU.eq_2 (And.intro @iU.eq_3 (And.intro @iU.eq_4 (And.intro @iU.eq_5 (And.intro @iU.eq_6 (And.intro @iU.eq_7 (And.intro @iU.eq_8 (And.intro @iU.eq_9 (And.intro @iU.eq_10 (And.intro @iU.eq_11 (And.intro @iU.eq_12 (And.intro @iU.eq_13 (And.intro @iU.eq_14 (And.intro @iU.eq_15 (And.intro @iU.eq_16 (And.intro @iU.eq_17 (And.intro @aHg.eq_1 (And.intro @cL.eq_1 (And.intro @cL.eq_2 (And.intro @cL.eq_3 (And.intro @cL.eq_4 (And.intro @cL.eq_5 (And.intro @cL.eq_6 (And.intro @aSc.eq_1 (And.intro @aSc.eq_2 (And.intro @bYf.eq_1 (And.intro @wK.eq_1 (And.intro @cE.eq_1 (And.intro @cE.eq_2 (And.intro @bTp.eq_1 (And.intro @aY8.eq_1 (And.intro @aY8.eq_2 (And.intro @aV9.eq_1 (And.intro @aV9.eq_2 (And.intro @List.replicate.eq_1.{0} (And.intro @List.replicate.eq_2.{0} (And.intro @rowsOf.eq_1 (And.intro @rowsOf.eq_2 (And.intro @rowsOf.eq_3 (And.intro @rowsOf.eq_4 @rowsOf.eq_5)))))))))))))))))))))))))))))))))))))))))))
end
theorem sd {p q:Prop} (b:q) (a:p:=by first | omega | exact aL6 _ | exact Int.natCast_nonneg _ | rfl | exact aKm _ _ | exact aNx _ | (intro _ h; cases h; done)):p/\q:=⟨a,b⟩
theorem iT.dv {n0 n:Nat} {σ:St} {d d':D} (hn:n0<=n:=by simp) (h:vw σ ⟨n,[]⟩ (fun k=>k) d d':=by simp [vw]):iT n0 σ d ⟨n,[]⟩ d':=.drop hn h
section
variable [sC]
theorem cr {P:Program} {g:FuncId} {args:List D} {d:D} {s:St} (hc:yB P g args d) (hp:D.xU args=true:=by simp [D.xU,D.xL]):xY P g args s d s:=xY.yM hc hp
theorem cq {P:Program} {g:FuncId} {args:List D} {d:D} {s:St} (hc:yB P g args d) (hp:D.xU args=true:=by rfl):xY P g args s d s:=xY.yM hc hp
end
end Go.Pd
