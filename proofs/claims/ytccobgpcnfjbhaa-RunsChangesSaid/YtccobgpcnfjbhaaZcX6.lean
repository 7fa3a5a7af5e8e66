/- Part X6. -/
import Derived.Test.YtccobgpcnfjbhaaZcX5
import Derived.Carry
import Derived.ChangeArms
import Derived.Deep.Slices
import Derived.ProofKit
import Derived.OpenShut
set_option linter.unusedSectionVars false
set_option linter.unusedVariables false
set_option linter.unusedSimpArgs false
set_option linter.defProp false
open And renaming intro->γ
open List renaming append_nil->δ,mem_map->ε,nil_append->ζ,mem_singleton->η,mem_cons->θ,map_cons->μ,length_nil->ν,getD_cons_zero->ξ,all_cons->ο,cons_append->π,getElem?_append_right->τ,getElem?_append_left->υ,take_append_drop->χ,length_append->ψ,length_cons->ω
open Bool renaming and_eq_true->Aa
open BitVec renaming eq_of_toNat_eq->Ab,ofInt_natCast->Ac,toNat_ofInt->Ad,ofInt_mul->Ae,ofInt_add->Af
open Nat renaming le_refl->Ag,zero_add->Ah
namespace Go.Pd
open Go
def ui (s:BitVec 64):Int:=s.toNat
theorem np (s:BitVec 64):0<=ui s:=by unfold ui; omega
theorem Z9 {s t:BitVec 64}:ui s=ui t ↔ s=t:=by
 unfold ui
 constructor
 ·intro h; exact Ab (by omega)
 ·rintro rfl; rfl
theorem Vi {n:Int} (h0:0<=n) (h1:n<18446744073709551616):ui (BitVec.ofInt 64 n)= n:=by unfold ui;rw [Ad];have:n % 2 ^ 64=n:=Int.emod_eq_of_lt h0 (by omega);omega
theorem wD (s:BitVec 64):BitVec.ofInt 64 (ui s)= s:=by unfold ui;rw [Ac];simp
theorem oS (s:BitVec 64):IntKind.u64.wrap (s.toNat:Int)= ui s:=by unfold ui;have:=s.isLt;exact wrap_u64 ⟨by omega,by omega⟩
theorem Z7 (s t:BitVec 64):oA .and .u64 (ui s) (ui t)= ui (s &&& t):=by show IntKind.u64.wrap ((BitVec.ofInt 64 (ui s)&&& BitVec.ofInt 64 (ui t)).toNat:Int)= _;rw [wD,wD,oS]
theorem Vj (s t:BitVec 64):oA .or .u64 (ui s) (ui t)= ui (s ||| t):=by show IntKind.u64.wrap ((BitVec.ofInt 64 (ui s) ||| BitVec.ofInt 64 (ui t)).toNat:Int)= _;rw [wD,wD,oS]
theorem ZG (s t:BitVec 64):oA .xor .u64 (ui s) (ui t)= ui (s ^^^ t):=by show IntKind.u64.wrap ((BitVec.ofInt 64 (ui s)^^^ BitVec.ofInt 64 (ui t)).toNat:Int)= _;rw [wD,wD,oS]
theorem nk (s t:BitVec 64):oA .andNot .u64 (ui s) (ui t)= ui (s &&& ~~~t):=by show IntKind.u64.wrap ((BitVec.ofInt 64 (ui s)&&& ~~~BitVec.ofInt 64 (ui t)).toNat:Int)= _;rw [wD,wD,oS]
theorem kY (n:Int):IntKind.u64.wrap n=ui (BitVec.ofInt 64 n):=by unfold ui;rw [Ad];simp [IntKind.wrap,IntKind.signed,IntKind.bits];omega
theorem Z6 (s t:BitVec 64):IntKind.u64.wrap (ui s+ui t)= ui (s+t):=by rw [kY,Af,wD,wD]
theorem ZF (s t:BitVec 64):IntKind.u64.wrap (ui s-ui t)= ui (s-t):=by rw [kY];congr 1;rw [Int.sub_eq_add_neg,Af,BitVec.ofInt_neg,wD,wD,BitVec.sub_eq_add_neg]
theorem ZB (s t:BitVec 64):IntKind.u64.wrap (ui s*ui t)= ui (s*t):=by rw [kY,Ae,wD,wD]
theorem ZD (s:BitVec 64) (k:Int):ig .u64 (ui s) k=ui (s <<< k.toNat):=by
 unfold ig;rw [kY];congr 1;rw [Ae,wD];show s*BitVec.ofInt 64 (2 ^ min k.toNat 64)= _;apply Ab;rw [BitVec.toNat_mul,BitVec.toNat_shiftLeft,Nat.shiftLeft_eq]
 have e:(BitVec.ofInt 64 (2 ^ min k.toNat 64)).toNat=2 ^ min k.toNat 64 % 2 ^ 64:=by
  have:((2:Int)^ min k.toNat 64)= ((2 ^ min k.toNat 64:Nat):Int):=by norm_cast
  rw [this,Ac,BitVec.toNat_ofNat]
 rw [e,Nat.mul_mod_mod]
 rcases Nat.lt_or_ge k.toNat 64 with h | h
 ·rw [Nat.min_eq_left (by omega)]
 ·rw [Nat.min_eq_right h];obtain⟨m,hm⟩:=Nat.exists_eq_add_of_le h;rw [hm,Nat.pow_add,<- Nat.mul_assoc,Nat.mul_right_comm];simp
theorem ZE (s:BitVec 64) (k:Int):ur .u64 (ui s) k=ui (s >>> k.toNat):=by
 unfold ur ui;rw [BitVec.toNat_ushiftRight,Nat.shiftRight_eq_div_pow];show (s.toNat:Int).fdiv (2 ^ min k.toNat 64)= _;have:((2:Int)^ min k.toNat 64)= ((2 ^ min k.toNat 64:Nat):Int):=by norm_cast
 rw [this,Int.fdiv_eq_ediv_of_nonneg _ (Int.natCast_nonneg _),<- Int.natCast_ediv];congr 1
 rcases Nat.lt_or_ge k.toNat 64 with h | h
 ·rw [Nat.min_eq_left (by omega)]
 ·rw [Nat.min_eq_right h];have h1:=s.isLt;rw [Nat.div_eq_of_lt h1,Nat.div_eq_of_lt (Nat.lt_of_lt_of_le h1 (Nat.pow_le_pow_right (by omega) h))]
theorem ZC (s t:BitVec 64):(ui s).tmod (ui t)= ui (s % t):=by unfold ui;rw [BitVec.toNat_umod,Int.tmod_eq_emod_of_nonneg (by omega),Int.natCast_emod]
theorem fw (s t:BitVec 64):(ui s==ui t)= (s==t):=by
 by_cases h:s=t
 ·subst h; simp
 ·have:ui s≠ui t:=λe=>h (Z9.1 e);rw [beq_eq_false_iff_ne.2 this,beq_eq_false_iff_ne.2 h]
theorem Z8 (s t:BitVec 64):(ui s != ui t)= (s != t):=by simp only [bne,fw]
theorem Te : D.int .u64 0=D.int .u64 (ui 0#64):=rfl
theorem Tf : D.int .u64 1=D.int .u64 (ui 1#64):=rfl
theorem Tg : D.int .u64 2=D.int .u64 (ui 2#64):=rfl
theorem Th : D.int .u64 18446744073709551615=D.int .u64 (ui 18446744073709551615#64):=rfl
theorem Z5 : ui 2#64≠0:=by decide
def us (l:List (BitVec 64)):List (List D):=l.map λs=>[.int .u64 (ui s)]
def o9 (l:List (BitVec 64)):D:=.sl 1 (us l)
theorem zB (l:List (BitVec 64)):(us l).length=l.length:=by simp [us]
theorem uj : us [] = []:=rfl
theorem px (s:BitVec 64) (l:List (BitVec 64)):us (s :: l)= [.int .u64 (ui s)] :: us l:=rfl
theorem gL (l:List (BitVec 64)) {i:Nat} (h:i<l.length):(us l).getD i [] = [.int .u64 (ui (l.getD i 0))]:=by simp [us,List.getD,h]
theorem aF (l:List (BitVec 64)):∀ e ∈ us l,D.xT e=true:=by intro e he;simp only [us,ε] at he;obtain⟨n,_,rfl⟩:=he;rfl
theorem fx (l:List (BitVec 64)):∀ e ∈ us l,yI e=true:=by intro e he;simp only [us,ε] at he;obtain⟨n,_,rfl⟩:=he;rfl
theorem Yy (l:List (BitVec 64)) (n:Nat):(us l).take n=us (l.take n):=by simp [us,List.map_take]
theorem iA (l:List (BitVec 64)) (s:BitVec 64):us l ++ [[.int .u64 (ui s)]]=us (l ++ [s]):=by simp [us]
theorem ZH (l:List (BitVec 64)) (i:Nat) (s:BitVec 64):(us l).set i [.int .u64 (ui s)]=us (l.set i s):=by simp [us,List.map_set]
theorem Y2 : ∀ {xX:List (List D)},(∀ e ∈ xX,∃ n:Int,e = [.int .u64 n])->D.cD xX->∃ l,xX=us l
 | [],_,_=>⟨[],rfl⟩
 | e :: r,h,hf=>by obtain⟨n,rfl⟩:=h e (by simp);obtain⟨l,rfl⟩:=Y2 (λe he=>h e (by simp [he])) hf.2;have h1:=hf.1;simp only [D.uK,D.fact,and_true] at h1;obtain⟨h1,h2⟩:=h1;refine⟨BitVec.ofInt 64 n :: l,?_⟩;have:ui (BitVec.ofInt 64 n)= n:=Vi (by simpa [IntKind.min,IntKind.signed] using h1) (by have:IntKind.u64.max=18446744073709551615:=rfl; omega);simp [us,this]
theorem bP (d:D):uL false [d]=d:=rfl
theorem lz (cs:List D):uL true cs = .agg cs:=rfl
def xI (key sz:Nat):List (List D)->D
 | []=>.xZ
 | e :: r=>.yW key sz (e :: r).length
def xM (key sz:Nat):List (List D)->List (Nat × Ob)
 | []=>[]
 | e :: r=>[(key,⟨sz,e :: r⟩)]
end Go.Pd
namespace Go.Pd
open Go
variable [vZ]
def wZ (f:Fr):Fr->Prop
 | []=>True
 | (t,d) :: r=>f.get t=d/\wZ f r
omit [vZ] in
theorem bZ {f:Fr}:∀ {f':Fr},wZ f f'->∀ t,f'.get t = .top\/f'.get t=f.get t
 | [],_,t=>.inl rfl
 | (s,d) :: r,h,t=>by
  simp only [Fr.get]
  split
  ·rename_i e; subst e; exact .inr h.1.symm
  ·exact bZ h.2 t
theorem yO.same {C:Cx} {f f':Fr} {σ:St} (h:wZ f f'):yO C f σ f' σ:=yO.frame (bZ h)
end Go.Pd
namespace Go.Pd
open Go
def rr (ll:List (List (BitVec 64))):List (List D):=ll.map λl=>[o9 l]
def Tj (ll:List (List (BitVec 64))):D:=.sl 1 (rr ll)
theorem Z1 (l:List (List (BitVec 64))):(rr l).length=l.length:=by simp [rr]
theorem Yu (l:List (List (BitVec 64))) (n:Nat):(rr l).take n=rr (l.take n):=by simp [rr,List.map_take]
theorem pv (l:List (List (BitVec 64))):∀ e ∈ rr l,D.xT e=true:=by intro e he;simp only [rr,ε] at he;obtain⟨n,_,rfl⟩:=he;simp [D.xT,D.xJ,o9]
end Go.Pd
namespace Go.Pd
open Go
theorem rT.same {n0:Nat} {σ:St} {d:D}:rT n0 σ d σ d:=.inl ⟨rfl,rfl⟩
theorem rT.drop {n0 n:Nat} {σ:St} {d d':D} (hn:n0<=n) (h:vw σ ⟨n,[]⟩ (λk=>k) d d'):rT n0 σ d ⟨n,[]⟩ d':= .inr ⟨λk=>k,hn,λ_ _=>rfl,h,by simp [stays],by simp [oN]⟩
end Go.Pd
namespace Go.Pd
open Go
universe u
variable [vZ]
def SP (σ:St) (K:D->St->Prop) (d:D):Prop:=K d σ
def ZS (f:Fr) (dst:Option Nat) (K:Fr->St->Prop) (d:D) (σ:St):Prop:=K (f.put dst d) σ
def ZT (f:Fr) (dst:Option Nat) (K:Fr->Prop) (d:D):Prop:=K (f.put dst d)
def mP (Q:Exit->Fr->St->Prop) (f:Fr) (σ:St):Prop:=Q .normal f σ
def WW (d:D) (want:Bool) (yes no:Prop):Prop:=
 match d with
 | .bool b=>if b=want then yes else no
 | .vB=>no
 | _=>False
theorem x7 (b want:Bool) (yes no:Prop):WW (.bool b) want yes no=if b=want then yes else no:=rfl
theorem YO (want:Bool) (yes no:Prop):WW .vB want yes no=no:=rfl
@[congr] theorem WU {d d' : D} {want : Bool} {yes no : Prop} (h : d = d') : WW d want yes no = WW d' want yes no := by rw [h]
def gd (g:Option (Nat × Bool)) (f:Fr) (yes no:Prop):Prop:=
 match g with
 | none=>yes
 | some (j,want)=>WW (f.get j) want yes no
theorem YP (f:Fr) (yes no:Prop):gd none f yes no=yes:=rfl
theorem YQ (j:Nat) (want:Bool) (f:Fr) (yes no:Prop):gd (some (j,want)) f yes no=WW (f.get j) want yes no:=rfl
theorem Zr (o:xR) (f:Fr) (yes no:Prop):xA o f yes no=gd o.guard f yes no:=by
 unfold xA gd
 split
 ·rename_i h; rw [h]
 ·rename_i h; rw [h]; rfl
def kE (q:Bool) (σ:St) (sz bytes:Nat) (x:D) (y:Option (List (List D))) (K:D->St->Prop):Prop:=
 match y with
 | none=>False
 | some rows=>(∀ r ∈ rows,yI r=true)/\ match x with
  | .xZ=>rows.length*bytes<=140737488355328/\rows.length<=8000000000000/\(rows = []->K .xZ σ)/\ (rows ≠ []->K (.yW σ.nx sz rows.length) (σ.new ⟨sz,rows⟩))
  | .yW key sz' n=>match σ.get key with
   | some ob=>sz=sz'/\ob.sz=sz/\n<=ob.xX.length/\(n+rows.length)* bytes<=140737488355328/\n+rows.length<=8000000000000 /\
    K (.yW σ.nx sz (n+rows.length)) ((σ.erase key).new ⟨sz,ob.xX.take n++rows⟩)
   | none=>False
  | .sub key sz' lo n=>match σ.get key with
   | some ob=>q=true/\sz=sz'/\ob.sz=sz/\lo+n<=ob.xX.length/\(n+rows.length)* bytes<=140737488355328/\n+rows.length<=8000000000000 /\
    ∀ pre:List (List D),(pre = []\/pre=ob.xX.take lo)->K (.sub σ.nx sz pre.length (n+rows.length)) ((σ.erase key).new ⟨sz,pre++((ob.xX.drop lo).take n++rows)⟩)
   | none=>False
  | _=>False
def ij (σ:St) (n:Nat) (a:D) (x:Option (List D)) (K:D->St->Prop):Prop:=
 match a,x with
 | .ref key sz i off,some ds=>match σ.get key with
  | some ob=>ob.sz=sz/\i<ob.xX.length/\ds.length=n/\off+n<=sz/\yI ds=true/\K .vB (σ.set key ⟨sz,ob.xX.set i (qE (ob.xX.getD i []) off ds)⟩)
  | none=>False
 | _,_=>False
def cZ (x:D) (K:D->Prop):Prop:=
 match x with
 | .sl _ xX=>K (.int .i64 xX.length)
 | .yW _ _ n=>K (.int .i64 n)
 | .sub _ _ _ n=>K (.int .i64 n)
 | .xZ=>K (.int .i64 0)
 | .emp=>K (.int .i64 0)
 | _=>False
def aT (sz:Nat) (x i:D) (K:D->Prop):Prop:=
 match x,i with
 | .sl sz' xX,.int _ n=>sz=sz'/\0<=n/\n<xX.length/\K (.ptr (xX.getD n.toNat []))
 | .yW key sz' len,.int _ n=>sz=sz'/\0<=n/\n<len/\K (.ref key sz n.toNat 0)
 | .sub key sz' lo len,.int _ n=>sz=sz'/\0<=n/\n<len/\K (.ref key sz (lo+n.toNat) 0)
 | _,_=>False
def rA (neg:Bool) (x y:D) (K:D->Prop):Prop:=
 match x,y with
 | .xZ,.xZ=>K (.bool (!neg))
 | .yW ..,.xZ | .xZ,.yW ..=>K (.bool neg)
 | .emp,.xZ | .xZ,.emp=>K (.bool neg)
 | .sl _ (_ :: _),.xZ=>K (.bool neg)
 | _,_=>False
def cE (σ:St) (n:Nat) (ag:Bool) (x:D) (K:D->Prop):Prop:=
 match x with
 | .ref key sz i off=>match σ.get key with
  | some o=>o.sz=sz/\i<o.xX.length/\off+n<=sz/\(ag=true\/n=1)/\ K (uL ag (((o.xX.getD i []).drop off).take n))
  | none=>False
 | .ptr cs=>n<=cs.length/\(ag=true\/n=1)/\ K (uL ag (cs.take n))
 | _=>False
def oa (x:D) (K:D->Prop):Prop:=
 match x with
 | .ref key sz i off=>K (.ref key sz i off)
 | .ptr cs=>K (.ptr cs)
 | .fn f cs=>K (.fn f cs)
 | _=>False
@[congr] theorem Wb {x x' : D} {K : D -> Prop} (h : x = x') : oa x K = oa x' K := by rw [h]
theorem ba {key sz i off:Nat} {K:D->Prop}:oa (.ref key sz i off) K=K (.ref key sz i off):=rfl
theorem az {cs:List D} {K:D->Prop}:oa (.ptr cs) K=K (.ptr cs):=rfl
theorem Yb {f:FuncId} {cs:List D} {K:D->Prop}:oa (.fn f cs) K=K (.fn f cs):=rfl
def cH (σ:St) (zero:D) (ok:Bool) (m k:D) (K:D->Prop):Prop:=
 match m,k with
 | .zZ key,.int kk x=>match σ.get key with
  | some o=>o.sz=0/\pQ kk o.xX/\K (qR ok zero (tE x o.xX 0))
  | none=>False
 | .tX,.int _ _=>K (qR ok zero none)
 | _,_=>False
def yo (σ:St) (m k x:D) (K:D->St->Prop):Prop:=
 match m,k with
 | .zZ key,.int kk y=>match σ.get key with
  | some o=>o.sz=0/\pQ kk o.xX/\K .vB (σ.set key ⟨0,jG kk o.xX y x⟩)
  | none=>False
 | _,_=>False
def uc (σ:St) (n:Nat) (zero:D) (ok:Bool) (m k:D) (K:D->Prop):Prop:=
 match m,k with
 | .zZ key,.agg cs=>match σ.get key with
  | some o=>o.sz=0/\∃ (x:List Int) (l:List (List Int × D)),(cs=x.map (D.int .i64)/\ o.xX=lK l/\x.length=n/\∀ p ∈ l,p.1.length=n)/\ K (qR ok zero (nU x l 0))
  | none=>False
 | _,_=>False
def uf (σ:St) (n:Nat) (m k x:D) (K:D->St->Prop):Prop:=
 match m,k with
 | .zZ key,.agg cs=>match σ.get key with
  | some o=>o.sz=0/\∃ (y:List Int) (l:List (List Int × D)),(cs=y.map (D.int .i64)/\ o.xX=lK l/\(y.length=n/\∀ p ∈ l,p.1.length=n))/\ K .vB (σ.set key ⟨0,lK (gN y x l)⟩)
  | none=>False
 | _,_=>False
def gq (σ:St) (zero m k:D) (K:D->St->Prop):Prop:=
 match m,k with
 | .zZ key,.int kk y=>match σ.get key with
  | some o=>o.sz=0/\pQ kk o.xX/\o.xX.length<=1000000000/\(match tE y o.xX 0 with
   | some (i,d)=>K (.yE [d,.int .i64 i]) (σ.set key ⟨0,o.xX⟩)
   | none=>K (.yE [zero,.int .i64 o.xX.length]) (σ.set key ⟨0,o.xX ++ [[.int kk y,zero]]⟩))
  | none=>False
 | _,_=>False
def gj (σ:St) (m s x:D) (K:D->St->Prop):Prop:=
 match m,s with
 | .zZ key,.int _ i=>match σ.get key with
  | some o=>o.sz=0/\0<=i/\i<o.xX.length/\(∃ kk y d,o.xX.getD i.toNat [] = [.int kk y,d]/\K .vB (σ.set key ⟨0,o.xX.set i.toNat [.int kk y,x]⟩))
  | none=>False
 | _,_=>False
@[congr] theorem Zk {σ : St} {zero : D} {ok : Bool} {m m' k k' : D} {K : D -> Prop} (h : m = m') (h' : k = k') : cH σ zero ok m k K = cH σ zero ok m' k' K := by rw [h, h']
@[congr] theorem Zm {σ : St} {m m' k k' x x' : D} {K : D -> St -> Prop} (h : m = m') (h' : k = k') (h2 : x = x') : yo σ m k x K = yo σ m' k' x' K := by rw [h, h', h2]
@[congr] theorem Y5 {σ : St} {n : Nat} {zero : D} {ok : Bool} {m m' k k' : D} {K : D -> Prop} (h : m = m') (h' : k = k') : uc σ n zero ok m k K = uc σ n zero ok m' k' K := by rw [h, h']
@[congr] theorem Y7 {σ : St} {n : Nat} {m m' k k' x x' : D} {K : D -> St -> Prop} (h : m = m') (h' : k = k') (h2 : x = x') : uf σ n m k x K = uf σ n m' k' x' K := by rw [h, h', h2]
@[congr] theorem Zi {σ : St} {zero m m' k k' : D} {K : D -> St -> Prop} (h : m = m') (h' : k = k') : gq σ zero m k K = gq σ zero m' k' K := by rw [h, h']
@[congr] theorem Zf {σ : St} {m m' k k' x x' : D} {K : D -> St -> Prop} (h : m = m') (h' : k = k') (h2 : x = x') : gj σ m k x K = gj σ m' k' x' K := by rw [h, h', h2]
@[congr] theorem WY {q : Bool} {σ : St} {sz bytes : Nat} {x x' : D} {y y' : Option (List (List D))} {K : D -> St -> Prop} (h : x = x') (h' : y = y') : kE q σ sz bytes x y K = kE q σ sz bytes x' y' K := by rw [h, h']
@[congr] theorem Wd {σ : St} {n : Nat} {x x' : D} {y y' : Option (List D)} {K : D -> St -> Prop} (h : x = x') (h' : y = y') : ij σ n x y K = ij σ n x' y' K := by rw [h, h']
@[congr] theorem Wa {x x' : D} {K : D -> Prop} (h : x = x') : cZ x K = cZ x' K := by rw [h]
@[congr] theorem WX {sz : Nat} {x x' i i' : D} {K : D -> Prop} (h : x = x') (h' : i = i') : aT sz x i K = aT sz x' i' K := by rw [h, h']
@[congr] theorem Y8 {neg : Bool} {x x' i i' : D} {K : D -> Prop} (h : x = x') (h' : i = i') : rA neg x i K = rA neg x' i' K := by rw [h, h']
@[congr] theorem Zh {σ : St} {n : Nat} {ag : Bool} {x x' : D} {K : D -> Prop} (h : x = x') : cE σ n ag x K = cE σ n ag x' K := by rw [h]
def pX (C:Cx) (σ:St) (ev:wY->D) (k:DK) (K:D->Prop):Prop:=
 match k with
 | .len x=>cZ (ev x) K
 | .idx sz x i=>aT sz (ev x) (ev i) K
 | .pR neg x y=>rA neg (ev x) (ev y) K
 | .load n ag x=>cE σ n ag (ev x) K
 | .oC zero ok m k=>cH σ zero ok (ev m) (ev k) K
 | .nY n zero ok m k=>uc σ n zero ok (ev m) (ev k) K
 | .jb x=>oa (ev x) K
 | k=>pW C σ ev k K
theorem Zy (C:Cx) (σ:St) (ev:wY->D) (k:DK) (K:D->Prop):pX C σ ev k K=pW C σ ev k K:=by cases k <;> rfl
def dR (C:Cx) (σ:St) (ev:wY->D) (k:DK) (K:D->St->Prop):Prop:=
 match k with
 | .box x=>vO C σ ev (.box x) K
 | .alloc z=>vO C σ ev (.alloc z) K
 | .store n a x=>ij σ n (ev a) (ev x).cells K
 | .app sz bytes x y=>kE (C.own.contains 77777) σ sz bytes (ev x) (rowsOf σ sz (ev y)) K
 | .pA sz bytes zero len cap=>vO C σ ev (.pA sz bytes zero len cap) K
 | .sV sz len zero parts=>vO C σ ev (.sV sz len zero parts) K
 | .yx zero x=>vO C σ ev (.yx zero x) K
 | .xa x y=>vO C σ ev (.xa x y) K
 | .call fn args=>vO C σ ev (.call fn args) K
 | .iD=>vO C σ ev .iD K
 | .qQ m k x=>yo σ (ev m) (ev k) (ev x) K
 | .rR n m k x=>uf σ n (ev m) (ev k) (ev x) K
 | .mF zero m k=>gq σ zero (ev m) (ev k) K
 | .mE m s x=>gj σ (ev m) (ev s) (ev x) K
 | k=>pX C σ ev k (SP σ K)
theorem gK (C:Cx) (σ:St) (ev:wY->D) (k:DK) (K:D->St->Prop):dR C σ ev k K=vO C σ ev k K:=by cases k <;> first | rfl | (show pX _ _ _ _ _=_; rw [Zy]; rfl)
def kH (C:Cx):List xR->(Fr->St->Prop)->Fr->St->Prop
 | [],K,f,σ=>K f σ
 | ⟨dst,g,k⟩ :: rest,K,f,σ=>gd g f (dR C σ (uX f) k (ZS f dst (kH C rest K))) (kH C rest K (f.put dst .vB) σ)
theorem nJ (C:Cx) (K:Fr->St->Prop):∀ (ops:List xR) (f:Fr) (σ:St),kH C ops K f σ=vM C ops f σ K
 | [],f,σ=>rfl
 | o :: rest,f,σ=>by
  have ih:kH C rest K=λf σ=>vM C rest f σ K:=by funext f σ; exact nJ C K rest f σ
  unfold kH vM;rw [Zr,gK,ih];rfl
def iK (C:Cx) (σ:St):List xR->(Fr->Prop)->Fr->Prop
 | [],K,f=>K f
 | ⟨dst,g,k⟩ :: rest,K,f=>gd g f (pX C σ (uX f) k (ZT f dst (iK C σ rest K))) (iK C σ rest K (f.put dst .vB))
theorem uQ (C:Cx) (σ:St) (K:Fr->Prop):∀ (ops:List xR) (f:Fr),iK C σ ops K f=zY C σ ops f K
 | [],f=>rfl
 | o :: rest,f=>by
  have ih:iK C σ rest K=λf=>zY C σ rest f K:=by funext f; exact uQ C σ K rest f
  unfold iK zY;rw [Zr,Zy,ih];rfl
def yp (C:Cx) (post:List xR) (Q:Exit->Fr->St->Prop) (σ:St) (f:Fr):Prop:=kH C post (mP Q) f σ
def WR (d:D) (p q:Prop):Prop:=
 match d with
 | .bool t=>if t=true then p else q
 | _=>False
theorem u0 (t:Bool) (p q:Prop):WR (.bool t) p q=if t=true then p else q:=rfl
@[congr] theorem WT {d d' : D} {p q : Prop} (h : d = d') : WR d p q = WR d' p q := by rw [h]
def aM (C:Cx) (it:Nat) (m:wY) (out nx more next pair:Nat) (rest:List xR) (code:DC) (Q:Exit->Fr->St->Prop) (f:Fr) (σ:St):Prop:=gI C it m out nx more next pair rest code f σ Q
@[congr] theorem Y6 {C : Cx} {it : Nat} {m : wY} {out nx more next pair : Nat} {rest : List xR} {code : DC} {Q : Exit -> Fr -> St -> Prop} {f f' : Fr} {σ : St} (h : f = f') : aM C it m out nx more next pair rest code Q f σ = aM C it m out nx more next pair rest code Q f' σ := by rw [h]
def pf (C:Cx) (code:DC) (out next:Nat) (J:Fr->St->Prop) (Q:Exit->Fr->St->Prop) (f:Fr) (σ:St):Prop:=wpS C code f σ (qZ next (nX J (qZ out Q)))
@[congr] theorem s5 {C : Cx} {code : DC} {out next : Nat} {J : Fr -> St -> Prop} {Q : Exit -> Fr -> St -> Prop} {f f' : Fr} {σ : St} (h : f = f') : pf C code out next J Q f σ = pf C code out next J Q f' σ := by rw [h]
def yh (C:Cx) (k:DK) (K:Fr->D->St->Prop) (σ:St) (f1:Fr):Prop:=dR C σ (uX f1) k (K f1)
def r7 (f:Fr) (g:Fr):Prop:=g=f
def WS (C:Cx) (un:Bool) (mid:List xR) (f1:Fr) (σ:St) (K:Fr->St->Prop) (σ1:St) (f2:Fr):Prop:=(if un=true then iK C σ mid (r7 f2) f1 else True)/\ K f2 σ1
def ny (C:Cx) (pre:List xR) (dst:Option Nat) (mid:List xR) (un:Bool) (post:List xR) (Q:Exit->Fr->St->Prop) (f:Fr) (σ:St) (f1:Fr) (d:D) (σ1:St):Prop:= iK C σ1 pre (r7 f1) f/\iK C σ1 mid (WS C un mid (f1.put dst d) σ (kH C post (mP Q)) σ1) (f1.put dst d)
theorem YZ {C:Cx} {pre:List xR} {dst:Option Nat} {mid:List xR} {un:Bool} {post:List xR} {Q:Exit->Fr->St->Prop} {f:Fr} {σ:St} {f1:Fr} {d:D} {σ1:St} :
  ny C pre dst mid un post Q f σ f1 d σ1=ic C pre dst mid un f σ (λf σ=>vM C post f σ λf σ=>Q .normal f σ) f1 d σ1:=by
 unfold ny ic;rw [uQ,uQ]
 have:WS C un mid (f1.put dst d) σ (kH C post (mP Q)) σ1=λf2=>(if un=true then zY C σ mid (f1.put dst d) (λg=>g=f2) else True)/\ vM C post f2 σ1 λf σ=>Q .normal f σ:=by funext f2;unfold WS;rw [uQ,nJ];rfl
 rw [this];rfl
def uy (C:Cx):DC->(Exit->Fr->St->Prop)->Fr->St->Prop
 | .skip,Q,f,σ=>Q .normal f σ
 | .wS pre post,Q,f,σ=>iK C σ pre (yp C post Q σ) f
 | .iL pre m mid un post,Q,f,σ=>iK C σ pre (yh C m.k (ny C pre m.dst mid un post Q f σ) σ) f
 | .kK pre m1 mid1 m2 mid2 post,Q,f,σ=>pY C (.kK pre m1 mid1 m2 mid2 post) f σ Q
 | .seq a b,Q,f,σ=>uy C a (nX (uy C b Q) Q) f σ
 | .cond c a b,Q,f,σ=>WR (uX f c) (uy C a Q f σ) (uy C b Q f σ)
 | .block id c,Q,f,σ=>uy C c (qZ id Q) f σ
 | .loop c,Q,f,σ=>wpS C (.loop c) f σ Q
 | .lQ g ps a c,Q,f,σ=>wpS C (.lQ g ps a c) f σ Q
 | .oD pre m1 mid1 m2 mid2 post free,Q,f,σ=>wpS C (.oD pre m1 mid1 m2 mid2 post free) f σ Q
 | .kM pre m mid un post fl,Q,f,σ=>wpS C (.kM pre m mid un post fl) f σ Q
 | .exit id,Q,f,σ=>Q (.exit id) f σ
 | .ret,Q,f,σ=>Q .ret f σ
 | .og ..,_,_,_=>False
 | .jc ..,_,_,_=>False
 | .ix ..,_,_,_=>False
 | .mO pre it m out nx more next pair rest code,Q,f,σ=>kH C pre (aM C it m out nx more next pair rest code Q) f σ
theorem mD (C:Cx):∀ (dc:DC) (Q:Exit->Fr->St->Prop) (f:Fr) (σ:St),uy C dc Q f σ=pY C dc f σ Q
 | .skip,Q,f,σ=>rfl
 | .wS pre post,Q,f,σ=>by
  unfold uy pY;rw [uQ]
  have:yp C post Q σ=λf=>vM C post f σ λf σ=>Q .normal f σ:=by funext f;unfold yp;rw [nJ];rfl
  rw [this]
 | .iL pre m mid un post,Q,f,σ=>by
  unfold uy pY;rw [uQ]
  have:yh C m.k (ny C pre m.dst mid un post Q f σ) σ=λf1=>vO C σ (uX f1) m.k λd σ1=>ic C pre m.dst mid un f σ (λf σ=>vM C post f σ λf σ=>Q .normal f σ) f1 d σ1:=by funext f1;unfold yh;rw [gK];congr 1;funext d σ1;exact YZ
  rw [this]
 | .kK ..,Q,f,σ=>rfl
 | .seq a b,Q,f,σ=>by
  have ih:uy C b Q=λf σ=>pY C b f σ Q:=by funext f σ; exact mD C b Q f σ
  unfold uy;rw [mD C a,ih];rfl
 | .cond c a b,Q,f,σ=>by unfold uy;rw [mD C a,mD C b];rfl
 | .block id c,Q,f,σ=>by unfold uy; rw [mD C c]; rfl
 | .loop c,Q,f,σ=>rfl
 | .lQ g ps a c,Q,f,σ=>rfl
 | .oD ..,Q,f,σ=>rfl
 | .kM ..,Q,f,σ=>rfl
 | .exit id,Q,f,σ=>rfl
 | .ret,Q,f,σ=>rfl
 | .og ..,_,_,_=>rfl
 | .jc ..,_,_,_=>rfl
 | .ix ..,_,_,_=>rfl
 | .mO pre it m out nx more next pair rest code,Q,f,σ=>by unfold uy pY; rw [nJ]; rfl
noncomputable def aP {α:Sort u} (a:α):α:=Classical.choose (⟨a,rfl⟩:∃ b:α,b=a)
theorem jW {α:Sort u} (a:α):aP a=a:=Classical.choose_spec (⟨a,rfl⟩:∃ b:α,b=a)
noncomputable def iJ (C:Cx):List xR->(Fr->St->Prop)->Fr->St->Prop:=aP (kH C)
noncomputable def sH (C:Cx) (σ:St):List xR->(Fr->Prop)->Fr->Prop:=aP (iK C σ)
noncomputable def dS (C:Cx):DC->(Exit->Fr->St->Prop)->Fr->St->Prop:=aP (uy C)
theorem oW (C:Cx):iJ C=kH C:=jW _
theorem sJ (C:Cx) (σ:St):sH C σ=iK C σ:=jW _
theorem tY (C:Cx):dS C=uy C:=jW _
section
variable (C : Cx) (σ : St) (f : Fr) (Q : Exit -> Fr -> St -> Prop) (K : Fr -> St -> Prop) (K1 : Fr -> Prop) (a b c : DC) (dst : Option Nat) (g : Option (Nat × Bool)) (k : DK) (rest pre post : List xR) (x : wY) (id : Nat)
theorem bw : iJ C [] K f σ=K f σ:=by rw [oW]; rfl
theorem lu : iJ C (⟨dst,g,k⟩ :: rest) K f σ=gd g f (dR C σ (uX f) k (ZS f dst (iJ C rest K))) (iJ C rest K (f.put dst .vB) σ):=by rw [oW]; rfl
theorem bx : sH C σ [] K1 f=K1 f:=by rw [sJ]; rfl
theorem ma : sH C σ (⟨dst,g,k⟩ :: rest) K1 f=gd g f (pX C σ (uX f) k (ZT f dst (sH C σ rest K1))) (sH C σ rest K1 (f.put dst .vB)):=by rw [sJ]; rfl
def cN (C:Cx) (post:List xR) (Q:Exit->Fr->St->Prop) (σ:St) (f:Fr):Prop:=iJ C post (mP Q) f σ
theorem eu : dS C .skip Q f σ=Q .normal f σ:=by rw [tY]; rfl
theorem XD : dS C (.wS pre post) Q f σ=sH C σ pre (cN C post Q σ) f:=by
 have e:cN C post Q σ=yp C post Q σ:=by funext f; unfold cN yp; rw [oW]
 rw [tY,sJ,e]; rfl
def pP (C:Cx) (k:DK) (K:Fr->D->St->Prop) (σ:St) (f1:Fr):Prop:=dR C σ (uX f1) k (K f1)
def VV (C:Cx) (un:Bool) (mid:List xR) (f1:Fr) (σ:St) (K:Fr->St->Prop) (σ1:St) (f2:Fr):Prop:=(if un=true then sH C σ mid (r7 f2) f1 else True)/\ K f2 σ1
def o7 (C:Cx) (pre:List xR) (dst:Option Nat) (mid:List xR) (un:Bool) (post:List xR) (Q:Exit->Fr->St->Prop) (f:Fr) (σ:St) (f1:Fr) (d:D) (σ1:St):Prop:= sH C σ1 pre (r7 f1) f/\sH C σ1 mid (VV C un mid (f1.put dst d) σ (iJ C post (mP Q)) σ1) (f1.put dst d)
theorem en {mid:List xR} {un:Bool}:dS C (.iL pre ⟨dst,g,k⟩ mid un post) Q f σ=sH C σ pre (pP C k (o7 C pre dst mid un post Q f σ) σ) f:=by
 have e:pP C k (o7 C pre dst mid un post Q f σ) σ=yh C k (ny C pre dst mid un post Q f σ) σ:=by
  funext f1;unfold pP yh;congr 1;funext d σ1;unfold o7 ny
  have e2:VV C un mid (f1.put dst d) σ (iJ C post (mP Q)) σ1=WS C un mid (f1.put dst d) σ (kH C post (mP Q)) σ1:=by funext f2; unfold VV WS; rw [oW,sJ]
  rw [e2,sJ]
 rw [tY,sJ,e]; rfl
theorem z7 (f:Fr):r7 f f=True:=eq_true rfl
theorem XH : dS C (.seq a b) Q f σ=dS C a (nX (dS C b Q) Q) f σ:=by rw [tY]; rfl
theorem ec : dS C (.cond x a b) Q f σ=WR (uX f x) (dS C a Q f σ) (dS C b Q f σ):=by rw [tY]; rfl
theorem ns : dS C (.block id c) Q f σ=dS C c (qZ id Q) f σ:=by rw [tY]; rfl
theorem ef : dS C (.loop c) Q f σ=wpS C (.loop c) f σ Q:=by rw [tY]; rfl
theorem eo {g:wY} {ps:List Nat}:dS C (.lQ g ps a c) Q f σ=wpS C (.lQ g ps a c) f σ Q:=by rw [tY]; rfl
theorem ee : dS C (.exit id) Q f σ=Q (.exit id) f σ:=by rw [tY]; rfl
theorem XG : dS C .ret Q f σ=Q .ret f σ:=by rw [tY]; rfl
theorem nu {it:Nat} {m:wY} {out nx more next pair:Nat} {rst:List xR} {code:DC}:dS C (.mO pre it m out nx more next pair rst code) Q f σ=iJ C pre (aM C it m out nx more next pair rst code Q) f σ:=by rw [tY,oW]; rfl
end
theorem xE {C:Cx} (hm:C.P.follows .mixedOrders=true) {dc:DC} {f:Fr} {σ:St} {Q:Exit->Fr->St->Prop} (h:dS C dc Q f σ):wpS C dc f σ Q:= gM hm (by rw [<- mD,<- tY]; exact h)
theorem xS.Vc {P:Program} {g:FuncId} {fn:Func} {own:List Nat} {N:Nat} {dc:DC} {rs:List pT} {args:List D} {σ:St} {d:D} {σ':St} (hm:P.follows .mixedOrders=true) (hf:P.funcs[g]?=some fn)
  (hc:xY P own fn=some (N,dc,rs)) (hla:args.length<=N)
  (h:D.uK args->dS ⟨P,N,σ.nx,own,none⟩ dc (yg ⟨P,N,σ.nx,own,none⟩ rs d σ') (pO 0 args) σ):xS P g args σ d σ':=
 xS.Zw hm hf hc hla λhfa=>by rw [<- mD,<- tY]; exact h hfa
end Go.Pd
namespace Go.Pd
open Go
end Go.Pd
namespace Go.Pd
open Go
theorem wK (key sz:Nat):xI key sz [] = .xZ:=rfl
theorem rm (key sz:Nat) (e:List D) (r:List (List D)):xI key sz (e :: r)= .yW key sz (r.length+1):=rfl
theorem wL (key sz:Nat):xM key sz [] = []:=rfl
theorem rn (key sz:Nat) (e:List D) (r:List (List D)):xM key sz (e :: r)= [(key,⟨sz,e :: r⟩)]:=rfl
theorem pI (k:IntKind):rows k [] = []:=rfl
theorem jU (k:IntKind) (n:Int) (l:List Int):rows k (n :: l)= [.int k n] :: rows k l:=rfl
theorem jV (k:IntKind) (l:List Int) (n:Int):rows k l ++ [[.int k n]]=rows k (l ++ [n]):=by simp [rows]
theorem aD (l:List (List (BitVec 64))) (r:List (BitVec 64)):rr l ++ [[.sl 1 (us r)]]=rr (l ++ [r]):=by simp [rr,o9]
theorem fv : rr [] = []:=rfl
theorem pt (l:List (BitVec 64)) (r:List (List (BitVec 64))):rr (l :: r)= [.sl 1 (us l)] :: rr r:=rfl
variable [vZ]
theorem rT.name {n0 n m sz j:Nat} {xX:List (List D)} {d d':D} (hn:n0<=n) (hp:∀ e ∈ xX,D.xT e=true) (hv:vw ⟨m,[(j,⟨sz,xX⟩)]⟩ ⟨n+1,[(n,⟨sz,xX⟩)]⟩ (λk=>if k=n then j else k) d d'):rT n0 ⟨m,[(j,⟨sz,xX⟩)]⟩ d ⟨n+1,[(n,⟨sz,xX⟩)]⟩ d':=by
 refine .inr ⟨λk=>if k=n then j else k,by show n0<=n+1; omega,λk hk=>if_neg (by omega),hv,?_,?_⟩
 ·intro p hp';simp only [η] at hp';subst hp';exact⟨Nat.lt_succ_self n,⟨sz,xX⟩,by simp [St.get,St.look],rfl,.same hp⟩
 ·intro p hp' q hq' _;simp only [η] at hp' hq';rw [hp',hq']
end Go.Pd
namespace Go.Pd
open Go
def zN (sz:Nat):List (List D)->Option Ob
 | []=>none
 | e :: r=>some ⟨sz,e :: r⟩
theorem xQ {k s:Nat} {xX:List (List D)} {r:List (Nat × Ob)} {k':Nat}:St.look (xM k s xX++r) k'=if k=k' then(zN s xX).or (St.look r k') else St.look r k':=by
 cases xX with
 | nil=>simp [xM,zN]
 | cons e l=>simp [xM,zN,St.look]
theorem qI {k s:Nat} {xX:List (List D)} {k':Nat}:St.look (xM k s xX) k'=if k=k' then zN s xX else none:=by have:=xQ (k:=k) (s:=s) (xX:=xX) (r:=[]) (k':=k');simp only [δ,St.look,Option.or_none] at this;exact this
theorem iS {k s:Nat} {xX:List (List D)} {r:List (Nat × Ob)} {k':Nat}:yH (xM k s xX++r) k'=if k=k' then yH r k' else xM k s xX++yH r k':=by
 cases xX with
 | nil=>simp [xM]
 | cons e l=>simp [xM,yH]
theorem xf {k s:Nat} {xX:List (List D)} {k':Nat}:yH (xM k s xX) k'=if k=k' then [] else xM k s xX:=by have:=iS (k:=k) (s:=s) (xX:=xX) (r:=[]) (k':=k');simp only [δ,yH] at this;exact this
theorem zu : ∀ {r:List (Nat × Ob)} {k:Nat} {o:Ob},St.look r k=none->zJ r k o=r
 | [],_,_,_=>rfl
 | (j,o') :: r,k,o,h=>by
  simp only [St.look] at h
  split at h
  ·cases h
  ·rename_i hn;simp only [zJ,if_neg hn,zu h]
theorem eG : ∀ {r:List (Nat × Ob)} {k:Nat},St.look r k=none->yH r k=r
 | [],_,_=>rfl
 | (j,o') :: r,k,h=>by
  simp only [St.look] at h
  split at h
  ·cases h
  ·rename_i hn;simp only [yH,if_neg hn,eG h]
theorem bY {k s:Nat} {xX els':List (List D)} {r:List (Nat × Ob)} (hl:els'.length=xX.length) (h:St.look r k=none):zJ (xM k s xX++r) k ⟨s,els'⟩= xM k s els'++r:=by
 cases xX with
 | nil=> have:els' = []:=List.eq_nil_of_length_eq_zero (by simpa using hl);subst this;simp only [xM,ζ];exact zu h
 | cons e l=>
  cases els' with
  | nil=>simp at hl
  | cons e' l'=>simp [xM,zJ]
theorem tg {k s:Nat} {xX els':List (List D)} (hl:els'.length=xX.length):zJ (xM k s xX) k ⟨s,els'⟩= xM k s els':=by have:=bY (k:=k) (s:=s) (r:=[]) hl rfl;simp only [δ] at this;exact this
theorem xl {k s:Nat} {xX:List (List D)} {r:List (Nat × Ob)} {k':Nat} {o:Ob} (h:k≠k'):zJ (xM k s xX++r) k' o=xM k s xX++zJ r k' o:=by
 cases xX with
 | nil=>simp [xM]
 | cons e l=>simp [xM,zJ,h]
theorem vh (k s:Nat) (xX:List (List D)):(xI k s xX).cells=some [xI k s xX]:=by cases xX <;> rfl
theorem lp (k s:Nat) (xX:List (List D)):(xI k s xX).one=true:=by cases xX <;> rfl
theorem jo (k s n:Nat):(D.yW k s n).cells=some [.yW k s n]:=rfl
theorem jt (k s l n:Nat):(D.sub k s l n).cells=some [.sub k s l n]:=rfl
theorem jn (k:IntKind) (n:Int):(D.int k n).cells=some [.int k n]:=rfl
theorem qt (b:Bool):(D.bool b).cells=some [.bool b]:=rfl
theorem js (s:ByteArray):(D.str s).cells=some [.str s]:=rfl
theorem u7 (sz:Nat) (xX:List (List D)):(D.sl sz xX).cells=some [.sl sz xX]:=rfl
theorem qy : D.xZ.cells=some [.xZ]:=rfl
theorem jm : D.emp.cells=some [.emp]:=rfl
theorem jl (cs:List D):(D.agg cs).cells=some cs:=rfl
theorem u6 (f:FuncId) (cs:List D):(D.fn f cs).cells=some [.fn f cs]:=rfl
theorem jr (a b c d:Nat):(D.ref a b c d).cells=some [.ref a b c d]:=rfl
theorem jq (cs:List D):(D.ptr cs).cells=some [.ptr cs]:=rfl
theorem qu (k:Nat):(D.zZ k).cells=some [.zZ k]:=rfl
theorem qz : D.sG.cells=some [.sG]:=rfl
theorem qw : D.tX.cells=some [.tX]:=rfl
theorem qv : D.uU.cells=some [.uU]:=rfl
theorem Ye (k:IntKind) (n:Int):(D.int k n).one=true:=rfl
theorem bn (b:Bool):(D.bool b).one=true:=rfl
theorem Yi (s:ByteArray):(D.str s).one=true:=rfl
theorem Wz (sz:Nat) (xX:List (List D)):(D.sl sz xX).one=true:=rfl
theorem bu : D.xZ.one=true:=rfl
theorem Yd : D.emp.one=true:=rfl
theorem Ww (f:FuncId) (cs:List D):(D.fn f cs).one=true:=rfl
theorem Yh (a b c d:Nat):(D.ref a b c d).one=true:=rfl
theorem Yf (a b c:Nat):(D.yW a b c).one=true:=rfl
theorem Yg (cs:List D):(D.ptr cs).one=true:=rfl
theorem bo (k:Nat):(D.zZ k).one=true:=rfl
theorem bt : D.sG.one=true:=rfl
theorem bq : D.tX.one=true:=rfl
theorem bp : D.uU.one=true:=rfl
section
variable [vZ]
theorem jf {q:Bool} {σ:St} {sz bytes key:Nat} {xX:List (List D)} {rw:List (List D)} {K:D->St->Prop} (h:σ.get key=zN sz xX) (h0:rw ≠ []) :
  kE q σ sz bytes (xI key sz xX) (some rw) K=((∀ r ∈ rw,yI r=true)/\ (xX.length+rw.length)* bytes<=140737488355328/\xX.length+rw.length<=8000000000000 /\
   K (xI σ.nx sz (xX++rw)) ⟨σ.nx+1,xM σ.nx sz (xX++rw)++ yH σ.xW key⟩):=by
 cases xX with
 | nil=>
  obtain⟨r,rs,rfl⟩:∃ r rs,rw=r :: rs:=by cases rw with | nil=>exact absurd rfl h0 | cons r rs=>exact⟨r,rs,rfl⟩
  have he:yH σ.xW key=σ.xW:=eG h;simp only [kE,xI,xM,St.new,he,ζ,ν,Ah];simp
 | cons e l=>
  have e1:l.length+1+rw.length=l.length+rw.length+1:=by omega
  simp only [kE,xI,h,zN,St.erase,St.new,xM];simp [xI,xM,e1]
theorem qp {q:Bool} {nx:Nat} {xW:List (Nat × Ob)} {sz bytes key:Nat} {xX:List (List D)} {r:List D} {rs:List (List D)} {K:D->St->Prop} (h:St.look xW key=zN sz xX) :
  kE q ⟨nx,xW⟩ sz bytes (xI key sz xX) (some (r :: rs)) K=((∀ x ∈ r :: rs,yI x=true)/\ (xX.length+(r :: rs).length)* bytes<=140737488355328/\xX.length+(r :: rs).length<=8000000000000 /\
   K (xI nx sz (xX++r :: rs)) ⟨nx+1,xM nx sz (xX++r :: rs)++ yH xW key⟩):=jf h (by simp)
theorem s8 {q:Bool} {σ:St} {sz bytes:Nat} {r:List D} {rs:List (List D)} {K:D->St->Prop} :
  kE q σ sz bytes .xZ (some (r :: rs)) K=((∀ x ∈ r :: rs,yI x=true)/\ (r :: rs).length*bytes<=140737488355328/\(r :: rs).length<=8000000000000/\K (.yW σ.nx sz (r :: rs).length) (σ.new ⟨sz,r :: rs⟩)):=by
 simp [kE]
theorem s9 {q:Bool} {σ:St} {sz sz' bytes key n:Nat} {rows:List (List D)} {K:D->St->Prop} :
  kE q σ sz bytes (.yW key sz' n) (some rows) K=((∀ x ∈ rows,yI x=true)/\ match σ.get key with
   | some ob=>sz=sz'/\ob.sz=sz/\n<=ob.xX.length/\(n+rows.length)* bytes<=140737488355328/\n+rows.length<=8000000000000/\K (.yW σ.nx sz (n+rows.length)) ((σ.erase key).new ⟨sz,ob.xX.take n++rows⟩)
   | none=>False):=rfl
def uu (nx:Nat) (xW:List (Nat × Ob)) (n key sz i off:Nat) (ds:List D) (K:D->St->Prop):Option Ob->Prop
 | some ob=>ob.sz=sz/\i<ob.xX.length/\ds.length=n/\off+n<=sz/\yI ds=true/\K .vB ⟨nx,zJ xW key ⟨sz,ob.xX.set i (qE (ob.xX.getD i []) off ds)⟩⟩
 | none=>False
@[congr] theorem Wc {nx : Nat} {xW : List (Nat × Ob)} {n key sz i off : Nat} {ds : List D} {K : D -> St -> Prop} {o o' : Option Ob} (h : o = o') : uu nx xW n key sz i off ds K o = uu nx xW n key sz i off ds K o' := by rw [h]
theorem df {nx:Nat} {xW:List (Nat × Ob)} {n key sz i off:Nat} {ds:List D} {K:D->St->Prop}:ij ⟨nx,xW⟩ n (.ref key sz i off) (some ds) K=uu nx xW n key sz i off ds K (St.look xW key):=by simp only [ij,St.get];cases St.look xW key <;> rfl
theorem nj {nx:Nat} {xW:List (Nat × Ob)} {n key sz i off:Nat} {ds:List D} {K:D->St->Prop} {sz':Nat} {xX:List (List D)} :
  uu nx xW n key sz i off ds K (some ⟨sz',xX⟩)= (sz'=sz/\i<xX.length/\ds.length=n/\off+n<=sz/\yI ds=true/\K .vB ⟨nx,zJ xW key ⟨sz,xX.set i (qE (xX.getD i []) off ds)⟩⟩):=rfl
theorem ni {nx:Nat} {xW:List (Nat × Ob)} {n key sz i off:Nat} {ds:List D} {K:D->St->Prop} {xX:List (List D)} :
  uu nx xW n key sz i off ds K (zN sz xX)= (i<xX.length/\ds.length=n/\off+n<=sz/\yI ds=true/\K .vB ⟨nx,zJ xW key ⟨sz,xX.set i (qE (xX.getD i []) off ds)⟩⟩):=by
 cases xX with
 | nil=>simp [uu,zN]
 | cons e l=>simp [uu,zN]
def gP (n:Nat) (ag:Bool) (sz i off:Nat) (K:D->Prop):Option Ob->Prop
 | some o=>o.sz=sz/\i<o.xX.length/\off+n<=sz/\(ag=true\/n=1)/\ K (uL ag (((o.xX.getD i []).drop off).take n))
 | none=>False
@[congr] theorem Zg {n sz i off : Nat} {ag : Bool} {K : D -> Prop} {o o' : Option Ob} (h : o = o') : gP n ag sz i off K o = gP n ag sz i off K o' := by rw [h]
theorem ku {nx:Nat} {xW:List (Nat × Ob)} {n key sz i off:Nat} {ag:Bool} {K:D->Prop}:cE ⟨nx,xW⟩ n ag (.ref key sz i off) K=gP n ag sz i off K (St.look xW key):=by simp only [cE,St.get];cases St.look xW key <;> rfl
theorem sb {n sz i off:Nat} {ag:Bool} {K:D->Prop} {sz':Nat} {xX:List (List D)}:gP n ag sz i off K (some ⟨sz',xX⟩)= (sz'=sz/\i<xX.length/\off+n<=sz/\(ag=true\/n=1)/\ K (uL ag (((xX.getD i []).drop off).take n))):=rfl
theorem ry {n sz i off:Nat} {ag:Bool} {K:D->Prop} {xX:List (List D)}:gP n ag sz i off K (zN sz xX)= (i<xX.length/\off+n<=sz/\(ag=true\/n=1)/\ K (uL ag (((xX.getD i []).drop off).take n))):=by
 cases xX with
 | nil=>simp [gP,zN]
 | cons e l=>simp [gP,zN]
theorem kq {σ:St} {n:Nat} {ag:Bool} {cs:List D} {K:D->Prop}:cE σ n ag (.ptr cs) K=(n<=cs.length/\(ag=true\/n=1)/\ K (uL ag (cs.take n))):=rfl
def iI (kk:IntKind) (l:List (Int × D)):List (List D):=l.map λp=>[.int kk p.1,p.2]
def cC (x:Int):List (Int × D)->Nat->Option (Nat × D)
 | [],_=>none
 | (m,d) :: r,i=>if x=m then some (i,d) else cC x r (i+1)
def ZO (l:List (Int × D)) (x:Int) (d:D):List (Int × D):=
 match cC x l 0 with
 | some (i,_)=>l.set i (x,d)
 | none=>l ++ [(x,d)]
theorem eI (kk:IntKind) (l:List (Int × D)):pQ kk (iI kk l):=by intro row h;simp only [iI,ε] at h;obtain⟨p,_,rfl⟩:=h;exact⟨_,_,rfl⟩
theorem lY (kk:IntKind) (x:Int):∀ (l:List (Int × D)) (i:Nat),tE x (iI kk l) i=cC x l i
 | [],_=>rfl
 | (m,d) :: r,i=>by show tE x ([.int kk m,d] :: iI kk r) i=_;rw [tE,cC,lY kk x r (i+1)]
theorem sg (kk:IntKind) (l:List (Int × D)) (x:Int) (d:D):jG kk (iI kk l) x d=iI kk (ZO l x d):=by
 unfold jG ZO;rw [lY]
 cases cC x l 0 with
 | none=>simp [iI]
 | some p=>simp [iI,List.map_set]
def cG (kk:IntKind) (x:Int) (zero:D) (ok:Bool) (K:D->Prop):Option Ob->Prop
 | some o=>o.sz=0/\pQ kk o.xX/\K (qR ok zero (tE x o.xX 0))
 | none=>False
@[congr] theorem Zj {kk : IntKind} {x : Int} {zero : D} {ok : Bool} {K : D -> Prop} {o o' : Option Ob} (h : o = o') : cG kk x zero ok K o = cG kk x zero ok K o' := by rw [h]
theorem sc {nx:Nat} {xW:List (Nat × Ob)} {zero:D} {ok:Bool} {key:Nat} {kk:IntKind} {x:Int} {K:D->Prop}:cH ⟨nx,xW⟩ zero ok (.zZ key) (.int kk x) K=cG kk x zero ok K (St.look xW key):=by simp only [cH,St.get];cases St.look xW key <;> rfl
theorem se {σ:St} {zero:D} {ok:Bool} {kk:IntKind} {x:Int} {K:D->Prop}:cH σ zero ok .tX (.int kk x) K=K (qR ok zero none):=rfl
theorem eM {kk:IntKind} {x:Int} {zero:D} {ok:Bool} {K:D->Prop} {l:List (Int × D)}:cG kk x zero ok K (some ⟨0,iI kk l⟩)= K (qR ok zero (cC x l 0)):=by simp only [cG,lY];exact propext ⟨λh=>h.2.2,λh=>⟨trivial,eI kk l,h⟩⟩
theorem kx {kk:IntKind} {x:Int} {zero:D} {ok:Bool} {K:D->Prop}:cG kk x zero ok K (some ⟨0,[]⟩)= K (qR ok zero none):=eM (l:=[])
def cM (nx:Nat) (xW:List (Nat × Ob)) (key:Nat) (kk:IntKind) (y:Int) (x:D) (K:D->St->Prop):Option Ob->Prop
 | some o=>o.sz=0/\pQ kk o.xX/\K .vB ⟨nx,zJ xW key ⟨0,jG kk o.xX y x⟩⟩
 | none=>False
@[congr] theorem Zl {nx : Nat} {xW : List (Nat × Ob)} {key : Nat} {kk : IntKind} {y : Int} {x : D} {K : D -> St -> Prop} {o o' : Option Ob} (h : o = o') : cM nx xW key kk y x K o = cM nx xW key kk y x K o' := by rw [h]
theorem si {nx:Nat} {xW:List (Nat × Ob)} {key:Nat} {kk:IntKind} {y:Int} {x:D} {K:D->St->Prop}:yo ⟨nx,xW⟩ (.zZ key) (.int kk y) x K=cM nx xW key kk y x K (St.look xW key):=by simp only [yo,St.get];cases St.look xW key <;> rfl
theorem eO {nx:Nat} {xW:List (Nat × Ob)} {key:Nat} {kk:IntKind} {y:Int} {x:D} {K:D->St->Prop} {l:List (Int × D)}:cM nx xW key kk y x K (some ⟨0,iI kk l⟩)= K .vB ⟨nx,zJ xW key ⟨0,iI kk (ZO l y x)⟩⟩:=by simp only [cM,sg];exact propext ⟨λh=>h.2.2,λh=>⟨trivial,eI kk l,h⟩⟩
theorem la {nx:Nat} {xW:List (Nat × Ob)} {key:Nat} {kk:IntKind} {y:Int} {x:D} {K:D->St->Prop}:cM nx xW key kk y x K (some ⟨0,[]⟩)= K .vB ⟨nx,zJ xW key ⟨0,iI kk [(y,x)]⟩⟩:=eO (l:=[])
theorem lg (zero:D):qR true zero none = .yE [zero,.bool false]:=rfl
theorem lh (zero:D) (i:Nat) (d:D):qR true zero (some (i,d))= .yE [d,.bool true]:=rfl
theorem sj (zero:D):qR false zero none=zero:=rfl
theorem sk (zero:D) (i:Nat) (d:D):qR false zero (some (i,d))= d:=rfl
theorem YV {sz:Nat} {xX:List (List D)} {K:D->Prop}:cZ (.sl sz xX) K=K (.int .i64 xX.length):=rfl
theorem ah {k sz n:Nat} {K:D->Prop}:cZ (.yW k sz n) K=K (.int .i64 n):=rfl
theorem ai {k sz lo n:Nat} {K:D->Prop}:cZ (.sub k sz lo n) K=K (.int .i64 n):=rfl
theorem ab {sz key sz' lo len:Nat} {k:IntKind} {n:Int} {K:D->Prop}:aT sz (.sub key sz' lo len) (.int k n) K=(sz=sz'/\0<=n/\n<len/\K (.ref key sz (lo+n.toNat) 0)):=rfl
theorem kp {K:D->Prop}:cZ .xZ K=K (.int .i64 0):=rfl
theorem af {K:D->Prop}:cZ .emp K=K (.int .i64 0):=rfl
theorem YR {sz sz':Nat} {xX:List (List D)} {k:IntKind} {n:Int} {K:D->Prop}:aT sz (.sl sz' xX) (.int k n) K=(sz=sz'/\0<=n/\n<xX.length/\K (.ptr (xX.getD n.toNat []))):=rfl
theorem aa {sz key sz' len:Nat} {k:IntKind} {n:Int} {K:D->Prop}:aT sz (.yW key sz' len) (.int k n) K=(sz=sz'/\0<=n/\n<len/\K (.ref key sz n.toNat 0)):=rfl
theorem bc {neg:Bool} {K:D->Prop}:rA neg .xZ .xZ K=K (.bool (!neg)):=rfl
theorem bd {neg:Bool} {K:D->Prop} {a b c:Nat}:rA neg (.yW a b c) .xZ K=K (.bool neg):=rfl
theorem bf {neg:Bool} {K:D->Prop} {a b c:Nat}:rA neg .xZ (.yW a b c) K=K (.bool neg):=rfl
theorem bg {neg:Bool} {K:D->Prop}:rA neg .emp .xZ K=K (.bool neg):=rfl
theorem bh {neg:Bool} {K:D->Prop}:rA neg .xZ .emp K=K (.bool neg):=rfl
theorem bj {neg:Bool} {K:D->Prop} {sz:Nat} {e:List D} {r:List (List D)}:rA neg (.sl sz (e :: r)) .xZ K=K (.bool neg):=rfl
def XJ (nx:Nat) (xW:List (Nat × Ob)) (sz sz' bytes key n:Nat) (rows:List (List D)) (K:D->St->Prop):Option Ob->Prop
 | some ob=>sz=sz'/\ob.sz=sz/\n<=ob.xX.length/\(n+rows.length)* bytes<=140737488355328/\n+rows.length<=8000000000000/\K (.yW nx sz (n+rows.length)) ⟨nx+1,(nx,⟨sz,ob.xX.take n++rows⟩) :: yH xW key⟩
 | none=>False
@[congr] theorem WZ {nx : Nat} {xW : List (Nat × Ob)} {sz sz' bytes key n : Nat} {rows : List (List D)} {K : D -> St -> Prop} {o o' : Option Ob} (h : o = o') : XJ nx xW sz sz' bytes key n rows K o = XJ nx xW sz sz' bytes key n rows K o' := by rw [h]
theorem jg {q:Bool} {nx:Nat} {xW:List (Nat × Ob)} {sz sz' bytes key n:Nat} {rows:List (List D)} {K:D->St->Prop} :
  kE q ⟨nx,xW⟩ sz bytes (.yW key sz' n) (some rows) K=((∀ x ∈ rows,yI x=true)/\ XJ nx xW sz sz' bytes key n rows K (St.look xW key)):=by
 rw [s9];simp only [St.get];cases St.look xW key <;> rfl
theorem je {nx:Nat} {xW:List (Nat × Ob)} {sz sz' bytes key n:Nat} {rows:List (List D)} {K:D->St->Prop} {sz0:Nat} {xX:List (List D)} :
  XJ nx xW sz sz' bytes key n rows K (some ⟨sz0,xX⟩)= (sz=sz'/\sz0=sz/\n<=xX.length/\(n+rows.length)* bytes<=140737488355328/\n+rows.length<=8000000000000/\K (.yW nx sz (n+rows.length)) ⟨nx+1,(nx,⟨sz,xX.take n++rows⟩) :: yH xW key⟩):=rfl
def qb (q:Bool) (nx:Nat) (xW:List (Nat × Ob)) (sz sz' bytes key lo n:Nat) (rows:List (List D)) (K:D->St->Prop):Option Ob->Prop
 | some ob=>q=true/\sz=sz'/\ob.sz=sz/\lo+n<=ob.xX.length/\(n+rows.length)* bytes<=140737488355328/\n+rows.length<=8000000000000 /\
  ∀ pre:List (List D),(pre = []\/pre=ob.xX.take lo)->K (.sub nx sz pre.length (n+rows.length)) ⟨nx+1,(nx,⟨sz,pre++((ob.xX.drop lo).take n++rows)⟩) :: yH xW key⟩
 | none=>False
@[congr] theorem Zc {q : Bool} {nx : Nat} {xW : List (Nat × Ob)} {sz sz' bytes key lo n : Nat} {rows : List (List D)} {K : D -> St -> Prop} {o o' : Option Ob} (h : o = o') : qb q nx xW sz sz' bytes key lo n rows K o = qb q nx xW sz sz' bytes key lo n rows K o' := by rw [h]
theorem jh {q:Bool} {nx:Nat} {xW:List (Nat × Ob)} {sz sz' bytes key lo n:Nat} {rows:List (List D)} {K:D->St->Prop} :
  kE q ⟨nx,xW⟩ sz bytes (.sub key sz' lo n) (some rows) K=((∀ x ∈ rows,yI x=true)/\ qb q nx xW sz sz' bytes key lo n rows K (St.look xW key)):=by
 simp only [kE,St.get];cases St.look xW key <;> rfl
theorem qo {q:Bool} {nx:Nat} {xW:List (Nat × Ob)} {sz sz' bytes key lo n:Nat} {rows:List (List D)} {K:D->St->Prop} {sz0:Nat} {xX:List (List D)} :
  qb q nx xW sz sz' bytes key lo n rows K (some ⟨sz0,xX⟩)= (q=true/\sz=sz'/\sz0=sz/\lo+n<=xX.length/\(n+rows.length)* bytes<=140737488355328/\n+rows.length<=8000000000000 /\
   ∀ pre:List (List D),(pre = []\/pre=xX.take lo)->K (.sub nx sz pre.length (n+rows.length)) ⟨nx+1,(nx,⟨sz,pre++((xX.drop lo).take n++rows)⟩) :: yH xW key⟩):=rfl
theorem ko {key sz:Nat} {xX:List (List D)} {K:D->Prop}:cZ (xI key sz xX) K=K (.int .i64 xX.length):=by cases xX <;> simp [cZ,xI]
theorem ke {key sz sz':Nat} {xX:List (List D)} {k:IntKind} {n:Int} {K:D->Prop}:aT sz' (xI key sz xX) (.int k n) K=(sz'=sz/\0<=n/\n<xX.length/\K (.ref key sz n.toNat 0)):=by
 cases xX with
 | nil=>simp only [aT,xI,ν]; simp; intro _ h1 h2; omega
 | cons e l=>simp [aT,xI]; rintro rfl _ _; rfl
theorem vq {key sz:Nat} {neg:Bool} {xX:List (List D)} {K:D->Prop}:rA neg (xI key sz xX) .xZ K=K (.bool (if neg then !xX.isEmpty else xX.isEmpty)):=by cases xX <;> cases neg <;> simp [rA,xI]
def sw : List (Nat × Nat)->Nat->Nat
 | [],k=>k
 | (a,b) :: r,k=>if k=a then b else sw r k
def tS (xX:List (List D)):Prop:=∀ e ∈ xX,D.xT e=true
theorem fP (l:List (BitVec 64)):tS (us l)= True:=eq_true (aF l)
theorem ca (l:List (List (BitVec 64))):tS (rr l)= True:=eq_true (pv l)
theorem vD (k:IntKind) (l:List Int):tS (rows k l)= True:=eq_true (vK k l)
theorem mb : tS []=True:=by simp [tS]
theorem xh (a b:List (List D)):tS (a++b)= (tS a/\tS b):=by simp only [tS,List.mem_append];exact propext ⟨λh=>⟨λe he=>h e (.inl he),λe he=>h e (.inr he)⟩,λh e he=>he.elim (h.1 e) (h.2 e)⟩
theorem mc (l:List (BitVec 64)) (i:Nat) (s:BitVec 64):tS ((us l).set i [.int .u64 (ui s)])= True:=by rw [ZH,fP]
theorem XC {σ σ':St} {ρ:Nat->Nat} {a b sz:Nat} {xX:List (List D)}:vw σ σ' ρ (xI a sz xX) (xI b sz xX)= (xX = []\/(b<σ'.nx/\a=ρ b)):=by
 cases xX with
 | nil=>simp [xI,vw]
 | cons e l=>simp [xI,vw]
def Vy (σ':St) (ρ:Nat->Nat) (k0:Nat):Prop:=∀ p ∈ σ'.xW,ρ p.1≠k0
theorem tp {σ σ':St} {ρ:Nat->Nat} {k0 sz:Nat} {xX:List (List D)} (hs:0<sz) (h:Vy σ' ρ k0) (hg:σ.get k0=zN sz xX) (hp:tS xX):vw σ σ' ρ (xI k0 sz xX) (.sl sz xX)= True:=by
 cases xX with
 | nil=>simp [xI,vw]
 | cons e l=> refine eq_true ?_;simp only [xI,vw];exact⟨trivial,hs,h,⟨sz,e :: l⟩,hg,rfl,Ag _,by simp,hp⟩
def Y4 (σ σ':St) (ρ:Nat->Nat) (as bs:List (List D)):Prop:=dC σ σ' ρ as bs
theorem fZ {σ σ':St} {ρ:Nat->Nat} {xX:List (List D)} (h:tS xX):Y4 σ σ' ρ xX xX=True:=eq_true (.same h)
end
section
variable [vZ]
theorem fW {σ σ':St} {ρ:Nat->Nat}:∀ {a:List D},D.xT a=true->tV σ σ' ρ a a:=by
 intro a h
 have key:∀ d:D,d.xJ=true->vw σ σ' ρ d d:=by
  intro d
  refine D.rec (motive_1:=λd=>d.xJ=true->vw σ σ' ρ d d) (motive_2:=λ_=>True) (motive_3:=λcs=>D.xT cs=true->tV σ σ' ρ cs cs)
   ?top ?vB ?int ?bool ?str ?sl ?xZ ?emp ?agg ?yE ?fn ?ref ?yW ?sub ?ptr ?zZ ?sG ?tX ?uU ?yy trivial (λ_ _ _ _=>trivial) ?nil ?cons d
  case agg=>intro cs ih h; simp only [D.xJ] at h; simp only [vw]; exact⟨trivial,ih h⟩
  case yE=>intro cs ih h; simp only [D.xJ] at h; simp only [vw]; exact⟨trivial,ih h⟩
  case fn=>intro f cs ih h; simp only [D.xJ] at h; simp only [vw]; exact⟨trivial,trivial,ih h⟩
  case ref=>intro k sz i off h; simp [D.xJ] at h
  case yW=>intro k sz n h; simp [D.xJ] at h
  case sub=>intro k sz lo n h; simp [D.xJ] at h
  case zZ=>intro k h; simp [D.xJ] at h
  case nil=>intro _; simp [tV]
  case cons=> intro d r h1 h2 h;simp only [D.xT,Aa] at h;simp only [tV];exact⟨h1 h.1,h2 h.2⟩
  case ptr=>intro cs _ _; simp [vw]
  all_goals intros; simp [vw]
 induction a with
 | nil=>simp [tV]
 | cons d r ih=> simp only [D.xT,Aa] at h;simp only [tV];exact⟨key d h.1,ih h.2⟩
theorem zz {σ σ':St} {ρ:Nat->Nat}:∀ {xX:List (List D)} {a b:List D},tS xX->a.length=b.length->tV σ σ' ρ a b->dC σ σ' ρ (xX ++ [a]) (xX ++ [b])
 | [],a,b,_,hl,h=>.cons hl h .nil
 | e :: r,a,b,hp,hl,h=>.cons rfl (fW (hp e (by simp))) (zz (λx hx=>hp x (by simp [hx])) hl h)
theorem ZI {σ σ':St} {ρ:Nat->Nat} {xX:List (List D)} {a b:List D} (h:Y4 σ σ' ρ (xX ++ [a]) (xX ++ [b])):a.length=b.length/\tV σ σ' ρ a b:=by
 have:=(iB (show dC σ σ' ρ (xX ++ [a]) (xX ++ [b]) from h)).2 xX.length (by simp);have e1:∀ x:List D,(xX ++ [x]).getD xX.length []=x:=by intro x; simp [List.getD]
 rw [e1,e1] at this;refine⟨this.1,?_⟩
 rcases this.2 with h | ⟨h1,h2⟩
 ·exact h
 ·rw [h1]; exact fW h2
theorem fY {σ σ':St} {ρ:Nat->Nat} {xX:List (List D)} {a b:List D} (hp:tS xX):Y4 σ σ' ρ (xX ++ [a]) (xX ++ [b])= (a.length=b.length/\tV σ σ' ρ a b):= propext ⟨λh=>ZI h,λh=>zz hp h.1 h.2⟩
theorem XB {σ σ':St} {ρ:Nat->Nat} {a b:List D}:Y4 σ σ' ρ [a] [b]=(a.length=b.length/\tV σ σ' ρ a b):=fY (xX:=[]) (by simp [tS])
theorem ZJ {σ σ':St} {ρ:Nat->Nat} {l:List (List (BitVec 64))} {r:List (BitVec 64)} {x:D}:Y4 σ σ' ρ (rr l ++ [[x]]) (rr (l ++ [r]))= tV σ σ' ρ [x] [.sl 1 (us r)]:=by rw [<- aD,fY (pv l)];simp
def vX (σ σ':St) (ρ:Nat->Nat) (p:Nat × Ob):Prop:=p.1<σ'.nx/\∃ ob,σ.get (ρ p.1)= some ob/\ob.sz=p.2.sz/\Y4 σ σ' ρ ob.xX p.2.xX
def sR (σ σ':St) (ρ:Nat->Nat) (l:List (Nat × Ob)):Prop:=∀ p ∈ l,vX σ σ' ρ p
theorem jZ {σ σ':St} {ρ:Nat->Nat}:sR σ σ' ρ []=True:=by simp [sR]
theorem mA {σ σ':St} {ρ:Nat->Nat} {p:Nat × Ob} {l:List (Nat × Ob)}:sR σ σ' ρ (p :: l)= (vX σ σ' ρ p/\sR σ σ' ρ l):=by simp [sR]
theorem eT {σ σ':St} {ρ:Nat->Nat} {k sz:Nat} {xX:List (List D)} {l:List (Nat × Ob)} (hk:k<σ'.nx) (hg:σ.get (ρ k)= zN sz xX) (hp:tS xX):sR σ σ' ρ (xM k sz xX++l)= sR σ σ' ρ l:=by
 cases xX with
 | nil=>rfl
 | cons e r=> simp only [xM,π,ζ,mA];refine propext ⟨λh=>h.2,λh=>⟨⟨hk,⟨sz,e :: r⟩,hg,rfl,.same hp⟩,h⟩⟩
theorem vy {σ σ':St} {ρ:Nat->Nat} {k sz:Nat} {xX:List (List D)} (hk:k<σ'.nx) (hg:σ.get (ρ k)= zN sz xX) (hp:tS xX):sR σ σ' ρ (xM k sz xX)= True:=by have:=eT (l:=[]) hk hg hp;rw [δ,jZ] at this;exact this
theorem x9 {sz:Nat} {xX:List (List D)} (h:xX ≠ []):zN sz xX=some ⟨sz,xX⟩:=by
 cases xX with
 | nil=>exact absurd rfl h
 | cons e r=>rfl
theorem jB {σ σ':St} {ρ:Nat->Nat} {k sz:Nat} {xX els':List (List D)} {l:List (Nat × Ob)} (hk:k<σ'.nx) (hg:σ.get (ρ k)= zN sz els') (hq:Y4 σ σ' ρ els' xX):sR σ σ' ρ (xM k sz xX++l)= sR σ σ' ρ l:=by
 cases xX with
 | nil=>rfl
 | cons e r=>
  have hne:els' ≠ []:=by rintro rfl;have:=(iB (show dC σ σ' ρ [] (e :: r) from hq)).1;simp at this
  simp only [xM,π,ζ,mA];refine propext ⟨λh=>h.2,λh=>⟨⟨hk,⟨sz,els'⟩,?_,rfl,hq⟩,h⟩⟩;rw [hg,x9 hne]
theorem xn {σ σ':St} {ρ:Nat->Nat} {k sz:Nat} {xX els':List (List D)} (hk:k<σ'.nx) (hg:σ.get (ρ k)= zN sz els') (hq:Y4 σ σ' ρ els' xX):sR σ σ' ρ (xM k sz xX)= True:=by have:=jB (l:=[]) hk hg hq;rw [δ,jZ] at this;exact this
def uw (ks:List Nat) (l:List (Nat × Ob)):Prop:=∀ p ∈ l,p.1 ∈ ks
theorem pc {ks:List Nat}:uw ks []=True:=by simp [uw]
theorem wq {ks:List Nat} {p:Nat × Ob} {l:List (Nat × Ob)}:uw ks (p :: l)= (p.1 ∈ ks/\uw ks l):=by simp [uw]
theorem wt {ks:List Nat} {k sz:Nat} {xX:List (List D)} {l:List (Nat × Ob)} (h:k ∈ ks):uw ks (xM k sz xX++l)= uw ks l:=by
 cases xX with
 | nil=>rfl
 | cons e r=>simp [xM,wq,h]
theorem kg {ks:List Nat} {k sz:Nat} {xX:List (List D)} (h:k ∈ ks):uw ks (xM k sz xX)= True:=by have:=wt (sz:=sz) (xX:=xX) (l:=[]) h;rw [δ,pc] at this;exact this
def lF (ρ:Nat->Nat) (k0:Nat) (l:List (Nat × Ob)):Prop:=∀ p ∈ l,ρ p.1≠k0
theorem YC {σ':St} {ρ:Nat->Nat} {k0:Nat}:Vy σ' ρ k0=lF ρ k0 σ'.xW:=propext Iff.rfl
theorem bA {ρ:Nat->Nat} {k0:Nat}:lF ρ k0 []=True:=by simp [lF]
theorem eB {ρ:Nat->Nat} {k0:Nat} {p:Nat × Ob} {l:List (Nat × Ob)}:lF ρ k0 (p :: l)= (ρ p.1≠k0/\lF ρ k0 l):=by simp [lF]
theorem eC {ρ:Nat->Nat} {k0 k sz:Nat} {xX:List (List D)} {l:List (Nat × Ob)}:lF ρ k0 (xM k sz xX++l)= ((xX = []\/ρ k≠k0)/\ lF ρ k0 l):=by
 cases xX with
 | nil=>simp [xM]
 | cons e r=>simp [xM,eB]
theorem vg {ρ:Nat->Nat} {k0 k sz:Nat} {xX:List (List D)}:lF ρ k0 (xM k sz xX)= (xX = []\/ρ k≠k0):=by have:=eC (ρ:=ρ) (k0:=k0) (k:=k) (sz:=sz) (xX:=xX) (l:=[]);rw [δ,bA,and_true] at this;exact this
theorem yO.uz {C:Cx} {f f':Fr} {σ σ':St} (l:List (Nat × Nat)) (ks:List Nat) (hn:C.n0<=σ'.nx) (h0:∀ p ∈ l,C.n0<=p.1) (hd:(ks.map (sw l)).Nodup)
  (h:uw ks σ'.xW/\sR σ σ' (sw l) σ'.xW/\xd σ σ' (sw l) f f'):yO C f σ f' σ':=by
 obtain⟨hk,hs,hf⟩:=h
 refine yO.view (sw l) hn ?_ hf ?_ ?_
 ·intro k hk
  induction l with
  | nil=>rfl
  | cons p l ih=>
   obtain⟨a,b⟩:=p;have:C.n0<=a:=h0 (a,b) (by simp);simp only [sw];rw [if_neg (by omega)];have hm:∀ p ∈ l,C.n0<=p.1:=λp hp=>h0 p (by simp [hp]);clear ih hd hs hf h0
   induction l with
   | nil=>rfl
   | cons q l ih=> obtain⟨c,d⟩:=q;have:C.n0<=c:=hm (c,d) (by simp);simp only [sw];rw [if_neg (by omega)];exact ih λp hp=>hm p (by simp [hp])
 ·intro p hp;obtain⟨h1,ob,h2,h3,h4⟩:=hs p hp;exact⟨h1,ob,h2,h3,h4⟩
 ·intro p hp q hq e;have h1:=hk p hp;have h2:=hk q hq
  have inj:∀ (ks:List Nat),(ks.map (sw l)).Nodup->∀ a ∈ ks,∀ b ∈ ks,sw l a=sw l b->a=b:=by
   intro ks
   induction ks with
   | nil=>intro _ a ha; simp at ha
   | cons x ks ih=>
    intro hd a ha b hb e;simp only [μ,List.nodup_cons,ε,not_exists,not_and] at hd
    rcases θ.1 ha with h1 | h1 <;> rcases θ.1 hb with h2 | h2
    ·rw [h1,h2]
    ·rw [h1] at e; exact absurd e.symm (hd.1 b h2)
    ·rw [h2] at e; exact absurd e (hd.1 a h1)
    ·exact ih hd.2 a h1 b h2 e
  exact inj ks hd _ h1 _ h2 e
theorem rT.uz {n0:Nat} {σ σ':St} {d d':D} (l:List (Nat × Nat)) (ks:List Nat) (hn:n0<=σ'.nx) (h0:∀ p ∈ l,n0<=p.1) (hd:(ks.map (sw l)).Nodup)
  (h:uw ks σ'.xW/\sR σ σ' (sw l) σ'.xW/\vw σ σ' (sw l) d d'):rT n0 σ d σ' d':=by
 obtain⟨hk,hs,hf⟩:=h
 refine .inr ⟨sw l,hn,?_,hf,?_,?_⟩
 ·intro k hk;have hm:∀ p ∈ l,n0<=p.1:=h0;clear hd hs hf h0
  induction l with
  | nil=>rfl
  | cons q l ih=> obtain⟨c,d⟩:=q;have:n0<=c:=hm (c,d) (by simp);simp only [sw];rw [if_neg (by omega)];exact ih λp hp=>hm p (by simp [hp])
 ·intro p hp;obtain⟨h1,ob,h2,h3,h4⟩:=hs p hp;exact⟨h1,ob,h2,h3,h4⟩
 ·intro p hp q hq e;have h1:=hk p hp;have h2:=hk q hq
  have inj:∀ (ks:List Nat),(ks.map (sw l)).Nodup->∀ a ∈ ks,∀ b ∈ ks,sw l a=sw l b->a=b:=by
   intro ks
   induction ks with
   | nil=>intro _ a ha; simp at ha
   | cons x ks ih=>
    intro hd a ha b hb e;simp only [μ,List.nodup_cons,ε,not_exists,not_and] at hd
    rcases θ.1 ha with h1 | h1 <;> rcases θ.1 hb with h2 | h2
    ·rw [h1,h2]
    ·rw [h1] at e; exact absurd e.symm (hd.1 b h2)
    ·rw [h2] at e; exact absurd e (hd.1 a h1)
    ·exact ih hd.2 a h1 b h2 e
  exact inj ks hd _ h1 _ h2 e
def qk (C:Cx) (Q:Exit->Fr->St->Prop) (e:Exit) (f:Fr) (σ:St):Prop:=∃ f' σ',yO C f σ f' σ'/\Q e f' σ'
theorem qk.go {C:Cx} {Q:Exit->Fr->St->Prop} {e:Exit} {f:Fr} {σ:St} (f':Fr) (σ':St) (hw:yO C f σ f' σ') (h:Q e f' σ'):qk C Q e f σ:=⟨f',σ',hw,h⟩
theorem nr {C:Cx} {dc:DC} {f:Fr} {σ:St} {Q:Exit->Fr->St->Prop} (h:wpS C dc f σ (qk C Q)):wpS C dc f σ Q:=by intro code hc E a w G;refine wpIn_mono (h code hc E a w G) λe a' w' hh=>?_;obtain⟨f1,σ1,G1,f2,σ2,hw,hq⟩:=hh;exact⟨f2,σ2,hw E a' w' G1,hq⟩
theorem rI {C:Cx} {dc:DC} {f:Fr} {σ:St} {Q:Exit->Fr->St->Prop} {α:Type} (g:α->Fr) (s:α->St) (I:α->Prop) (m:α->Nat) (a0:α) (h0:I a0) (hw:yO C f σ (g a0) (s a0))
  (round:∀ a,I a->wpS C dc (g a) (s a) (nX (λf' σ'=>∃ a',I a'/\yO C f' σ' (g a') (s a')/\ m a'<m a) (qk C Q))):wpS C (.loop dc) f σ Q:=
 nr (xO g s I m a0 h0 hw round)
end
theorem Zp : ((0:Nat):Int)= 0:=rfl
theorem lE {k:Nat} (h:k<9223372036854775807):IntKind.i64.wrap ((k:Int)+ 1)= ((k+1:Nat):Int):=by rw [wrap_i64 (by omega)]; omega
section
variable [vZ]
theorem Va (f:Fr) (n:Nat):uX f (.t n)= Fr.get f n:=rfl
theorem VX (f:Fr) (d:D):uX f (.c d)= d:=rfl
theorem cg (f:Fr) (t:Nat) (d:D):Fr.put f (some t) d=(t,d) :: f:=rfl
theorem cd (f:Fr) (d:D):Fr.put f none d=f:=rfl
theorem get_nil (n:Nat):Fr.get [] n = .top:=rfl
theorem x8 (t:Nat) (d:D) (r:Fr) (n:Nat):Fr.get ((t,d) :: r) n=if t=n then d else Fr.get r n:=rfl
theorem look_nil (k:Nat):St.look [] k=none:=rfl
theorem yZ (j:Nat) (o:Ob) (r:List (Nat × Ob)) (k:Nat):St.look ((j,o) :: r) k=if j=k then some o else St.look r k:=rfl
theorem cw (k:Nat) (o:Ob):zJ [] k o = []:=rfl
theorem sP (j:Nat) (o:Ob) (r:List (Nat × Ob)) (k:Nat) (o':Ob):zJ ((j,o) :: r) k o'=if j=k then(j,o') :: r else(j,o) :: zJ r k o':=rfl
theorem rh (k:Nat):yH [] k = []:=rfl
theorem vk (j:Nat) (o:Ob) (r:List (Nat × Ob)) (k:Nat):yH ((j,o) :: r) k=if j=k then yH r k else(j,o) :: yH r k:=rfl
theorem Wn (n:Nat) (l:List (Nat × Ob)) (k:Nat):St.get ⟨n,l⟩ k=St.look l k:=rfl
theorem set_mk (n:Nat) (l:List (Nat × Ob)) (k:Nat) (o:Ob):St.set ⟨n,l⟩ k o=⟨n,zJ l k o⟩:=rfl
theorem Wv (n:Nat) (l:List (Nat × Ob)) (o:Ob):St.new ⟨n,l⟩ o=⟨n+1,(n,o) :: l⟩:=rfl
theorem z8 (n:Nat) (l:List (Nat × Ob)) (k:Nat):St.erase ⟨n,l⟩ k=⟨n,yH l k⟩:=rfl
theorem mq (σ:St) (sz sz':Nat) (xX:List (List D)):rowsOf σ sz (.sl sz' xX)= if sz=sz' then some xX else none:=rfl
theorem vv (σ:St) (sz:Nat):rowsOf σ sz .xZ=some []:=rfl
theorem tf (σ:St) (sz:Nat):rowsOf σ sz .emp=some []:=rfl
def zD :=γ @eu (γ @XD (γ @en (γ @XH (γ @ec (γ @ns (γ @ef (γ @eo (γ @ee (γ @XG (γ @nu (γ @bx (γ @ma (γ @bw (γ @lu (γ @YP @YQ)))))))))))))))
def zT :=γ @Va (γ @VX (γ @cg (γ @cd (γ @get_nil (γ @x8 (γ @look_nil (γ @yZ (γ @cw (γ @sP (γ @rh (γ @vk (γ @Wn (γ @set_mk (γ @Wv (γ @z8 (γ @mq (γ @vv (γ @tf (γ @Int.cast_ofNat_Int (γ @Zp (γ @Int.toNat_zero (γ @Int.toNat_one (γ @beq_self_eq_true.{0} (γ @bne_self_eq_false.{0} (γ @Bool.false_eq_true (γ @z7 (γ @x7 (γ @YO (γ @u0 (γ @qp (γ @s8 (γ @jg (γ @je (γ @jh (γ @qo (γ @df (γ @nj (γ @ni (γ @ko (γ @YV (γ @ah (γ @ai (γ @kp (γ @af (γ @ke (γ @YR (γ @aa (γ @ab (γ @vq (γ @bc (γ @bd (γ @bf (γ @bg (γ @bh (γ @bj (γ @ku (γ @sb (γ @ry (γ @kq (γ @ba (γ @az (γ @Yb (γ @sc (γ @se (γ @eM (γ @kx (γ @si (γ @eO (γ @la (γ @lg (γ @lh (γ @sj (γ @sk (γ @xQ (γ @qI (γ @iS (γ @xf (γ @bY (γ @tg (γ @xl (γ @Option.or_none.{0} (γ @List.length_set.{0} (γ @vh (γ @lp (γ @Nat.lt_irrefl (γ @xF (γ @zB (γ @Yy (γ @true_and (γ @and_true (γ @ξ.{0} (γ @List.getD_cons_succ.{0} (γ @ω.{0} (γ @ν.{0} (γ @Bool.not_true (γ @Bool.not_false (γ @μ.{0,0} (γ @List.map_nil.{0,0} (γ @ζ.{0} (γ @π.{0} (γ @δ.{0} (γ @bP (γ @lz (γ @List.take_succ_cons.{0} (γ @List.take_zero.{0} (γ @List.drop_succ_cons.{0} (γ @List.drop_zero.{0} (γ @false_implies (γ @or_true (γ @true_or (γ @Ag (γ @Int.toNat_natCast (γ @and_self (γ @Te (γ @Tf (γ @Tg (γ @Th (γ @Z7 (γ @Vj (γ @ZG (γ @nk (γ @Z6 (γ @ZF (γ @ZB (γ @ZD (γ @ZE (γ @ZC (γ @fw (γ @Z8 (γ @Z5 (γ @not_false_eq_true (γ @jo (γ @jt (γ @jn (γ @qt (γ @js (γ @u7 (γ @qy (γ @jm (γ @jl (γ @u6 (γ @jr (γ @jq (γ @qu (γ @qz (γ @qw (γ @qv (γ @Ye (γ @bn (γ @Yi (γ @Wz (γ @bu (γ @Yd (γ @Ww (γ @Yh (γ @Yf (γ @Yg (γ @bo (γ @bt (γ @bq (γ @bp (γ @ο.{0} (γ @List.all_nil.{0} (γ @Bool.and_true (γ @Bool.and_self (γ @List.set_cons_zero.{0} (γ @List.set_cons_succ.{0} (γ @Ah (γ @Nat.add_zero (γ @Nat.zero_lt_succ (γ @Nat.lt_add_one (γ @decide_true (γ @decide_false (γ @gt_iff_lt.{0} (γ @ge_iff_le.{0} (γ @Z1 (γ @Yu (γ @Bool.true_and (γ @decide_eq_true_eq (γ @decide_eq_false_iff_not (γ @wK (γ @rm (γ @wL (γ @rn (γ @bU (γ @jV (γ @iA (γ @aD (γ @pI (γ @jU (γ @uj (γ @px (γ @η.{0} (γ @List.cons_ne_nil.{0} (γ @List.take_length.{0} (γ @Option.map_some.{0,0} (γ @Option.map_none.{0,0} (γ @ψ.{0} (γ @fv @pt)))))))))))))))))))))))))))))))))))))))))))))))))))))))))))))))))))))))))))))))))))))))))))))))))))))))))))))))))))))))))))))))))))))))))))))))))))))))))))))))))))))))))))))))))))))))))))))))))))))))
def zR :=γ @Zp (γ @wt (γ @kg (γ @wq (γ @pc (γ @eT (γ @vy (γ @jB (γ @xn (γ @mA (γ @jZ (γ @ZJ (γ @fY (γ @fZ (γ @XB (γ @XC (γ @tp (γ @YC (γ @eC (γ @vg (γ @eB (γ @bA (γ @fP (γ @ca (γ @vD (γ @mb (γ @xh (γ @mc (γ @xQ (γ @qI (γ @Option.or_none.{0} (γ @Nat.zero_lt_succ (γ @Nat.lt_add_one (γ @Option.some.injEq.{0} (γ @and_true (γ @true_and (γ @and_self (γ @or_true (γ @true_or (γ @not_false_eq_true (γ @θ.{0} (γ @η.{0} (γ @List.not_mem_nil.{0} (γ @D.int.injEq (γ @D.bool.injEq (γ @D.sl.injEq (γ @D.ref.injEq (γ @ω.{0} (γ @ν.{0} (γ @iA (γ @jV (γ @aD (γ @Ah (γ @px (γ @uj (γ @fv (γ @pt (γ @pI @jU)))))))))))))))))))))))))))))))))))))))))))))))))))))))))
end
end Go.Pd
namespace Go.Pd
open Go Go.ChangeShapes Go.WideShapes Go.RowKit
def gD : List (Nat × Nat)->Nat->Nat->Bool
 | [],o,n=>o==n
 | (a,s) :: r,o,n=>(a==o)&& gD r (o+s) n
def tZ (P:Program):Nat->TypeId->Bool
 | 0,_=>false
 | n+1,t=>match P.underlying t with
  | some .bool=>true
  | some (.int _)=>true
  | some .string=>true
  | some (.slice e)=>tZ P n e&&decide (0<P.cellsOf e)
  | some (.struct fs)=>(fs.toList.all λf=>tZ P n f.type)&& gD (fs.toList.map λf=>(f.offset,P.cellsOf f.type)) 0 (P.cellsOf t)
  | some (.array k e)=>tZ P n e&&(P.cellsOf t==k*P.cellsOf e)
  | _=>false
mutual
def wP (P:Program):Nat->TypeId->List D->Prop
 | 0,_,_=>False
 | n+1,t,ds=>match P.underlying t with
  | some .bool=>∃ b,ds = [.bool b]
  | some (.int k)=>∃ i,ds = [.int k i]
  | some .string=>∃ s,ds = [.str s]
  | some (.slice e)=>∃ xX,ds = [.sl (P.cellsOf e) xX]/\∀ row ∈ xX,wP P n e row
  | some (.struct fs)=>rC P n (fs.toList.map λf=>f.type) ds
  | some (.array k e)=>rC P n (List.replicate k e) ds
  | _=>False
def rC (P:Program):Nat->List TypeId->List D->Prop
 | _,[],ds=>ds = []
 | n,f :: fs,ds=>∃ a b,ds=a++b/\wP P n f a/\rC P n fs b
end
def mC (P:Program) (n:Nat) (t:TypeId) (d:D):Prop:=
 match P.underlying t with
 | some (.struct _)=>∃ ds,d = .agg ds/\wP P n t ds
 | some (.array _ _)=>∃ ds,d = .agg ds/\wP P n t ds
 | _=>wP P n t [d]
def aE (P:Program) (n:Nat):List TypeId->List D->Prop
 | [],as=>as = []
 | t :: ts,as=>∃ a r,as=a :: r/\mC P n t a/\aE P n ts r
def gR (w:World) (cs:List Value) (ds:List D):Prop:=ds.length=cs.length/\∀ j,j<ds.length->RP (λ_=>False) w (cs.getD j undef) (ds.getD j .top)
theorem iW {w:World} {a b:List Value} {x y:List D} (h:gR w a x) (h':gR w b y):gR w (a++b) (x++y):=by
 refine⟨by simp [h.1,h'.1],λj hj=>?_⟩;simp only [List.getD]
 by_cases hx:j<x.length
 ·rw [υ hx,υ (by rw [<- h.1]; exact hx)];exact h.2 j hx
 ·have h1:=h.1;rw [τ (by omega),τ (by omega),<- h.1];rw [ψ] at hj;exact h'.2 (j-x.length) (by omega)
section
variable {H : Type} {enc : TypeId × Value -> H} {P : Program} {w : World} {sp : Nat -> Bool} {held : Bool}
theorem bD {n:Nat} (key:∀ (t:TypeId) (cs:List Value) (fuel:Nat) (x:DataW H × List MemPlace),tZ P n t=true->DataW.trod enc P w 0 sp held fuel t cs=some x->∃ ds,gR w cs ds/\wP P n t ds) {cs:List Value} {fuel:Nat} :
  ∀ (fl:List Field) (o:Nat),(fl.all λf=>tZ P n f.type)= true->gD (fl.map λf=>(f.offset,P.cellsOf f.type)) o cs.length=true ->
   (∀ f ∈ fl,∃ x,DataW.trod enc P w 0 sp held fuel f.type ((cs.drop f.offset).take (P.cellsOf f.type))= some x)->∃ ds,gR w (cs.drop o) ds/\rC P n (fl.map λf=>f.type) ds
 | [],o,_,hc,_=>by simp only [List.map_nil,gD,beq_iff_eq] at hc;subst hc;exact⟨[],by simp [gR],by simp [rC]⟩
 | f :: fl,o,hp,hc,hx=>by
  simp only [ο,Aa] at hp;simp only [μ,gD,Aa,beq_iff_eq] at hc;obtain⟨x,h1⟩:=hx f (by simp);obtain⟨a,ha,hsa⟩:=key _ _ _ _ hp.1 h1;obtain⟨b,hb,hsb⟩:=bD key fl (o+P.cellsOf f.type) hp.2 hc.2 λg hg=>hx g (by simp [hg]);refine⟨a++b,?_,by simp only [μ,rC]; exact⟨a,b,rfl,hsa,hsb⟩⟩;rw [hc.1] at ha
  have e:cs.drop o=(cs.drop o).take (P.cellsOf f.type)++ cs.drop (o+P.cellsOf f.type):=by rw [<- List.drop_drop,χ]
  rw [e];exact iW ha hb
theorem fb {n:Nat} (key:∀ (t:TypeId) (cs:List Value) (fuel:Nat) (x:DataW H × List MemPlace),tZ P n t=true->DataW.trod enc P w 0 sp held fuel t cs=some x->∃ ds,gR w cs ds/\wP P n t ds) {cs:List Value} {fuel:Nat} {e:TypeId} (hp:tZ P n e=true) :
  ∀ (k o:Nat),cs.length=(o+k)* P.cellsOf e ->
   (∀ i,o<=i->i<o+k->∃ x,DataW.trod enc P w 0 sp held fuel e ((cs.drop (i*P.cellsOf e)).take (P.cellsOf e))= some x)->∃ ds,gR w (cs.drop (o*P.cellsOf e)) ds/\rC P n (List.replicate k e) ds
 | 0,o,hl,_=>⟨[],by rw [List.drop_eq_nil_of_le (by rw [hl]; simp)]; simp [gR],by simp [rC]⟩
 | k+1,o,hl,hx=>by
  obtain⟨x,h1⟩:=hx o (Ag _) (by omega);obtain⟨a,ha,hsa⟩:=key _ _ _ _ hp h1;obtain⟨b,hb,hsb⟩:=fb key hp k (o+1) (by rw [hl]; congr 1; omega) λi h1 h2=>hx i (by omega) (by omega);refine⟨a++b,?_,by simp only [List.replicate_succ,rC]; exact⟨a,b,rfl,hsa,hsb⟩⟩
  have e1:cs.drop (o*P.cellsOf e)= (cs.drop (o*P.cellsOf e)).take (P.cellsOf e)++ cs.drop ((o+1)* P.cellsOf e):=by rw [Nat.succ_mul,<- List.drop_drop,χ]
  rw [e1];exact iW ha hb
theorem hZ : ∀ (n:Nat) (t:TypeId) (cs:List Value) (fuel:Nat) (x:DataW H × List MemPlace),tZ P n t=true->DataW.trod enc P w 0 sp held fuel t cs=some x->∃ ds,gR w cs ds/\wP P n t ds
 | 0,t,cs,fuel,x,hp,_=>by simp [tZ] at hp
 | n + 1,t,cs,fuel,x,hp,h=>by
  unfold tZ at hp;unfold wP
  split at hp
  ·rename_i hu;obtain⟨b,rfl,_⟩:=DataW.trod_bool hu h;exact⟨[.bool b],⟨rfl,λj hj=>by simp at hj; subst hj; exact .bool b⟩,⟨b,rfl⟩⟩
  ·rename_i k hu;obtain⟨i,rfl,_,hw⟩:=DataW.trod_int hu h;refine⟨[.int k i],⟨rfl,λj hj=>?_⟩,⟨i,rfl⟩⟩;simp at hj; subst hj;simp only [Lit.wf,Aa,decide_eq_true_eq] at hw;exact .int hw
  ·rename_i hu;obtain⟨s,rfl,_,hs⟩:=DataW.trod_string hu h;exact⟨[.str s],⟨rfl,λj hj=>by simp at hj; subst hj; exact .str hs⟩,⟨s,rfl⟩⟩
  ·rename_i e hu;simp only [Aa,decide_eq_true_eq] at hp
   rcases Deep.open_slice hu h with ⟨rfl,_⟩ | ⟨a,len,cap,m,fu,Dd,Pl,rfl,_,hl,hm,hmm,_,hx⟩
   ·exact⟨[.sl (P.cellsOf e) []],⟨rfl,λj hj=>by simp at hj; subst hj; exact .xc none 0 _ (λ_=>rfl)⟩,⟨[],rfl,by simp⟩⟩
   ·have hle:len<=m:=by rw [hmm]; split <;> omega
    by_cases h0:len=0
    ·subst h0;exact⟨[.sl (P.cellsOf e) []],⟨rfl,λj hj=>by simp at hj; subst hj; exact .xc (some a) cap _ (λh=>by cases h)⟩,⟨[],rfl,by simp⟩⟩
    ·obtain⟨f,hf⟩:=Deep.choose_lt (α:=List Value × List D) (n:=len) (p:=λi y=>w.cells? 0 (a.add (i*P.cellsOf e)) (P.cellsOf e)= some y.1/\gR w y.1 y.2/\wP P n e y.2) λi hi=>by obtain⟨cs',h1,h2⟩:=hx i (by omega);obtain⟨ds,h3,h4⟩:=hZ n e cs' fu _ hp.1 h2;exact⟨(cs',ds),h1,h3,h4⟩
     have hcells:∀ i,i<len->∀ j,j<P.cellsOf e->w.cell? ((a.add (i*P.cellsOf e)).add j)= some ((f i).1.getD j undef):=by intro i hi j hj;obtain⟨_,h2,h3⟩:=World.cells?_some (hf i hi).1;rw [h3 j hj];simp [List.getD,show j<(f i).1.length by omega]
     have hlen:∀ i,i<len->(f i).1.length=P.cellsOf e:=λi hi=>(World.cells?_some (hf i hi).1).2.1
     have hspot:a.spot=none:=by have:=World.cell?_spot (hcells 0 (by omega) 0 hp.2);simpa [Addr.add] using this
     obtain⟨b,off,spot⟩:=a;simp only at hspot;subst hspot
     have hadd:∀ i j,((⟨b,off,none⟩:Addr).add i).add j=⟨b,off+i+j,none⟩:=by
      intro i j;rw [Deep.add_add];unfold Addr.add
      by_cases h:i+j=0
      ·have h1:i=0:=by omega
       have h2:j=0:=by omega
       subst h1; subst h2; rfl
      ·rw [if_neg h]; simp [Nat.add_assoc]
     have xX:∀ i,i<len->((List.range len).map λi=>(f i).2).getD i []=(f i).2:=by intro i hi;simp [List.getD,hi]
     refine⟨[.sl (P.cellsOf e) ((List.range len).map λi=>(f i).2)],⟨rfl,λj hj=>?_⟩,⟨_,rfl,?_⟩⟩
     ·simp at hj; subst hj;simp only [ξ]
      have:=RP.sl (M:=λ_=>False) (w:=w) (b:=b) (off:=off) (cap:=cap) (sz:=P.cellsOf e) (xX:=(List.range len).map λi=>(f i).2) (λi j=>(f i).1.getD j undef) hp.2 (λh=>h) (by simpa using hl) hm ?_ ?_ ?_
      ·simpa using this
      ·intro x hx';simp only [ε,List.mem_range] at hx';obtain⟨i,hi,rfl⟩:=hx';rw [(hf i hi).2.1.1,hlen i hi]
      ·intro i hi j hj;have hi':i<len:=by simpa using hi
       have:=hcells i hi' j hj;rw [hadd] at this;exact this
      ·intro i hi j hj;have hi':i<len:=by simpa using hi
       rw [xX i hi'];exact(hf i hi').2.1.2 j (by rw [(hf i hi').2.1.1,hlen i hi']; exact hj)
     ·intro row hrow;simp only [ε,List.mem_range] at hrow;obtain⟨i,hi,rfl⟩:=hrow;exact(hf i hi).2.2
  ·rename_i fs hu;simp only [Aa] at hp;obtain⟨xs,n',_,_,hlen,hsz,hf⟩:=DataW.trod_struct hu h;rw [<- hlen] at hp
   obtain⟨ds,h1,h2⟩:=bD (λt cs fuel x=>hZ n t cs fuel x) (fuel:=n') fs.toList 0 hp.1 hp.2 λg hg=>by
    obtain⟨i,hi,rfl⟩:=List.getElem_of_mem hg;have hi':i<fs.size:=by simpa using hi
    have:=hf i fs[i] (by simp [hi']);refine⟨xs[i]'(by omega),?_⟩;simp only [Array.getElem_toList];rw [this];simp [show i<xs.length by omega]
   exact⟨ds,by simpa using h1,h2⟩
  ·rename_i k e hu;simp only [Aa,beq_iff_eq] at hp;obtain⟨xs,m,_,_,hlen,hxs,hf⟩:=DataW.trod_array hu h
   obtain⟨ds,h1,h2⟩:=fb (λt cs fuel x=>hZ n t cs fuel x) (fuel:=m) hp.1 k 0 (by rw [hlen,hp.2]; simp) λi _ hi=>by have:=hf i (by omega);rw [this];simp [show i<xs.length by omega]
   exact⟨ds,by simpa using h1,h2⟩
  ·cases hp
end
section
variable {H : Type} {enc : TypeId × Value -> H} {P : Program} {w : World} {sp : Nat -> Bool} {held : Bool}
theorem xg {r:Reach} {b:Nat} {t:TypeId} {v:Value} {k:Nat} {e:TypeId} (ht:P.underlying t=some (.array k e)) (h:Value.okWide P w r b t v):∃ cs,v = .agg cs/\cs.size=P.cellsOf t:=by simp only [Value.okWide,ht] at h;obtain⟨cs,h1,h2,_⟩:=h;exact⟨cs,h1,h2⟩
theorem Wf {n:Nat} {b:Nat} {t:TypeId} {v:Value} {d:DataW H} {ps:List MemPlace} (hp:tZ P n t=true) (hv:Value.okWide P w .any b t v) (h:DataW.Trod enc P w 0 sp held t v d ps):∃ a,RP (λ_=>False) w v a/\mC P n t a:=by
 obtain⟨fuel,h⟩:=h;obtain⟨ds,h1,h2⟩:=hZ n t _ fuel _ hp h;unfold mC
 split
 ·rename_i fs hu;obtain⟨cs,rfl,_⟩:=okWide_struct hu hv;refine⟨.agg ds,.agg (by rw [h1.1]; rfl) λj hj=>?_,ds,rfl,h2⟩;have:=h1.2 j hj
  have e:(Value.agg cs).cells.toList.getD j undef=cs.getD j undef:=by simp [Value.cells,List.getD,Array.getD];by_cases hj:j<cs.size <;> simp [hj]
  rw [e] at this;exact this
 ·rename_i k e hu;obtain⟨cs,rfl,_⟩:=xg hu hv;refine⟨.agg ds,.agg (by rw [h1.1]; rfl) λj hj=>?_,ds,rfl,h2⟩;have:=h1.2 j hj
  have e:(Value.agg cs).cells.toList.getD j undef=cs.getD j undef:=by simp [Value.cells,List.getD,Array.getD];by_cases hj:j<cs.size <;> simp [hj]
  rw [e] at this;exact this
 ·rename_i hns hna
  have one:∃ x,ds = [x]:=by
   cases n with
   | zero=>simp [tZ] at hp
   | succ n=>
    unfold wP at h2
    split at h2
    ·obtain⟨b,rfl⟩:=h2; exact⟨_,rfl⟩
    ·obtain⟨b,rfl⟩:=h2; exact⟨_,rfl⟩
    ·obtain⟨b,rfl⟩:=h2; exact⟨_,rfl⟩
    ·obtain⟨b,rfl,_⟩:=h2; exact⟨_,rfl⟩
    ·rename_i fs hu; exact absurd hu (hns fs)
    ·rename_i k e hu; exact absurd hu (hna k e)
    ·cases h2
  obtain⟨x,rfl⟩:=one;refine⟨x,?_,h2⟩;have hx:=h1.2 0 (by simp);simp only [ξ] at hx;have hlen:=h1.1
  cases v with
  | agg cs=>
   exfalso;unfold Value.okWide at hv
   split at hv
   ·rename_i fs hu; exact absurd hu (hns fs)
   ·rename_i k e hu; exact absurd hu (hna k e)
   ·rename_i h3 h4
    cases n with
    | zero=>simp [tZ] at hp
    | succ n=>
     unfold tZ at hp;unfold Cell.okWide at hv;split at hp <;> rename_i hu <;> simp [hu,Cell.ok] at hv
     all_goals first | exact absurd hu (hns _) | exact absurd hu (hna _ _) | cases hp
  | _=>simpa [Value.cells] using hx
theorem oz {n:Nat} {b:Nat}:∀ {ts:List TypeId} {vs:List Value} {ds:List (DataW H)} {ps:List MemPlace},(ts.all λt=>tZ P n t)= true->(∀ (j:Nat) t v,ts[j]?=some t->vs[j]?=some v->Value.okWide P w .any b t v) ->
  DataW.TrodAll enc P w 0 sp held ts vs ds ps->∃ as,as.length=vs.length/\vs.length=ts.length/\ds.length=ts.length/\(∀ j,j<as.length->RP (λ_=>False) w (vs.getD j undef) (as.getD j .top))/\ aE P n ts as
 | [],vs,ds,ps,_,_,h=>by obtain⟨rfl,rfl,rfl⟩:=trodAll_nil h;exact⟨[],rfl,rfl,rfl,λj hj=>by simp at hj,rfl⟩
 | t :: ts,vs,ds,ps,hp,hv,h=>by
  obtain⟨v,vs',d,ds',p,q,rfl,rfl,rfl,h1,h2⟩:=trodAll_cons h;simp only [ο,Aa] at hp;obtain⟨a,r1,s1⟩:=Wf hp.1 (hv 0 t v rfl rfl) h1;obtain⟨as,l1,l2,l3,r2,s2⟩:=oz hp.2 (λj t v h1 h2=>hv (j+1) t v h1 h2) h2;refine⟨a :: as,by simp [l1],by simp [l2],by simp [l3],λj hj=>?_,a,as,rfl,s1,s2⟩
  cases j with
  | zero=>exact r1
  | succ j=>exact r2 j (by simpa using hj)
theorem mI (hl:laidOutB P=true) {W W':World} (hb:Below W.heap.size W W'):∀ {ts:List TypeId} {vs:List Value} {ds:List (DataW H)} {ps:List MemPlace},(ts.all λt=>P.readableRec t&&decide (t<P.types.size))= true ->
  (∀ x ∈ ps,x.block<W.heap.size)->DataW.TrodAll enc P W 0 (λ_=>true) true ts vs ds ps->DataW.TrodAll enc P W' 0 (λb=>decide (b<W.heap.size)) true ts vs ds ps
 | [],vs,ds,ps,_,_,h=>by obtain⟨rfl,rfl,rfl⟩:=trodAll_nil h;exact rfl
 | t :: ts,vs,ds,ps,hr,hlt,h=>by obtain⟨v,vs',d,ds',p,q,rfl,rfl,rfl,h1,h2⟩:=trodAll_cons h;simp only [ο,Aa,decide_eq_true_eq] at hr;exact⟨p,q,Below.trod hl hr.1.1 hr.1.2 h1 hb λx hx=>hlt x (by simp [hx]),mI hl hb hr.2 (λx hx=>hlt x (by simp [hx])) h2,rfl⟩
theorem eU {W:World}:∀ {ts:List TypeId} {vs:List Value} {ds:List (DataW H)} {ps:List MemPlace},DataW.TrodAll enc P W 0 sp held ts vs ds ps->∀ x ∈ ps,x.block<W.heap.size
 | [],vs,ds,ps,h=>by obtain⟨rfl,rfl,rfl⟩:=trodAll_nil h;intro x hx; simp at hx
 | t :: ts,vs,ds,ps,h=>by
  obtain⟨v,vs',d,ds',p,q,rfl,rfl,rfl,⟨m,hm⟩,h2⟩:=trodAll_cons h;intro x hx
  rcases List.mem_append.1 hx with hx | hx
  ·exact DataW.trod_lt m _ _ _ hm x hx
  ·exact eU h2 x hx
end
section
variable [vZ]
theorem yA.calls {P:Program} {g:FuncId} {args:List D} {b:Bool} (h:yA P g args (.bool b)) {w:World} {vals:Array Value} (ht:cB w λ_=>False) (hl:vals.size=args.length)
  (hv:∀ j,j<args.length->RP (λ_=>False) w (vals.getD j undef) (args.getD j .top)):Calls P g vals w λe w'=>e = .returned (.bool b)/\ Below w.heap.size w w':=by
 have hM:∀ b,yT (λ_=>False) (λ_=>0) mR b->False:=by
  rintro b (h | ⟨k,o,hk,_⟩)
  ·exact h
  ·cases hk
 have hS:yG (λ_=>False) w mR (λ_=>0):=⟨λb hb=>hb.elim,(λk o hk=>by cases hk),(λk k' o o' hk=>by cases hk),(λk o hk=>by cases hk),ht.yR (Ag _) (λ_ _ _=>rfl) λb _ hb=>hM b hb⟩;refine(h.run _ w _ vals hS hl λj hj=>.pure ((hv j hj).yR (λ_ _ _=>rfl) λb _ hb=>hM b hb)).mono λe w' hh=>?_;obtain⟨v,ι',rfl,k1,k2,k3,k4,k5,k6⟩:=hh;have K0:Kept w w' λ_=>False:=k1.mono λb _ ⟨k,o,hk,_⟩=>by cases hk
 rw [k6.qV];exact⟨rfl,K0.below⟩
end
theorem vx (a:Array Value) (j:Nat) (d:Value):a.getD j d=a.toList.getD j d:=by simp [List.getD,Array.getD];by_cases h:j<a.size <;> simp [h]
theorem ae {H:Type} {enc:TypeId × Value->H} {P:Program} {f:Func} {s:ChangeSpec} {W W':World} {args:Array Value} {ds gs:List (DataW H)} {before:List MemPlace} {tb:TypeId}
  (hl:laidOutB P=true) (hr:(f.params.toList.all λt=>P.readableRec t&&decide (t<P.types.size))= true) (hb:f.resultTypes = #[tb]) (htb:P.underlying tb=some .bool) (hsv:s.vars = [])
  (hW:DataW.Whole enc P f.params.toList s.vars false W args.toList ds gs before) (hs:s.fn H (ds++gs)= { results:=[.lit (.bool true)],args:=ds }) (bel:Below W.heap.size W W') :
  s.post enc P f false true false false W args (.bool true) W':=by
 have hW':=hW;obtain⟨p,q,hA,hV,rfl,hfz,hnd⟩:=hW;rw [hsv] at hV;obtain⟨rfl,rfl⟩:=trodVars_none hV;have hA2:=mI hl bel hr (eU hA) hA
 refine⟨_,_,_,[],p,[],hW',?_,?_,?_,bel.frame _,λh=>by cases h⟩
 ·rw [hs,hb];exact trodAll_mk1 (shut_bool htb _)
 ·rw [hs];exact hA2
 ·rw [hs,hsv];rfl
abbrev dO (i:Nat) (k:DK):xR:=⟨some i,none,k⟩
abbrev dF (i j:Nat) (k:DK):xR:=⟨some i,some (j,false),k⟩
abbrev dT (i j:Nat) (k:DK):xR:=⟨some i,some (j,true),k⟩
abbrev wY.i (n:Int):wY:=.c (.int .i64 n)
abbrev dM (i j:Nat):xR:=⟨some i,none,.mv (.t j)⟩
abbrev dL (i j:Nat):xR:=⟨some i,none,.load 1 false (.t j)⟩
abbrev dG (i n j:Nat):xR:=⟨some i,none,.il n (.t j)⟩
abbrev DC.r (l:List xR) (c:DC):DC:=.seq (.wS [] l) c
abbrev DK.cf (f:FuncId) (l:List wY):DK:=.call (.c (.fn f [])) l
abbrev bT (i:Nat) (o:BinOp) (a b:Nat):xR:=⟨some i,none,.bin o (.t a) (.t b)⟩
abbrev bI (i:Nat) (o:BinOp) (a:Nat) (n:Int):xR:=⟨some i,none,.bin o (.t a) (.i n)⟩
abbrev dI (i n a b:Nat):xR:=⟨some i,none,.idx n (.t a) (.t b)⟩
abbrev dN (i a:Nat):xR:=⟨some i,none,.len (.t a)⟩
abbrev fG (i j n a:Nat):xR:=⟨some i,some (j,false),.il n (.t a)⟩
abbrev fL (i j a:Nat):xR:=⟨some i,some (j,false),.load 1 false (.t a)⟩
abbrev fN (i j a:Nat):xR:=⟨some i,some (j,false),.len (.t a)⟩
abbrev fM (i j a:Nat):xR:=⟨some i,some (j,false),.mv (.t a)⟩
abbrev dP (i a b:Nat):xR:=⟨some i,none,.pick (.t a) (.c (.bool true)) (.t b)⟩
abbrev dE (i a n:Nat):xR:=⟨some i,none,.yu (.t a) n⟩
abbrev sQ (n a b:Nat):xR:=⟨none,none,.store n (.t a) (.t b)⟩
abbrev dV (i:Nat) (b:Bool):xR:=⟨some i,none,.mv (.c (.bool b))⟩
abbrev dJ (i:Nat) (n:Int):xR:=⟨some i,none,.mv (.i n)⟩
abbrev dA (i n a:Nat):xR:=⟨some i,none,.load n true (.t a)⟩
abbrev DC.w (a b:Nat) (c:DC):DC:=.seq (.cond (.t a) .skip (.exit b)) c
abbrev DC.g (l:List xR):DC:=.wS [] l
abbrev dX (i a:Nat):xR:=⟨some i,none,.box (.t a)⟩
abbrev tL (i j a:Nat):xR:=⟨some i,some (j,true),.load 1 false (.t a)⟩
abbrev tG (i j n a:Nat):xR:=⟨some i,some (j,true),.il n (.t a)⟩
abbrev tM (i j a:Nat):xR:=⟨some i,some (j,true),.mv (.t a)⟩
abbrev dK (i a:Nat):xR:=⟨some i,none,.jb (.t a)⟩
abbrev dH (i a:Nat):xR:=⟨some i,none,.nt (.t a)⟩
abbrev dQ (i a b:Nat):xR:=⟨some i,none,.pick (.t a) (.t b) (.c (.bool false))⟩
abbrev dZ (i:Nat):xR:=⟨some i,none,.mv (.c .xZ)⟩
abbrev dB (i f a:Nat):xR:=⟨some i,none,.cf f [.t a]⟩
abbrev dD (i f a b:Nat):xR:=⟨some i,none,.cf f [.t a,.t b]⟩
abbrev fB (i j:Nat) (o:BinOp) (a:Nat) (n:Int):xR:=⟨some i,some (j,false),.bin o (.t a) (.i n)⟩
abbrev CT :=Nat × DC × List pT
abbrev DC.x (a b:Nat):DC:=.cond (.t a) .skip (.exit b)
abbrev DC.n (a b c:Nat):DC:=.g [dM a b,bI c .add a 1,dM b c]
abbrev DC.q (a:Nat) (c d:DC):DC:=.cond (.t a) c d
abbrev DC.u (i:Nat) (n:Int):DC:=.r [dJ i n] .ret
abbrev DC.v (i:Nat) (b:Bool):DC:=.r [dV i b] .ret
abbrev DC.l (n:Nat) (c:DC):DC:=.block n (.loop c)
abbrev wY.u (n:Int):wY:=.c (.int .u64 n)
abbrev iZ : D:=.int .i64 0
def zS :=γ @D.int.injEq (γ @D.bool.injEq (γ @D.sl.injEq (γ @and_true (γ @true_and @and_self))))
def zW.{u} :=γ @ne_eq.{u} (γ @forall_const.{u} (γ @implies_true.{u} @forall_eq.{u}))
section
variable [vZ]
def zU :=γ @pP.eq_1 (γ @o7.eq_1 (γ @VV.eq_1 (γ @nX.eq_1 (γ @nX.eq_2 (γ @qZ.eq_1 (γ @qZ.eq_2 (γ @dR.eq_1 (γ @dR.eq_2 (γ @dR.eq_3 (γ @dR.eq_4 (γ @dR.eq_5 (γ @dR.eq_6 (γ @dR.eq_7 (γ @dR.eq_8 (γ @dR.eq_9 (γ @dR.eq_10 (γ @dR.eq_11 (γ @dR.eq_12 (γ @dR.eq_13 (γ @dR.eq_14 (γ @dR.eq_15 (γ @vO.eq_1 (γ @vO.eq_2 (γ @vO.eq_3 (γ @vO.eq_4 (γ @vO.eq_5 (γ @vO.eq_6 (γ @vO.eq_7 (γ @vO.eq_8 (γ @vO.eq_9 (γ @vO.eq_10 (γ @vO.eq_11 (γ @vO.eq_12 (γ @vO.eq_13 (γ @vO.eq_14 (γ @vO.eq_15 (γ @pX.eq_1 (γ @pX.eq_2 (γ @pX.eq_3 (γ @pX.eq_4 (γ @pX.eq_5 (γ @pX.eq_6 (γ @pX.eq_7 (γ @pX.eq_8 (γ @pW.eq_1 (γ @pW.eq_2 (γ @pW.eq_3 (γ @pW.eq_4 (γ @pW.eq_5 (γ @pW.eq_6 (γ @pW.eq_7 (γ @pW.eq_8 (γ @pW.eq_9 (γ @pW.eq_10 (γ @pW.eq_11 (γ @pW.eq_12 (γ @pW.eq_13 (γ @pW.eq_14 (γ @pW.eq_15 (γ @pW.eq_16 (γ @pW.eq_17 (γ @pW.eq_18 (γ @pW.eq_19 (γ @pW.eq_20 (γ @pW.eq_21 (γ @pW.eq_22 (γ @pW.eq_23 (γ @pW.eq_24 (γ @pW.eq_25 (γ @pW.eq_26 (γ @pW.eq_27 (γ @pW.eq_28 (γ @ZS.eq_1 (γ @ZT.eq_1 (γ @SP.eq_1 (γ @mP.eq_1 @cN.eq_1))))))))))))))))))))))))))))))))))))))))))))))))))))))))))))))))))))))))))))
def zQ :=γ @tV.eq_1 (γ @tV.eq_2 (γ @tV.eq_3 (γ @vw.eq_1 (γ @vw.eq_2 (γ @vw.eq_3 (γ @vw.eq_4 (γ @vw.eq_5 (γ @vw.eq_6 (γ @vw.eq_7 (γ @vw.eq_8 (γ @vw.eq_9 (γ @vw.eq_10 (γ @vw.eq_11 (γ @vw.eq_12 (γ @vw.eq_13 (γ @vw.eq_14 (γ @vw.eq_15 (γ @vw.eq_16 (γ @vw.eq_17 (γ @vw.eq_18 (γ @xd.eq_1 (γ @xd.eq_2 (γ @sw.eq_1 (γ @sw.eq_2 (γ @St.get.eq_1 (γ @St.look.eq_1 (γ @St.look.eq_2 (γ @Fr.get.eq_1 @Fr.get.eq_2))))))))))))))))))))))))))))
def zV :=γ @mR.eq_1 (γ @pO.eq_1 (γ @pO.eq_2 (γ @sU.eq_1 (γ @sU.eq_2 (γ @sU.eq_3 (γ @sU.eq_4 (γ @sU.eq_5 (γ @sU.eq_6 (γ @sU.eq_7 (γ @sU.eq_8 (γ @sU.eq_9 (γ @sU.eq_10 (γ @sU.eq_11 (γ @sU.eq_12 (γ @sU.eq_13 (γ @sU.eq_14 (γ @sU.eq_15 (γ @sU.eq_16 (γ @sU.eq_17 (γ @yg.eq_1 (γ @qO.eq_1 (γ @qO.eq_2 (γ @qO.eq_3 (γ @qO.eq_4 (γ @qO.eq_5 (γ @qO.eq_6 (γ @rV.eq_1 (γ @rV.eq_2 (γ @o9.eq_1 (γ @yI.eq_1 (γ @qE.eq_1 (γ @qE.eq_2 (γ @Tj.eq_1 (γ @mM.eq_1 (γ @mM.eq_2 (γ @jD.eq_1 (γ @jD.eq_2 (γ @List.replicate.eq_1.{0} (γ @List.replicate.eq_2.{0} (γ @rowsOf.eq_1 (γ @rowsOf.eq_2 (γ @rowsOf.eq_3 (γ @rowsOf.eq_4 @rowsOf.eq_5)))))))))))))))))))))))))))))))))))))))))))
end
theorem sd {p q:Prop} (b:q) (a:p:=by first | omega | exact np _ | exact Int.natCast_nonneg _ | rfl | exact bS _ _ | exact fx _ | (intro _ h; cases h; done)):p/\q:=⟨a,b⟩
theorem rT.dv {n0 n:Nat} {σ:St} {d d':D} (hn:n0<=n:=by simp) (h:vw σ ⟨n,[]⟩ (λk=>k) d d':=by simp [vw]):rT n0 σ d ⟨n,[]⟩ d':=.drop hn h
section
variable [vZ]
theorem cr {P:Program} {g:FuncId} {args:List D} {d:D} {s:St} (hc:yA P g args d) (hp:D.xT args=true:=by simp [D.xT,D.xJ]):xS P g args s d s:=xS.vV hc hp
theorem cq {P:Program} {g:FuncId} {args:List D} {d:D} {s:St} (hc:yA P g args d) (hp:D.xT args=true:=by rfl):xS P g args s d s:=xS.vV hc hp
end
end Go.Pd
