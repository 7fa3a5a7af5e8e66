/- Part X6. -/
import Derived.Test.YtjklmijiccabfaaGreatRX5
import Derived.Carry
import Derived.ChangeArms
import Derived.Deep.Slices
import Derived.ProofKit
import Derived.OpenShut
set_option linter.unusedSectionVars false
set_option linter.unusedVariables false
set_option linter.unusedSimpArgs false
set_option linter.defProp false
namespace Go.Pd
open Go
def ui (s:BitVec 64):Int:=s.toNat
theorem ui_nonneg (s:BitVec 64):0<=ui s:=by unfold ui; omega
theorem ui_inj {s t:BitVec 64}:ui s=ui t ↔ s=t:=by
 unfold ui
 constructor
 ·intro h; exact BitVec.eq_of_toNat_eq (by omega)
 ·rintro rfl; rfl
theorem ui_of {n:Int} (h0:0<=n) (h1:n<18446744073709551616):ui (BitVec.ofInt 64 n)= n:=by
 unfold ui
 rw [BitVec.toNat_ofInt]
 have:n % 2 ^ 64=n:=Int.emod_eq_of_lt h0 (by omega)
 omega
theorem ofInt_ui (s:BitVec 64):BitVec.ofInt 64 (ui s)= s:=by
 unfold ui
 rw [BitVec.ofInt_natCast]
 simp
theorem wrap_toNat (s:BitVec 64):IntKind.u64.wrap (s.toNat:Int)= ui s:=by
 unfold ui
 have:=s.isLt
 exact wrap_u64 ⟨by omega,by omega⟩
theorem ui_and (s t:BitVec 64):bitI .and .u64 (ui s) (ui t)= ui (s &&& t):=by
 show IntKind.u64.wrap ((BitVec.ofInt 64 (ui s)&&& BitVec.ofInt 64 (ui t)).toNat:Int)= _
 rw [ofInt_ui,ofInt_ui,wrap_toNat]
theorem ui_or (s t:BitVec 64):bitI .or .u64 (ui s) (ui t)= ui (s ||| t):=by
 show IntKind.u64.wrap ((BitVec.ofInt 64 (ui s) ||| BitVec.ofInt 64 (ui t)).toNat:Int)= _
 rw [ofInt_ui,ofInt_ui,wrap_toNat]
theorem ui_xor (s t:BitVec 64):bitI .xor .u64 (ui s) (ui t)= ui (s ^^^ t):=by
 show IntKind.u64.wrap ((BitVec.ofInt 64 (ui s)^^^ BitVec.ofInt 64 (ui t)).toNat:Int)= _
 rw [ofInt_ui,ofInt_ui,wrap_toNat]
theorem ui_andNot (s t:BitVec 64):bitI .andNot .u64 (ui s) (ui t)= ui (s &&& ~~~t):=by
 show IntKind.u64.wrap ((BitVec.ofInt 64 (ui s)&&& ~~~BitVec.ofInt 64 (ui t)).toNat:Int)= _
 rw [ofInt_ui,ofInt_ui,wrap_toNat]
theorem wrap_int (n:Int):IntKind.u64.wrap n=ui (BitVec.ofInt 64 n):=by
 unfold ui
 rw [BitVec.toNat_ofInt]
 simp [IntKind.wrap,IntKind.signed,IntKind.bits]
 omega
theorem ui_add (s t:BitVec 64):IntKind.u64.wrap (ui s+ui t)= ui (s+t):=by
 rw [wrap_int,BitVec.ofInt_add,ofInt_ui,ofInt_ui]
theorem ui_sub (s t:BitVec 64):IntKind.u64.wrap (ui s-ui t)= ui (s-t):=by
 rw [wrap_int]
 congr 1
 rw [Int.sub_eq_add_neg,BitVec.ofInt_add,BitVec.ofInt_neg,ofInt_ui,ofInt_ui,BitVec.sub_eq_add_neg]
theorem ui_mul (s t:BitVec 64):IntKind.u64.wrap (ui s*ui t)= ui (s*t):=by
 rw [wrap_int,BitVec.ofInt_mul,ofInt_ui,ofInt_ui]
theorem ui_shl (s:BitVec 64) (k:Int):shlI .u64 (ui s) k=ui (s <<< k.toNat):=by
 unfold shlI
 rw [wrap_int]
 congr 1
 rw [BitVec.ofInt_mul,ofInt_ui]
 show s*BitVec.ofInt 64 (2 ^ min k.toNat 64)= _
 apply BitVec.eq_of_toNat_eq
 rw [BitVec.toNat_mul,BitVec.toNat_shiftLeft,Nat.shiftLeft_eq]
 have e:(BitVec.ofInt 64 (2 ^ min k.toNat 64)).toNat=2 ^ min k.toNat 64 % 2 ^ 64:=by
  have:((2:Int)^ min k.toNat 64)= ((2 ^ min k.toNat 64:Nat):Int):=by norm_cast
  rw [this,BitVec.ofInt_natCast,BitVec.toNat_ofNat]
 rw [e,Nat.mul_mod_mod]
 rcases Nat.lt_or_ge k.toNat 64 with h | h
 ·rw [Nat.min_eq_left (by omega)]
 ·rw [Nat.min_eq_right h]
  obtain⟨m,hm⟩:=Nat.exists_eq_add_of_le h
  rw [hm,Nat.pow_add,<- Nat.mul_assoc,Nat.mul_right_comm]
  simp
theorem ui_shr (s:BitVec 64) (k:Int):shrI .u64 (ui s) k=ui (s >>> k.toNat):=by
 unfold shrI ui
 rw [BitVec.toNat_ushiftRight,Nat.shiftRight_eq_div_pow]
 show (s.toNat:Int).fdiv (2 ^ min k.toNat 64)= _
 have:((2:Int)^ min k.toNat 64)= ((2 ^ min k.toNat 64:Nat):Int):=by norm_cast
 rw [this,Int.fdiv_eq_ediv_of_nonneg _ (Int.natCast_nonneg _),<- Int.natCast_ediv]
 congr 1
 rcases Nat.lt_or_ge k.toNat 64 with h | h
 ·rw [Nat.min_eq_left (by omega)]
 ·rw [Nat.min_eq_right h]
  have h1:=s.isLt
  rw [Nat.div_eq_of_lt h1,Nat.div_eq_of_lt (Nat.lt_of_lt_of_le h1 (Nat.pow_le_pow_right (by omega) h))]
theorem ui_rem (s t:BitVec 64):(ui s).tmod (ui t)= ui (s % t):=by
 unfold ui
 rw [BitVec.toNat_umod,Int.tmod_eq_emod_of_nonneg (by omega),Int.natCast_emod]
theorem ui_beq (s t:BitVec 64):(ui s==ui t)= (s==t):=by
 by_cases h:s=t
 ·subst h; simp
 ·have:ui s≠ui t:=fun e=>h (ui_inj.1 e)
  rw [beq_eq_false_iff_ne.2 this,beq_eq_false_iff_ne.2 h]
theorem ui_bne (s t:BitVec 64):(ui s != ui t)= (s != t):=by simp only [bne,ui_beq]
theorem lit0 : D.int .u64 0=D.int .u64 (ui 0#64):=rfl
theorem lit1 : D.int .u64 1=D.int .u64 (ui 1#64):=rfl
theorem lit2 : D.int .u64 2=D.int .u64 (ui 2#64):=rfl
theorem litm : D.int .u64 18446744073709551615=D.int .u64 (ui 18446744073709551615#64):=rfl
theorem ui2_ne : ui 2#64≠0:=by decide
def us (l:List (BitVec 64)):List (List D):=l.map fun s=>[.int .u64 (ui s)]
def sets (l:List (BitVec 64)):D:=.sl 1 (us l)
theorem us_len (l:List (BitVec 64)):(us l).length=l.length:=by simp [us]
theorem us_nil : us [] = []:=rfl
theorem us_cons (s:BitVec 64) (l:List (BitVec 64)):us (s :: l)= [.int .u64 (ui s)] :: us l:=rfl
theorem us_get (l:List (BitVec 64)) {i:Nat} (h:i<l.length):(us l).getD i [] = [.int .u64 (ui (l.getD i 0))]:=by simp [us,List.getD,h]
theorem us_pure (l:List (BitVec 64)):∀ e ∈ us l,D.isPureL e=true:=by
 intro e he
 simp only [us,List.mem_map] at he
 obtain⟨n,_,rfl⟩:=he
 rfl
theorem us_one (l:List (BitVec 64)):∀ e ∈ us l,oneAll e=true:=by
 intro e he
 simp only [us,List.mem_map] at he
 obtain⟨n,_,rfl⟩:=he
 rfl
theorem us_take (l:List (BitVec 64)) (n:Nat):(us l).take n=us (l.take n):=by simp [us,List.map_take]
theorem us_snoc (l:List (BitVec 64)) (s:BitVec 64):us l ++ [[.int .u64 (ui s)]]=us (l ++ [s]):=by simp [us]
theorem us_set (l:List (BitVec 64)) (i:Nat) (s:BitVec 64):(us l).set i [.int .u64 (ui s)]=us (l.set i s):=by simp [us,List.map_set]
theorem us_of : ∀ {els:List (List D)},(∀ e ∈ els,∃ n:Int,e = [.int .u64 n])->D.factE els->∃ l,els=us l
 | [],_,_=>⟨[],rfl⟩
 | e :: r,h,hf=>by
  obtain⟨n,rfl⟩:=h e (by simp)
  obtain⟨l,rfl⟩:=us_of (fun e he=>h e (by simp [he])) hf.2
  have h1:=hf.1
  simp only [D.factL,D.fact,and_true] at h1
  obtain⟨h1,h2⟩:=h1
  refine⟨BitVec.ofInt 64 n :: l,?_⟩
  have:ui (BitVec.ofInt 64 n)= n:=ui_of (by simpa [IntKind.min,IntKind.signed] using h1) (by have:IntKind.u64.max=18446744073709551615:=rfl; omega)
  simp [us,this]
theorem packD_one (d:D):packD false [d]=d:=rfl
theorem packD_agg (cs:List D):packD true cs = .agg cs:=rfl
def growD (key sz:Nat):List (List D)->D
 | []=>.nils
 | e :: r=>.osl key sz (e :: r).length
def growO (key sz:Nat):List (List D)->List (Nat × Ob)
 | []=>[]
 | e :: r=>[(key,⟨sz,e :: r⟩)]
end Go.Pd
namespace Go.Pd
open Go
variable [Tabs]
def sameF (f:Fr):Fr->Prop
 | []=>True
 | (t,d) :: r=>f.get t=d/\sameF f r
omit [Tabs] in
theorem sameF_get {f:Fr}:∀ {f':Fr},sameF f f'->∀ t,f'.get t = .top\/f'.get t=f.get t
 | [],_,t=>.inl rfl
 | (s,d) :: r,h,t=>by
  simp only [Fr.get]
  split
  ·rename_i e; subst e; exact .inr h.1.symm
  ·exact sameF_get h.2 t
theorem Weak.same {C:Cx} {f f':Fr} {σ:St} (h:sameF f f'):Weak C f σ f' σ:=Weak.frame (sameF_get h)
end Go.Pd
namespace Go.Pd
open Go
def rr (ll:List (List (BitVec 64))):List (List D):=ll.map fun l=>[sets l]
def rels (ll:List (List (BitVec 64))):D:=.sl 1 (rr ll)
theorem rr_len (l:List (List (BitVec 64))):(rr l).length=l.length:=by simp [rr]
theorem rr_take (l:List (List (BitVec 64))) (n:Nat):(rr l).take n=rr (l.take n):=by simp [rr,List.map_take]
theorem rr_pure (l:List (List (BitVec 64))):∀ e ∈ rr l,D.isPureL e=true:=by
 intro e he
 simp only [rr,List.mem_map] at he
 obtain⟨n,_,rfl⟩:=he
 simp [D.isPureL,D.isPure,sets]
end Go.Pd
namespace Go.Pd
open Go
theorem RetV.same {n0:Nat} {σ:St} {d:D}:RetV n0 σ d σ d:=.inl ⟨rfl,rfl⟩
theorem RetV.drop {n0 n:Nat} {σ:St} {d d':D} (hn:n0<=n) (h:vw σ ⟨n,[]⟩ (fun k=>k) d d'):RetV n0 σ d ⟨n,[]⟩ d':=
 .inr ⟨fun k=>k,hn,fun _ _=>rfl,h,by simp [stays],by simp [apartNames]⟩
end Go.Pd
namespace Go.Pd
open Go
universe u
variable [Tabs]
def atK (σ:St) (K:D->St->Prop) (d:D):Prop:=K d σ
def putK (f:Fr) (dst:Option Nat) (K:Fr->St->Prop) (d:D) (σ:St):Prop:=K (f.put dst d) σ
def putP (f:Fr) (dst:Option Nat) (K:Fr->Prop) (d:D):Prop:=K (f.put dst d)
def normK (Q:Exit->Fr->St->Prop) (f:Fr) (σ:St):Prop:=Q .normal f σ
def gdB (d:D) (want:Bool) (yes no:Prop):Prop:=
 match d with
 | .bool b=>if b=want then yes else no
 | .und=>no
 | _=>False
theorem gdB_bool (b want:Bool) (yes no:Prop):gdB (.bool b) want yes no=if b=want then yes else no:=rfl
theorem gdB_und (want:Bool) (yes no:Prop):gdB .und want yes no=no:=rfl
@[congr] theorem gdB_congr {d d' : D} {want : Bool} {yes no : Prop} (h : d = d') : gdB d want yes no = gdB d' want yes no := by rw [h]
def gd (g:Option (Nat × Bool)) (f:Fr) (yes no:Prop):Prop:=
 match g with
 | none=>yes
 | some (j,want)=>gdB (f.get j) want yes no
theorem gd_none (f:Fr) (yes no:Prop):gd none f yes no=yes:=rfl
theorem gd_some (j:Nat) (want:Bool) (f:Fr) (yes no:Prop):gd (some (j,want)) f yes no=gdB (f.get j) want yes no:=rfl
theorem gd_eq (o:DOp) (f:Fr) (yes no:Prop):guardW o f yes no=gd o.guard f yes no:=by
 unfold guardW gd
 split
 ·rename_i h; rw [h]
 ·rename_i h; rw [h]; rfl
def appW (q:Bool) (σ:St) (sz bytes:Nat) (x:D) (y:Option (List (List D))) (K:D->St->Prop):Prop:=
 match y with
 | none=>False
 | some rows=>(∀ r ∈ rows,oneAll r=true)/\ match x with
  | .nils=>rows.length*bytes<=140737488355328/\rows.length<=1000000000000/\(rows = []->K .nils σ)/\ (rows ≠ []->K (.osl σ.nx sz rows.length) (σ.new ⟨sz,rows⟩))
  | .osl key sz' n=>match σ.get key with
   | some ob=>sz=sz'/\ob.sz=sz/\n<=ob.els.length/\(n+rows.length)* bytes<=140737488355328/\n+rows.length<=1000000000000 /\
    K (.osl σ.nx sz (n+rows.length)) ((σ.erase key).new ⟨sz,ob.els.take n++rows⟩)
   | none=>False
  | .sub key sz' lo n=>match σ.get key with
   | some ob=>q=true/\sz=sz'/\ob.sz=sz/\lo+n<=ob.els.length/\(n+rows.length)* bytes<=140737488355328/\n+rows.length<=1000000000000 /\
    ∀ pre:List (List D),(pre = []\/pre=ob.els.take lo)->K (.sub σ.nx sz pre.length (n+rows.length)) ((σ.erase key).new ⟨sz,pre++((ob.els.drop lo).take n++rows)⟩)
   | none=>False
  | _=>False
def stoW (σ:St) (n:Nat) (a:D) (x:Option (List D)) (K:D->St->Prop):Prop:=
 match a,x with
 | .ref key sz i off,some ds=>match σ.get key with
  | some ob=>ob.sz=sz/\i<ob.els.length/\ds.length=n/\off+n<=sz/\oneAll ds=true/\K .und (σ.set key ⟨sz,ob.els.set i (setD (ob.els.getD i []) off ds)⟩)
  | none=>False
 | _,_=>False
def lenW (x:D) (K:D->Prop):Prop:=
 match x with
 | .sl _ els=>K (.int .i64 els.length)
 | .osl _ _ n=>K (.int .i64 n)
 | .sub _ _ _ n=>K (.int .i64 n)
 | .nils=>K (.int .i64 0)
 | .emp=>K (.int .i64 0)
 | _=>False
def idxW (sz:Nat) (x i:D) (K:D->Prop):Prop:=
 match x,i with
 | .sl sz' els,.int _ n=>sz=sz'/\0<=n/\n<els.length/\K (.ptr (els.getD n.toNat []))
 | .osl key sz' len,.int _ n=>sz=sz'/\0<=n/\n<len/\K (.ref key sz n.toNat 0)
 | .sub key sz' lo len,.int _ n=>sz=sz'/\0<=n/\n<len/\K (.ref key sz (lo+n.toNat) 0)
 | _,_=>False
def nileqW (neg:Bool) (x y:D) (K:D->Prop):Prop:=
 match x,y with
 | .nils,.nils=>K (.bool (!neg))
 | .osl ..,.nils | .nils,.osl ..=>K (.bool neg)
 | .emp,.nils | .nils,.emp=>K (.bool neg)
 | .sl _ (_ :: _),.nils=>K (.bool neg)
 | _,_=>False
def loadW (σ:St) (n:Nat) (ag:Bool) (x:D) (K:D->Prop):Prop:=
 match x with
 | .ref key sz i off=>match σ.get key with
  | some o=>o.sz=sz/\i<o.els.length/\off+n<=sz/\(ag=true\/n=1)/\ K (packD ag (((o.els.getD i []).drop off).take n))
  | none=>False
 | .ptr cs=>n<=cs.length/\(ag=true\/n=1)/\ K (packD ag (cs.take n))
 | _=>False
def nckW (x:D) (K:D->Prop):Prop:=
 match x with
 | .ref key sz i off=>K (.ref key sz i off)
 | .ptr cs=>K (.ptr cs)
 | .fn f cs=>K (.fn f cs)
 | _=>False
@[congr] theorem nckW_congr {x x' : D} {K : D -> Prop} (h : x = x') : nckW x K = nckW x' K := by rw [h]
theorem nckW_ref {key sz i off:Nat} {K:D->Prop}:nckW (.ref key sz i off) K=K (.ref key sz i off):=rfl
theorem nckW_ptr {cs:List D} {K:D->Prop}:nckW (.ptr cs) K=K (.ptr cs):=rfl
theorem nckW_fn {f:FuncId} {cs:List D} {K:D->Prop}:nckW (.fn f cs) K=K (.fn f cs):=rfl
def mgetW (σ:St) (zero:D) (ok:Bool) (m k:D) (K:D->Prop):Prop:=
 match m,k with
 | .mref key,.int kk x=>match σ.get key with
  | some o=>o.sz=0/\keysK kk o.els/\K (mres ok zero (mfind x o.els 0))
  | none=>False
 | .nilm,.int _ _=>K (mres ok zero none)
 | _,_=>False
def mputW (σ:St) (m k x:D) (K:D->St->Prop):Prop:=
 match m,k with
 | .mref key,.int kk y=>match σ.get key with
  | some o=>o.sz=0/\keysK kk o.els/\K .und (σ.set key ⟨0,mputE kk o.els y x⟩)
  | none=>False
 | _,_=>False
def mgetsW (σ:St) (n:Nat) (zero:D) (ok:Bool) (m k:D) (K:D->Prop):Prop:=
 match m,k with
 | .mref key,.agg cs=>match σ.get key with
  | some o=>o.sz=0/\∃ (x:List Int) (l:List (List Int × D)),(cs=x.map (D.int .i64)/\ o.els=arow l/\x.length=n/\∀ p ∈ l,p.1.length=n)/\ K (mres ok zero (afindL x l 0))
  | none=>False
 | _,_=>False
def mputsW (σ:St) (n:Nat) (m k x:D) (K:D->St->Prop):Prop:=
 match m,k with
 | .mref key,.agg cs=>match σ.get key with
  | some o=>o.sz=0/\∃ (y:List Int) (l:List (List Int × D)),(cs=y.map (D.int .i64)/\ o.els=arow l/\(y.length=n/\∀ p ∈ l,p.1.length=n))/\ K .und (σ.set key ⟨0,arow (aputL y x l)⟩)
  | none=>False
 | _,_=>False
def mentW (σ:St) (zero m k:D) (K:D->St->Prop):Prop:=
 match m,k with
 | .mref key,.int kk y=>match σ.get key with
  | some o=>o.sz=0/\keysK kk o.els/\o.els.length<=1000000000/\(match mfind y o.els 0 with
   | some (i,d)=>K (.tup [d,.int .i64 i]) (σ.set key ⟨0,o.els⟩)
   | none=>K (.tup [zero,.int .i64 o.els.length]) (σ.set key ⟨0,o.els ++ [[.int kk y,zero]]⟩))
  | none=>False
 | _,_=>False
def estoW (σ:St) (m s x:D) (K:D->St->Prop):Prop:=
 match m,s with
 | .mref key,.int _ i=>match σ.get key with
  | some o=>o.sz=0/\0<=i/\i<o.els.length/\(∃ kk y d,o.els.getD i.toNat [] = [.int kk y,d]/\K .und (σ.set key ⟨0,o.els.set i.toNat [.int kk y,x]⟩))
  | none=>False
 | _,_=>False
@[congr] theorem mgetW_congr {σ : St} {zero : D} {ok : Bool} {m m' k k' : D} {K : D -> Prop} (h : m = m') (h' : k = k') : mgetW σ zero ok m k K = mgetW σ zero ok m' k' K := by rw [h, h']
@[congr] theorem mputW_congr {σ : St} {m m' k k' x x' : D} {K : D -> St -> Prop} (h : m = m') (h' : k = k') (h2 : x = x') : mputW σ m k x K = mputW σ m' k' x' K := by rw [h, h', h2]
@[congr] theorem mgetsW_congr {σ : St} {n : Nat} {zero : D} {ok : Bool} {m m' k k' : D} {K : D -> Prop} (h : m = m') (h' : k = k') : mgetsW σ n zero ok m k K = mgetsW σ n zero ok m' k' K := by rw [h, h']
@[congr] theorem mputsW_congr {σ : St} {n : Nat} {m m' k k' x x' : D} {K : D -> St -> Prop} (h : m = m') (h' : k = k') (h2 : x = x') : mputsW σ n m k x K = mputsW σ n m' k' x' K := by rw [h, h', h2]
@[congr] theorem mentW_congr {σ : St} {zero m m' k k' : D} {K : D -> St -> Prop} (h : m = m') (h' : k = k') : mentW σ zero m k K = mentW σ zero m' k' K := by rw [h, h']
@[congr] theorem estoW_congr {σ : St} {m m' k k' x x' : D} {K : D -> St -> Prop} (h : m = m') (h' : k = k') (h2 : x = x') : estoW σ m k x K = estoW σ m' k' x' K := by rw [h, h', h2]
@[congr] theorem appW_congr {q : Bool} {σ : St} {sz bytes : Nat} {x x' : D} {y y' : Option (List (List D))} {K : D -> St -> Prop} (h : x = x') (h' : y = y') : appW q σ sz bytes x y K = appW q σ sz bytes x' y' K := by rw [h, h']
@[congr] theorem stoW_congr {σ : St} {n : Nat} {x x' : D} {y y' : Option (List D)} {K : D -> St -> Prop} (h : x = x') (h' : y = y') : stoW σ n x y K = stoW σ n x' y' K := by rw [h, h']
@[congr] theorem lenW_congr {x x' : D} {K : D -> Prop} (h : x = x') : lenW x K = lenW x' K := by rw [h]
@[congr] theorem idxW_congr {sz : Nat} {x x' i i' : D} {K : D -> Prop} (h : x = x') (h' : i = i') : idxW sz x i K = idxW sz x' i' K := by rw [h, h']
@[congr] theorem nileqW_congr {neg : Bool} {x x' i i' : D} {K : D -> Prop} (h : x = x') (h' : i = i') : nileqW neg x i K = nileqW neg x' i' K := by rw [h, h']
@[congr] theorem loadW_congr {σ : St} {n : Nat} {ag : Bool} {x x' : D} {K : D -> Prop} (h : x = x') : loadW σ n ag x K = loadW σ n ag x' K := by rw [h]
def pX (C:Cx) (σ:St) (ev:Opd->D) (k:DK) (K:D->Prop):Prop:=
 match k with
 | .len x=>lenW (ev x) K
 | .idx sz x i=>idxW sz (ev x) (ev i) K
 | .nileq neg x y=>nileqW neg (ev x) (ev y) K
 | .load n ag x=>loadW σ n ag (ev x) K
 | .mget zero ok m k=>mgetW σ zero ok (ev m) (ev k) K
 | .mgets n zero ok m k=>mgetsW σ n zero ok (ev m) (ev k) K
 | .nck x=>nckW (ev x) K
 | k=>pW C σ ev k K
theorem pX_eq (C:Cx) (σ:St) (ev:Opd->D) (k:DK) (K:D->Prop):pX C σ ev k K=pW C σ ev k K:=by
 cases k <;> rfl
def opX (C:Cx) (σ:St) (ev:Opd->D) (k:DK) (K:D->St->Prop):Prop:=
 match k with
 | .box x=>opV C σ ev (.box x) K
 | .alloc z=>opV C σ ev (.alloc z) K
 | .store n a x=>stoW σ n (ev a) (ev x).cells K
 | .app sz bytes x y=>appW (C.own.contains 77777) σ sz bytes (ev x) (rowsOf σ sz (ev y)) K
 | .mksl sz bytes zero len cap=>opV C σ ev (.mksl sz bytes zero len cap) K
 | .olit sz len zero parts=>opV C σ ev (.olit sz len zero parts) K
 | .clr zero x=>opV C σ ev (.clr zero x) K
 | .call fn args=>opV C σ ev (.call fn args) K
 | .mkm=>opV C σ ev .mkm K
 | .mput m k x=>mputW σ (ev m) (ev k) (ev x) K
 | .mputs n m k x=>mputsW σ n (ev m) (ev k) (ev x) K
 | .ment zero m k=>mentW σ zero (ev m) (ev k) K
 | .esto m s x=>estoW σ (ev m) (ev s) (ev x) K
 | k=>pX C σ ev k (atK σ K)
theorem opX_eq (C:Cx) (σ:St) (ev:Opd->D) (k:DK) (K:D->St->Prop):opX C σ ev k K=opV C σ ev k K:=by
 cases k <;> first | rfl | (show pX _ _ _ _ _=_; rw [pX_eq]; rfl)
def opsX (C:Cx):List DOp->(Fr->St->Prop)->Fr->St->Prop
 | [],K,f,σ=>K f σ
 | ⟨dst,g,k⟩ :: rest,K,f,σ=>gd g f (opX C σ (evO f) k (putK f dst (opsX C rest K))) (opsX C rest K (f.put dst .und) σ)
theorem opsX_eq (C:Cx) (K:Fr->St->Prop):∀ (ops:List DOp) (f:Fr) (σ:St),opsX C ops K f σ=opsW C ops f σ K
 | [],f,σ=>rfl
 | o :: rest,f,σ=>by
  have ih:opsX C rest K=fun f σ=>opsW C rest f σ K:=by funext f σ; exact opsX_eq C K rest f σ
  unfold opsX opsW
  rw [gd_eq,opX_eq,ih]
  rfl
def preX (C:Cx) (σ:St):List DOp->(Fr->Prop)->Fr->Prop
 | [],K,f=>K f
 | ⟨dst,g,k⟩ :: rest,K,f=>gd g f (pX C σ (evO f) k (putP f dst (preX C σ rest K))) (preX C σ rest K (f.put dst .und))
theorem preX_eq (C:Cx) (σ:St) (K:Fr->Prop):∀ (ops:List DOp) (f:Fr),preX C σ ops K f=preW C σ ops f K
 | [],f=>rfl
 | o :: rest,f=>by
  have ih:preX C σ rest K=fun f=>preW C σ rest f K:=by funext f; exact preX_eq C σ K rest f
  unfold preX preW
  rw [gd_eq,pX_eq,ih]
  rfl
def postK (C:Cx) (post:List DOp) (Q:Exit->Fr->St->Prop) (σ:St) (f:Fr):Prop:=opsX C post (normK Q) f σ
def cdB (d:D) (p q:Prop):Prop:=
 match d with
 | .bool t=>if t=true then p else q
 | _=>False
theorem cdB_bool (t:Bool) (p q:Prop):cdB (.bool t) p q=if t=true then p else q:=rfl
@[congr] theorem cdB_congr {d d' : D} {p q : Prop} (h : d = d') : cdB d p q = cdB d' p q := by rw [h]
def mloopK (C:Cx) (it:Nat) (m:Opd) (out nx more next pair:Nat) (rest:List DOp) (code:DC) (Q:Exit->Fr->St->Prop) (f:Fr) (σ:St):Prop:=mloopP C it m out nx more next pair rest code f σ Q
@[congr] theorem mloopK_congr {C : Cx} {it : Nat} {m : Opd} {out nx more next pair : Nat} {rest : List DOp} {code : DC} {Q : Exit -> Fr -> St -> Prop} {f f' : Fr} {σ : St} (h : f = f') : mloopK C it m out nx more next pair rest code Q f σ = mloopK C it m out nx more next pair rest code Q f' σ := by rw [h]
def mroundK (C:Cx) (code:DC) (out next:Nat) (J:Fr->St->Prop) (Q:Exit->Fr->St->Prop) (f:Fr) (σ:St):Prop:=wpS C code f σ (blockW next (thenW J (blockW out Q)))
@[congr] theorem mroundK_congr {C : Cx} {code : DC} {out next : Nat} {J : Fr -> St -> Prop} {Q : Exit -> Fr -> St -> Prop} {f f' : Fr} {σ : St} (h : f = f') : mroundK C code out next J Q f σ = mroundK C code out next J Q f' σ := by rw [h]
def callK (C:Cx) (k:DK) (K:Fr->D->St->Prop) (σ:St) (f1:Fr):Prop:=opX C σ (evO f1) k (K f1)
def eqF (f:Fr) (g:Fr):Prop:=g=f
def unK (C:Cx) (un:Bool) (mid:List DOp) (f1:Fr) (σ:St) (K:Fr->St->Prop) (σ1:St) (f2:Fr):Prop:=(if un=true then preX C σ mid (eqF f2) f1 else True)/\ K f2 σ1
def midK (C:Cx) (pre:List DOp) (dst:Option Nat) (mid:List DOp) (un:Bool) (post:List DOp) (Q:Exit->Fr->St->Prop) (f:Fr) (σ:St) (f1:Fr) (d:D) (σ1:St):Prop:=
 preX C σ1 pre (eqF f1) f/\preX C σ1 mid (unK C un mid (f1.put dst d) σ (opsX C post (normK Q)) σ1) (f1.put dst d)
theorem midK_eq {C:Cx} {pre:List DOp} {dst:Option Nat} {mid:List DOp} {un:Bool} {post:List DOp} {Q:Exit->Fr->St->Prop} {f:Fr} {σ:St} {f1:Fr} {d:D} {σ1:St} :
  midK C pre dst mid un post Q f σ f1 d σ1=midW C pre dst mid un f σ (fun f σ=>opsW C post f σ fun f σ=>Q .normal f σ) f1 d σ1:=by
 unfold midK midW
 rw [preX_eq,preX_eq]
 have:unK C un mid (f1.put dst d) σ (opsX C post (normK Q)) σ1=fun f2=>(if un=true then preW C σ mid (f1.put dst d) (fun g=>g=f2) else True)/\ opsW C post f2 σ1 fun f σ=>Q .normal f σ:=by
  funext f2
  unfold unK
  rw [preX_eq,opsX_eq]
  rfl
 rw [this]
 rfl
def wpX (C:Cx):DC->(Exit->Fr->St->Prop)->Fr->St->Prop
 | .skip,Q,f,σ=>Q .normal f σ
 | .reg pre post,Q,f,σ=>preX C σ pre (postK C post Q σ) f
 | .regm pre m mid un post,Q,f,σ=>preX C σ pre (callK C m.k (midK C pre m.dst mid un post Q f σ) σ) f
 | .regc pre m1 mid1 m2 mid2 post,Q,f,σ=>wpD C (.regc pre m1 mid1 m2 mid2 post) f σ Q
 | .seq a b,Q,f,σ=>wpX C a (thenW (wpX C b Q) Q) f σ
 | .cond c a b,Q,f,σ=>cdB (evO f c) (wpX C a Q f σ) (wpX C b Q f σ)
 | .block id c,Q,f,σ=>wpX C c (blockW id Q) f σ
 | .loop c,Q,f,σ=>wpS C (.loop c) f σ Q
 | .exit id,Q,f,σ=>Q (.exit id) f σ
 | .ret,Q,f,σ=>Q .ret f σ
 | .rng ..,_,_,_=>False
 | .nxt ..,_,_,_=>False
 | .ent ..,_,_,_=>False
 | .mloop pre it m out nx more next pair rest code,Q,f,σ=>opsX C pre (mloopK C it m out nx more next pair rest code Q) f σ
theorem wpX_eq (C:Cx):∀ (dc:DC) (Q:Exit->Fr->St->Prop) (f:Fr) (σ:St),wpX C dc Q f σ=wpD C dc f σ Q
 | .skip,Q,f,σ=>rfl
 | .reg pre post,Q,f,σ=>by
  unfold wpX wpD
  rw [preX_eq]
  have:postK C post Q σ=fun f=>opsW C post f σ fun f σ=>Q .normal f σ:=by
   funext f
   unfold postK
   rw [opsX_eq]
   rfl
  rw [this]
 | .regm pre m mid un post,Q,f,σ=>by
  unfold wpX wpD
  rw [preX_eq]
  have:callK C m.k (midK C pre m.dst mid un post Q f σ) σ=fun f1=>opV C σ (evO f1) m.k fun d σ1=>midW C pre m.dst mid un f σ (fun f σ=>opsW C post f σ fun f σ=>Q .normal f σ) f1 d σ1:=by
   funext f1
   unfold callK
   rw [opX_eq]
   congr 1
   funext d σ1
   exact midK_eq
  rw [this]
 | .regc ..,Q,f,σ=>rfl
 | .seq a b,Q,f,σ=>by
  have ih:wpX C b Q=fun f σ=>wpD C b f σ Q:=by funext f σ; exact wpX_eq C b Q f σ
  unfold wpX
  rw [wpX_eq C a,ih]
  rfl
 | .cond c a b,Q,f,σ=>by
  unfold wpX
  rw [wpX_eq C a,wpX_eq C b]
  rfl
 | .block id c,Q,f,σ=>by unfold wpX; rw [wpX_eq C c]; rfl
 | .loop c,Q,f,σ=>rfl
 | .exit id,Q,f,σ=>rfl
 | .ret,Q,f,σ=>rfl
 | .rng ..,_,_,_=>rfl
 | .nxt ..,_,_,_=>rfl
 | .ent ..,_,_,_=>rfl
 | .mloop pre it m out nx more next pair rest code,Q,f,σ=>by unfold wpX wpD; rw [opsX_eq]; rfl
noncomputable def sealed {α:Sort u} (a:α):α:=Classical.choose (⟨a,rfl⟩:∃ b:α,b=a)
theorem sealed_eq {α:Sort u} (a:α):sealed a=a:=Classical.choose_spec (⟨a,rfl⟩:∃ b:α,b=a)
noncomputable def opsZ (C:Cx):List DOp->(Fr->St->Prop)->Fr->St->Prop:=sealed (opsX C)
noncomputable def preZ (C:Cx) (σ:St):List DOp->(Fr->Prop)->Fr->Prop:=sealed (preX C σ)
noncomputable def wpZ (C:Cx):DC->(Exit->Fr->St->Prop)->Fr->St->Prop:=sealed (wpX C)
theorem opsZ_eq (C:Cx):opsZ C=opsX C:=sealed_eq _
theorem preZ_eq (C:Cx) (σ:St):preZ C σ=preX C σ:=sealed_eq _
theorem wpZ_eq (C:Cx):wpZ C=wpX C:=sealed_eq _
section
variable (C : Cx) (σ : St) (f : Fr) (Q : Exit -> Fr -> St -> Prop) (K : Fr -> St -> Prop) (K1 : Fr -> Prop) (a b c : DC) (dst : Option Nat) (g : Option (Nat × Bool)) (k : DK) (rest pre post : List DOp) (x : Opd) (id : Nat)
theorem opsZ_nil : opsZ C [] K f σ=K f σ:=by rw [opsZ_eq]; rfl
theorem opsZ_cons : opsZ C (⟨dst,g,k⟩ :: rest) K f σ=gd g f (opX C σ (evO f) k (putK f dst (opsZ C rest K))) (opsZ C rest K (f.put dst .und) σ):=by rw [opsZ_eq]; rfl
theorem preZ_nil : preZ C σ [] K1 f=K1 f:=by rw [preZ_eq]; rfl
theorem preZ_cons : preZ C σ (⟨dst,g,k⟩ :: rest) K1 f=gd g f (pX C σ (evO f) k (putP f dst (preZ C σ rest K1))) (preZ C σ rest K1 (f.put dst .und)):=by rw [preZ_eq]; rfl
def postZ (C:Cx) (post:List DOp) (Q:Exit->Fr->St->Prop) (σ:St) (f:Fr):Prop:=opsZ C post (normK Q) f σ
theorem wpZ_skip : wpZ C .skip Q f σ=Q .normal f σ:=by rw [wpZ_eq]; rfl
theorem wpZ_reg : wpZ C (.reg pre post) Q f σ=preZ C σ pre (postZ C post Q σ) f:=by
 have e:postZ C post Q σ=postK C post Q σ:=by funext f; unfold postZ postK; rw [opsZ_eq]
 rw [wpZ_eq,preZ_eq,e]; rfl
def callZ (C:Cx) (k:DK) (K:Fr->D->St->Prop) (σ:St) (f1:Fr):Prop:=opX C σ (evO f1) k (K f1)
def unZ (C:Cx) (un:Bool) (mid:List DOp) (f1:Fr) (σ:St) (K:Fr->St->Prop) (σ1:St) (f2:Fr):Prop:=(if un=true then preZ C σ mid (eqF f2) f1 else True)/\ K f2 σ1
def midZ (C:Cx) (pre:List DOp) (dst:Option Nat) (mid:List DOp) (un:Bool) (post:List DOp) (Q:Exit->Fr->St->Prop) (f:Fr) (σ:St) (f1:Fr) (d:D) (σ1:St):Prop:=
 preZ C σ1 pre (eqF f1) f/\preZ C σ1 mid (unZ C un mid (f1.put dst d) σ (opsZ C post (normK Q)) σ1) (f1.put dst d)
theorem wpZ_regm {mid:List DOp} {un:Bool}:wpZ C (.regm pre ⟨dst,g,k⟩ mid un post) Q f σ=preZ C σ pre (callZ C k (midZ C pre dst mid un post Q f σ) σ) f:=by
 have e:callZ C k (midZ C pre dst mid un post Q f σ) σ=callK C k (midK C pre dst mid un post Q f σ) σ:=by
  funext f1
  unfold callZ callK
  congr 1
  funext d σ1
  unfold midZ midK
  have e2:unZ C un mid (f1.put dst d) σ (opsZ C post (normK Q)) σ1=unK C un mid (f1.put dst d) σ (opsX C post (normK Q)) σ1:=by
   funext f2; unfold unZ unK; rw [opsZ_eq,preZ_eq]
  rw [e2,preZ_eq]
 rw [wpZ_eq,preZ_eq,e]; rfl
theorem eqF_self (f:Fr):eqF f f=True:=eq_true rfl
theorem wpZ_seq : wpZ C (.seq a b) Q f σ=wpZ C a (thenW (wpZ C b Q) Q) f σ:=by rw [wpZ_eq]; rfl
theorem wpZ_cond : wpZ C (.cond x a b) Q f σ=cdB (evO f x) (wpZ C a Q f σ) (wpZ C b Q f σ):=by rw [wpZ_eq]; rfl
theorem wpZ_block : wpZ C (.block id c) Q f σ=wpZ C c (blockW id Q) f σ:=by rw [wpZ_eq]; rfl
theorem wpZ_loop : wpZ C (.loop c) Q f σ=wpS C (.loop c) f σ Q:=by rw [wpZ_eq]; rfl
theorem wpZ_exit : wpZ C (.exit id) Q f σ=Q (.exit id) f σ:=by rw [wpZ_eq]; rfl
theorem wpZ_ret : wpZ C .ret Q f σ=Q .ret f σ:=by rw [wpZ_eq]; rfl
theorem wpZ_mloop {it:Nat} {m:Opd} {out nx more next pair:Nat} {rst:List DOp} {code:DC}:wpZ C (.mloop pre it m out nx more next pair rst code) Q f σ=opsZ C pre (mloopK C it m out nx more next pair rst code Q) f σ:=by rw [wpZ_eq,opsZ_eq]; rfl
end
theorem wpS_go {C:Cx} (hm:C.P.follows .mixedOrders=true) {dc:DC} {f:Fr} {σ:St} {Q:Exit->Fr->St->Prop} (h:wpZ C dc Q f σ):wpS C dc f σ Q:=
 wpS_of hm (by rw [<- wpX_eq,<- wpZ_eq]; exact h)
theorem CallT.go_fn {P:Program} {g:FuncId} {fn:Func} {own:List Nat} {N:Nat} {dc:DC} {rs:List DRes} {args:List D} {σ:St} {d:D} {σ':St} (hm:P.follows .mixedOrders=true) (hf:P.funcs[g]?=some fn)
  (hc:codeOf P own fn=some (N,dc,rs)) (hla:args.length<=N)
  (h:D.factL args->wpZ ⟨P,N,σ.nx,own⟩ dc (bodyQ ⟨P,N,σ.nx,own⟩ rs d σ') (argFr 0 args) σ):CallT P g args σ d σ':=
 CallT.of_fn hm hf hc hla fun hfa=>by rw [<- wpX_eq,<- wpZ_eq]; exact h hfa
end Go.Pd
namespace Go.Pd
open Go
theorem shl_one {k:Nat} (hk:k<62):shlI .i64 1 k=((2 ^ k:Nat):Int):=by
 have hp:2 ^ k<2 ^ 62:=Nat.pow_lt_pow_right (by omega) hk
 unfold shlI
 have e:min (k:Int).toNat IntKind.i64.bits=k:=by
  have:IntKind.i64.bits=64:=rfl
  rw [this,Int.toNat_natCast]; omega
 rw [e,Int.one_mul,wrap_i64]
 ·simp
 ·have:((2:Int)^ k)= ((2 ^ k:Nat):Int):=by simp
  rw [this]
  exact⟨Int.le_trans (by decide) (Int.natCast_nonneg _),Int.le_trans (Int.ofNat_le.2 (Nat.le_of_lt hp)) (by decide)⟩
theorem or_zero {a k:Nat} (h:a<2 ^ k) (hk:k<62):bitI .or .i64 (a:Int) (shlI .i64 0 k)= (a:Int):=by
 have hp:2 ^ k<2 ^ 62:=Nat.pow_lt_pow_right (by omega) hk
 have e1:shlI .i64 0 k=0:=by
  unfold shlI
  rw [Int.zero_mul]; rfl
 rw [e1]
 show IntKind.i64.wrap ((BitVec.ofInt 64 (a:Int) ||| BitVec.ofInt 64 0).toNat:Int)= _
 rw [BitVec.ofInt_natCast,BitVec.toNat_or,BitVec.toNat_ofNat,Nat.mod_eq_of_lt (by omega)]
 have:(BitVec.ofInt 64 0).toNat=0:=rfl
 rw [this,Nat.or_zero]
 exact wrap_i64 (by omega)
end Go.Pd
namespace Go.Pd
open Go
theorem growD_nil (key sz:Nat):growD key sz [] = .nils:=rfl
theorem growD_cons (key sz:Nat) (e:List D) (r:List (List D)):growD key sz (e :: r)= .osl key sz (r.length+1):=rfl
theorem growO_nil (key sz:Nat):growO key sz [] = []:=rfl
theorem growO_cons (key sz:Nat) (e:List D) (r:List (List D)):growO key sz (e :: r)= [(key,⟨sz,e :: r⟩)]:=rfl
theorem rows_nil (k:IntKind):rows k [] = []:=rfl
theorem rows_cons (k:IntKind) (n:Int) (l:List Int):rows k (n :: l)= [.int k n] :: rows k l:=rfl
theorem rows_snoc (k:IntKind) (l:List Int) (n:Int):rows k l ++ [[.int k n]]=rows k (l ++ [n]):=by simp [rows]
theorem rr_snoc (l:List (List (BitVec 64))) (r:List (BitVec 64)):rr l ++ [[.sl 1 (us r)]]=rr (l ++ [r]):=by simp [rr,sets]
theorem rr_nil : rr [] = []:=rfl
theorem rr_cons (l:List (BitVec 64)) (r:List (List (BitVec 64))):rr (l :: r)= [.sl 1 (us l)] :: rr r:=rfl
variable [Tabs]
end Go.Pd
namespace Go.Pd
open Go
def growG (sz:Nat):List (List D)->Option Ob
 | []=>none
 | e :: r=>some ⟨sz,e :: r⟩
theorem look_growO {k s:Nat} {els:List (List D)} {r:List (Nat × Ob)} {k':Nat}:St.look (growO k s els++r) k'=if k=k' then(growG s els).or (St.look r k') else St.look r k':=by
 cases els with
 | nil=>simp [growO,growG]
 | cons e l=>simp [growO,growG,St.look]
theorem look_growO1 {k s:Nat} {els:List (List D)} {k':Nat}:St.look (growO k s els) k'=if k=k' then growG s els else none:=by
 have:=look_growO (k:=k) (s:=s) (els:=els) (r:=[]) (k':=k')
 simp only [List.append_nil,St.look,Option.or_none] at this
 exact this
theorem erase_growO {k s:Nat} {els:List (List D)} {r:List (Nat × Ob)} {k':Nat}:eraseL (growO k s els++r) k'=if k=k' then eraseL r k' else growO k s els++eraseL r k':=by
 cases els with
 | nil=>simp [growO]
 | cons e l=>simp [growO,eraseL]
theorem erase_growO1 {k s:Nat} {els:List (List D)} {k':Nat}:eraseL (growO k s els) k'=if k=k' then [] else growO k s els:=by
 have:=erase_growO (k:=k) (s:=s) (els:=els) (r:=[]) (k':=k')
 simp only [List.append_nil,eraseL] at this
 exact this
theorem set_look : ∀ {r:List (Nat × Ob)} {k:Nat} {o:Ob},St.look r k=none->setL r k o=r
 | [],_,_,_=>rfl
 | (j,o') :: r,k,o,h=>by
  simp only [St.look] at h
  split at h
  ·cases h
  ·rename_i hn
   simp only [setL,if_neg hn,set_look h]
theorem erase_look : ∀ {r:List (Nat × Ob)} {k:Nat},St.look r k=none->eraseL r k=r
 | [],_,_=>rfl
 | (j,o') :: r,k,h=>by
  simp only [St.look] at h
  split at h
  ·cases h
  ·rename_i hn
   simp only [eraseL,if_neg hn,erase_look h]
theorem set_growO {k s:Nat} {els els':List (List D)} {r:List (Nat × Ob)} (hl:els'.length=els.length) (h:St.look r k=none):setL (growO k s els++r) k ⟨s,els'⟩= growO k s els'++r:=by
 cases els with
 | nil=>
  have:els' = []:=List.eq_nil_of_length_eq_zero (by simpa using hl)
  subst this
  simp only [growO,List.nil_append]
  exact set_look h
 | cons e l=>
  cases els' with
  | nil=>simp at hl
  | cons e' l'=>simp [growO,setL]
theorem set_growO1 {k s:Nat} {els els':List (List D)} (hl:els'.length=els.length):setL (growO k s els) k ⟨s,els'⟩= growO k s els':=by
 have:=set_growO (k:=k) (s:=s) (r:=[]) hl rfl
 simp only [List.append_nil] at this
 exact this
theorem set_growO_ne {k s:Nat} {els:List (List D)} {r:List (Nat × Ob)} {k':Nat} {o:Ob} (h:k≠k'):setL (growO k s els++r) k' o=growO k s els++setL r k' o:=by
 cases els with
 | nil=>simp [growO]
 | cons e l=>simp [growO,setL,h]
theorem cells_growD (k s:Nat) (els:List (List D)):(growD k s els).cells=some [growD k s els]:=by cases els <;> rfl
theorem one_growD (k s:Nat) (els:List (List D)):(growD k s els).one=true:=by cases els <;> rfl
theorem cells_osl (k s n:Nat):(D.osl k s n).cells=some [.osl k s n]:=rfl
theorem cells_sub (k s l n:Nat):(D.sub k s l n).cells=some [.sub k s l n]:=rfl
theorem cells_int (k:IntKind) (n:Int):(D.int k n).cells=some [.int k n]:=rfl
theorem cells_bool (b:Bool):(D.bool b).cells=some [.bool b]:=rfl
theorem cells_str (s:ByteArray):(D.str s).cells=some [.str s]:=rfl
theorem cells_sl (sz:Nat) (els:List (List D)):(D.sl sz els).cells=some [.sl sz els]:=rfl
theorem cells_nils : D.nils.cells=some [.nils]:=rfl
theorem cells_emp : D.emp.cells=some [.emp]:=rfl
theorem cells_agg (cs:List D):(D.agg cs).cells=some cs:=rfl
theorem cells_fn (f:FuncId) (cs:List D):(D.fn f cs).cells=some [.fn f cs]:=rfl
theorem cells_ref (a b c d:Nat):(D.ref a b c d).cells=some [.ref a b c d]:=rfl
theorem cells_ptr (cs:List D):(D.ptr cs).cells=some [.ptr cs]:=rfl
theorem cells_mref (k:Nat):(D.mref k).cells=some [.mref k]:=rfl
theorem cells_nilp : D.nilp.cells=some [.nilp]:=rfl
theorem cells_nilm : D.nilm.cells=some [.nilm]:=rfl
theorem cells_nilf : D.nilf.cells=some [.nilf]:=rfl
theorem one_int (k:IntKind) (n:Int):(D.int k n).one=true:=rfl
theorem one_bool (b:Bool):(D.bool b).one=true:=rfl
theorem one_str (s:ByteArray):(D.str s).one=true:=rfl
theorem one_sl (sz:Nat) (els:List (List D)):(D.sl sz els).one=true:=rfl
theorem one_nils : D.nils.one=true:=rfl
theorem one_emp : D.emp.one=true:=rfl
theorem one_fn (f:FuncId) (cs:List D):(D.fn f cs).one=true:=rfl
theorem one_ref (a b c d:Nat):(D.ref a b c d).one=true:=rfl
theorem one_osl (a b c:Nat):(D.osl a b c).one=true:=rfl
theorem one_ptr (cs:List D):(D.ptr cs).one=true:=rfl
theorem one_mref (k:Nat):(D.mref k).one=true:=rfl
theorem one_nilp : D.nilp.one=true:=rfl
theorem one_nilm : D.nilm.one=true:=rfl
theorem one_nilf : D.nilf.one=true:=rfl
section
variable [Tabs]
theorem appW_grow {q:Bool} {σ:St} {sz bytes key:Nat} {els:List (List D)} {rw:List (List D)} {K:D->St->Prop} (h:σ.get key=growG sz els) (h0:rw ≠ []) :
  appW q σ sz bytes (growD key sz els) (some rw) K=((∀ r ∈ rw,oneAll r=true)/\ (els.length+rw.length)* bytes<=140737488355328/\els.length+rw.length<=1000000000000 /\
   K (growD σ.nx sz (els++rw)) ⟨σ.nx+1,growO σ.nx sz (els++rw)++ eraseL σ.objs key⟩):=by
 cases els with
 | nil=>
  obtain⟨r,rs,rfl⟩:∃ r rs,rw=r :: rs:=by cases rw with | nil=>exact absurd rfl h0 | cons r rs=>exact⟨r,rs,rfl⟩
  have he:eraseL σ.objs key=σ.objs:=erase_look h
  simp only [appW,growD,growO,St.new,he,List.nil_append,List.length_nil,Nat.zero_add]
  simp
 | cons e l=>
  have e1:l.length+1+rw.length=l.length+rw.length+1:=by omega
  simp only [appW,growD,h,growG,St.erase,St.new,growO]
  simp [growD,growO,e1]
theorem appW_growS {q:Bool} {nx:Nat} {objs:List (Nat × Ob)} {sz bytes key:Nat} {els:List (List D)} {r:List D} {rs:List (List D)} {K:D->St->Prop} (h:St.look objs key=growG sz els) :
  appW q ⟨nx,objs⟩ sz bytes (growD key sz els) (some (r :: rs)) K=((∀ x ∈ r :: rs,oneAll x=true)/\ (els.length+(r :: rs).length)* bytes<=140737488355328/\els.length+(r :: rs).length<=1000000000000 /\
   K (growD nx sz (els++r :: rs)) ⟨nx+1,growO nx sz (els++r :: rs)++ eraseL objs key⟩):=appW_grow h (by simp)
theorem appW_nil {q:Bool} {σ:St} {sz bytes:Nat} {r:List D} {rs:List (List D)} {K:D->St->Prop} :
  appW q σ sz bytes .nils (some (r :: rs)) K=((∀ x ∈ r :: rs,oneAll x=true)/\ (r :: rs).length*bytes<=140737488355328/\(r :: rs).length<=1000000000000/\K (.osl σ.nx sz (r :: rs).length) (σ.new ⟨sz,r :: rs⟩)):=by
 simp [appW]
theorem appW_osl {q:Bool} {σ:St} {sz sz' bytes key n:Nat} {rows:List (List D)} {K:D->St->Prop} :
  appW q σ sz bytes (.osl key sz' n) (some rows) K=((∀ x ∈ rows,oneAll x=true)/\ match σ.get key with
   | some ob=>sz=sz'/\ob.sz=sz/\n<=ob.els.length/\(n+rows.length)* bytes<=140737488355328/\n+rows.length<=1000000000000/\K (.osl σ.nx sz (n+rows.length)) ((σ.erase key).new ⟨sz,ob.els.take n++rows⟩)
   | none=>False):=rfl
def stoO (nx:Nat) (objs:List (Nat × Ob)) (n key sz i off:Nat) (ds:List D) (K:D->St->Prop):Option Ob->Prop
 | some ob=>ob.sz=sz/\i<ob.els.length/\ds.length=n/\off+n<=sz/\oneAll ds=true/\K .und ⟨nx,setL objs key ⟨sz,ob.els.set i (setD (ob.els.getD i []) off ds)⟩⟩
 | none=>False
@[congr] theorem stoO_congr {nx : Nat} {objs : List (Nat × Ob)} {n key sz i off : Nat} {ds : List D} {K : D -> St -> Prop} {o o' : Option Ob} (h : o = o') : stoO nx objs n key sz i off ds K o = stoO nx objs n key sz i off ds K o' := by rw [h]
theorem stoW_ref {nx:Nat} {objs:List (Nat × Ob)} {n key sz i off:Nat} {ds:List D} {K:D->St->Prop}:stoW ⟨nx,objs⟩ n (.ref key sz i off) (some ds) K=stoO nx objs n key sz i off ds K (St.look objs key):=by
 simp only [stoW,St.get]
 cases St.look objs key <;> rfl
theorem stoO_some {nx:Nat} {objs:List (Nat × Ob)} {n key sz i off:Nat} {ds:List D} {K:D->St->Prop} {sz':Nat} {els:List (List D)} :
  stoO nx objs n key sz i off ds K (some ⟨sz',els⟩)= (sz'=sz/\i<els.length/\ds.length=n/\off+n<=sz/\oneAll ds=true/\K .und ⟨nx,setL objs key ⟨sz,els.set i (setD (els.getD i []) off ds)⟩⟩):=rfl
theorem stoO_grow {nx:Nat} {objs:List (Nat × Ob)} {n key sz i off:Nat} {ds:List D} {K:D->St->Prop} {els:List (List D)} :
  stoO nx objs n key sz i off ds K (growG sz els)= (i<els.length/\ds.length=n/\off+n<=sz/\oneAll ds=true/\K .und ⟨nx,setL objs key ⟨sz,els.set i (setD (els.getD i []) off ds)⟩⟩):=by
 cases els with
 | nil=>simp [stoO,growG]
 | cons e l=>simp [stoO,growG]
def loadO (n:Nat) (ag:Bool) (sz i off:Nat) (K:D->Prop):Option Ob->Prop
 | some o=>o.sz=sz/\i<o.els.length/\off+n<=sz/\(ag=true\/n=1)/\ K (packD ag (((o.els.getD i []).drop off).take n))
 | none=>False
@[congr] theorem loadO_congr {n sz i off : Nat} {ag : Bool} {K : D -> Prop} {o o' : Option Ob} (h : o = o') : loadO n ag sz i off K o = loadO n ag sz i off K o' := by rw [h]
theorem loadW_ref {nx:Nat} {objs:List (Nat × Ob)} {n key sz i off:Nat} {ag:Bool} {K:D->Prop}:loadW ⟨nx,objs⟩ n ag (.ref key sz i off) K=loadO n ag sz i off K (St.look objs key):=by
 simp only [loadW,St.get]
 cases St.look objs key <;> rfl
theorem loadO_some {n sz i off:Nat} {ag:Bool} {K:D->Prop} {sz':Nat} {els:List (List D)}:loadO n ag sz i off K (some ⟨sz',els⟩)= (sz'=sz/\i<els.length/\off+n<=sz/\(ag=true\/n=1)/\ K (packD ag (((els.getD i []).drop off).take n))):=rfl
theorem loadO_grow {n sz i off:Nat} {ag:Bool} {K:D->Prop} {els:List (List D)}:loadO n ag sz i off K (growG sz els)= (i<els.length/\off+n<=sz/\(ag=true\/n=1)/\ K (packD ag (((els.getD i []).drop off).take n))):=by
 cases els with
 | nil=>simp [loadO,growG]
 | cons e l=>simp [loadO,growG]
theorem loadW_ptr {σ:St} {n:Nat} {ag:Bool} {cs:List D} {K:D->Prop}:loadW σ n ag (.ptr cs) K=(n<=cs.length/\(ag=true\/n=1)/\ K (packD ag (cs.take n))):=rfl
def mrow (kk:IntKind) (l:List (Int × D)):List (List D):=l.map fun p=>[.int kk p.1,p.2]
def afind (x:Int):List (Int × D)->Nat->Option (Nat × D)
 | [],_=>none
 | (m,d) :: r,i=>if x=m then some (i,d) else afind x r (i+1)
def aput (l:List (Int × D)) (x:Int) (d:D):List (Int × D):=
 match afind x l 0 with
 | some (i,_)=>l.set i (x,d)
 | none=>l ++ [(x,d)]
theorem mrow_len (kk:IntKind) (l:List (Int × D)):(mrow kk l).length=l.length:=by simp [mrow]
theorem keysK_mrow (kk:IntKind) (l:List (Int × D)):keysK kk (mrow kk l):=by
 intro row h
 simp only [mrow,List.mem_map] at h
 obtain⟨p,_,rfl⟩:=h
 exact⟨_,_,rfl⟩
theorem mfind_mrow (kk:IntKind) (x:Int):∀ (l:List (Int × D)) (i:Nat),mfind x (mrow kk l) i=afind x l i
 | [],_=>rfl
 | (m,d) :: r,i=>by
  show mfind x ([.int kk m,d] :: mrow kk r) i=_
  rw [mfind,afind,mfind_mrow kk x r (i+1)]
theorem mputE_mrow (kk:IntKind) (l:List (Int × D)) (x:Int) (d:D):mputE kk (mrow kk l) x d=mrow kk (aput l x d):=by
 unfold mputE aput
 rw [mfind_mrow]
 cases afind x l 0 with
 | none=>simp [mrow]
 | some p=>simp [mrow,List.map_set]
theorem ints_inj : ∀ {a b:List Int},a.map (D.int .i64)= b.map (D.int .i64)->a=b
 | [],[],_=>rfl
 | [],_ :: _,h=>by simp at h
 | _ :: _,[],h=>by simp at h
 | x :: a,y :: b,h=>by
  simp only [List.map_cons,List.cons.injEq,D.int.injEq,true_and] at h
  rw [h.1,ints_inj h.2]
theorem arow_inj : ∀ {a b:List (List Int × D)},arow a=arow b->a=b
 | [],[],_=>rfl
 | [],_ :: _,h=>by simp [arow] at h
 | _ :: _,[],h=>by simp [arow] at h
 | (x,d) :: a,(y,e) :: b,h=>by
  simp only [arow,List.map_cons,List.cons.injEq,D.agg.injEq,and_true] at h
  obtain⟨⟨h1,h2⟩,h3⟩:=h
  rw [ints_inj h1,h2,arow_inj (a:=a) (b:=b) h3]
theorem mgetsW_at {nx:Nat} {objs:List (Nat × Ob)} {n:Nat} {zero:D} {ok:Bool} {key:Nat} {x:List Int} {l:List (List Int × D)} {cs:List D} {K:D->Prop} (hg:St.look objs key=some ⟨0,arow l⟩) (hc:cs=x.map (D.int .i64)) (hx:x.length=n) (hl:∀ p ∈ l,p.1.length=n) :
  mgetsW ⟨nx,objs⟩ n zero ok (.mref key) (.agg cs) K=K (mres ok zero (afindL x l 0)):=by
 subst hc
 simp only [mgetsW,St.get,hg]
 refine propext ⟨fun h=>?_,fun h=>⟨trivial,x,l,⟨rfl,rfl,hx,hl⟩,h⟩⟩
 obtain⟨_,x',l',⟨h1,h2,_,_⟩,h3⟩:=h
 rw [ints_inj h1,arow_inj h2]; exact h3
theorem mputsW_any {nx:Nat} {objs:List (Nat × Ob)} {n:Nat} {key:Nat} {y:List Int} {l:List (List Int × D)} {cs:List D} {x:D} {K:D->St->Prop} (hg:St.look objs key=some ⟨0,arow l⟩) (hc:cs=y.map (D.int .i64)) (hx:y.length=n) (hl:∀ p ∈ l,p.1.length=n) :
  mputsW ⟨nx,objs⟩ n (.mref key) (.agg cs) x K=K .und ⟨nx,setL objs key ⟨0,arow (aputL y x l)⟩⟩:=by
 subst hc
 simp only [mputsW,St.get,hg,St.set]
 refine propext ⟨fun h=>?_,fun h=>⟨trivial,y,l,⟨rfl,rfl,hx,hl⟩,h⟩⟩
 obtain⟨_,x',l',⟨h1,h2,_,_⟩,h3⟩:=h
 rw [ints_inj h1,arow_inj h2]; exact h3
theorem mputsW_at {nx:Nat} {objs:List (Nat × Ob)} {n:Nat} {key:Nat} {y:List Int} {l:List (List Int × D)} {cs:List D} {x:D} {K:D->St->Prop} (hg:St.look objs key=some ⟨0,arow l⟩) (hc:cs=y.map (D.int .i64)) (hx:y.length=n) (hl:∀ p ∈ l,p.1.length=n) (hno:afindL y l 0=none) :
  mputsW ⟨nx,objs⟩ n (.mref key) (.agg cs) x K=K .und ⟨nx,setL objs key ⟨0,arow (l ++ [(y,x)])⟩⟩:=by
 rw [mputsW_any hg hc hx hl,show aputL y x l=l ++ [(y,x)] by unfold aputL; rw [hno]]
def mgetO (kk:IntKind) (x:Int) (zero:D) (ok:Bool) (K:D->Prop):Option Ob->Prop
 | some o=>o.sz=0/\keysK kk o.els/\K (mres ok zero (mfind x o.els 0))
 | none=>False
@[congr] theorem mgetO_congr {kk : IntKind} {x : Int} {zero : D} {ok : Bool} {K : D -> Prop} {o o' : Option Ob} (h : o = o') : mgetO kk x zero ok K o = mgetO kk x zero ok K o' := by rw [h]
theorem mgetW_mref {nx:Nat} {objs:List (Nat × Ob)} {zero:D} {ok:Bool} {key:Nat} {kk:IntKind} {x:Int} {K:D->Prop}:mgetW ⟨nx,objs⟩ zero ok (.mref key) (.int kk x) K=mgetO kk x zero ok K (St.look objs key):=by
 simp only [mgetW,St.get]
 cases St.look objs key <;> rfl
theorem mgetW_nilm {σ:St} {zero:D} {ok:Bool} {kk:IntKind} {x:Int} {K:D->Prop}:mgetW σ zero ok .nilm (.int kk x) K=K (mres ok zero none):=rfl
theorem mgetO_some {kk:IntKind} {x:Int} {zero:D} {ok:Bool} {K:D->Prop} {l:List (Int × D)}:mgetO kk x zero ok K (some ⟨0,mrow kk l⟩)= K (mres ok zero (afind x l 0)):=by
 simp only [mgetO,mfind_mrow]
 exact propext ⟨fun h=>h.2.2,fun h=>⟨trivial,keysK_mrow kk l,h⟩⟩
theorem mgetO_nil {kk:IntKind} {x:Int} {zero:D} {ok:Bool} {K:D->Prop}:mgetO kk x zero ok K (some ⟨0,[]⟩)= K (mres ok zero none):=mgetO_some (l:=[])
def mputO (nx:Nat) (objs:List (Nat × Ob)) (key:Nat) (kk:IntKind) (y:Int) (x:D) (K:D->St->Prop):Option Ob->Prop
 | some o=>o.sz=0/\keysK kk o.els/\K .und ⟨nx,setL objs key ⟨0,mputE kk o.els y x⟩⟩
 | none=>False
@[congr] theorem mputO_congr {nx : Nat} {objs : List (Nat × Ob)} {key : Nat} {kk : IntKind} {y : Int} {x : D} {K : D -> St -> Prop} {o o' : Option Ob} (h : o = o') : mputO nx objs key kk y x K o = mputO nx objs key kk y x K o' := by rw [h]
theorem mputW_mref {nx:Nat} {objs:List (Nat × Ob)} {key:Nat} {kk:IntKind} {y:Int} {x:D} {K:D->St->Prop}:mputW ⟨nx,objs⟩ (.mref key) (.int kk y) x K=mputO nx objs key kk y x K (St.look objs key):=by
 simp only [mputW,St.get]
 cases St.look objs key <;> rfl
theorem mputO_some {nx:Nat} {objs:List (Nat × Ob)} {key:Nat} {kk:IntKind} {y:Int} {x:D} {K:D->St->Prop} {l:List (Int × D)}:mputO nx objs key kk y x K (some ⟨0,mrow kk l⟩)= K .und ⟨nx,setL objs key ⟨0,mrow kk (aput l y x)⟩⟩:=by
 simp only [mputO,mputE_mrow]
 exact propext ⟨fun h=>h.2.2,fun h=>⟨trivial,keysK_mrow kk l,h⟩⟩
theorem mputO_nil {nx:Nat} {objs:List (Nat × Ob)} {key:Nat} {kk:IntKind} {y:Int} {x:D} {K:D->St->Prop}:mputO nx objs key kk y x K (some ⟨0,[]⟩)= K .und ⟨nx,setL objs key ⟨0,mrow kk [(y,x)]⟩⟩:=mputO_some (l:=[])
theorem mres_none (zero:D):mres true zero none = .tup [zero,.bool false]:=rfl
theorem mres_some (zero:D) (i:Nat) (d:D):mres true zero (some (i,d))= .tup [d,.bool true]:=rfl
theorem mres_none1 (zero:D):mres false zero none=zero:=rfl
theorem mres_some1 (zero:D) (i:Nat) (d:D):mres false zero (some (i,d))= d:=rfl
theorem lenW_sl {sz:Nat} {els:List (List D)} {K:D->Prop}:lenW (.sl sz els) K=K (.int .i64 els.length):=rfl
theorem lenW_osl {k sz n:Nat} {K:D->Prop}:lenW (.osl k sz n) K=K (.int .i64 n):=rfl
theorem lenW_sub {k sz lo n:Nat} {K:D->Prop}:lenW (.sub k sz lo n) K=K (.int .i64 n):=rfl
theorem idxW_sub {sz key sz' lo len:Nat} {k:IntKind} {n:Int} {K:D->Prop}:idxW sz (.sub key sz' lo len) (.int k n) K=(sz=sz'/\0<=n/\n<len/\K (.ref key sz (lo+n.toNat) 0)):=rfl
theorem lenW_nils {K:D->Prop}:lenW .nils K=K (.int .i64 0):=rfl
theorem lenW_emp {K:D->Prop}:lenW .emp K=K (.int .i64 0):=rfl
theorem idxW_sl {sz sz':Nat} {els:List (List D)} {k:IntKind} {n:Int} {K:D->Prop}:idxW sz (.sl sz' els) (.int k n) K=(sz=sz'/\0<=n/\n<els.length/\K (.ptr (els.getD n.toNat []))):=rfl
theorem idxW_osl {sz key sz' len:Nat} {k:IntKind} {n:Int} {K:D->Prop}:idxW sz (.osl key sz' len) (.int k n) K=(sz=sz'/\0<=n/\n<len/\K (.ref key sz n.toNat 0)):=rfl
theorem nileqW_1 {neg:Bool} {K:D->Prop}:nileqW neg .nils .nils K=K (.bool (!neg)):=rfl
theorem nileqW_2 {neg:Bool} {K:D->Prop} {a b c:Nat}:nileqW neg (.osl a b c) .nils K=K (.bool neg):=rfl
theorem nileqW_3 {neg:Bool} {K:D->Prop} {a b c:Nat}:nileqW neg .nils (.osl a b c) K=K (.bool neg):=rfl
theorem nileqW_4 {neg:Bool} {K:D->Prop}:nileqW neg .emp .nils K=K (.bool neg):=rfl
theorem nileqW_5 {neg:Bool} {K:D->Prop}:nileqW neg .nils .emp K=K (.bool neg):=rfl
theorem nileqW_6 {neg:Bool} {K:D->Prop} {sz:Nat} {e:List D} {r:List (List D)}:nileqW neg (.sl sz (e :: r)) .nils K=K (.bool neg):=rfl
def appO (nx:Nat) (objs:List (Nat × Ob)) (sz sz' bytes key n:Nat) (rows:List (List D)) (K:D->St->Prop):Option Ob->Prop
 | some ob=>sz=sz'/\ob.sz=sz/\n<=ob.els.length/\(n+rows.length)* bytes<=140737488355328/\n+rows.length<=1000000000000/\K (.osl nx sz (n+rows.length)) ⟨nx+1,(nx,⟨sz,ob.els.take n++rows⟩) :: eraseL objs key⟩
 | none=>False
@[congr] theorem appO_congr {nx : Nat} {objs : List (Nat × Ob)} {sz sz' bytes key n : Nat} {rows : List (List D)} {K : D -> St -> Prop} {o o' : Option Ob} (h : o = o') : appO nx objs sz sz' bytes key n rows K o = appO nx objs sz sz' bytes key n rows K o' := by rw [h]
theorem appW_oslO {q:Bool} {nx:Nat} {objs:List (Nat × Ob)} {sz sz' bytes key n:Nat} {rows:List (List D)} {K:D->St->Prop} :
  appW q ⟨nx,objs⟩ sz bytes (.osl key sz' n) (some rows) K=((∀ x ∈ rows,oneAll x=true)/\ appO nx objs sz sz' bytes key n rows K (St.look objs key)):=by
 rw [appW_osl]
 simp only [St.get]
 cases St.look objs key <;> rfl
theorem appO_some {nx:Nat} {objs:List (Nat × Ob)} {sz sz' bytes key n:Nat} {rows:List (List D)} {K:D->St->Prop} {sz0:Nat} {els:List (List D)} :
  appO nx objs sz sz' bytes key n rows K (some ⟨sz0,els⟩)= (sz=sz'/\sz0=sz/\n<=els.length/\(n+rows.length)* bytes<=140737488355328/\n+rows.length<=1000000000000/\K (.osl nx sz (n+rows.length)) ⟨nx+1,(nx,⟨sz,els.take n++rows⟩) :: eraseL objs key⟩):=rfl
def appSO (q:Bool) (nx:Nat) (objs:List (Nat × Ob)) (sz sz' bytes key lo n:Nat) (rows:List (List D)) (K:D->St->Prop):Option Ob->Prop
 | some ob=>q=true/\sz=sz'/\ob.sz=sz/\lo+n<=ob.els.length/\(n+rows.length)* bytes<=140737488355328/\n+rows.length<=1000000000000 /\
  ∀ pre:List (List D),(pre = []\/pre=ob.els.take lo)->K (.sub nx sz pre.length (n+rows.length)) ⟨nx+1,(nx,⟨sz,pre++((ob.els.drop lo).take n++rows)⟩) :: eraseL objs key⟩
 | none=>False
@[congr] theorem appSO_congr {q : Bool} {nx : Nat} {objs : List (Nat × Ob)} {sz sz' bytes key lo n : Nat} {rows : List (List D)} {K : D -> St -> Prop} {o o' : Option Ob} (h : o = o') : appSO q nx objs sz sz' bytes key lo n rows K o = appSO q nx objs sz sz' bytes key lo n rows K o' := by rw [h]
theorem appW_subO {q:Bool} {nx:Nat} {objs:List (Nat × Ob)} {sz sz' bytes key lo n:Nat} {rows:List (List D)} {K:D->St->Prop} :
  appW q ⟨nx,objs⟩ sz bytes (.sub key sz' lo n) (some rows) K=((∀ x ∈ rows,oneAll x=true)/\ appSO q nx objs sz sz' bytes key lo n rows K (St.look objs key)):=by
 simp only [appW,St.get]
 cases St.look objs key <;> rfl
theorem appSO_some {q:Bool} {nx:Nat} {objs:List (Nat × Ob)} {sz sz' bytes key lo n:Nat} {rows:List (List D)} {K:D->St->Prop} {sz0:Nat} {els:List (List D)} :
  appSO q nx objs sz sz' bytes key lo n rows K (some ⟨sz0,els⟩)= (q=true/\sz=sz'/\sz0=sz/\lo+n<=els.length/\(n+rows.length)* bytes<=140737488355328/\n+rows.length<=1000000000000 /\
   ∀ pre:List (List D),(pre = []\/pre=els.take lo)->K (.sub nx sz pre.length (n+rows.length)) ⟨nx+1,(nx,⟨sz,pre++((els.drop lo).take n++rows)⟩) :: eraseL objs key⟩):=rfl
theorem lenW_grow {key sz:Nat} {els:List (List D)} {K:D->Prop}:lenW (growD key sz els) K=K (.int .i64 els.length):=by
 cases els <;> simp [lenW,growD]
theorem idxW_grow {key sz sz':Nat} {els:List (List D)} {k:IntKind} {n:Int} {K:D->Prop}:idxW sz' (growD key sz els) (.int k n) K=(sz'=sz/\0<=n/\n<els.length/\K (.ref key sz n.toNat 0)):=by
 cases els with
 | nil=>simp only [idxW,growD,List.length_nil]; simp; intro _ h1 h2; omega
 | cons e l=>simp [idxW,growD]; rintro rfl _ _; rfl
theorem nileqW_grow {key sz:Nat} {neg:Bool} {els:List (List D)} {K:D->Prop}:nileqW neg (growD key sz els) .nils K=K (.bool (if neg then !els.isEmpty else els.isEmpty)):=by
 cases els <;> cases neg <;> simp [nileqW,growD]
def sw : List (Nat × Nat)->Nat->Nat
 | [],k=>k
 | (a,b) :: r,k=>if k=a then b else sw r k
def pureE (els:List (List D)):Prop:=∀ e ∈ els,D.isPureL e=true
theorem pureE_us (l:List (BitVec 64)):pureE (us l)= True:=eq_true (us_pure l)
theorem pureE_rr (l:List (List (BitVec 64))):pureE (rr l)= True:=eq_true (rr_pure l)
theorem pureE_rows (k:IntKind) (l:List Int):pureE (rows k l)= True:=eq_true (rows_pure k l)
theorem pureE_nil : pureE []=True:=by simp [pureE]
theorem pureE_mrow {kk:IntKind} {l:List (Int × D)} (h:∀ p ∈ l,p.2.isPure=true):pureE (mrow kk l):=by
 intro e he
 simp only [mrow,List.mem_map] at he
 obtain⟨p,hp,rfl⟩:=he
 simp [D.isPureL,D.isPure,h p hp]
theorem pureE_append (a b:List (List D)):pureE (a++b)= (pureE a/\pureE b):=by
 simp only [pureE,List.mem_append]
 exact propext ⟨fun h=>⟨fun e he=>h e (.inl he),fun e he=>h e (.inr he)⟩,fun h e he=>he.elim (h.1 e) (h.2 e)⟩
theorem pureE_set (l:List (BitVec 64)) (i:Nat) (s:BitVec 64):pureE ((us l).set i [.int .u64 (ui s)])= True:=by rw [us_set,pureE_us]
theorem vw_grow {σ σ':St} {ρ:Nat->Nat} {a b sz:Nat} {els:List (List D)}:vw σ σ' ρ (growD a sz els) (growD b sz els)= (els = []\/(b<σ'.nx/\a=ρ b)):=by
 cases els with
 | nil=>simp [growD,vw]
 | cons e l=>simp [growD,vw]
def away (σ':St) (ρ:Nat->Nat) (k0:Nat):Prop:=∀ p ∈ σ'.objs,ρ p.1≠k0
theorem vw_grow_sl {σ σ':St} {ρ:Nat->Nat} {k0 sz:Nat} {els:List (List D)} (hs:0<sz) (h:away σ' ρ k0) (hg:σ.get k0=growG sz els) (hp:pureE els):vw σ σ' ρ (growD k0 sz els) (.sl sz els)= True:=by
 cases els with
 | nil=>simp [growD,vw]
 | cons e l=>
  refine eq_true ?_
  simp only [growD,vw]
  exact⟨trivial,hs,h,⟨sz,e :: l⟩,hg,rfl,Nat.le_refl _,by simp,hp⟩
def vwQ (σ σ':St) (ρ:Nat->Nat) (as bs:List (List D)):Prop:=vwE σ σ' ρ as bs
theorem vwQ_pure {σ σ':St} {ρ:Nat->Nat} {els:List (List D)} (h:pureE els):vwQ σ σ' ρ els els=True:=eq_true (.same h)
end
section
variable [Tabs]
theorem vwL_refl {σ σ':St} {ρ:Nat->Nat}:∀ {a:List D},D.isPureL a=true->vwL σ σ' ρ a a:=by
 intro a h
 have key:∀ d:D,d.isPure=true->vw σ σ' ρ d d:=by
  intro d
  refine D.rec (motive_1:=fun d=>d.isPure=true->vw σ σ' ρ d d) (motive_2:=fun _=>True) (motive_3:=fun cs=>D.isPureL cs=true->vwL σ σ' ρ cs cs)
   ?top ?und ?int ?bool ?str ?sl ?nils ?emp ?agg ?tup ?fn ?ref ?osl ?sub ?ptr ?mref ?nilp ?nilm ?nilf ?adr trivial (fun _ _ _ _=>trivial) ?nil ?cons d
  case agg=>intro cs ih h; simp only [D.isPure] at h; simp only [vw]; exact⟨trivial,ih h⟩
  case tup=>intro cs ih h; simp only [D.isPure] at h; simp only [vw]; exact⟨trivial,ih h⟩
  case fn=>intro f cs ih h; simp only [D.isPure] at h; simp only [vw]; exact⟨trivial,trivial,ih h⟩
  case ref=>intro k sz i off h; simp [D.isPure] at h
  case osl=>intro k sz n h; simp [D.isPure] at h
  case sub=>intro k sz lo n h; simp [D.isPure] at h
  case mref=>intro k h; simp [D.isPure] at h
  case nil=>intro _; simp [vwL]
  case cons=>
   intro d r h1 h2 h
   simp only [D.isPureL,Bool.and_eq_true] at h
   simp only [vwL]
   exact⟨h1 h.1,h2 h.2⟩
  all_goals intros; simp [vw]
 induction a with
 | nil=>simp [vwL]
 | cons d r ih=>
  simp only [D.isPureL,Bool.and_eq_true] at h
  simp only [vwL]
  exact⟨key d h.1,ih h.2⟩
theorem vwE_snoc {σ σ':St} {ρ:Nat->Nat}:∀ {els:List (List D)} {a b:List D},pureE els->a.length=b.length->vwL σ σ' ρ a b->vwE σ σ' ρ (els ++ [a]) (els ++ [b])
 | [],a,b,_,hl,h=>.cons hl h .nil
 | e :: r,a,b,hp,hl,h=>.cons rfl (vwL_refl (hp e (by simp))) (vwE_snoc (fun x hx=>hp x (by simp [hx])) hl h)
theorem vwQ_at {σ σ':St} {ρ:Nat->Nat} {els:List (List D)} {a b:List D} (h:vwQ σ σ' ρ (els ++ [a]) (els ++ [b])):a.length=b.length/\vwL σ σ' ρ a b:=by
 have:=(vwE_row (show vwE σ σ' ρ (els ++ [a]) (els ++ [b]) from h)).2 els.length (by simp)
 have e1:∀ x:List D,(els ++ [x]).getD els.length []=x:=by intro x; simp [List.getD]
 rw [e1,e1] at this
 refine⟨this.1,?_⟩
 rcases this.2 with h | ⟨h1,h2⟩
 ·exact h
 ·rw [h1]; exact vwL_refl h2
theorem vwQ_snoc {σ σ':St} {ρ:Nat->Nat} {els:List (List D)} {a b:List D} (hp:pureE els):vwQ σ σ' ρ (els ++ [a]) (els ++ [b])= (a.length=b.length/\vwL σ σ' ρ a b):=
 propext ⟨fun h=>vwQ_at h,fun h=>vwE_snoc hp h.1 h.2⟩
theorem vwQ_one {σ σ':St} {ρ:Nat->Nat} {a b:List D}:vwQ σ σ' ρ [a] [b]=(a.length=b.length/\vwL σ σ' ρ a b):=vwQ_snoc (els:=[]) (by simp [pureE])
theorem vwQ_rr {σ σ':St} {ρ:Nat->Nat} {l:List (List (BitVec 64))} {r:List (BitVec 64)} {x:D}:vwQ σ σ' ρ (rr l ++ [[x]]) (rr (l ++ [r]))= vwL σ σ' ρ [x] [.sl 1 (us r)]:=by
 rw [<- rr_snoc,vwQ_snoc (rr_pure l)]
 simp
def stay1 (σ σ':St) (ρ:Nat->Nat) (p:Nat × Ob):Prop:=p.1<σ'.nx/\∃ ob,σ.get (ρ p.1)= some ob/\ob.sz=p.2.sz/\vwQ σ σ' ρ ob.els p.2.els
def stayL (σ σ':St) (ρ:Nat->Nat) (l:List (Nat × Ob)):Prop:=∀ p ∈ l,stay1 σ σ' ρ p
theorem stayL_nil {σ σ':St} {ρ:Nat->Nat}:stayL σ σ' ρ []=True:=by simp [stayL]
theorem stayL_cons {σ σ':St} {ρ:Nat->Nat} {p:Nat × Ob} {l:List (Nat × Ob)}:stayL σ σ' ρ (p :: l)= (stay1 σ σ' ρ p/\stayL σ σ' ρ l):=by simp [stayL]
theorem stayL_grow {σ σ':St} {ρ:Nat->Nat} {k sz:Nat} {els:List (List D)} {l:List (Nat × Ob)} (hk:k<σ'.nx) (hg:σ.get (ρ k)= growG sz els) (hp:pureE els):stayL σ σ' ρ (growO k sz els++l)= stayL σ σ' ρ l:=by
 cases els with
 | nil=>rfl
 | cons e r=>
  simp only [growO,List.cons_append,List.nil_append,stayL_cons]
  refine propext ⟨fun h=>h.2,fun h=>⟨⟨hk,⟨sz,e :: r⟩,hg,rfl,.same hp⟩,h⟩⟩
theorem stayL_grow1 {σ σ':St} {ρ:Nat->Nat} {k sz:Nat} {els:List (List D)} (hk:k<σ'.nx) (hg:σ.get (ρ k)= growG sz els) (hp:pureE els):stayL σ σ' ρ (growO k sz els)= True:=by
 have:=stayL_grow (l:=[]) hk hg hp
 rw [List.append_nil,stayL_nil] at this
 exact this
theorem growG_ne {sz:Nat} {els:List (List D)} (h:els ≠ []):growG sz els=some ⟨sz,els⟩:=by
 cases els with
 | nil=>exact absurd rfl h
 | cons e r=>rfl
theorem stayL_growQ {σ σ':St} {ρ:Nat->Nat} {k sz:Nat} {els els':List (List D)} {l:List (Nat × Ob)} (hk:k<σ'.nx) (hg:σ.get (ρ k)= growG sz els') (hq:vwQ σ σ' ρ els' els):stayL σ σ' ρ (growO k sz els++l)= stayL σ σ' ρ l:=by
 cases els with
 | nil=>rfl
 | cons e r=>
  have hne:els' ≠ []:=by
   rintro rfl
   have:=(vwE_row (show vwE σ σ' ρ [] (e :: r) from hq)).1
   simp at this
  simp only [growO,List.cons_append,List.nil_append,stayL_cons]
  refine propext ⟨fun h=>h.2,fun h=>⟨⟨hk,⟨sz,els'⟩,?_,rfl,hq⟩,h⟩⟩
  rw [hg,growG_ne hne]
theorem stayL_growQ1 {σ σ':St} {ρ:Nat->Nat} {k sz:Nat} {els els':List (List D)} (hk:k<σ'.nx) (hg:σ.get (ρ k)= growG sz els') (hq:vwQ σ σ' ρ els' els):stayL σ σ' ρ (growO k sz els)= True:=by
 have:=stayL_growQ (l:=[]) hk hg hq
 rw [List.append_nil,stayL_nil] at this
 exact this
def inL (ks:List Nat) (l:List (Nat × Ob)):Prop:=∀ p ∈ l,p.1 ∈ ks
theorem inL_nil {ks:List Nat}:inL ks []=True:=by simp [inL]
theorem inL_cons {ks:List Nat} {p:Nat × Ob} {l:List (Nat × Ob)}:inL ks (p :: l)= (p.1 ∈ ks/\inL ks l):=by simp [inL]
theorem inL_grow {ks:List Nat} {k sz:Nat} {els:List (List D)} {l:List (Nat × Ob)} (h:k ∈ ks):inL ks (growO k sz els++l)= inL ks l:=by
 cases els with
 | nil=>rfl
 | cons e r=>simp [growO,inL_cons,h]
theorem inL_grow1 {ks:List Nat} {k sz:Nat} {els:List (List D)} (h:k ∈ ks):inL ks (growO k sz els)= True:=by
 have:=inL_grow (sz:=sz) (els:=els) (l:=[]) h
 rw [List.append_nil,inL_nil] at this
 exact this
def awayL (ρ:Nat->Nat) (k0:Nat) (l:List (Nat × Ob)):Prop:=∀ p ∈ l,ρ p.1≠k0
theorem away_eq {σ':St} {ρ:Nat->Nat} {k0:Nat}:away σ' ρ k0=awayL ρ k0 σ'.objs:=propext Iff.rfl
theorem awayL_nil {ρ:Nat->Nat} {k0:Nat}:awayL ρ k0 []=True:=by simp [awayL]
theorem awayL_cons {ρ:Nat->Nat} {k0:Nat} {p:Nat × Ob} {l:List (Nat × Ob)}:awayL ρ k0 (p :: l)= (ρ p.1≠k0/\awayL ρ k0 l):=by simp [awayL]
theorem awayL_grow {ρ:Nat->Nat} {k0 k sz:Nat} {els:List (List D)} {l:List (Nat × Ob)}:awayL ρ k0 (growO k sz els++l)= ((els = []\/ρ k≠k0)/\ awayL ρ k0 l):=by
 cases els with
 | nil=>simp [growO]
 | cons e r=>simp [growO,awayL_cons]
theorem awayL_grow1 {ρ:Nat->Nat} {k0 k sz:Nat} {els:List (List D)}:awayL ρ k0 (growO k sz els)= (els = []\/ρ k≠k0):=by
 have:=awayL_grow (ρ:=ρ) (k0:=k0) (k:=k) (sz:=sz) (els:=els) (l:=[])
 rw [List.append_nil,awayL_nil,and_true] at this
 exact this
theorem Weak.ren {C:Cx} {f f':Fr} {σ σ':St} (l:List (Nat × Nat)) (ks:List Nat) (hn:C.n0<=σ'.nx) (h0:∀ p ∈ l,C.n0<=p.1) (hd:(ks.map (sw l)).Nodup)
  (h:inL ks σ'.objs/\stayL σ σ' (sw l) σ'.objs/\vwF σ σ' (sw l) f f'):Weak C f σ f' σ':=by
 obtain⟨hk,hs,hf⟩:=h
 refine Weak.view (sw l) hn ?_ hf ?_ ?_
 ·intro k hk
  induction l with
  | nil=>rfl
  | cons p l ih=>
   obtain⟨a,b⟩:=p
   have:C.n0<=a:=h0 (a,b) (by simp)
   simp only [sw]
   rw [if_neg (by omega)]
   have hm:∀ p ∈ l,C.n0<=p.1:=fun p hp=>h0 p (by simp [hp])
   clear ih hd hs hf h0
   induction l with
   | nil=>rfl
   | cons q l ih=>
    obtain⟨c,d⟩:=q
    have:C.n0<=c:=hm (c,d) (by simp)
    simp only [sw]
    rw [if_neg (by omega)]
    exact ih fun p hp=>hm p (by simp [hp])
 ·intro p hp
  obtain⟨h1,ob,h2,h3,h4⟩:=hs p hp
  exact⟨h1,ob,h2,h3,h4⟩
 ·intro p hp q hq e
  have h1:=hk p hp
  have h2:=hk q hq
  have inj:∀ (ks:List Nat),(ks.map (sw l)).Nodup->∀ a ∈ ks,∀ b ∈ ks,sw l a=sw l b->a=b:=by
   intro ks
   induction ks with
   | nil=>intro _ a ha; simp at ha
   | cons x ks ih=>
    intro hd a ha b hb e
    simp only [List.map_cons,List.nodup_cons,List.mem_map,not_exists,not_and] at hd
    rcases List.mem_cons.1 ha with h1 | h1 <;> rcases List.mem_cons.1 hb with h2 | h2
    ·rw [h1,h2]
    ·rw [h1] at e; exact absurd e.symm (hd.1 b h2)
    ·rw [h2] at e; exact absurd e (hd.1 a h1)
    ·exact ih hd.2 a h1 b h2 e
  exact inj ks hd _ h1 _ h2 e
theorem RetV.ren {n0:Nat} {σ σ':St} {d d':D} (l:List (Nat × Nat)) (ks:List Nat) (hn:n0<=σ'.nx) (h0:∀ p ∈ l,n0<=p.1) (hd:(ks.map (sw l)).Nodup)
  (h:inL ks σ'.objs/\stayL σ σ' (sw l) σ'.objs/\vw σ σ' (sw l) d d'):RetV n0 σ d σ' d':=by
 obtain⟨hk,hs,hf⟩:=h
 refine .inr ⟨sw l,hn,?_,hf,?_,?_⟩
 ·intro k hk
  have hm:∀ p ∈ l,n0<=p.1:=h0
  clear hd hs hf h0
  induction l with
  | nil=>rfl
  | cons q l ih=>
   obtain⟨c,d⟩:=q
   have:n0<=c:=hm (c,d) (by simp)
   simp only [sw]
   rw [if_neg (by omega)]
   exact ih fun p hp=>hm p (by simp [hp])
 ·intro p hp
  obtain⟨h1,ob,h2,h3,h4⟩:=hs p hp
  exact⟨h1,ob,h2,h3,h4⟩
 ·intro p hp q hq e
  have h1:=hk p hp
  have h2:=hk q hq
  have inj:∀ (ks:List Nat),(ks.map (sw l)).Nodup->∀ a ∈ ks,∀ b ∈ ks,sw l a=sw l b->a=b:=by
   intro ks
   induction ks with
   | nil=>intro _ a ha; simp at ha
   | cons x ks ih=>
    intro hd a ha b hb e
    simp only [List.map_cons,List.nodup_cons,List.mem_map,not_exists,not_and] at hd
    rcases List.mem_cons.1 ha with h1 | h1 <;> rcases List.mem_cons.1 hb with h2 | h2
    ·rw [h1,h2]
    ·rw [h1] at e; exact absurd e.symm (hd.1 b h2)
    ·rw [h2] at e; exact absurd e (hd.1 a h1)
    ·exact ih hd.2 a h1 b h2 e
  exact inj ks hd _ h1 _ h2 e
def weakQ (C:Cx) (Q:Exit->Fr->St->Prop) (e:Exit) (f:Fr) (σ:St):Prop:=∃ f' σ',Weak C f σ f' σ'/\Q e f' σ'
theorem weakQ.keep {C:Cx} {Q:Exit->Fr->St->Prop} {e:Exit} {f:Fr} {σ:St} (h:Q e f σ):weakQ C Q e f σ:=⟨f,σ,Weak.refl,h⟩
theorem weakQ.go {C:Cx} {Q:Exit->Fr->St->Prop} {e:Exit} {f:Fr} {σ:St} (f':Fr) (σ':St) (hw:Weak C f σ f' σ') (h:Q e f' σ'):weakQ C Q e f σ:=⟨f',σ',hw,h⟩
theorem wpS_weakQ {C:Cx} {dc:DC} {f:Fr} {σ:St} {Q:Exit->Fr->St->Prop} (h:wpS C dc f σ (weakQ C Q)):wpS C dc f σ Q:=by
 intro code hc E a w G
 refine wp_mono (h code hc E a w G) fun e a' w' hh=>?_
 obtain⟨f1,σ1,G1,f2,σ2,hw,hq⟩:=hh
 exact⟨f2,σ2,hw E a' w' G1,hq⟩
theorem mloop_go {C:Cx} (hmx:C.P.follows .mixedOrders=true) {it:Nat} {m:Opd} {out nx more next pair:Nat} {rest:List DOp} {code:DC} {Q:Exit->Fr->St->Prop} {f:Fr} {σ:St} (key:Nat) (els:List (List D)) (hm:evO f m = .mref key) (hob:σ.get key=some ⟨0,els⟩)
  {α:Type} (g:List Nat->α->Fr) (s:List Nat->α->St) (J:List Nat->α->Prop) (a0:α) (h0:J [] a0)
  (hw:∀ b,Weak { C with n0:=max C.n0 (key+1) } ((it,.adr b) :: f) σ ((it,.adr b) :: g [] a0) (s [] a0))
  (hkey:∀ seen a,J seen a->(s seen a).get key=some ⟨0,els⟩)
  (done:∀ b seen a,J seen a->seen.Nodup->(∀ j ∈ seen,j<els.length)->seen.length=els.length->Q .normal ((more,.top) :: (nx,.top) :: (it,.adr b) :: g seen a) (s seen a))
  (round:∀ b seen a i,J seen a->seen.Nodup->(∀ j ∈ seen,j<els.length)->i<els.length->i ∉ seen ->
   opsZ { C with n0:=max C.n0 (key+1) } rest (mroundK { C with n0:=max C.n0 (key+1) } code out next (fun f' σ'=>∃ a',J (seen ++ [i]) a'/\f'=(it,.adr b) :: g (seen ++ [i]) a'/\σ'=s (seen ++ [i]) a') Q)
    ((pair,.tup (els.getD i [])) :: (more,.top) :: (nx,.top) :: (it,.adr b) :: g seen a) (s seen a)) :
  mloopK C it m out nx more next pair rest code Q f σ:=by
 refine⟨key,els,hm,hob,fun b=>⟨fun seen f σ=>∃ a,J seen a/\f=(it,.adr b) :: g seen a/\σ=s seen a,⟨_,_,hw b,a0,h0,rfl,rfl⟩,?_,?_⟩⟩
 ·rintro seen f σ ⟨a,hj,rfl,rfl⟩
  exact⟨by simp [Fr.get],hkey seen a hj⟩
 ·rintro seen f σ ⟨a,hj,rfl,rfl⟩ hnd hlt
  refine⟨fun hl=>done b seen a hj hnd hlt hl,fun i hi hni=>?_⟩
  have h:=round b seen a i hj hnd hlt hi hni
  rw [opsZ_eq,opsX_eq] at h
  exact h
theorem mround_go {C:Cx} (hmx:C.P.follows .mixedOrders=true) {code:DC} {out next:Nat} {Q:Exit->Fr->St->Prop} {f:Fr} {σ:St} {α:Type} {J:α->Prop} {g:α->Fr} {s:α->St}
  (h:wpZ C code (blockW next (thenW (fun f' σ'=>∃ a',J a'/\Weak C f' σ' (g a') (s a')) (blockW out Q))) f σ):mroundK C code out next (fun f' σ'=>∃ a',J a'/\f'=g a'/\σ'=s a') Q f σ:=by
 have h2:=wpS_go hmx h
 refine wpS_weakQ (wpS_mono h2 fun e f1 σ1 hq=>?_)
 cases e with
 | normal=>
  obtain⟨a',hj',hwk⟩:=hq
  exact⟨_,_,hwk,a',hj',rfl,rfl⟩
 | exit j=>
  simp only [blockW,thenW] at hq
  by_cases hj2:j=next
  ·rw [if_pos hj2] at hq
   obtain⟨a',hj',hwk⟩:=hq
   refine⟨_,_,hwk,?_⟩
   simp only [blockW,thenW]
   rw [if_pos hj2]
   exact⟨a',hj',rfl,rfl⟩
  ·rw [if_neg hj2] at hq
   refine⟨f1,σ1,Weak.refl,?_⟩
   simp only [blockW,thenW]
   rw [if_neg hj2]
   exact hq
 | goto l=>exact⟨f1,σ1,Weak.refl,hq⟩
 | ret=>exact⟨f1,σ1,Weak.refl,hq⟩
 | panic ch=>exact⟨f1,σ1,Weak.refl,hq⟩
 | outgrown=>exact⟨f1,σ1,Weak.refl,hq⟩
theorem wpS_loopW {C:Cx} {dc:DC} {f:Fr} {σ:St} {Q:Exit->Fr->St->Prop} {α:Type} (g:α->Fr) (s:α->St) (I:α->Prop) (m:α->Nat) (a0:α) (h0:I a0) (hw:Weak C f σ (g a0) (s a0))
  (round:∀ a,I a->wpS C dc (g a) (s a) (thenW (fun f' σ'=>∃ a',I a'/\Weak C f' σ' (g a') (s a')/\ m a'<m a) (weakQ C Q))):wpS C (.loop dc) f σ Q:=
 wpS_weakQ (wpS_loop g s I m a0 h0 hw round)
end
theorem cast0 : ((0:Nat):Int)= 0:=rfl
theorem wrap_up {k:Nat} (h:k<9223372036854775807):IntKind.i64.wrap ((k:Int)+ 1)= ((k+1:Nat):Int):=by
 rw [wrap_i64 (by omega)]; omega
section
variable [Tabs]
theorem evO_t (f:Fr) (n:Nat):evO f (.t n)= Fr.get f n:=rfl
theorem evO_c (f:Fr) (d:D):evO f (.c d)= d:=rfl
theorem put_some (f:Fr) (t:Nat) (d:D):Fr.put f (some t) d=(t,d) :: f:=rfl
theorem put_none (f:Fr) (d:D):Fr.put f none d=f:=rfl
theorem get_nil (n:Nat):Fr.get [] n = .top:=rfl
theorem get_cons (t:Nat) (d:D) (r:Fr) (n:Nat):Fr.get ((t,d) :: r) n=if t=n then d else Fr.get r n:=rfl
theorem look_nil (k:Nat):St.look [] k=none:=rfl
theorem look_cons (j:Nat) (o:Ob) (r:List (Nat × Ob)) (k:Nat):St.look ((j,o) :: r) k=if j=k then some o else St.look r k:=rfl
theorem setL_nil (k:Nat) (o:Ob):setL [] k o = []:=rfl
theorem setL_cons (j:Nat) (o:Ob) (r:List (Nat × Ob)) (k:Nat) (o':Ob):setL ((j,o) :: r) k o'=if j=k then(j,o') :: r else(j,o) :: setL r k o':=rfl
theorem eraseL_nil (k:Nat):eraseL [] k = []:=rfl
theorem eraseL_cons (j:Nat) (o:Ob) (r:List (Nat × Ob)) (k:Nat):eraseL ((j,o) :: r) k=if j=k then eraseL r k else(j,o) :: eraseL r k:=rfl
theorem get_mk (n:Nat) (l:List (Nat × Ob)) (k:Nat):St.get ⟨n,l⟩ k=St.look l k:=rfl
theorem set_mk (n:Nat) (l:List (Nat × Ob)) (k:Nat) (o:Ob):St.set ⟨n,l⟩ k o=⟨n,setL l k o⟩:=rfl
theorem new_mk (n:Nat) (l:List (Nat × Ob)) (o:Ob):St.new ⟨n,l⟩ o=⟨n+1,(n,o) :: l⟩:=rfl
theorem erase_mk (n:Nat) (l:List (Nat × Ob)) (k:Nat):St.erase ⟨n,l⟩ k=⟨n,eraseL l k⟩:=rfl
theorem rowsOf_sl (σ:St) (sz sz':Nat) (els:List (List D)):rowsOf σ sz (.sl sz' els)= if sz=sz' then some els else none:=rfl
theorem rowsOf_nils (σ:St) (sz:Nat):rowsOf σ sz .nils=some []:=rfl
theorem rowsOf_emp (σ:St) (sz:Nat):rowsOf σ sz .emp=some []:=rfl
def zD :=And.intro @wpZ_skip (And.intro @wpZ_reg (And.intro @wpZ_regm (And.intro @wpZ_seq (And.intro @wpZ_cond (And.intro @wpZ_block (And.intro @wpZ_loop (And.intro @wpZ_exit (And.intro @wpZ_ret (And.intro @wpZ_mloop (And.intro @preZ_nil (And.intro @preZ_cons (And.intro @opsZ_nil (And.intro @opsZ_cons (And.intro @gd_none @gd_some))))))))))))))
def zT :=And.intro @evO_t (And.intro @evO_c (And.intro @put_some (And.intro @put_none (And.intro @get_nil (And.intro @get_cons (And.intro @look_nil (And.intro @look_cons (And.intro @setL_nil (And.intro @setL_cons (And.intro @eraseL_nil (And.intro @eraseL_cons (And.intro @get_mk (And.intro @set_mk (And.intro @new_mk (And.intro @erase_mk (And.intro @rowsOf_sl (And.intro @rowsOf_nils (And.intro @rowsOf_emp (And.intro @Int.cast_ofNat_Int (And.intro @cast0 (And.intro @Int.toNat_zero (And.intro @Int.toNat_one (And.intro @beq_self_eq_true.{0} (And.intro @bne_self_eq_false.{0} (And.intro @Bool.false_eq_true (And.intro @eqF_self (And.intro @gdB_bool (And.intro @gdB_und (And.intro @cdB_bool (And.intro @appW_growS (And.intro @appW_nil (And.intro @appW_oslO (And.intro @appO_some (And.intro @appW_subO (And.intro @appSO_some (And.intro @stoW_ref (And.intro @stoO_some (And.intro @stoO_grow (And.intro @lenW_grow (And.intro @lenW_sl (And.intro @lenW_osl (And.intro @lenW_sub (And.intro @lenW_nils (And.intro @lenW_emp (And.intro @idxW_grow (And.intro @idxW_sl (And.intro @idxW_osl (And.intro @idxW_sub (And.intro @nileqW_grow (And.intro @nileqW_1 (And.intro @nileqW_2 (And.intro @nileqW_3 (And.intro @nileqW_4 (And.intro @nileqW_5 (And.intro @nileqW_6 (And.intro @loadW_ref (And.intro @loadO_some (And.intro @loadO_grow (And.intro @loadW_ptr (And.intro @nckW_ref (And.intro @nckW_ptr (And.intro @nckW_fn (And.intro @mgetW_mref (And.intro @mgetW_nilm (And.intro @mgetO_some (And.intro @mgetO_nil (And.intro @mputW_mref (And.intro @mputO_some (And.intro @mputO_nil (And.intro @mres_none (And.intro @mres_some (And.intro @mres_none1 (And.intro @mres_some1 (And.intro @look_growO (And.intro @look_growO1 (And.intro @erase_growO (And.intro @erase_growO1 (And.intro @set_growO (And.intro @set_growO1 (And.intro @set_growO_ne (And.intro @Option.or_none.{0} (And.intro @List.length_set.{0} (And.intro @cells_growD (And.intro @one_growD (And.intro @Nat.lt_irrefl (And.intro @rows_len (And.intro @us_len (And.intro @us_take (And.intro @true_and (And.intro @and_true (And.intro @List.getD_cons_zero.{0} (And.intro @List.getD_cons_succ.{0} (And.intro @List.length_cons.{0} (And.intro @List.length_nil.{0} (And.intro @Bool.not_true (And.intro @Bool.not_false (And.intro @List.map_cons.{0,0} (And.intro @List.map_nil.{0,0} (And.intro @List.nil_append.{0} (And.intro @List.cons_append.{0} (And.intro @List.append_nil.{0} (And.intro @packD_one (And.intro @packD_agg (And.intro @List.take_succ_cons.{0} (And.intro @List.take_zero.{0} (And.intro @List.drop_succ_cons.{0} (And.intro @List.drop_zero.{0} (And.intro @false_implies (And.intro @or_true (And.intro @true_or (And.intro @Nat.le_refl (And.intro @Int.toNat_natCast (And.intro @and_self (And.intro @lit0 (And.intro @lit1 (And.intro @lit2 (And.intro @litm (And.intro @ui_and (And.intro @ui_or (And.intro @ui_xor (And.intro @ui_andNot (And.intro @ui_add (And.intro @ui_sub (And.intro @ui_mul (And.intro @ui_shl (And.intro @ui_shr (And.intro @ui_rem (And.intro @ui_beq (And.intro @ui_bne (And.intro @ui2_ne (And.intro @not_false_eq_true (And.intro @cells_osl (And.intro @cells_sub (And.intro @cells_int (And.intro @cells_bool (And.intro @cells_str (And.intro @cells_sl (And.intro @cells_nils (And.intro @cells_emp (And.intro @cells_agg (And.intro @cells_fn (And.intro @cells_ref (And.intro @cells_ptr (And.intro @cells_mref (And.intro @cells_nilp (And.intro @cells_nilm (And.intro @cells_nilf (And.intro @one_int (And.intro @one_bool (And.intro @one_str (And.intro @one_sl (And.intro @one_nils (And.intro @one_emp (And.intro @one_fn (And.intro @one_ref (And.intro @one_osl (And.intro @one_ptr (And.intro @one_mref (And.intro @one_nilp (And.intro @one_nilm (And.intro @one_nilf (And.intro @List.all_cons.{0} (And.intro @List.all_nil.{0} (And.intro @Bool.and_true (And.intro @Bool.and_self (And.intro @List.set_cons_zero.{0} (And.intro @List.set_cons_succ.{0} (And.intro @Nat.zero_add (And.intro @Nat.add_zero (And.intro @Nat.zero_lt_succ (And.intro @Nat.lt_add_one (And.intro @decide_true (And.intro @decide_false (And.intro @gt_iff_lt.{0} (And.intro @ge_iff_le.{0} (And.intro @rr_len (And.intro @rr_take (And.intro @Bool.true_and (And.intro @decide_eq_true_eq (And.intro @decide_eq_false_iff_not (And.intro @growD_nil (And.intro @growD_cons (And.intro @growO_nil (And.intro @growO_cons (And.intro @rows_take (And.intro @rows_snoc (And.intro @us_snoc (And.intro @rr_snoc (And.intro @rows_nil (And.intro @rows_cons (And.intro @us_nil (And.intro @us_cons (And.intro @List.mem_singleton.{0} (And.intro @List.cons_ne_nil.{0} (And.intro @List.take_length.{0} (And.intro @Option.map_some.{0,0} (And.intro @Option.map_none.{0,0} (And.intro @List.length_append.{0} (And.intro @rr_nil @rr_cons)))))))))))))))))))))))))))))))))))))))))))))))))))))))))))))))))))))))))))))))))))))))))))))))))))))))))))))))))))))))))))))))))))))))))))))))))))))))))))))))))))))))))))))))))))))))))))))))))))))))
def zR :=And.intro @cast0 (And.intro @inL_grow (And.intro @inL_grow1 (And.intro @inL_cons (And.intro @inL_nil (And.intro @stayL_grow (And.intro @stayL_grow1 (And.intro @stayL_growQ (And.intro @stayL_growQ1 (And.intro @stayL_cons (And.intro @stayL_nil (And.intro @vwQ_rr (And.intro @vwQ_snoc (And.intro @vwQ_pure (And.intro @vwQ_one (And.intro @vw_grow (And.intro @vw_grow_sl (And.intro @away_eq (And.intro @awayL_grow (And.intro @awayL_grow1 (And.intro @awayL_cons (And.intro @awayL_nil (And.intro @pureE_us (And.intro @pureE_rr (And.intro @pureE_rows (And.intro @pureE_nil (And.intro @pureE_append (And.intro @pureE_set (And.intro @look_growO (And.intro @look_growO1 (And.intro @Option.or_none.{0} (And.intro @Nat.zero_lt_succ (And.intro @Nat.lt_add_one (And.intro @Option.some.injEq.{0} (And.intro @and_true (And.intro @true_and (And.intro @and_self (And.intro @or_true (And.intro @true_or (And.intro @not_false_eq_true (And.intro @List.mem_cons.{0} (And.intro @List.mem_singleton.{0} (And.intro @List.not_mem_nil.{0} (And.intro @D.int.injEq (And.intro @D.bool.injEq (And.intro @D.sl.injEq (And.intro @D.ref.injEq (And.intro @List.length_cons.{0} (And.intro @List.length_nil.{0} (And.intro @us_snoc (And.intro @rows_snoc (And.intro @rr_snoc (And.intro @Nat.zero_add (And.intro @us_cons (And.intro @us_nil (And.intro @rr_nil (And.intro @rr_cons (And.intro @rows_nil @rows_cons)))))))))))))))))))))))))))))))))))))))))))))))))))))))))
end
end Go.Pd
namespace Go.Pd
open Go Go.ChangeShapes Go.WideShapes Go.RowKit
def coverB : List (Nat × Nat)->Nat->Nat->Bool
 | [],o,n=>o==n
 | (a,s) :: r,o,n=>(a==o)&& coverB r (o+s) n
def plainT (P:Program):Nat->TypeId->Bool
 | 0,_=>false
 | n+1,t=>match P.underlying t with
  | some .bool=>true
  | some (.int _)=>true
  | some .string=>true
  | some (.slice e)=>plainT P n e&&decide (0<P.cellsOf e)
  | some (.struct fs)=>(fs.toList.all fun f=>plainT P n f.type)&& coverB (fs.toList.map fun f=>(f.offset,P.cellsOf f.type)) 0 (P.cellsOf t)
  | some (.array k e)=>plainT P n e&&(P.cellsOf t==k*P.cellsOf e)
  | _=>false
mutual
def shapeC (P:Program):Nat->TypeId->List D->Prop
 | 0,_,_=>False
 | n+1,t,ds=>match P.underlying t with
  | some .bool=>∃ b,ds = [.bool b]
  | some (.int k)=>∃ i,ds = [.int k i]
  | some .string=>∃ s,ds = [.str s]
  | some (.slice e)=>∃ els,ds = [.sl (P.cellsOf e) els]/\∀ row ∈ els,shapeC P n e row
  | some (.struct fs)=>shapeF P n (fs.toList.map fun f=>f.type) ds
  | some (.array k e)=>shapeF P n (List.replicate k e) ds
  | _=>False
def shapeF (P:Program):Nat->List TypeId->List D->Prop
 | _,[],ds=>ds = []
 | n,f :: fs,ds=>∃ a b,ds=a++b/\shapeC P n f a/\shapeF P n fs b
end
def shapeV (P:Program) (n:Nat) (t:TypeId) (d:D):Prop:=
 match P.underlying t with
 | some (.struct _)=>∃ ds,d = .agg ds/\shapeC P n t ds
 | some (.array _ _)=>∃ ds,d = .agg ds/\shapeC P n t ds
 | _=>shapeC P n t [d]
def shapesV (P:Program) (n:Nat):List TypeId->List D->Prop
 | [],as=>as = []
 | t :: ts,as=>∃ a r,as=a :: r/\shapeV P n t a/\shapesV P n ts r
def relC (w:World) (cs:List Value) (ds:List D):Prop:=ds.length=cs.length/\∀ j,j<ds.length->RP (fun _=>False) w (cs.getD j undef) (ds.getD j .top)
theorem relC_append {w:World} {a b:List Value} {x y:List D} (h:relC w a x) (h':relC w b y):relC w (a++b) (x++y):=by
 refine⟨by simp [h.1,h'.1],fun j hj=>?_⟩
 simp only [List.getD]
 by_cases hx:j<x.length
 ·rw [List.getElem?_append_left hx,List.getElem?_append_left (by rw [<- h.1]; exact hx)]
  exact h.2 j hx
 ·have h1:=h.1
  rw [List.getElem?_append_right (by omega),List.getElem?_append_right (by omega),<- h.1]
  rw [List.length_append] at hj
  exact h'.2 (j-x.length) (by omega)
section
variable {H : Type} {enc : TypeId × Value -> H} {P : Program} {w : World} {sp : Nat -> Bool} {held : Bool}
theorem fields_rp {n:Nat} (key:∀ (t:TypeId) (cs:List Value) (fuel:Nat) (x:DataW H × List MemPlace),plainT P n t=true->DataW.trod enc P w 0 sp held fuel t cs=some x->∃ ds,relC w cs ds/\shapeC P n t ds) {cs:List Value} {fuel:Nat} :
  ∀ (fl:List Field) (o:Nat),(fl.all fun f=>plainT P n f.type)= true->coverB (fl.map fun f=>(f.offset,P.cellsOf f.type)) o cs.length=true ->
   (∀ f ∈ fl,∃ x,DataW.trod enc P w 0 sp held fuel f.type ((cs.drop f.offset).take (P.cellsOf f.type))= some x)->∃ ds,relC w (cs.drop o) ds/\shapeF P n (fl.map fun f=>f.type) ds
 | [],o,_,hc,_=>by
  simp only [List.map_nil,coverB,beq_iff_eq] at hc
  subst hc
  exact⟨[],by simp [relC],by simp [shapeF]⟩
 | f :: fl,o,hp,hc,hx=>by
  simp only [List.all_cons,Bool.and_eq_true] at hp
  simp only [List.map_cons,coverB,Bool.and_eq_true,beq_iff_eq] at hc
  obtain⟨x,h1⟩:=hx f (by simp)
  obtain⟨a,ha,hsa⟩:=key _ _ _ _ hp.1 h1
  obtain⟨b,hb,hsb⟩:=fields_rp key fl (o+P.cellsOf f.type) hp.2 hc.2 fun g hg=>hx g (by simp [hg])
  refine⟨a++b,?_,by simp only [List.map_cons,shapeF]; exact⟨a,b,rfl,hsa,hsb⟩⟩
  rw [hc.1] at ha
  have e:cs.drop o=(cs.drop o).take (P.cellsOf f.type)++ cs.drop (o+P.cellsOf f.type):=by
   rw [<- List.drop_drop,List.take_append_drop]
  rw [e]
  exact relC_append ha hb
theorem arr_rp {n:Nat} (key:∀ (t:TypeId) (cs:List Value) (fuel:Nat) (x:DataW H × List MemPlace),plainT P n t=true->DataW.trod enc P w 0 sp held fuel t cs=some x->∃ ds,relC w cs ds/\shapeC P n t ds) {cs:List Value} {fuel:Nat} {e:TypeId} (hp:plainT P n e=true) :
  ∀ (k o:Nat),cs.length=(o+k)* P.cellsOf e ->
   (∀ i,o<=i->i<o+k->∃ x,DataW.trod enc P w 0 sp held fuel e ((cs.drop (i*P.cellsOf e)).take (P.cellsOf e))= some x)->∃ ds,relC w (cs.drop (o*P.cellsOf e)) ds/\shapeF P n (List.replicate k e) ds
 | 0,o,hl,_=>⟨[],by rw [List.drop_eq_nil_of_le (by rw [hl]; simp)]; simp [relC],by simp [shapeF]⟩
 | k+1,o,hl,hx=>by
  obtain⟨x,h1⟩:=hx o (Nat.le_refl _) (by omega)
  obtain⟨a,ha,hsa⟩:=key _ _ _ _ hp h1
  obtain⟨b,hb,hsb⟩:=arr_rp key hp k (o+1) (by rw [hl]; congr 1; omega) fun i h1 h2=>hx i (by omega) (by omega)
  refine⟨a++b,?_,by simp only [List.replicate_succ,shapeF]; exact⟨a,b,rfl,hsa,hsb⟩⟩
  have e1:cs.drop (o*P.cellsOf e)= (cs.drop (o*P.cellsOf e)).take (P.cellsOf e)++ cs.drop ((o+1)* P.cellsOf e):=by
   rw [Nat.succ_mul,<- List.drop_drop,List.take_append_drop]
  rw [e1]
  exact relC_append ha hb
theorem trod_rp : ∀ (n:Nat) (t:TypeId) (cs:List Value) (fuel:Nat) (x:DataW H × List MemPlace),plainT P n t=true->DataW.trod enc P w 0 sp held fuel t cs=some x->∃ ds,relC w cs ds/\shapeC P n t ds
 | 0,t,cs,fuel,x,hp,_=>by simp [plainT] at hp
 | n + 1,t,cs,fuel,x,hp,h=>by
  unfold plainT at hp
  unfold shapeC
  split at hp
  ·rename_i hu
   obtain⟨b,rfl,_⟩:=DataW.trod_bool hu h
   exact⟨[.bool b],⟨rfl,fun j hj=>by simp at hj; subst hj; exact .bool b⟩,⟨b,rfl⟩⟩
  ·rename_i k hu
   obtain⟨i,rfl,_,hw⟩:=DataW.trod_int hu h
   refine⟨[.int k i],⟨rfl,fun j hj=>?_⟩,⟨i,rfl⟩⟩
   simp at hj; subst hj
   simp only [Lit.wf,Bool.and_eq_true,decide_eq_true_eq] at hw
   exact .int hw
  ·rename_i hu
   obtain⟨s,rfl,_,hs⟩:=DataW.trod_string hu h
   exact⟨[.str s],⟨rfl,fun j hj=>by simp at hj; subst hj; exact .str hs⟩,⟨s,rfl⟩⟩
  ·rename_i e hu
   simp only [Bool.and_eq_true,decide_eq_true_eq] at hp
   rcases Deep.open_slice hu h with ⟨rfl,_⟩ | ⟨a,len,cap,m,fu,Dd,Pl,rfl,_,hl,hm,hmm,_,hx⟩
   ·exact⟨[.sl (P.cellsOf e) []],⟨rfl,fun j hj=>by simp at hj; subst hj; exact .sl0 none 0 _ (fun _=>rfl)⟩,⟨[],rfl,by simp⟩⟩
   ·have hle:len<=m:=by rw [hmm]; split <;> omega
    by_cases h0:len=0
    ·subst h0
     exact⟨[.sl (P.cellsOf e) []],⟨rfl,fun j hj=>by simp at hj; subst hj; exact .sl0 (some a) cap _ (fun h=>by cases h)⟩,⟨[],rfl,by simp⟩⟩
    ·obtain⟨f,hf⟩:=Deep.choose_lt (α:=List Value × List D) (n:=len) (p:=fun i y=>w.cells? 0 (a.add (i*P.cellsOf e)) (P.cellsOf e)= some y.1/\relC w y.1 y.2/\shapeC P n e y.2) fun i hi=>by
      obtain⟨cs',h1,h2⟩:=hx i (by omega)
      obtain⟨ds,h3,h4⟩:=trod_rp n e cs' fu _ hp.1 h2
      exact⟨(cs',ds),h1,h3,h4⟩
     have hcells:∀ i,i<len->∀ j,j<P.cellsOf e->w.cell? ((a.add (i*P.cellsOf e)).add j)= some ((f i).1.getD j undef):=by
      intro i hi j hj
      obtain⟨_,h2,h3⟩:=World.cells?_some (hf i hi).1
      rw [h3 j hj]
      simp [List.getD,show j<(f i).1.length by omega]
     have hlen:∀ i,i<len->(f i).1.length=P.cellsOf e:=fun i hi=>(World.cells?_some (hf i hi).1).2.1
     have hspot:a.spot=none:=by
      have:=World.cell?_spot (hcells 0 (by omega) 0 hp.2)
      simpa [Addr.add] using this
     obtain⟨b,off,spot⟩:=a
     simp only at hspot
     subst hspot
     have hadd:∀ i j,((⟨b,off,none⟩:Addr).add i).add j=⟨b,off+i+j,none⟩:=by
      intro i j
      rw [Deep.add_add]
      unfold Addr.add
      by_cases h:i+j=0
      ·have h1:i=0:=by omega
       have h2:j=0:=by omega
       subst h1; subst h2; rfl
      ·rw [if_neg h]; simp [Nat.add_assoc]
     have els:∀ i,i<len->((List.range len).map fun i=>(f i).2).getD i []=(f i).2:=by
      intro i hi
      simp [List.getD,hi]
     refine⟨[.sl (P.cellsOf e) ((List.range len).map fun i=>(f i).2)],⟨rfl,fun j hj=>?_⟩,⟨_,rfl,?_⟩⟩
     ·simp at hj; subst hj
      simp only [List.getD_cons_zero]
      have:=RP.sl (M:=fun _=>False) (w:=w) (b:=b) (off:=off) (cap:=cap) (sz:=P.cellsOf e) (els:=(List.range len).map fun i=>(f i).2) (fun i j=>(f i).1.getD j undef) hp.2 (fun h=>h) (by simpa using hl) hm ?_ ?_ ?_
      ·simpa using this
      ·intro x hx'
       simp only [List.mem_map,List.mem_range] at hx'
       obtain⟨i,hi,rfl⟩:=hx'
       rw [(hf i hi).2.1.1,hlen i hi]
      ·intro i hi j hj
       have hi':i<len:=by simpa using hi
       have:=hcells i hi' j hj
       rw [hadd] at this
       exact this
      ·intro i hi j hj
       have hi':i<len:=by simpa using hi
       rw [els i hi']
       exact(hf i hi').2.1.2 j (by rw [(hf i hi').2.1.1,hlen i hi']; exact hj)
     ·intro row hrow
      simp only [List.mem_map,List.mem_range] at hrow
      obtain⟨i,hi,rfl⟩:=hrow
      exact(hf i hi).2.2
  ·rename_i fs hu
   simp only [Bool.and_eq_true] at hp
   obtain⟨xs,n',_,_,hlen,hsz,hf⟩:=DataW.trod_struct hu h
   rw [<- hlen] at hp
   obtain⟨ds,h1,h2⟩:=fields_rp (fun t cs fuel x=>trod_rp n t cs fuel x) (fuel:=n') fs.toList 0 hp.1 hp.2 fun g hg=>by
    obtain⟨i,hi,rfl⟩:=List.getElem_of_mem hg
    have hi':i<fs.size:=by simpa using hi
    have:=hf i fs[i] (by simp [hi'])
    refine⟨xs[i]'(by omega),?_⟩
    simp only [Array.getElem_toList]
    rw [this]
    simp [show i<xs.length by omega]
   exact⟨ds,by simpa using h1,h2⟩
  ·rename_i k e hu
   simp only [Bool.and_eq_true,beq_iff_eq] at hp
   obtain⟨xs,m,_,_,hlen,hxs,hf⟩:=DataW.trod_array hu h
   obtain⟨ds,h1,h2⟩:=arr_rp (fun t cs fuel x=>trod_rp n t cs fuel x) (fuel:=m) hp.1 k 0 (by rw [hlen,hp.2]; simp) fun i _ hi=>by
    have:=hf i (by omega)
    rw [this]
    simp [show i<xs.length by omega]
   exact⟨ds,by simpa using h1,h2⟩
  ·cases hp
end
section
variable {H : Type} {enc : TypeId × Value -> H} {P : Program} {w : World} {sp : Nat -> Bool} {held : Bool}
theorem okWide_array {r:Reach} {b:Nat} {t:TypeId} {v:Value} {k:Nat} {e:TypeId} (ht:P.underlying t=some (.array k e)) (h:Value.okWide P w r b t v):∃ cs,v = .agg cs/\cs.size=P.cellsOf t:=by
 simp only [Value.okWide,ht] at h
 obtain⟨cs,h1,h2,_⟩:=h
 exact⟨cs,h1,h2⟩
theorem arg_rp {n:Nat} {b:Nat} {t:TypeId} {v:Value} {d:DataW H} {ps:List MemPlace} (hp:plainT P n t=true) (hv:Value.okWide P w .any b t v) (h:DataW.Trod enc P w 0 sp held t v d ps):∃ a,RP (fun _=>False) w v a/\shapeV P n t a:=by
 obtain⟨fuel,h⟩:=h
 obtain⟨ds,h1,h2⟩:=trod_rp n t _ fuel _ hp h
 unfold shapeV
 split
 ·rename_i fs hu
  obtain⟨cs,rfl,_⟩:=okWide_struct hu hv
  refine⟨.agg ds,.agg (by rw [h1.1]; rfl) fun j hj=>?_,ds,rfl,h2⟩
  have:=h1.2 j hj
  have e:(Value.agg cs).cells.toList.getD j undef=cs.getD j undef:=by
   simp [Value.cells,List.getD,Array.getD]
   by_cases hj:j<cs.size <;> simp [hj]
  rw [e] at this
  exact this
 ·rename_i k e hu
  obtain⟨cs,rfl,_⟩:=okWide_array hu hv
  refine⟨.agg ds,.agg (by rw [h1.1]; rfl) fun j hj=>?_,ds,rfl,h2⟩
  have:=h1.2 j hj
  have e:(Value.agg cs).cells.toList.getD j undef=cs.getD j undef:=by
   simp [Value.cells,List.getD,Array.getD]
   by_cases hj:j<cs.size <;> simp [hj]
  rw [e] at this
  exact this
 ·rename_i hns hna
  have one:∃ x,ds = [x]:=by
   cases n with
   | zero=>simp [plainT] at hp
   | succ n=>
    unfold shapeC at h2
    split at h2
    ·obtain⟨b,rfl⟩:=h2; exact⟨_,rfl⟩
    ·obtain⟨b,rfl⟩:=h2; exact⟨_,rfl⟩
    ·obtain⟨b,rfl⟩:=h2; exact⟨_,rfl⟩
    ·obtain⟨b,rfl,_⟩:=h2; exact⟨_,rfl⟩
    ·rename_i fs hu; exact absurd hu (hns fs)
    ·rename_i k e hu; exact absurd hu (hna k e)
    ·cases h2
  obtain⟨x,rfl⟩:=one
  refine⟨x,?_,h2⟩
  have hx:=h1.2 0 (by simp)
  simp only [List.getD_cons_zero] at hx
  have hlen:=h1.1
  cases v with
  | agg cs=>
   exfalso
   unfold Value.okWide at hv
   split at hv
   ·rename_i fs hu; exact absurd hu (hns fs)
   ·rename_i k e hu; exact absurd hu (hna k e)
   ·rename_i h3 h4
    cases n with
    | zero=>simp [plainT] at hp
    | succ n=>
     unfold plainT at hp
     unfold Cell.okWide at hv
     split at hp <;> rename_i hu <;> simp [hu,Cell.ok] at hv
     all_goals first | exact absurd hu (hns _) | exact absurd hu (hna _ _) | cases hp
  | _=>simpa [Value.cells] using hx
theorem args_rp {n:Nat} {b:Nat}:∀ {ts:List TypeId} {vs:List Value} {ds:List (DataW H)} {ps:List MemPlace},(ts.all fun t=>plainT P n t)= true->(∀ (j:Nat) t v,ts[j]?=some t->vs[j]?=some v->Value.okWide P w .any b t v) ->
  DataW.TrodAll enc P w 0 sp held ts vs ds ps->∃ as,as.length=vs.length/\vs.length=ts.length/\ds.length=ts.length/\(∀ j,j<as.length->RP (fun _=>False) w (vs.getD j undef) (as.getD j .top))/\ shapesV P n ts as
 | [],vs,ds,ps,_,_,h=>by
  obtain⟨rfl,rfl,rfl⟩:=trodAll_nil h
  exact⟨[],rfl,rfl,rfl,fun j hj=>by simp at hj,rfl⟩
 | t :: ts,vs,ds,ps,hp,hv,h=>by
  obtain⟨v,vs',d,ds',p,q,rfl,rfl,rfl,h1,h2⟩:=trodAll_cons h
  simp only [List.all_cons,Bool.and_eq_true] at hp
  obtain⟨a,r1,s1⟩:=arg_rp hp.1 (hv 0 t v rfl rfl) h1
  obtain⟨as,l1,l2,l3,r2,s2⟩:=args_rp hp.2 (fun j t v h1 h2=>hv (j+1) t v h1 h2) h2
  refine⟨a :: as,by simp [l1],by simp [l2],by simp [l3],fun j hj=>?_,a,as,rfl,s1,s2⟩
  cases j with
  | zero=>exact r1
  | succ j=>exact r2 j (by simpa using hj)
theorem below_trodAll (hl:laidOutB P=true) {W W':World} (hb:Below W.heap.size W W'):∀ {ts:List TypeId} {vs:List Value} {ds:List (DataW H)} {ps:List MemPlace},(ts.all fun t=>P.readableRec t&&decide (t<P.types.size))= true ->
  (∀ x ∈ ps,x.block<W.heap.size)->DataW.TrodAll enc P W 0 (fun _=>true) true ts vs ds ps->DataW.TrodAll enc P W' 0 (fun b=>decide (b<W.heap.size)) true ts vs ds ps
 | [],vs,ds,ps,_,_,h=>by
  obtain⟨rfl,rfl,rfl⟩:=trodAll_nil h
  exact rfl
 | t :: ts,vs,ds,ps,hr,hlt,h=>by
  obtain⟨v,vs',d,ds',p,q,rfl,rfl,rfl,h1,h2⟩:=trodAll_cons h
  simp only [List.all_cons,Bool.and_eq_true,decide_eq_true_eq] at hr
  exact⟨p,q,Below.trod hl hr.1.1 hr.1.2 h1 hb fun x hx=>hlt x (by simp [hx]),below_trodAll hl hb hr.2 (fun x hx=>hlt x (by simp [hx])) h2,rfl⟩
theorem trodAll_lt {W:World}:∀ {ts:List TypeId} {vs:List Value} {ds:List (DataW H)} {ps:List MemPlace},DataW.TrodAll enc P W 0 sp held ts vs ds ps->∀ x ∈ ps,x.block<W.heap.size
 | [],vs,ds,ps,h=>by
  obtain⟨rfl,rfl,rfl⟩:=trodAll_nil h
  intro x hx; simp at hx
 | t :: ts,vs,ds,ps,h=>by
  obtain⟨v,vs',d,ds',p,q,rfl,rfl,rfl,⟨m,hm⟩,h2⟩:=trodAll_cons h
  intro x hx
  rcases List.mem_append.1 hx with hx | hx
  ·exact DataW.trod_lt m _ _ _ hm x hx
  ·exact trodAll_lt h2 x hx
end
section
variable [Tabs]
theorem Runs.calls {P:Program} {g:FuncId} {args:List D} {b:Bool} (h:Runs P g args (.bool b)) {w:World} {vals:Array Value} (ht:TabOK w fun _=>False) (hl:vals.size=args.length)
  (hv:∀ j,j<args.length->RP (fun _=>False) w (vals.getD j undef) (args.getD j .top)):Calls P g vals w fun e w'=>e = .returned (.bool b)/\ Below w.heap.size w w':=by
 have hM:∀ b,Mof (fun _=>False) (fun _=>0) St0 b->False:=by
  rintro b (h | ⟨k,o,hk,_⟩)
  ·exact h
  ·cases hk
 have hS:SimS (fun _=>False) w St0 (fun _=>0):=⟨fun b hb=>hb.elim,(fun k o hk=>by cases hk),(fun k k' o o' hk=>by cases hk),(fun k o hk=>by cases hk),ht.keep (Nat.le_refl _) (fun _ _ _=>rfl) fun b _ hb=>hM b hb⟩
 refine(h.run _ w _ vals hS hl fun j hj=>.pure ((hv j hj).keep (fun _ _ _=>rfl) fun b _ hb=>hM b hb)).mono fun e w' hh=>?_
 obtain⟨v,ι',rfl,k1,k2,k3,k4,k5,k6⟩:=hh
 have K0:Kept w w' fun _=>False:=k1.mono fun b _ ⟨k,o,hk,_⟩=>by cases hk
 rw [k6.bool_inv]
 exact⟨rfl,K0.below⟩
end
theorem toList_getD (a:Array Value) (j:Nat) (d:Value):a.getD j d=a.toList.getD j d:=by
 simp [List.getD,Array.getD]
 by_cases h:j<a.size <;> simp [h]
theorem law_post {H:Type} {enc:TypeId × Value->H} {P:Program} {f:Func} {s:ChangeSpec} {W W':World} {args:Array Value} {ds gs:List (DataW H)} {before:List MemPlace} {tb:TypeId}
  (hl:laidOutB P=true) (hr:(f.params.toList.all fun t=>P.readableRec t&&decide (t<P.types.size))= true) (hb:f.resultTypes = #[tb]) (htb:P.underlying tb=some .bool) (hsv:s.vars = [])
  (hW:DataW.Whole enc P f.params.toList s.vars false W args.toList ds gs before) (hs:s.fn H (ds++gs)= { results:=[.lit (.bool true)],args:=ds }) (bel:Below W.heap.size W W') :
  s.post enc P f false true false false W args (.bool true) W':=by
 have hW':=hW
 obtain⟨p,q,hA,hV,rfl,hfz,hnd⟩:=hW
 rw [hsv] at hV
 obtain⟨rfl,rfl⟩:=trodVars_none hV
 have hA2:=below_trodAll hl bel hr (trodAll_lt hA) hA
 refine⟨_,_,_,[],p,[],hW',?_,?_,?_,bel.frame _,fun h=>by cases h⟩
 ·rw [hs,hb]
  exact trodAll_mk1 (shut_bool htb _)
 ·rw [hs]
  exact hA2
 ·rw [hs,hsv]
  rfl
abbrev dO (i:Nat) (k:DK):DOp:=⟨some i,none,k⟩
abbrev dF (i j:Nat) (k:DK):DOp:=⟨some i,some (j,false),k⟩
abbrev dT (i j:Nat) (k:DK):DOp:=⟨some i,some (j,true),k⟩
abbrev Opd.i (n:Int):Opd:=.c (.int .i64 n)
abbrev dM (i j:Nat):DOp:=⟨some i,none,.mv (.t j)⟩
abbrev dL (i j:Nat):DOp:=⟨some i,none,.load 1 false (.t j)⟩
abbrev dG (i n j:Nat):DOp:=⟨some i,none,.fld n (.t j)⟩
abbrev DC.r (l:List DOp) (c:DC):DC:=.seq (.reg [] l) c
abbrev DK.cf (f:FuncId) (l:List Opd):DK:=.call (.c (.fn f [])) l
set_option linter.defProp false
def zW.{u} :=And.intro @ne_eq.{u} (And.intro @forall_const.{u} (And.intro @implies_true.{u} @forall_eq.{u}))
section
variable [Tabs]
def zU :=And.intro @callZ.eq_1 (And.intro @midZ.eq_1 (And.intro @unZ.eq_1 (And.intro @thenW.eq_1 (And.intro @thenW.eq_2 (And.intro @blockW.eq_1 (And.intro @blockW.eq_2 (And.intro @opX.eq_1 (And.intro @opX.eq_2 (And.intro @opX.eq_3 (And.intro @opX.eq_4 (And.intro @opX.eq_5 (And.intro @opX.eq_6 (And.intro @opX.eq_7 (And.intro @opX.eq_8 (And.intro @opX.eq_9 (And.intro @opX.eq_10 (And.intro @opX.eq_11 (And.intro @opX.eq_12 (And.intro @opX.eq_13 (And.intro @opX.eq_14 (And.intro @opV.eq_1 (And.intro @opV.eq_2 (And.intro @opV.eq_3 (And.intro @opV.eq_4 (And.intro @opV.eq_5 (And.intro @opV.eq_6 (And.intro @opV.eq_7 (And.intro @opV.eq_8 (And.intro @opV.eq_9 (And.intro @opV.eq_10 (And.intro @opV.eq_11 (And.intro @opV.eq_12 (And.intro @opV.eq_13 (And.intro @opV.eq_14 (And.intro @pX.eq_1 (And.intro @pX.eq_2 (And.intro @pX.eq_3 (And.intro @pX.eq_4 (And.intro @pX.eq_5 (And.intro @pX.eq_6 (And.intro @pX.eq_7 (And.intro @pX.eq_8 (And.intro @pW.eq_1 (And.intro @pW.eq_2 (And.intro @pW.eq_3 (And.intro @pW.eq_4 (And.intro @pW.eq_5 (And.intro @pW.eq_6 (And.intro @pW.eq_7 (And.intro @pW.eq_8 (And.intro @pW.eq_9 (And.intro @pW.eq_10 (And.intro @pW.eq_11 (And.intro @pW.eq_12 (And.intro @pW.eq_13 (And.intro @pW.eq_14 (And.intro @pW.eq_15 (And.intro @pW.eq_16 (And.intro @pW.eq_17 (And.intro @pW.eq_18 (And.intro @pW.eq_19 (And.intro @pW.eq_20 (And.intro @pW.eq_21 (And.intro @pW.eq_22 (And.intro @pW.eq_23 (And.intro @pW.eq_24 (And.intro @pW.eq_25 (And.intro @pW.eq_26 (And.intro @pW.eq_27 (And.intro @pW.eq_28 (And.intro @putK.eq_1 (And.intro @putP.eq_1 (And.intro @atK.eq_1 (And.intro @normK.eq_1 @postZ.eq_1))))))))))))))))))))))))))))))))))))))))))))))))))))))))))))))))))))))))))
def zV :=And.intro @St0.eq_1 (And.intro @argFr.eq_1 (And.intro @argFr.eq_2 (And.intro @binW.eq_1 (And.intro @binW.eq_2 (And.intro @binW.eq_3 (And.intro @binW.eq_4 (And.intro @binW.eq_5 (And.intro @binW.eq_6 (And.intro @binW.eq_7 (And.intro @binW.eq_8 (And.intro @binW.eq_9 (And.intro @binW.eq_10 (And.intro @binW.eq_11 (And.intro @binW.eq_12 (And.intro @binW.eq_13 (And.intro @binW.eq_14 (And.intro @binW.eq_15 (And.intro @binW.eq_16 (And.intro @binW.eq_17 (And.intro @bodyQ.eq_1 (And.intro @ressW.eq_1 (And.intro @ressW.eq_2 (And.intro @ressW.eq_3 (And.intro @ressW.eq_4 (And.intro @ressW.eq_5 (And.intro @ressW.eq_6 (And.intro @resW.eq_1 (And.intro @resW.eq_2 (And.intro @sets.eq_1 (And.intro @oneAll.eq_1 (And.intro @setD.eq_1 (And.intro @setD.eq_2 (And.intro @rels.eq_1 (And.intro @fillE.eq_1 (And.intro @fillE.eq_2 (And.intro @fillD.eq_1 (And.intro @fillD.eq_2 (And.intro @List.replicate.eq_1.{0} (And.intro @List.replicate.eq_2.{0} (And.intro @rowsOf.eq_1 (And.intro @rowsOf.eq_2 (And.intro @rowsOf.eq_3 (And.intro @rowsOf.eq_4 @rowsOf.eq_5)))))))))))))))))))))))))))))))))))))))))))
end
theorem sd {p q:Prop} (b:q) (a:p:=by first | omega | exact ui_nonneg _ | exact Int.natCast_nonneg _ | rfl | exact rows_one' _ _ | exact us_one _ | (intro _ h; cases h; done)):p/\q:=⟨a,b⟩
section
variable [Tabs]
theorem cr {P:Program} {g:FuncId} {args:List D} {d:D} {s:St} (hc:Runs P g args d) (hp:D.isPureL args=true:=by simp [D.isPureL,D.isPure]):CallT P g args s d s:=CallT.of_runs hc hp
theorem cq {P:Program} {g:FuncId} {args:List D} {d:D} {s:St} (hc:Runs P g args d) (hp:D.isPureL args=true:=by rfl):CallT P g args s d s:=CallT.of_runs hc hp
end
end Go.Pd
