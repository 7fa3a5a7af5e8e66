/- Part X6. -/
import Derived.Test.YtccobgpcnfjbhaaZtX5
import Derived.Carry
import Derived.ChangeArms
import Derived.Deep.Slices
import Derived.ProofKit
import Derived.OpenShut
set_option linter.unusedSectionVars false
set_option linter.unusedVariables false
set_option linter.unusedSimpArgs false
set_option linter.defProp false
open And renaming intro->γ
open List renaming append_nil->δ,mem_map->ε,map_cons->ζ,nil_append->η,length_nil->θ,getD_cons_zero->κ,all_cons->μ,cons_append->ν,getElem?_append_right->ξ,getElem?_append_left->ο,mem_cons->π,take_append_drop->υ,mem_singleton->χ,length_append->ω,length_cons->Aa
open Bool renaming and_eq_true->Ab
open BitVec renaming eq_of_toNat_eq->Ac,ofInt_natCast->Ad,ofInt_mul->Ae,ofInt_add->Af
open Nat renaming le_refl->Ag,zero_add->Ah
namespace Go.Pd
open Go
def ui (s:BitVec 64):Int:=s.toNat
theorem v7 (s:BitVec 64):0<=ui s:=by unfold ui; omega
theorem Sv {s t:BitVec 64}:ui s=ui t ↔ s=t:=by
 unfold ui
 constructor
 ·intro h; exact Ac (by omega)
 ·rintro rfl; rfl
theorem vR (s:BitVec 64):BitVec.ofInt 64 (ui s)= s:=by unfold ui;rw [Ad];simp
theorem nP (s:BitVec 64):IntKind.u64.wrap (s.toNat:Int)= ui s:=by unfold ui;have:=s.isLt;exact wrap_u64 ⟨by omega,by omega⟩
theorem Ss (s t:BitVec 64):rL .and .u64 (ui s) (ui t)= ui (s &&& t):=by show IntKind.u64.wrap ((BitVec.ofInt 64 (ui s)&&& BitVec.ofInt 64 (ui t)).toNat:Int)= _;rw [vR,vR,nP]
theorem Qc (s t:BitVec 64):rL .or .u64 (ui s) (ui t)= ui (s ||| t):=by show IntKind.u64.wrap ((BitVec.ofInt 64 (ui s) ||| BitVec.ofInt 64 (ui t)).toNat:Int)= _;rw [vR,vR,nP]
theorem T6 (s t:BitVec 64):rL .xor .u64 (ui s) (ui t)= ui (s ^^^ t):=by show IntKind.u64.wrap ((BitVec.ofInt 64 (ui s)^^^ BitVec.ofInt 64 (ui t)).toNat:Int)= _;rw [vR,vR,nP]
theorem u9 (s t:BitVec 64):rL .andNot .u64 (ui s) (ui t)= ui (s &&& ~~~t):=by show IntKind.u64.wrap ((BitVec.ofInt 64 (ui s)&&& ~~~BitVec.ofInt 64 (ui t)).toNat:Int)= _;rw [vR,vR,nP]
theorem iT (n:Int):IntKind.u64.wrap n=ui (BitVec.ofInt 64 n):=by unfold ui;rw [BitVec.toNat_ofInt];simp [IntKind.wrap,IntKind.signed,IntKind.bits];omega
theorem Sr (s t:BitVec 64):IntKind.u64.wrap (ui s+ui t)= ui (s+t):=by rw [iT,Af,vR,vR]
theorem T4 (s t:BitVec 64):IntKind.u64.wrap (ui s-ui t)= ui (s-t):=by rw [iT];congr 1;rw [Int.sub_eq_add_neg,Af,BitVec.ofInt_neg,vR,vR,BitVec.sub_eq_add_neg]
theorem Sw (s t:BitVec 64):IntKind.u64.wrap (ui s*ui t)= ui (s*t):=by rw [iT,Ae,vR,vR]
theorem Sy (s:BitVec 64) (k:Int):ud .u64 (ui s) k=ui (s <<< k.toNat):=by
 unfold ud;rw [iT];congr 1;rw [Ae,vR];show s*BitVec.ofInt 64 (2 ^ min k.toNat 64)= _;apply Ac;rw [BitVec.toNat_mul,BitVec.toNat_shiftLeft,Nat.shiftLeft_eq]
 have e:(BitVec.ofInt 64 (2 ^ min k.toNat 64)).toNat=2 ^ min k.toNat 64 % 2 ^ 64:=by
  have:((2:Int)^ min k.toNat 64)= ((2 ^ min k.toNat 64:Nat):Int):=by norm_cast
  rw [this,Ad,BitVec.toNat_ofNat]
 rw [e,Nat.mul_mod_mod]
 rcases Nat.lt_or_ge k.toNat 64 with h | h
 ·rw [Nat.min_eq_left (by omega)]
 ·rw [Nat.min_eq_right h];obtain⟨m,hm⟩:=Nat.exists_eq_add_of_le h;rw [hm,Nat.pow_add,<- Nat.mul_assoc,Nat.mul_right_comm];simp
theorem Sx (s:BitVec 64) (k:Int):ue .u64 (ui s) k=ui (s >>> k.toNat):=by
 unfold ue ui;rw [BitVec.toNat_ushiftRight,Nat.shiftRight_eq_div_pow];show (s.toNat:Int).fdiv (2 ^ min k.toNat 64)= _;have:((2:Int)^ min k.toNat 64)= ((2 ^ min k.toNat 64:Nat):Int):=by norm_cast
 rw [this,Int.fdiv_eq_ediv_of_nonneg _ (Int.natCast_nonneg _),<- Int.natCast_ediv];congr 1
 rcases Nat.lt_or_ge k.toNat 64 with h | h
 ·rw [Nat.min_eq_left (by omega)]
 ·rw [Nat.min_eq_right h];have h1:=s.isLt;rw [Nat.div_eq_of_lt h1,Nat.div_eq_of_lt (Nat.lt_of_lt_of_le h1 (Nat.pow_le_pow_right (by omega) h))]
theorem Sz (s t:BitVec 64):(ui s).tmod (ui t)= ui (s % t):=by unfold ui;rw [BitVec.toNat_umod,Int.tmod_eq_emod_of_nonneg (by omega),Int.natCast_emod]
theorem Yk (s t:BitVec 64):(ui s==ui t)= (s==t):=by
 by_cases h:s=t
 ·subst h; simp
 ·have:ui s≠ui t:=λe=>h (Sv.1 e);rw [beq_eq_false_iff_ne.2 this,beq_eq_false_iff_ne.2 h]
theorem Su (s t:BitVec 64):(ui s != ui t)= (s != t):=by simp only [bne,Yk]
theorem O2 : D.int .u64 0=D.int .u64 (ui 0#64):=rfl
theorem O3 : D.int .u64 1=D.int .u64 (ui 1#64):=rfl
theorem O4 : D.int .u64 2=D.int .u64 (ui 2#64):=rfl
theorem O5 : D.int .u64 18446744073709551615=D.int .u64 (ui 18446744073709551615#64):=rfl
theorem Sq : ui 2#64≠0:=by decide
def us (l:List (BitVec 64)):List (List D):=l.map λs=>[.int .u64 (ui s)]
def WU (l:List (BitVec 64)):D:=.sl 1 (us l)
theorem gW (l:List (BitVec 64)):(us l).length=l.length:=by simp [us]
theorem Yn : us [] = []:=rfl
theorem cn (s:BitVec 64) (l:List (BitVec 64)):us (s :: l)= [.int .u64 (ui s)] :: us l:=rfl
theorem Ym (l:List (BitVec 64)) {i:Nat} (h:i<l.length):(us l).getD i [] = [.int .u64 (ui (l.getD i 0))]:=by simp [us,List.getD,h]
theorem V8 (l:List (BitVec 64)):∀ e ∈ us l,D.xJ e=true:=by intro e he;simp only [us,ε] at he;obtain⟨n,_,rfl⟩:=he;rfl
theorem T7 (l:List (BitVec 64)):∀ e ∈ us l,zX e=true:=by intro e he;simp only [us,ε] at he;obtain⟨n,_,rfl⟩:=he;rfl
theorem V9 (l:List (BitVec 64)) (n:Nat):(us l).take n=us (l.take n):=by simp [us,List.map_take]
theorem cp (l:List (BitVec 64)) (s:BitVec 64):us l ++ [[.int .u64 (ui s)]]=us (l ++ [s]):=by simp [us]
theorem T8 (l:List (BitVec 64)) (i:Nat) (s:BitVec 64):(us l).set i [.int .u64 (ui s)]=us (l.set i s):=by simp [us,List.map_set]
theorem o7 (d:D):uE false [d]=d:=rfl
theorem o6 (cs:List D):uE true cs = .agg cs:=rfl
def yH (key sz:Nat):List (List D)->D
 | []=>.xU
 | e :: r=>.xP key sz (e :: r).length
def yD (key sz:Nat):List (List D)->List (Nat × Ob)
 | []=>[]
 | e :: r=>[(key,⟨sz,e :: r⟩)]
end Go.Pd
namespace Go.Pd
open Go
variable [vU]
def zL (f:Fr):Fr->Prop
 | []=>True
 | (t,d) :: r=>f.get t=d/\zL f r
omit [vU] in
theorem yo {f:Fr}:∀ {f':Fr},zL f f'->∀ t,f'.get t = .top\/f'.get t=f.get t
 | [],_,t=>.inl rfl
 | (s,d) :: r,h,t=>by
  simp only [Fr.get]
  split
  ·rename_i e; subst e; exact .inr h.1.symm
  ·exact yo h.2 t
theorem yV.same {C:Cx} {f f':Fr} {σ:St} (h:zL f f'):yV C f σ f' σ:=yV.frame (yo h)
end Go.Pd
namespace Go.Pd
open Go
def rr (ll:List (List (BitVec 64))):List (List D):=ll.map λl=>[WU l]
def O6 (ll:List (List (BitVec 64))):D:=.sl 1 (rr ll)
theorem Sd (l:List (List (BitVec 64))):(rr l).length=l.length:=by simp [rr]
theorem V0 (l:List (List (BitVec 64))) (n:Nat):(rr l).take n=rr (l.take n):=by simp [rr,List.map_take]
theorem cg (l:List (List (BitVec 64))):∀ e ∈ rr l,D.xJ e=true:=by intro e he;simp only [rr,ε] at he;obtain⟨n,_,rfl⟩:=he;simp [D.xJ,D.xH,WU]
end Go.Pd
namespace Go.Pd
open Go
theorem eU.same {n0:Nat} {σ:St} {d:D}:eU n0 σ d σ d:=.inl ⟨rfl,rfl⟩
theorem eU.drop {n0 n:Nat} {σ:St} {d d':D} (hn:n0<=n) (h:vw σ ⟨n,[]⟩ (λk=>k) d d'):eU n0 σ d ⟨n,[]⟩ d':= .inr ⟨λk=>k,hn,λ_ _=>rfl,h,by simp [stays],by simp [rU]⟩
end Go.Pd
namespace Go.Pd
open Go
universe u
variable [vU]
def MN (σ:St) (K:D->St->Prop) (d:D):Prop:=K d σ
def TO (f:Fr) (dst:Option Nat) (K:Fr->St->Prop) (d:D) (σ:St):Prop:=K (f.put dst d) σ
def TP (f:Fr) (dst:Option Nat) (K:Fr->Prop) (d:D):Prop:=K (f.put dst d)
def fV (Q:Exit->Fr->St->Prop) (f:Fr) (σ:St):Prop:=Q .normal f σ
def Rk (d:D) (want:Bool) (yes no:Prop):Prop:=
 match d with
 | .bool b=>if b=want then yes else no
 | .vP=>no
 | _=>False
theorem Wy (b want:Bool) (yes no:Prop):Rk (.bool b) want yes no=if b=want then yes else no:=rfl
theorem UT (want:Bool) (yes no:Prop):Rk .vP want yes no=no:=rfl
@[congr] theorem Rg {d d' : D} {want : Bool} {yes no : Prop} (h : d = d') : Rk d want yes no = Rk d' want yes no := by rw [h]
def gd (g:Option (Nat × Bool)) (f:Fr) (yes no:Prop):Prop:=
 match g with
 | none=>yes
 | some (j,want)=>Rk (f.get j) want yes no
theorem UU (f:Fr) (yes no:Prop):gd none f yes no=yes:=rfl
theorem UV (j:Nat) (want:Bool) (f:Fr) (yes no:Prop):gd (some (j,want)) f yes no=Rk (f.get j) want yes no:=rfl
theorem Tq (o:xN) (f:Fr) (yes no:Prop):xF o f yes no=gd o.guard f yes no:=by
 unfold xF gd
 split
 ·rename_i h; rw [h]
 ·rename_i h; rw [h]; rfl
def gX (q:Bool) (σ:St) (sz bytes:Nat) (x:D) (y:Option (List (List D))) (K:D->St->Prop):Prop:=
 match y with
 | none=>False
 | some rows=>(∀ r ∈ rows,zX r=true)/\ match x with
  | .xU=>rows.length*bytes<=140737488355328/\rows.length<=8000000000000/\(rows = []->K .xU σ)/\ (rows ≠ []->K (.xP σ.nx sz rows.length) (σ.new ⟨sz,rows⟩))
  | .xP key sz' n=>match σ.get key with
   | some ob=>sz=sz'/\ob.sz=sz/\n<=ob.xZ.length/\(n+rows.length)* bytes<=140737488355328/\n+rows.length<=8000000000000 /\
    K (.xP σ.nx sz (n+rows.length)) ((σ.erase key).new ⟨sz,ob.xZ.take n++rows⟩)
   | none=>False
  | .sub key sz' lo n=>match σ.get key with
   | some ob=>q=true/\sz=sz'/\ob.sz=sz/\lo+n<=ob.xZ.length/\(n+rows.length)* bytes<=140737488355328/\n+rows.length<=8000000000000 /\
    ∀ pre:List (List D),(pre = []\/pre=ob.xZ.take lo)->K (.sub σ.nx sz pre.length (n+rows.length)) ((σ.erase key).new ⟨sz,pre++((ob.xZ.drop lo).take n++rows)⟩)
   | none=>False
  | _=>False
def XQ (σ:St) (n:Nat) (a:D) (x:Option (List D)) (K:D->St->Prop):Prop:=
 match a,x with
 | .ref key sz i off,some ds=>match σ.get key with
  | some ob=>ob.sz=sz/\i<ob.xZ.length/\ds.length=n/\off+n<=sz/\zX ds=true/\K .vP (σ.set key ⟨sz,ob.xZ.set i (pI (ob.xZ.getD i []) off ds)⟩)
  | none=>False
 | _,_=>False
def xw (x:D) (K:D->Prop):Prop:=
 match x with
 | .sl _ xZ=>K (.int .i64 xZ.length)
 | .xP _ _ n=>K (.int .i64 n)
 | .sub _ _ _ n=>K (.int .i64 n)
 | .xU=>K (.int .i64 0)
 | .emp=>K (.int .i64 0)
 | _=>False
def za (sz:Nat) (x i:D) (K:D->Prop):Prop:=
 match x,i with
 | .sl sz' xZ,.int _ n=>sz=sz'/\0<=n/\n<xZ.length/\K (.ptr (xZ.getD n.toNat []))
 | .xP key sz' len,.int _ n=>sz=sz'/\0<=n/\n<len/\K (.ref key sz n.toNat 0)
 | .sub key sz' lo len,.int _ n=>sz=sz'/\0<=n/\n<len/\K (.ref key sz (lo+n.toNat) 0)
 | _,_=>False
def qR (neg:Bool) (x y:D) (K:D->Prop):Prop:=
 match x,y with
 | .xU,.xU=>K (.bool (!neg))
 | .xP ..,.xU | .xU,.xP ..=>K (.bool neg)
 | .emp,.xU | .xU,.emp=>K (.bool neg)
 | .sl _ (_ :: _),.xU=>K (.bool neg)
 | _,_=>False
def yx (σ:St) (n:Nat) (ag:Bool) (x:D) (K:D->Prop):Prop:=
 match x with
 | .ref key sz i off=>match σ.get key with
  | some o=>o.sz=sz/\i<o.xZ.length/\off+n<=sz/\(ag=true\/n=1)/\ K (uE ag (((o.xZ.getD i []).drop off).take n))
  | none=>False
 | .ptr cs=>n<=cs.length/\(ag=true\/n=1)/\ K (uE ag (cs.take n))
 | .kI b=>∃ ds,Tn b ds/\n<=ds.length/\(ag=true\/n=1)/\ K (uE ag (ds.take n))
 | _=>False
def ah (x:D) (K:D->Prop):Prop:=
 match x with
 | .ref key sz i off=>K (.ref key sz i off)
 | .ptr cs=>K (.ptr cs)
 | .fn f cs=>K (.fn f cs)
 | _=>False
@[congr] theorem Rt {x x' : D} {K : D -> Prop} (h : x = x') : ah x K = ah x' K := by rw [h]
theorem ZN {key sz i off:Nat} {K:D->Prop}:ah (.ref key sz i off) K=K (.ref key sz i off):=rfl
theorem ZM {cs:List D} {K:D->Prop}:ah (.ptr cs) K=K (.ptr cs):=rfl
theorem Uj {f:FuncId} {cs:List D} {K:D->Prop}:ah (.fn f cs) K=K (.fn f cs):=rfl
def xc (σ:St) (zero:D) (ok:Bool) (m k:D) (K:D->Prop):Prop:=
 match m,k with
 | .xG key,.int kk x=>match σ.get key with
  | some o=>o.sz=0/\oT kk o.xZ/\K (sZ ok zero (sT x o.xZ 0))
  | none=>False
 | .uA,.int _ _=>K (sZ ok zero none)
 | _,_=>False
def sf (σ:St) (m k x:D) (K:D->St->Prop):Prop:=
 match m,k with
 | .xG key,.int kk y=>match σ.get key with
  | some o=>o.sz=0/\oT kk o.xZ/\K .vP (σ.set key ⟨0,fU kk o.xZ y x⟩)
  | none=>False
 | _,_=>False
def mP (σ:St) (n:Nat) (zero:D) (ok:Bool) (m k:D) (K:D->Prop):Prop:=
 match m,k with
 | .xG key,.agg cs=>match σ.get key with
  | some o=>o.sz=0/\∃ (x:List Int) (l:List (List Int × D)),(cs=x.map (D.int .i64)/\ o.xZ=vD l/\x.length=n/\∀ p ∈ l,p.1.length=n)/\ K (sZ ok zero (sR x l 0))
  | none=>False
 | _,_=>False
def nX (σ:St) (n:Nat) (m k x:D) (K:D->St->Prop):Prop:=
 match m,k with
 | .xG key,.agg cs=>match σ.get key with
  | some o=>o.sz=0/\∃ (y:List Int) (l:List (List Int × D)),(cs=y.map (D.int .i64)/\ o.xZ=vD l/\(y.length=n/\∀ p ∈ l,p.1.length=n))/\ K .vP (σ.set key ⟨0,vD (kN y x l)⟩)
  | none=>False
 | _,_=>False
def X0 (σ:St) (zero m k:D) (K:D->St->Prop):Prop:=
 match m,k with
 | .xG key,.int kk y=>match σ.get key with
  | some o=>o.sz=0/\oT kk o.xZ/\o.xZ.length<=1000000000/\(match sT y o.xZ 0 with
   | some (i,d)=>K (.xI [d,.int .i64 i]) (σ.set key ⟨0,o.xZ⟩)
   | none=>K (.xI [zero,.int .i64 o.xZ.length]) (σ.set key ⟨0,o.xZ ++ [[.int kk y,zero]]⟩))
  | none=>False
 | _,_=>False
def Yt (σ:St) (m s x:D) (K:D->St->Prop):Prop:=
 match m,s with
 | .xG key,.int _ i=>match σ.get key with
  | some o=>o.sz=0/\0<=i/\i<o.xZ.length/\(∃ y d,o.xZ.getD i.toNat [] = [y,d]/\K .vP (σ.set key ⟨0,o.xZ.set i.toNat [y,x]⟩))
  | none=>False
 | _,_=>False
@[congr] theorem Tj {σ : St} {zero : D} {ok : Bool} {m m' k k' : D} {K : D -> Prop} (h : m = m') (h' : k = k') : xc σ zero ok m k K = xc σ zero ok m' k' K := by rw [h, h']
@[congr] theorem Tl {σ : St} {m m' k k' x x' : D} {K : D -> St -> Prop} (h : m = m') (h' : k = k') (h2 : x = x') : sf σ m k x K = sf σ m' k' x' K := by rw [h, h', h2]
@[congr] theorem U7 {σ : St} {n : Nat} {zero : D} {ok : Bool} {m m' k k' : D} {K : D -> Prop} (h : m = m') (h' : k = k') : mP σ n zero ok m k K = mP σ n zero ok m' k' K := by rw [h, h']
@[congr] theorem U9 {σ : St} {n : Nat} {m m' k k' x x' : D} {K : D -> St -> Prop} (h : m = m') (h' : k = k') (h2 : x = x') : nX σ n m k x K = nX σ n m' k' x' K := by rw [h, h', h2]
@[congr] theorem Th {σ : St} {zero m m' k k' : D} {K : D -> St -> Prop} (h : m = m') (h' : k = k') : X0 σ zero m k K = X0 σ zero m' k' K := by rw [h, h']
@[congr] theorem Td {σ : St} {m m' k k' x x' : D} {K : D -> St -> Prop} (h : m = m') (h' : k = k') (h2 : x = x') : Yt σ m k x K = Yt σ m' k' x' K := by rw [h, h', h2]
@[congr] theorem Ro {q : Bool} {σ : St} {sz bytes : Nat} {x x' : D} {y y' : Option (List (List D))} {K : D -> St -> Prop} (h : x = x') (h' : y = y') : gX q σ sz bytes x y K = gX q σ sz bytes x' y' K := by rw [h, h']
@[congr] theorem Rw {σ : St} {n : Nat} {x x' : D} {y y' : Option (List D)} {K : D -> St -> Prop} (h : x = x') (h' : y = y') : XQ σ n x y K = XQ σ n x' y' K := by rw [h, h']
@[congr] theorem Rr {x x' : D} {K : D -> Prop} (h : x = x') : xw x K = xw x' K := by rw [h]
@[congr] theorem Rq {sz : Nat} {x x' i i' : D} {K : D -> Prop} (h : x = x') (h' : i = i') : za sz x i K = za sz x' i' K := by rw [h, h']
@[congr] theorem UA {neg : Bool} {x x' i i' : D} {K : D -> Prop} (h : x = x') (h' : i = i') : qR neg x i K = qR neg x' i' K := by rw [h, h']
@[congr] theorem Tg {σ : St} {n : Nat} {ag : Bool} {x x' : D} {K : D -> Prop} (h : x = x') : yx σ n ag x K = yx σ n ag x' K := by rw [h]
def pX (C:Cx) (σ:St) (ev:wQ->D) (k:DK) (K:D->Prop):Prop:=
 match k with
 | .len x=>xw (ev x) K
 | .idx sz x i=>za sz (ev x) (ev i) K
 | .oU neg x y=>qR neg (ev x) (ev y) K
 | .load n ag x=>yx σ n ag (ev x) K
 | .mW zero ok m k=>xc σ zero ok (ev m) (ev k) K
 | .mS n zero ok m k=>mP σ n zero ok (ev m) (ev k) K
 | .XY x=>ah (ev x) K
 | k=>pW C σ ev k K
theorem Tw (C:Cx) (σ:St) (ev:wQ->D) (k:DK) (K:D->Prop):pX C σ ev k K=pW C σ ev k K:=by cases k <;> rfl
def aC (C:Cx) (σ:St) (ev:wQ->D) (k:DK) (K:D->St->Prop):Prop:=
 match k with
 | .box x=>vO C σ ev (.box x) K
 | .alloc z=>vO C σ ev (.alloc z) K
 | .store n a x=>XQ σ n (ev a) (ev x).cells K
 | .app sz bytes x y=>gX (C.own.contains 77777) σ sz bytes (ev x) (rowsOf σ sz (ev y)) K
 | .oZ sz bytes zero len cap=>vO C σ ev (.oZ sz bytes zero len cap) K
 | .tK sz len zero parts=>vO C σ ev (.tK sz len zero parts) K
 | .ug zero x=>vO C σ ev (.ug zero x) K
 | .jn x y=>vO C σ ev (.jn x y) K
 | .call fn args=>vO C σ ev (.call fn args) K
 | .fA=>vO C σ ev .fA K
 | .pU m k x=>sf σ (ev m) (ev k) (ev x) K
 | .rH n m k x=>nX σ n (ev m) (ev k) (ev x) K
 | .kG zero m k=>X0 σ zero (ev m) (ev k) K
 | .rQ n zero m k=>vO C σ ev (.rQ n zero m k) K
 | .kR m s x=>Yt σ (ev m) (ev s) (ev x) K
 | k=>pX C σ ev k (MN σ K)
theorem Yh (C:Cx) (σ:St) (ev:wQ->D) (k:DK) (K:D->St->Prop):aC C σ ev k K=vO C σ ev k K:=by cases k <;> first | rfl | (show pX _ _ _ _ _=_; rw [Tw]; rfl)
def eW (C:Cx):List xN->(Fr->St->Prop)->Fr->St->Prop
 | [],K,f,σ=>K f σ
 | ⟨dst,g,k⟩ :: rest,K,f,σ=>gd g f (aC C σ (uX f) k (TO f dst (eW C rest K))) (eW C rest K (f.put dst .vP) σ)
theorem jA (C:Cx) (K:Fr->St->Prop):∀ (ops:List xN) (f:Fr) (σ:St),eW C ops K f σ=uF C ops f σ K
 | [],f,σ=>rfl
 | o :: rest,f,σ=>by
  have ih:eW C rest K=λf σ=>uF C rest f σ K:=by funext f σ; exact jA C K rest f σ
  unfold eW uF;rw [Tq,Yh,ih];rfl
def eZ (C:Cx) (σ:St):List xN->(Fr->Prop)->Fr->Prop
 | [],K,f=>K f
 | ⟨dst,g,k⟩ :: rest,K,f=>gd g f (pX C σ (uX f) k (TP f dst (eZ C σ rest K))) (eZ C σ rest K (f.put dst .vP))
theorem lL (C:Cx) (σ:St) (K:Fr->Prop):∀ (ops:List xN) (f:Fr),eZ C σ ops K f=uY C σ ops f K
 | [],f=>rfl
 | o :: rest,f=>by
  have ih:eZ C σ rest K=λf=>uY C σ rest f K:=by funext f; exact lL C σ K rest f
  unfold eZ uY;rw [Tq,Tw,ih];rfl
def sg (C:Cx) (post:List xN) (Q:Exit->Fr->St->Prop) (σ:St) (f:Fr):Prop:=eW C post (fV Q) f σ
def Rb (d:D) (p q:Prop):Prop:=
 match d with
 | .bool t=>if t=true then p else q
 | _=>False
theorem Wj (t:Bool) (p q:Prop):Rb (.bool t) p q=if t=true then p else q:=rfl
@[congr] theorem Rf {d d' : D} {p q : Prop} (h : d = d') : Rb d p q = Rb d' p q := by rw [h]
def cQ (C:Cx) (it:Nat) (m:wQ) (out nx more next pair:Nat) (rest:List xN) (code:DC) (Q:Exit->Fr->St->Prop) (f:Fr) (σ:St):Prop:=cR C it m out nx more next pair rest code f σ Q
@[congr] theorem U8 {C : Cx} {it : Nat} {m : wQ} {out nx more next pair : Nat} {rest : List xN} {code : DC} {Q : Exit -> Fr -> St -> Prop} {f f' : Fr} {σ : St} (h : f = f') : cQ C it m out nx more next pair rest code Q f σ = cQ C it m out nx more next pair rest code Q f' σ := by rw [h]
def eL (C:Cx) (code:DC) (out next:Nat) (J:Fr->St->Prop) (Q:Exit->Fr->St->Prop) (f:Fr) (σ:St):Prop:=wpS C code f σ (tO next (qT J (tO out Q)))
@[congr] theorem WY {C : Cx} {code : DC} {out next : Nat} {J : Fr -> St -> Prop} {Q : Exit -> Fr -> St -> Prop} {f f' : Fr} {σ : St} (h : f = f') : eL C code out next J Q f σ = eL C code out next J Q f' σ := by rw [h]
def rp (C:Cx) (k:DK) (K:Fr->D->St->Prop) (σ:St) (f1:Fr):Prop:=aC C σ (uX f1) k (K f1)
def Rc (f:Fr) (g:Fr):Prop:=g=f
def Rd (C:Cx) (un:Bool) (mid:List xN) (f1:Fr) (σ:St) (K:Fr->St->Prop) (σ1:St) (f2:Fr):Prop:=(if un=true then eZ C σ mid (Rc f2) f1 else True)/\ K f2 σ1
def af (C:Cx) (pre:List xN) (dst:Option Nat) (mid:List xN) (un:Bool) (post:List xN) (Q:Exit->Fr->St->Prop) (f:Fr) (σ:St) (f1:Fr) (d:D) (σ1:St):Prop:= eZ C σ1 pre (Rc f1) f/\eZ C σ1 mid (Rd C un mid (f1.put dst d) σ (eW C post (fV Q)) σ1) (f1.put dst d)
theorem Uf {C:Cx} {pre:List xN} {dst:Option Nat} {mid:List xN} {un:Bool} {post:List xN} {Q:Exit->Fr->St->Prop} {f:Fr} {σ:St} {f1:Fr} {d:D} {σ1:St} :
  af C pre dst mid un post Q f σ f1 d σ1=XP C pre dst mid un f σ (λf σ=>uF C post f σ λf σ=>Q .normal f σ) f1 d σ1:=by
 unfold af XP;rw [lL,lL]
 have:Rd C un mid (f1.put dst d) σ (eW C post (fV Q)) σ1=λf2=>(if un=true then uY C σ mid (f1.put dst d) (λg=>g=f2) else True)/\ uF C post f2 σ1 λf σ=>Q .normal f σ:=by funext f2;unfold Rd;rw [lL,jA];rfl
 rw [this];rfl
def js (C:Cx):DC->(Exit->Fr->St->Prop)->Fr->St->Prop
 | .skip,Q,f,σ=>Q .normal f σ
 | .wN pre post,Q,f,σ=>eZ C σ pre (sg C post Q σ) f
 | .iC pre m mid un post,Q,f,σ=>eZ C σ pre (rp C m.k (af C pre m.dst mid un post Q f σ) σ) f
 | .iB pre m1 mid1 m2 mid2 post,Q,f,σ=>oY C (.iB pre m1 mid1 m2 mid2 post) f σ Q
 | .seq a b,Q,f,σ=>js C a (qT (js C b Q) Q) f σ
 | .cond c a b,Q,f,σ=>Rb (uX f c) (js C a Q f σ) (js C b Q f σ)
 | .block id c,Q,f,σ=>js C c (tO id Q) f σ
 | .loop c,Q,f,σ=>wpS C (.loop c) f σ Q
 | .jL g ps a c,Q,f,σ=>wpS C (.jL g ps a c) f σ Q
 | .jJ pre m1 mid1 m2 mid2 post free,Q,f,σ=>wpS C (.jJ pre m1 mid1 m2 mid2 post free) f σ Q
 | .iD pre m mid un post fl,Q,f,σ=>wpS C (.iD pre m mid un post fl) f σ Q
 | .mY ms l s xs y,Q,f,σ=>wpS C (.mY ms l s xs y) f σ Q
 | .exit id,Q,f,σ=>Q (.exit id) f σ
 | .ret,Q,f,σ=>Q .ret f σ
 | .aq ..,_,_,_=>False
 | .XX ..,_,_,_=>False
 | .XW ..,_,_,_=>False
 | .kP pre it m out nx more next pair rest code,Q,f,σ=>eW C pre (cQ C it m out nx more next pair rest code Q) f σ
theorem kB (C:Cx):∀ (dc:DC) (Q:Exit->Fr->St->Prop) (f:Fr) (σ:St),js C dc Q f σ=oY C dc f σ Q
 | .skip,Q,f,σ=>rfl
 | .wN pre post,Q,f,σ=>by
  unfold js oY;rw [lL]
  have:sg C post Q σ=λf=>uF C post f σ λf σ=>Q .normal f σ:=by funext f;unfold sg;rw [jA];rfl
  rw [this]
 | .iC pre m mid un post,Q,f,σ=>by
  unfold js oY;rw [lL]
  have:rp C m.k (af C pre m.dst mid un post Q f σ) σ=λf1=>vO C σ (uX f1) m.k λd σ1=>XP C pre m.dst mid un f σ (λf σ=>uF C post f σ λf σ=>Q .normal f σ) f1 d σ1:=by funext f1;unfold rp;rw [Yh];congr 1;funext d σ1;exact Uf
  rw [this]
 | .iB ..,Q,f,σ=>rfl
 | .seq a b,Q,f,σ=>by
  have ih:js C b Q=λf σ=>oY C b f σ Q:=by funext f σ; exact kB C b Q f σ
  unfold js;rw [kB C a,ih];rfl
 | .cond c a b,Q,f,σ=>by unfold js;rw [kB C a,kB C b];rfl
 | .block id c,Q,f,σ=>by unfold js; rw [kB C c]; rfl
 | .loop c,Q,f,σ=>rfl
 | .jL g ps a c,Q,f,σ=>rfl
 | .jJ ..,Q,f,σ=>rfl
 | .iD ..,Q,f,σ=>rfl
 | .mY ..,Q,f,σ=>rfl
 | .exit id,Q,f,σ=>rfl
 | .ret,Q,f,σ=>rfl
 | .aq ..,_,_,_=>rfl
 | .XX ..,_,_,_=>rfl
 | .XW ..,_,_,_=>rfl
 | .kP pre it m out nx more next pair rest code,Q,f,σ=>by unfold js oY; rw [jA]; rfl
noncomputable def wz {α:Sort u} (a:α):α:=Classical.choose (⟨a,rfl⟩:∃ b:α,b=a)
theorem gL {α:Sort u} (a:α):wz a=a:=Classical.choose_spec (⟨a,rfl⟩:∃ b:α,b=a)
noncomputable def xz (C:Cx):List xN->(Fr->St->Prop)->Fr->St->Prop:=wz (eW C)
noncomputable def xy (C:Cx) (σ:St):List xN->(Fr->Prop)->Fr->Prop:=wz (eZ C σ)
noncomputable def aD (C:Cx):DC->(Exit->Fr->St->Prop)->Fr->St->Prop:=wz (js C)
theorem lK (C:Cx):xz C=eW C:=gL _
theorem lM (C:Cx) (σ:St):xy C σ=eZ C σ:=gL _
theorem sF (C:Cx):aD C=js C:=gL _
section
variable (C : Cx) (σ : St) (f : Fr) (Q : Exit -> Fr -> St -> Prop) (K : Fr -> St -> Prop) (K1 : Fr -> Prop) (a b c : DC) (dst : Option Nat) (g : Option (Nat × Bool)) (k : DK) (rest pre post : List xN) (x : wQ) (id : Nat)
theorem Zd : xz C [] K f σ=K f σ:=by rw [lK]; rfl
theorem o5 : xz C (⟨dst,g,k⟩ :: rest) K f σ=gd g f (aC C σ (uX f) k (TO f dst (xz C rest K))) (xz C rest K (f.put dst .vP) σ):=by rw [lK]; rfl
theorem Zi : xy C σ [] K1 f=K1 f:=by rw [lM]; rfl
theorem o8 : xy C σ (⟨dst,g,k⟩ :: rest) K1 f=gd g f (pX C σ (uX f) k (TP f dst (xy C σ rest K1))) (xy C σ rest K1 (f.put dst .vP)):=by rw [lM]; rfl
def du (C:Cx) (post:List xN) (Q:Exit->Fr->St->Prop) (σ:St) (f:Fr):Prop:=xz C post (fV Q) f σ
theorem YW : aD C .skip Q f σ=Q .normal f σ:=by rw [sF]; rfl
theorem VE : aD C (.wN pre post) Q f σ=xy C σ pre (du C post Q σ) f:=by
 have e:du C post Q σ=sg C post Q σ:=by funext f; unfold du sg; rw [lK]
 rw [sF,lM,e]; rfl
def cz (C:Cx) (k:DK) (K:Fr->D->St->Prop) (σ:St) (f1:Fr):Prop:=aC C σ (uX f1) k (K f1)
def Q3 (C:Cx) (un:Bool) (mid:List xN) (f1:Fr) (σ:St) (K:Fr->St->Prop) (σ1:St) (f2:Fr):Prop:=(if un=true then xy C σ mid (Rc f2) f1 else True)/\ K f2 σ1
def WR (C:Cx) (pre:List xN) (dst:Option Nat) (mid:List xN) (un:Bool) (post:List xN) (Q:Exit->Fr->St->Prop) (f:Fr) (σ:St) (f1:Fr) (d:D) (σ1:St):Prop:= xy C σ1 pre (Rc f1) f/\xy C σ1 mid (Q3 C un mid (f1.put dst d) σ (xz C post (fV Q)) σ1) (f1.put dst d)
theorem YU {mid:List xN} {un:Bool}:aD C (.iC pre ⟨dst,g,k⟩ mid un post) Q f σ=xy C σ pre (cz C k (WR C pre dst mid un post Q f σ) σ) f:=by
 have e:cz C k (WR C pre dst mid un post Q f σ) σ=rp C k (af C pre dst mid un post Q f σ) σ:=by
  funext f1;unfold cz rp;congr 1;funext d σ1;unfold WR af
  have e2:Q3 C un mid (f1.put dst d) σ (xz C post (fV Q)) σ1=Rd C un mid (f1.put dst d) σ (eW C post (fV Q)) σ1:=by funext f2; unfold Q3 Rd; rw [lK,lM]
  rw [e2,lM]
 rw [sF,lM,e]; rfl
theorem Wo (f:Fr):Rc f f=True:=eq_true rfl
theorem VG : aD C (.seq a b) Q f σ=aD C a (qT (aD C b Q) Q) f σ:=by rw [sF]; rfl
theorem YR : aD C (.cond x a b) Q f σ=Rb (uX f x) (aD C a Q f σ) (aD C b Q f σ):=by rw [sF]; rfl
theorem z8 : aD C (.block id c) Q f σ=aD C c (tO id Q) f σ:=by rw [sF]; rfl
theorem YT : aD C (.loop c) Q f σ=wpS C (.loop c) f σ Q:=by rw [sF]; rfl
theorem YV {g:wQ} {ps:List Nat}:aD C (.jL g ps a c) Q f σ=wpS C (.jL g ps a c) f σ Q:=by rw [sF]; rfl
theorem YS : aD C (.exit id) Q f σ=Q (.exit id) f σ:=by rw [sF]; rfl
theorem VF : aD C .ret Q f σ=Q .ret f σ:=by rw [sF]; rfl
theorem y8 {it:Nat} {m:wQ} {out nx more next pair:Nat} {rst:List xN} {code:DC}:aD C (.kP pre it m out nx more next pair rst code) Q f σ=xz C pre (cQ C it m out nx more next pair rst code Q) f σ:=by rw [sF,lK]; rfl
end
theorem wZ {C:Cx} (hm:C.P.follows .mixedOrders=true) {dc:DC} {f:Fr} {σ:St} {Q:Exit->Fr->St->Prop} (h:aD C dc Q f σ):wpS C dc f σ Q:= dR hm (by rw [<- kB,<- sF]; exact h)
theorem xW.QJ {P:Program} {g:FuncId} {fn:Func} {own:List Nat} {N:Nat} {dc:DC} {rs:List oV} {args:List D} {σ:St} {d:D} {σ':St} (hm:P.follows .mixedOrders=true) (hf:P.funcs[g]?=some fn)
  (hc:xV P own fn=some (N,dc,rs)) (hla:args.length<=N)
  (h:D.nE args->aD ⟨P,N,σ.nx,own,none⟩ dc (rn ⟨P,N,σ.nx,own,none⟩ rs d σ') (oS 0 args) σ):xW P g args σ d σ':=
 xW.Tv hm hf hc hla λhfa=>by rw [<- kB,<- sF]; exact h hfa
end Go.Pd
namespace Go.Pd
open Go
theorem V1 {k:Nat} (hk:k<62):ud .i64 1 k=((2 ^ k:Nat):Int):=by
 have hp:2 ^ k<2 ^ 62:=Nat.pow_lt_pow_right (by omega) hk;unfold ud
 have e:min (k:Int).toNat IntKind.i64.bits=k:=by have:IntKind.i64.bits=64:=rfl;rw [this,Int.toNat_natCast]; omega
 rw [e,Int.one_mul,wrap_i64]
 ·simp
 ·have:((2:Int)^ k)= ((2 ^ k:Nat):Int):=by simp
  rw [this];exact⟨Int.le_trans (by decide) (Int.natCast_nonneg _),Int.le_trans (Int.ofNat_le.2 (Nat.le_of_lt hp)) (by decide)⟩
end Go.Pd
namespace Go.Pd
open Go
theorem gC (key sz:Nat):yH key sz [] = .xU:=rfl
theorem fp (key sz:Nat) (e:List D) (r:List (List D)):yH key sz (e :: r)= .xP key sz (r.length+1):=rfl
theorem gD (key sz:Nat):yD key sz [] = []:=rfl
theorem fq (key sz:Nat) (e:List D) (r:List (List D)):yD key sz (e :: r)= [(key,⟨sz,e :: r⟩)]:=rfl
theorem qy (k:IntKind):rows k [] = []:=rfl
theorem yi (k:IntKind) (n:Int) (l:List Int):rows k (n :: l)= [.int k n] :: rows k l:=rfl
theorem yj (k:IntKind) (l:List Int) (n:Int):rows k l ++ [[.int k n]]=rows k (l ++ [n]):=by simp [rows]
theorem vu (l:List (List (BitVec 64))) (r:List (BitVec 64)):rr l ++ [[.sl 1 (us r)]]=rr (l ++ [r]):=by simp [rr,WU]
theorem Yi : rr [] = []:=rfl
theorem cd (l:List (BitVec 64)) (r:List (List (BitVec 64))):rr (l :: r)= [.sl 1 (us l)] :: rr r:=rfl
variable [vU]
end Go.Pd
namespace Go.Pd
open Go
def vF (sz:Nat):List (List D)->Option Ob
 | []=>none
 | e :: r=>some ⟨sz,e :: r⟩
theorem zM {k s:Nat} {xZ:List (List D)} {r:List (Nat × Ob)} {k':Nat}:St.look (yD k s xZ++r) k'=if k=k' then(vF s xZ).or (St.look r k') else St.look r k':=by
 cases xZ with
 | nil=>simp [yD,vF]
 | cons e l=>simp [yD,vF,St.look]
theorem lY {k s:Nat} {xZ:List (List D)} {k':Nat}:St.look (yD k s xZ) k'=if k=k' then vF s xZ else none:=by have:=zM (k:=k) (s:=s) (xZ:=xZ) (r:=[]) (k':=k');simp only [δ,St.look,Option.or_none] at this;exact this
theorem fD {k s:Nat} {xZ:List (List D)} {r:List (Nat × Ob)} {k':Nat}:zI (yD k s xZ++r) k'=if k=k' then zI r k' else yD k s xZ++zI r k':=by
 cases xZ with
 | nil=>simp [yD]
 | cons e l=>simp [yD,zI]
theorem uo {k s:Nat} {xZ:List (List D)} {k':Nat}:zI (yD k s xZ) k'=if k=k' then [] else yD k s xZ:=by have:=fD (k:=k) (s:=s) (xZ:=xZ) (r:=[]) (k':=k');simp only [δ,zI] at this;exact this
theorem rb : ∀ {r:List (Nat × Ob)} {k:Nat} {o:Ob},St.look r k=none->vK r k o=r
 | [],_,_,_=>rfl
 | (j,o') :: r,k,o,h=>by
  simp only [St.look] at h
  split at h
  ·cases h
  ·rename_i hn;simp only [vK,if_neg hn,rb h]
theorem aM : ∀ {r:List (Nat × Ob)} {k:Nat},St.look r k=none->zI r k=r
 | [],_,_=>rfl
 | (j,o') :: r,k,h=>by
  simp only [St.look] at h
  split at h
  ·cases h
  ·rename_i hn;simp only [zI,if_neg hn,aM h]
theorem yp {k s:Nat} {xZ els':List (List D)} {r:List (Nat × Ob)} (hl:els'.length=xZ.length) (h:St.look r k=none):vK (yD k s xZ++r) k ⟨s,els'⟩= yD k s els'++r:=by
 cases xZ with
 | nil=> have:els' = []:=List.eq_nil_of_length_eq_zero (by simpa using hl);subst this;simp only [yD,η];exact rb h
 | cons e l=>
  cases els' with
  | nil=>simp at hl
  | cons e' l'=>simp [yD,vK]
theorem gy {k s:Nat} {xZ els':List (List D)} (hl:els'.length=xZ.length):vK (yD k s xZ) k ⟨s,els'⟩= yD k s els':=by have:=yp (k:=k) (s:=s) (r:=[]) hl rfl;simp only [δ] at this;exact this
theorem uw {k s:Nat} {xZ:List (List D)} {r:List (Nat × Ob)} {k':Nat} {o:Ob} (h:k≠k'):vK (yD k s xZ++r) k' o=yD k s xZ++vK r k' o:=by
 cases xZ with
 | nil=>simp [yD]
 | cons e l=>simp [yD,vK,h]
theorem jx (k s:Nat) (xZ:List (List D)):(yH k s xZ).cells=some [yH k s xZ]:=by cases xZ <;> rfl
theorem n8 (k s:Nat) (xZ:List (List D)):(yH k s xZ).one=true:=by cases xZ <;> rfl
theorem Xl (k s n:Nat):(D.xP k s n).cells=some [.xP k s n]:=rfl
theorem Xp (k s l n:Nat):(D.sub k s l n).cells=some [.sub k s l n]:=rfl
theorem Xk (k:IntKind) (n:Int):(D.int k n).cells=some [.int k n]:=rfl
theorem eo (b:Bool):(D.bool b).cells=some [.bool b]:=rfl
theorem Xo (s:ByteArray):(D.str s).cells=some [.str s]:=rfl
theorem Wl (sz:Nat) (xZ:List (List D)):(D.sl sz xZ).cells=some [.sl sz xZ]:=rfl
theorem fc : D.xU.cells=some [.xU]:=rfl
theorem Xj : D.emp.cells=some [.emp]:=rfl
theorem Xi (cs:List D):(D.agg cs).cells=some cs:=rfl
theorem Wk (f:FuncId) (cs:List D):(D.fn f cs).cells=some [.fn f cs]:=rfl
theorem Xn (a b c d:Nat):(D.ref a b c d).cells=some [.ref a b c d]:=rfl
theorem Xm (cs:List D):(D.ptr cs).cells=some [.ptr cs]:=rfl
theorem eu (k:Nat):(D.xG k).cells=some [.xG k]:=rfl
theorem fb : D.sY.cells=some [.sY]:=rfl
theorem ez : D.uA.cells=some [.uA]:=rfl
theorem ew : D.uL.cells=some [.uL]:=rfl
theorem Un (k:IntKind) (n:Int):(D.int k n).one=true:=rfl
theorem ZZ (b:Bool):(D.bool b).one=true:=rfl
theorem Ur (s:ByteArray):(D.str s).one=true:=rfl
theorem Sa (sz:Nat) (xZ:List (List D)):(D.sl sz xZ).one=true:=rfl
theorem Zc : D.xU.one=true:=rfl
theorem Um : D.emp.one=true:=rfl
theorem SX (f:FuncId) (cs:List D):(D.fn f cs).one=true:=rfl
theorem Uq (a b c d:Nat):(D.ref a b c d).one=true:=rfl
theorem Uo (a b c:Nat):(D.xP a b c).one=true:=rfl
theorem Up (cs:List D):(D.ptr cs).one=true:=rfl
theorem ZY (k:Nat):(D.xG k).one=true:=rfl
theorem Zb : D.sY.one=true:=rfl
theorem Za : D.uA.one=true:=rfl
theorem ZX : D.uL.one=true:=rfl
section
variable [vU]
theorem Xe {q:Bool} {σ:St} {sz bytes key:Nat} {xZ:List (List D)} {rw:List (List D)} {K:D->St->Prop} (h:σ.get key=vF sz xZ) (h0:rw ≠ []) :
  gX q σ sz bytes (yH key sz xZ) (some rw) K=((∀ r ∈ rw,zX r=true)/\ (xZ.length+rw.length)* bytes<=140737488355328/\xZ.length+rw.length<=8000000000000 /\
   K (yH σ.nx sz (xZ++rw)) ⟨σ.nx+1,yD σ.nx sz (xZ++rw)++ zI σ.xY key⟩):=by
 cases xZ with
 | nil=>
  obtain⟨r,rs,rfl⟩:∃ r rs,rw=r :: rs:=by cases rw with | nil=>exact absurd rfl h0 | cons r rs=>exact⟨r,rs,rfl⟩
  have he:zI σ.xY key=σ.xY:=aM h;simp only [gX,yH,yD,St.new,he,η,θ,Ah];simp
 | cons e l=>
  have e1:l.length+1+rw.length=l.length+rw.length+1:=by omega
  simp only [gX,yH,h,vF,St.erase,St.new,yD];simp [yH,yD,e1]
theorem ef {q:Bool} {nx:Nat} {xY:List (Nat × Ob)} {sz bytes key:Nat} {xZ:List (List D)} {r:List D} {rs:List (List D)} {K:D->St->Prop} (h:St.look xY key=vF sz xZ) :
  gX q ⟨nx,xY⟩ sz bytes (yH key sz xZ) (some (r :: rs)) K=((∀ x ∈ r :: rs,zX x=true)/\ (xZ.length+(r :: rs).length)* bytes<=140737488355328/\xZ.length+(r :: rs).length<=8000000000000 /\
   K (yH nx sz (xZ++r :: rs)) ⟨nx+1,yD nx sz (xZ++r :: rs)++ zI xY key⟩):=Xe h (by simp)
theorem Wg {q:Bool} {σ:St} {sz bytes:Nat} {r:List D} {rs:List (List D)} {K:D->St->Prop} :
  gX q σ sz bytes .xU (some (r :: rs)) K=((∀ x ∈ r :: rs,zX x=true)/\ (r :: rs).length*bytes<=140737488355328/\(r :: rs).length<=8000000000000/\K (.xP σ.nx sz (r :: rs).length) (σ.new ⟨sz,r :: rs⟩)):=by
 simp [gX]
theorem Wh {q:Bool} {σ:St} {sz sz' bytes key n:Nat} {rows:List (List D)} {K:D->St->Prop} :
  gX q σ sz bytes (.xP key sz' n) (some rows) K=((∀ x ∈ rows,zX x=true)/\ match σ.get key with
   | some ob=>sz=sz'/\ob.sz=sz/\n<=ob.xZ.length/\(n+rows.length)* bytes<=140737488355328/\n+rows.length<=8000000000000/\K (.xP σ.nx sz (n+rows.length)) ((σ.erase key).new ⟨sz,ob.xZ.take n++rows⟩)
   | none=>False):=rfl
def jk (nx:Nat) (xY:List (Nat × Ob)) (n key sz i off:Nat) (ds:List D) (K:D->St->Prop):Option Ob->Prop
 | some ob=>ob.sz=sz/\i<ob.xZ.length/\ds.length=n/\off+n<=sz/\zX ds=true/\K .vP ⟨nx,vK xY key ⟨sz,ob.xZ.set i (pI (ob.xZ.getD i []) off ds)⟩⟩
 | none=>False
@[congr] theorem Rv {nx : Nat} {xY : List (Nat × Ob)} {n key sz i off : Nat} {ds : List D} {K : D -> St -> Prop} {o o' : Option Ob} (h : o = o') : jk nx xY n key sz i off ds K o = jk nx xY n key sz i off ds K o' := by rw [h]
theorem YG {nx:Nat} {xY:List (Nat × Ob)} {n key sz i off:Nat} {ds:List D} {K:D->St->Prop}:XQ ⟨nx,xY⟩ n (.ref key sz i off) (some ds) K=jk nx xY n key sz i off ds K (St.look xY key):=by simp only [XQ,St.get];cases St.look xY key <;> rfl
theorem u0 {nx:Nat} {xY:List (Nat × Ob)} {n key sz i off:Nat} {ds:List D} {K:D->St->Prop} {sz':Nat} {xZ:List (List D)} :
  jk nx xY n key sz i off ds K (some ⟨sz',xZ⟩)= (sz'=sz/\i<xZ.length/\ds.length=n/\off+n<=sz/\zX ds=true/\K .vP ⟨nx,vK xY key ⟨sz,xZ.set i (pI (xZ.getD i []) off ds)⟩⟩):=rfl
theorem s9 {nx:Nat} {xY:List (Nat × Ob)} {n key sz i off:Nat} {ds:List D} {K:D->St->Prop} {xZ:List (List D)} :
  jk nx xY n key sz i off ds K (vF sz xZ)= (i<xZ.length/\ds.length=n/\off+n<=sz/\zX ds=true/\K .vP ⟨nx,vK xY key ⟨sz,xZ.set i (pI (xZ.getD i []) off ds)⟩⟩):=by
 cases xZ with
 | nil=>simp [jk,vF]
 | cons e l=>simp [jk,vF]
def dW (n:Nat) (ag:Bool) (sz i off:Nat) (K:D->Prop):Option Ob->Prop
 | some o=>o.sz=sz/\i<o.xZ.length/\off+n<=sz/\(ag=true\/n=1)/\ K (uE ag (((o.xZ.getD i []).drop off).take n))
 | none=>False
@[congr] theorem Tf {n sz i off : Nat} {ag : Bool} {K : D -> Prop} {o o' : Option Ob} (h : o = o') : dW n ag sz i off K o = dW n ag sz i off K o' := by rw [h]
theorem l4 {nx:Nat} {xY:List (Nat × Ob)} {n key sz i off:Nat} {ag:Bool} {K:D->Prop}:yx ⟨nx,xY⟩ n ag (.ref key sz i off) K=dW n ag sz i off K (St.look xY key):=by simp only [yx,St.get];cases St.look xY key <;> rfl
theorem fw {n sz i off:Nat} {ag:Bool} {K:D->Prop} {sz':Nat} {xZ:List (List D)}:dW n ag sz i off K (some ⟨sz',xZ⟩)= (sz'=sz/\i<xZ.length/\off+n<=sz/\(ag=true\/n=1)/\ K (uE ag (((xZ.getD i []).drop off).take n))):=rfl
theorem fv {n sz i off:Nat} {ag:Bool} {K:D->Prop} {xZ:List (List D)}:dW n ag sz i off K (vF sz xZ)= (i<xZ.length/\off+n<=sz/\(ag=true\/n=1)/\ K (uE ag (((xZ.getD i []).drop off).take n))):=by
 cases xZ with
 | nil=>simp [dW,vF]
 | cons e l=>simp [dW,vF]
theorem j9 {σ:St} {n:Nat} {ag:Bool} {cs:List D} {K:D->Prop}:yx σ n ag (.ptr cs) K=(n<=cs.length/\(ag=true\/n=1)/\ K (uE ag (cs.take n))):=rfl
def tX (kk:IntKind) (l:List (Int × D)):List (List D):=l.map λp=>[.int kk p.1,p.2]
def wD (x:Int):List (Int × D)->Nat->Option (Nat × D)
 | [],_=>none
 | (m,d) :: r,i=>if x=m then some (i,d) else wD x r (i+1)
def hZ (l:List (Int × D)) (x:Int) (d:D):List (Int × D):=
 match wD x l 0 with
 | some (i,_)=>l.set i (x,d)
 | none=>l ++ [(x,d)]
theorem qu (kk:IntKind) (l:List (Int × D)):(tX kk l).length=l.length:=by simp [tX]
theorem aN (kk:IntKind) (l:List (Int × D)):oT kk (tX kk l):=by intro row h;simp only [tX,ε] at h;obtain⟨p,_,rfl⟩:=h;exact⟨_,_,rfl⟩
theorem jT (kk:IntKind) (x:Int):∀ (l:List (Int × D)) (i:Nat),sT x (tX kk l) i=wD x l i
 | [],_=>rfl
 | (m,d) :: r,i=>by show sT x ([.int kk m,d] :: tX kk r) i=_;rw [sT,wD,jT kk x r (i+1)]
theorem gg (kk:IntKind) (l:List (Int × D)) (x:Int) (d:D):fU kk (tX kk l) x d=tX kk (hZ l x d):=by
 unfold fU hZ;rw [jT]
 cases wD x l 0 with
 | none=>simp [tX]
 | some p=>simp [tX,List.map_set]
theorem iL : ∀ {a b:List Int},a.map (D.int .i64)= b.map (D.int .i64)->a=b
 | [],[],_=>rfl
 | [],_ :: _,h=>by simp at h
 | _ :: _,[],h=>by simp at h
 | x :: a,y :: b,h=>by simp only [ζ,List.cons.injEq,D.int.injEq,true_and] at h;rw [h.1,iL h.2]
theorem aX : ∀ {a b:List (List Int × D)},vD a=vD b->a=b
 | [],[],_=>rfl
 | [],_ :: _,h=>by simp [vD] at h
 | _ :: _,[],h=>by simp [vD] at h
 | (x,d) :: a,(y,e) :: b,h=>by simp only [vD,ζ,List.cons.injEq,D.agg.injEq,and_true] at h;obtain⟨⟨h1,h2⟩,h3⟩:=h;rw [iL h1,h2,aX (a:=a) (b:=b) h3]
theorem gF {nx:Nat} {xY:List (Nat × Ob)} {n:Nat} {zero:D} {ok:Bool} {key:Nat} {x:List Int} {l:List (List Int × D)} {cs:List D} {K:D->Prop} (hg:St.look xY key=some ⟨0,vD l⟩) (hc:cs=x.map (D.int .i64)) (hx:x.length=n) (hl:∀ p ∈ l,p.1.length=n) :
  mP ⟨nx,xY⟩ n zero ok (.xG key) (.agg cs) K=K (sZ ok zero (sR x l 0)):=by
 subst hc;simp only [mP,St.get,hg];refine propext ⟨λh=>?_,λh=>⟨trivial,x,l,⟨rfl,rfl,hx,hl⟩,h⟩⟩;obtain⟨_,x',l',⟨h1,h2,_,_⟩,h3⟩:=h;rw [iL h1,aX h2]; exact h3
theorem gj {nx:Nat} {xY:List (Nat × Ob)} {n:Nat} {key:Nat} {y:List Int} {l:List (List Int × D)} {cs:List D} {x:D} {K:D->St->Prop} (hg:St.look xY key=some ⟨0,vD l⟩) (hc:cs=y.map (D.int .i64)) (hx:y.length=n) (hl:∀ p ∈ l,p.1.length=n) :
  nX ⟨nx,xY⟩ n (.xG key) (.agg cs) x K=K .vP ⟨nx,vK xY key ⟨0,vD (kN y x l)⟩⟩:=by
 subst hc;simp only [nX,St.get,hg,St.set];refine propext ⟨λh=>?_,λh=>⟨trivial,y,l,⟨rfl,rfl,hx,hl⟩,h⟩⟩;obtain⟨_,x',l',⟨h1,h2,_,_⟩,h3⟩:=h;rw [iL h1,aX h2]; exact h3
theorem gH {nx:Nat} {xY:List (Nat × Ob)} {n:Nat} {key:Nat} {y:List Int} {l:List (List Int × D)} {cs:List D} {x:D} {K:D->St->Prop} (hg:St.look xY key=some ⟨0,vD l⟩) (hc:cs=y.map (D.int .i64)) (hx:y.length=n) (hl:∀ p ∈ l,p.1.length=n) (hno:sR y l 0=none) :
  nX ⟨nx,xY⟩ n (.xG key) (.agg cs) x K=K .vP ⟨nx,vK xY key ⟨0,vD (l ++ [(y,x)])⟩⟩:=by
 rw [gj hg hc hx hl,show kN y x l=l ++ [(y,x)] by unfold kN; rw [hno]]
def xb (kk:IntKind) (x:Int) (zero:D) (ok:Bool) (K:D->Prop):Option Ob->Prop
 | some o=>o.sz=0/\oT kk o.xZ/\K (sZ ok zero (sT x o.xZ 0))
 | none=>False
@[congr] theorem Ti {kk : IntKind} {x : Int} {zero : D} {ok : Bool} {K : D -> Prop} {o o' : Option Ob} (h : o = o') : xb kk x zero ok K o = xb kk x zero ok K o' := by rw [h]
theorem fy {nx:Nat} {xY:List (Nat × Ob)} {zero:D} {ok:Bool} {key:Nat} {kk:IntKind} {x:Int} {K:D->Prop}:xc ⟨nx,xY⟩ zero ok (.xG key) (.int kk x) K=xb kk x zero ok K (St.look xY key):=by simp only [xc,St.get];cases St.look xY key <;> rfl
theorem fx {σ:St} {zero:D} {ok:Bool} {kk:IntKind} {x:Int} {K:D->Prop}:xc σ zero ok .uA (.int kk x) K=K (sZ ok zero none):=rfl
theorem aP {kk:IntKind} {x:Int} {zero:D} {ok:Bool} {K:D->Prop} {l:List (Int × D)}:xb kk x zero ok K (some ⟨0,tX kk l⟩)= K (sZ ok zero (wD x l 0)):=by simp only [xb,jT];exact propext ⟨λh=>h.2.2,λh=>⟨trivial,aN kk l,h⟩⟩
theorem l5 {kk:IntKind} {x:Int} {zero:D} {ok:Bool} {K:D->Prop}:xb kk x zero ok K (some ⟨0,[]⟩)= K (sZ ok zero none):=aP (l:=[])
def xg (nx:Nat) (xY:List (Nat × Ob)) (key:Nat) (kk:IntKind) (y:Int) (x:D) (K:D->St->Prop):Option Ob->Prop
 | some o=>o.sz=0/\oT kk o.xZ/\K .vP ⟨nx,vK xY key ⟨0,fU kk o.xZ y x⟩⟩
 | none=>False
@[congr] theorem Tk {nx : Nat} {xY : List (Nat × Ob)} {key : Nat} {kk : IntKind} {y : Int} {x : D} {K : D -> St -> Prop} {o o' : Option Ob} (h : o = o') : xg nx xY key kk y x K o = xg nx xY key kk y x K o' := by rw [h]
theorem gh {nx:Nat} {xY:List (Nat × Ob)} {key:Nat} {kk:IntKind} {y:Int} {x:D} {K:D->St->Prop}:sf ⟨nx,xY⟩ (.xG key) (.int kk y) x K=xg nx xY key kk y x K (St.look xY key):=by simp only [sf,St.get];cases St.look xY key <;> rfl
theorem aR {nx:Nat} {xY:List (Nat × Ob)} {key:Nat} {kk:IntKind} {y:Int} {x:D} {K:D->St->Prop} {l:List (Int × D)}:xg nx xY key kk y x K (some ⟨0,tX kk l⟩)= K .vP ⟨nx,vK xY key ⟨0,tX kk (hZ l y x)⟩⟩:=by simp only [xg,gg];exact propext ⟨λh=>h.2.2,λh=>⟨trivial,aN kk l,h⟩⟩
theorem l6 {nx:Nat} {xY:List (Nat × Ob)} {key:Nat} {kk:IntKind} {y:Int} {x:D} {K:D->St->Prop}:xg nx xY key kk y x K (some ⟨0,[]⟩)= K .vP ⟨nx,vK xY key ⟨0,tX kk [(y,x)]⟩⟩:=aR (l:=[])
theorem l7 (zero:D):sZ true zero none = .xI [zero,.bool false]:=rfl
theorem l8 (zero:D) (i:Nat) (d:D):sZ true zero (some (i,d))= .xI [d,.bool true]:=rfl
theorem gk (zero:D):sZ false zero none=zero:=rfl
theorem gl (zero:D) (i:Nat) (d:D):sZ false zero (some (i,d))= d:=rfl
theorem Ue {sz:Nat} {xZ:List (List D)} {K:D->Prop}:xw (.sl sz xZ) K=K (.int .i64 xZ.length):=rfl
theorem Z6 {k sz n:Nat} {K:D->Prop}:xw (.xP k sz n) K=K (.int .i64 n):=rfl
theorem Z7 {k sz lo n:Nat} {K:D->Prop}:xw (.sub k sz lo n) K=K (.int .i64 n):=rfl
theorem Z3 {sz key sz' lo len:Nat} {k:IntKind} {n:Int} {K:D->Prop}:za sz (.sub key sz' lo len) (.int k n) K=(sz=sz'/\0<=n/\n<len/\K (.ref key sz (lo+n.toNat) 0)):=rfl
theorem j8 {K:D->Prop}:xw .xU K=K (.int .i64 0):=rfl
theorem Z5 {K:D->Prop}:xw .emp K=K (.int .i64 0):=rfl
theorem UX {sz sz':Nat} {xZ:List (List D)} {k:IntKind} {n:Int} {K:D->Prop}:za sz (.sl sz' xZ) (.int k n) K=(sz=sz'/\0<=n/\n<xZ.length/\K (.ptr (xZ.getD n.toNat []))):=rfl
theorem Z2 {sz key sz' len:Nat} {k:IntKind} {n:Int} {K:D->Prop}:za sz (.xP key sz' len) (.int k n) K=(sz=sz'/\0<=n/\n<len/\K (.ref key sz n.toNat 0)):=rfl
theorem ZP {neg:Bool} {K:D->Prop}:qR neg .xU .xU K=K (.bool (!neg)):=rfl
theorem ZQ {neg:Bool} {K:D->Prop} {a b c:Nat}:qR neg (.xP a b c) .xU K=K (.bool neg):=rfl
theorem ZR {neg:Bool} {K:D->Prop} {a b c:Nat}:qR neg .xU (.xP a b c) K=K (.bool neg):=rfl
theorem ZS {neg:Bool} {K:D->Prop}:qR neg .emp .xU K=K (.bool neg):=rfl
theorem ZT {neg:Bool} {K:D->Prop}:qR neg .xU .emp K=K (.bool neg):=rfl
theorem ZU {neg:Bool} {K:D->Prop} {sz:Nat} {e:List D} {r:List (List D)}:qR neg (.sl sz (e :: r)) .xU K=K (.bool neg):=rfl
def VK (nx:Nat) (xY:List (Nat × Ob)) (sz sz' bytes key n:Nat) (rows:List (List D)) (K:D->St->Prop):Option Ob->Prop
 | some ob=>sz=sz'/\ob.sz=sz/\n<=ob.xZ.length/\(n+rows.length)* bytes<=140737488355328/\n+rows.length<=8000000000000/\K (.xP nx sz (n+rows.length)) ⟨nx+1,(nx,⟨sz,ob.xZ.take n++rows⟩) :: zI xY key⟩
 | none=>False
@[congr] theorem Rn {nx : Nat} {xY : List (Nat × Ob)} {sz sz' bytes key n : Nat} {rows : List (List D)} {K : D -> St -> Prop} {o o' : Option Ob} (h : o = o') : VK nx xY sz sz' bytes key n rows K o = VK nx xY sz sz' bytes key n rows K o' := by rw [h]
theorem Xf {q:Bool} {nx:Nat} {xY:List (Nat × Ob)} {sz sz' bytes key n:Nat} {rows:List (List D)} {K:D->St->Prop} :
  gX q ⟨nx,xY⟩ sz bytes (.xP key sz' n) (some rows) K=((∀ x ∈ rows,zX x=true)/\ VK nx xY sz sz' bytes key n rows K (St.look xY key)):=by
 rw [Wh];simp only [St.get];cases St.look xY key <;> rfl
theorem Xd {nx:Nat} {xY:List (Nat × Ob)} {sz sz' bytes key n:Nat} {rows:List (List D)} {K:D->St->Prop} {sz0:Nat} {xZ:List (List D)} :
  VK nx xY sz sz' bytes key n rows K (some ⟨sz0,xZ⟩)= (sz=sz'/\sz0=sz/\n<=xZ.length/\(n+rows.length)* bytes<=140737488355328/\n+rows.length<=8000000000000/\K (.xP nx sz (n+rows.length)) ⟨nx+1,(nx,⟨sz,xZ.take n++rows⟩) :: zI xY key⟩):=rfl
def cw (q:Bool) (nx:Nat) (xY:List (Nat × Ob)) (sz sz' bytes key lo n:Nat) (rows:List (List D)) (K:D->St->Prop):Option Ob->Prop
 | some ob=>q=true/\sz=sz'/\ob.sz=sz/\lo+n<=ob.xZ.length/\(n+rows.length)* bytes<=140737488355328/\n+rows.length<=8000000000000 /\
  ∀ pre:List (List D),(pre = []\/pre=ob.xZ.take lo)->K (.sub nx sz pre.length (n+rows.length)) ⟨nx+1,(nx,⟨sz,pre++((ob.xZ.drop lo).take n++rows)⟩) :: zI xY key⟩
 | none=>False
@[congr] theorem TX {q : Bool} {nx : Nat} {xY : List (Nat × Ob)} {sz sz' bytes key lo n : Nat} {rows : List (List D)} {K : D -> St -> Prop} {o o' : Option Ob} (h : o = o') : cw q nx xY sz sz' bytes key lo n rows K o = cw q nx xY sz sz' bytes key lo n rows K o' := by rw [h]
theorem Xg {q:Bool} {nx:Nat} {xY:List (Nat × Ob)} {sz sz' bytes key lo n:Nat} {rows:List (List D)} {K:D->St->Prop} :
  gX q ⟨nx,xY⟩ sz bytes (.sub key sz' lo n) (some rows) K=((∀ x ∈ rows,zX x=true)/\ cw q nx xY sz sz' bytes key lo n rows K (St.look xY key)):=by
 simp only [gX,St.get];cases St.look xY key <;> rfl
theorem ed {q:Bool} {nx:Nat} {xY:List (Nat × Ob)} {sz sz' bytes key lo n:Nat} {rows:List (List D)} {K:D->St->Prop} {sz0:Nat} {xZ:List (List D)} :
  cw q nx xY sz sz' bytes key lo n rows K (some ⟨sz0,xZ⟩)= (q=true/\sz=sz'/\sz0=sz/\lo+n<=xZ.length/\(n+rows.length)* bytes<=140737488355328/\n+rows.length<=8000000000000 /\
   ∀ pre:List (List D),(pre = []\/pre=xZ.take lo)->K (.sub nx sz pre.length (n+rows.length)) ⟨nx+1,(nx,⟨sz,pre++((xZ.drop lo).take n++rows)⟩) :: zI xY key⟩):=rfl
theorem j7 {key sz:Nat} {xZ:List (List D)} {K:D->Prop}:xw (yH key sz xZ) K=K (.int .i64 xZ.length):=by cases xZ <;> simp [xw,yH]
theorem j4 {key sz sz':Nat} {xZ:List (List D)} {k:IntKind} {n:Int} {K:D->Prop}:za sz' (yH key sz xZ) (.int k n) K=(sz'=sz/\0<=n/\n<xZ.length/\K (.ref key sz n.toNat 0)):=by
 cases xZ with
 | nil=>simp only [za,yH,θ]; simp; intro _ h1 h2; omega
 | cons e l=>simp [za,yH]; rintro rfl _ _; rfl
theorem pv {key sz:Nat} {neg:Bool} {xZ:List (List D)} {K:D->Prop}:qR neg (yH key sz xZ) .xU K=K (.bool (if neg then !xZ.isEmpty else xZ.isEmpty)):=by cases xZ <;> cases neg <;> simp [qR,yH]
def sw : List (Nat × Nat)->Nat->Nat
 | [],k=>k
 | (a,b) :: r,k=>if k=a then b else sw r k
def sG (xZ:List (List D)):Prop:=∀ e ∈ xZ,D.xJ e=true
theorem qw (l:List (BitVec 64)):sG (us l)= True:=eq_true (V8 l)
theorem Zl (l:List (List (BitVec 64))):sG (rr l)= True:=eq_true (cg l)
theorem gn (k:IntKind) (l:List Int):sG (rows k l)= True:=eq_true (s4 k l)
theorem o9 : sG []=True:=by simp [sG]
theorem ur (a b:List (List D)):sG (a++b)= (sG a/\sG b):=by simp only [sG,List.mem_append];exact propext ⟨λh=>⟨λe he=>h e (.inl he),λe he=>h e (.inr he)⟩,λh e he=>he.elim (h.1 e) (h.2 e)⟩
theorem p3 (l:List (BitVec 64)) (i:Nat) (s:BitVec 64):sG ((us l).set i [.int .u64 (ui s)])= True:=by rw [T8,qw]
theorem cv {σ σ':St} {ρ:Nat->Nat} {a b sz:Nat} {xZ:List (List D)}:vw σ σ' ρ (yH a sz xZ) (yH b sz xZ)= (xZ = []\/(b<σ'.nx/\a=ρ b)):=by
 cases xZ with
 | nil=>simp [yH,vw]
 | cons e l=>simp [yH,vw]
def Qs (σ':St) (ρ:Nat->Nat) (k0:Nat):Prop:=∀ p ∈ σ'.xY,ρ p.1≠k0
theorem ik {σ σ':St} {ρ:Nat->Nat} {k0 sz:Nat} {xZ:List (List D)} (hs:0<sz) (h:Qs σ' ρ k0) (hg:σ.get k0=vF sz xZ) (hp:sG xZ):vw σ σ' ρ (yH k0 sz xZ) (.sl sz xZ)= True:=by
 cases xZ with
 | nil=>simp [yH,vw]
 | cons e l=> refine eq_true ?_;simp only [yH,vw];exact⟨trivial,hs,h,⟨sz,e :: l⟩,hg,rfl,Ag _,by simp,hp⟩
def U6 (σ σ':St) (ρ:Nat->Nat) (as bs:List (List D)):Prop:=jr σ σ' ρ as bs
theorem YK {σ σ':St} {ρ:Nat->Nat} {xZ:List (List D)} (h:sG xZ):U6 σ σ' ρ xZ xZ=True:=eq_true (.same h)
end
section
variable [vU]
theorem bU {σ σ':St} {ρ:Nat->Nat}:∀ {a:List D},D.xJ a=true->rN σ σ' ρ a a:=by
 intro a h
 have key:∀ d:D,d.xH=true->vw σ σ' ρ d d:=by
  intro d
  refine D.rec (motive_1:=λd=>d.xH=true->vw σ σ' ρ d d) (motive_2:=λ_=>True) (motive_3:=λcs=>D.xJ cs=true->rN σ σ' ρ cs cs)
   ?top ?vP ?int ?bool ?str ?sl ?xU ?emp ?agg ?xI ?fn ?ref ?xP ?sub ?ptr ?xG ?sY ?uA ?uL ?kI trivial (λ_ _ _ _=>trivial) ?nil ?cons d
  case agg=>intro cs ih h; simp only [D.xH] at h; simp only [vw]; exact⟨trivial,ih h⟩
  case xI=>intro cs ih h; simp only [D.xH] at h; simp only [vw]; exact⟨trivial,ih h⟩
  case fn=>intro f cs ih h; simp only [D.xH] at h; simp only [vw]; exact⟨trivial,trivial,ih h⟩
  case ref=>intro k sz i off h; simp [D.xH] at h
  case xP=>intro k sz n h; simp [D.xH] at h
  case sub=>intro k sz lo n h; simp [D.xH] at h
  case xG=>intro k h; simp [D.xH] at h
  case nil=>intro _; simp [rN]
  case cons=> intro d r h1 h2 h;simp only [D.xJ,Ab] at h;simp only [rN];exact⟨h1 h.1,h2 h.2⟩
  case ptr=>intro cs _ _; simp [vw]
  all_goals intros; simp [vw]
 induction a with
 | nil=>simp [rN]
 | cons d r ih=> simp only [D.xJ,Ab] at h;simp only [rN];exact⟨key d h.1,ih h.2⟩
theorem ri {σ σ':St} {ρ:Nat->Nat}:∀ {xZ:List (List D)} {a b:List D},sG xZ->a.length=b.length->rN σ σ' ρ a b->jr σ σ' ρ (xZ ++ [a]) (xZ ++ [b])
 | [],a,b,_,hl,h=>.cons hl h .nil
 | e :: r,a,b,hp,hl,h=>.cons rfl (bU (hp e (by simp))) (ri (λx hx=>hp x (by simp [hx])) hl h)
theorem TB {σ σ':St} {ρ:Nat->Nat} {xZ:List (List D)} {a b:List D} (h:U6 σ σ' ρ (xZ ++ [a]) (xZ ++ [b])):a.length=b.length/\rN σ σ' ρ a b:=by
 have:=(eR (show jr σ σ' ρ (xZ ++ [a]) (xZ ++ [b]) from h)).2 xZ.length (by simp);have e1:∀ x:List D,(xZ ++ [x]).getD xZ.length []=x:=by intro x; simp [List.getD]
 rw [e1,e1] at this;refine⟨this.1,?_⟩
 rcases this.2 with h | ⟨h1,h2⟩
 ·exact h
 ·rw [h1]; exact bU h2
theorem bV {σ σ':St} {ρ:Nat->Nat} {xZ:List (List D)} {a b:List D} (hp:sG xZ):U6 σ σ' ρ (xZ ++ [a]) (xZ ++ [b])= (a.length=b.length/\rN σ σ' ρ a b):= propext ⟨λh=>TB h,λh=>ri hp h.1 h.2⟩
theorem VB {σ σ':St} {ρ:Nat->Nat} {a b:List D}:U6 σ σ' ρ [a] [b]=(a.length=b.length/\rN σ σ' ρ a b):=bV (xZ:=[]) (by simp [sG])
theorem TC {σ σ':St} {ρ:Nat->Nat} {l:List (List (BitVec 64))} {r:List (BitVec 64)} {x:D}:U6 σ σ' ρ (rr l ++ [[x]]) (rr (l ++ [r]))= rN σ σ' ρ [x] [.sl 1 (us r)]:=by rw [<- vu,bV (cg l)];simp
def eA (σ σ':St) (ρ:Nat->Nat) (p:Nat × Ob):Prop:=p.1<σ'.nx/\∃ ob,σ.get (ρ p.1)= some ob/\ob.sz=p.2.sz/\U6 σ σ' ρ ob.xZ p.2.xZ
def rI (σ σ':St) (ρ:Nat->Nat) (l:List (Nat × Ob)):Prop:=∀ p ∈ l,eA σ σ' ρ p
theorem gM {σ σ':St} {ρ:Nat->Nat}:rI σ σ' ρ []=True:=by simp [rI]
theorem jV {σ σ':St} {ρ:Nat->Nat} {p:Nat × Ob} {l:List (Nat × Ob)}:rI σ σ' ρ (p :: l)= (eA σ σ' ρ p/\rI σ σ' ρ l):=by simp [rI]
theorem aU {σ σ':St} {ρ:Nat->Nat} {k sz:Nat} {xZ:List (List D)} {l:List (Nat × Ob)} (hk:k<σ'.nx) (hg:σ.get (ρ k)= vF sz xZ) (hp:sG xZ):rI σ σ' ρ (yD k sz xZ++l)= rI σ σ' ρ l:=by
 cases xZ with
 | nil=>rfl
 | cons e r=> simp only [yD,ν,η,jV];refine propext ⟨λh=>h.2,λh=>⟨⟨hk,⟨sz,e :: r⟩,hg,rfl,.same hp⟩,h⟩⟩
theorem qa {σ σ':St} {ρ:Nat->Nat} {k sz:Nat} {xZ:List (List D)} (hk:k<σ'.nx) (hg:σ.get (ρ k)= vF sz xZ) (hp:sG xZ):rI σ σ' ρ (yD k sz xZ)= True:=by have:=aU (l:=[]) hk hg hp;rw [δ,gM] at this;exact this
theorem bE {sz:Nat} {xZ:List (List D)} (h:xZ ≠ []):vF sz xZ=some ⟨sz,xZ⟩:=by
 cases xZ with
 | nil=>exact absurd rfl h
 | cons e r=>rfl
theorem fP {σ σ':St} {ρ:Nat->Nat} {k sz:Nat} {xZ els':List (List D)} {l:List (Nat × Ob)} (hk:k<σ'.nx) (hg:σ.get (ρ k)= vF sz els') (hq:U6 σ σ' ρ els' xZ):rI σ σ' ρ (yD k sz xZ++l)= rI σ σ' ρ l:=by
 cases xZ with
 | nil=>rfl
 | cons e r=>
  have hne:els' ≠ []:=by rintro rfl;have:=(eR (show jr σ σ' ρ [] (e :: r) from hq)).1;simp at this
  simp only [yD,ν,η,jV];refine propext ⟨λh=>h.2,λh=>⟨⟨hk,⟨sz,els'⟩,?_,rfl,hq⟩,h⟩⟩;rw [hg,bE hne]
theorem uz {σ σ':St} {ρ:Nat->Nat} {k sz:Nat} {xZ els':List (List D)} (hk:k<σ'.nx) (hg:σ.get (ρ k)= vF sz els') (hq:U6 σ σ' ρ els' xZ):rI σ σ' ρ (yD k sz xZ)= True:=by have:=fP (l:=[]) hk hg hq;rw [δ,gM] at this;exact this
def ak (ks:List Nat) (l:List (Nat × Ob)):Prop:=∀ p ∈ l,p.1 ∈ ks
theorem bo {ks:List Nat}:ak ks []=True:=by simp [ak]
theorem qo {ks:List Nat} {p:Nat × Ob} {l:List (Nat × Ob)}:ak ks (p :: l)= (p.1 ∈ ks/\ak ks l):=by simp [ak]
theorem qp {ks:List Nat} {k sz:Nat} {xZ:List (List D)} {l:List (Nat × Ob)} (h:k ∈ ks):ak ks (yD k sz xZ++l)= ak ks l:=by
 cases xZ with
 | nil=>rfl
 | cons e r=>simp [yD,qo,h]
theorem j5 {ks:List Nat} {k sz:Nat} {xZ:List (List D)} (h:k ∈ ks):ak ks (yD k sz xZ)= True:=by have:=qp (sz:=sz) (xZ:=xZ) (l:=[]) h;rw [δ,bo] at this;exact this
def jC (ρ:Nat->Nat) (k0:Nat) (l:List (Nat × Ob)):Prop:=∀ p ∈ l,ρ p.1≠k0
theorem UG {σ':St} {ρ:Nat->Nat} {k0:Nat}:Qs σ' ρ k0=jC ρ k0 σ'.xY:=propext Iff.rfl
theorem zl {ρ:Nat->Nat} {k0:Nat}:jC ρ k0 []=True:=by simp [jC]
theorem aH {ρ:Nat->Nat} {k0:Nat} {p:Nat × Ob} {l:List (Nat × Ob)}:jC ρ k0 (p :: l)= (ρ p.1≠k0/\jC ρ k0 l):=by simp [jC]
theorem aI {ρ:Nat->Nat} {k0 k sz:Nat} {xZ:List (List D)} {l:List (Nat × Ob)}:jC ρ k0 (yD k sz xZ++l)= ((xZ = []\/ρ k≠k0)/\ jC ρ k0 l):=by
 cases xZ with
 | nil=>simp [yD]
 | cons e r=>simp [yD,aH]
theorem jy {ρ:Nat->Nat} {k0 k sz:Nat} {xZ:List (List D)}:jC ρ k0 (yD k sz xZ)= (xZ = []\/ρ k≠k0):=by have:=aI (ρ:=ρ) (k0:=k0) (k:=k) (sz:=sz) (xZ:=xZ) (l:=[]);rw [δ,zl,and_true] at this;exact this
theorem yV.Q1 {C:Cx} {f f':Fr} {σ σ':St} (l:List (Nat × Nat)) (ks:List Nat) (hn:C.n0<=σ'.nx) (h0:∀ p ∈ l,C.n0<=p.1) (hd:(ks.map (sw l)).Nodup)
  (h:ak ks σ'.xY/\rI σ σ' (sw l) σ'.xY/\uk σ σ' (sw l) f f'):yV C f σ f' σ':=by
 obtain⟨hk,hs,hf⟩:=h
 refine yV.view (sw l) hn ?_ hf ?_ ?_
 ·intro k hk
  induction l with
  | nil=>rfl
  | cons p l ih=>
   obtain⟨a,b⟩:=p;have:C.n0<=a:=h0 (a,b) (by simp);simp only [sw];rw [if_neg (by omega)];have hm:∀ p ∈ l,C.n0<=p.1:=λp hp=>h0 p (by simp [hp]);clear ih hd hs hf h0
   induction l with
   | nil=>rfl
   | cons q l ih=> obtain⟨c,d⟩:=q;have:C.n0<=c:=hm (c,d) (by simp);simp only [sw];rw [if_neg (by omega)];exact ih λp hp=>hm p (by simp [hp])
 ·intro p hp;obtain⟨h1,ob,h2,h3,h4⟩:=hs p hp;exact⟨h1,ob,h2,h3,h4⟩
 ·intro p hp q hq e;have h1:=hk p hp;have h2:=hk q hq
  have inj:∀ (ks:List Nat),(ks.map (sw l)).Nodup->∀ a ∈ ks,∀ b ∈ ks,sw l a=sw l b->a=b:=by
   intro ks
   induction ks with
   | nil=>intro _ a ha; simp at ha
   | cons x ks ih=>
    intro hd a ha b hb e;simp only [ζ,List.nodup_cons,ε,not_exists,not_and] at hd
    rcases π.1 ha with h1 | h1 <;> rcases π.1 hb with h2 | h2
    ·rw [h1,h2]
    ·rw [h1] at e; exact absurd e.symm (hd.1 b h2)
    ·rw [h2] at e; exact absurd e (hd.1 a h1)
    ·exact ih hd.2 a h1 b h2 e
  exact inj ks hd _ h1 _ h2 e
def xh (C:Cx) (Q:Exit->Fr->St->Prop) (e:Exit) (f:Fr) (σ:St):Prop:=∃ f' σ',yV C f σ f' σ'/\Q e f' σ'
theorem xh.yY {C:Cx} {Q:Exit->Fr->St->Prop} {e:Exit} {f:Fr} {σ:St} (h:Q e f σ):xh C Q e f σ:=⟨f,σ,yV.refl,h⟩
theorem xh.go {C:Cx} {Q:Exit->Fr->St->Prop} {e:Exit} {f:Fr} {σ:St} (f':Fr) (σ':St) (hw:yV C f σ f' σ') (h:Q e f' σ'):xh C Q e f σ:=⟨f',σ',hw,h⟩
theorem yw {C:Cx} {dc:DC} {f:Fr} {σ:St} {Q:Exit->Fr->St->Prop} (h:wpS C dc f σ (xh C Q)):wpS C dc f σ Q:=by intro code hc E a w G;refine wpIn_mono (h code hc E a w G) λe a' w' hh=>?_;obtain⟨f1,σ1,G1,f2,σ2,hw,hq⟩:=hh;exact⟨f2,σ2,hw E a' w' G1,hq⟩
theorem ZK {C:Cx} (hmx:C.P.follows .mixedOrders=true) {it:Nat} {m:wQ} {out nx more next pair:Nat} {rest:List xN} {code:DC} {Q:Exit->Fr->St->Prop} {f:Fr} {σ:St} (key:Nat) (xZ:List (List D)) (hm:uX f m = .xG key) (hob:σ.get key=some ⟨0,xZ⟩)
  {α:Type} (g:List Nat->α->Fr) (s:List Nat->α->St) (J:List Nat->α->Prop) (a0:α) (h0:J [] a0)
  (hw:∀ b,yV { C with n0:=max C.n0 (key+1) } ((it,.kI b) :: f) σ ((it,.kI b) :: g [] a0) (s [] a0))
  (hkey:∀ seen a,J seen a->(s seen a).get key=some ⟨0,xZ⟩)
  (done:∀ b seen a,J seen a->seen.Nodup->(∀ j ∈ seen,j<xZ.length)->seen.length=xZ.length->Q .normal ((more,.top) :: (nx,.top) :: (it,.kI b) :: g seen a) (s seen a))
  (round:∀ b seen a i,J seen a->seen.Nodup->(∀ j ∈ seen,j<xZ.length)->i<xZ.length->i ∉ seen ->
   xz { C with n0:=max C.n0 (key+1) } rest (eL { C with n0:=max C.n0 (key+1) } code out next (λf' σ'=>∃ a',J (seen ++ [i]) a'/\f'=(it,.kI b) :: g (seen ++ [i]) a'/\σ'=s (seen ++ [i]) a') Q)
    ((pair,.xI (xZ.getD i [])) :: (more,.top) :: (nx,.top) :: (it,.kI b) :: g seen a) (s seen a)) (hrd:C.rd=none:=by rfl) :
  cQ C it m out nx more next pair rest code Q f σ:=by
 refine⟨key,xZ,hrd,hm,hob,λb=>⟨λseen f σ=>∃ a,J seen a/\f=(it,.kI b) :: g seen a/\σ=s seen a,⟨_,_,hw b,a0,h0,rfl,rfl⟩,?_,?_⟩⟩
 ·rintro seen f σ ⟨a,hj,rfl,rfl⟩;exact⟨by simp [Fr.get],hkey seen a hj⟩
 ·rintro seen f σ ⟨a,hj,rfl,rfl⟩ hnd hlt;refine⟨λhl=>done b seen a hj hnd hlt hl,λi hi hni=>?_⟩;have h:=round b seen a i hj hnd hlt hi hni;rw [lK,jA] at h;exact h
theorem l9 {C:Cx} (hmx:C.P.follows .mixedOrders=true) {code:DC} {out next:Nat} {Q:Exit->Fr->St->Prop} {f:Fr} {σ:St} {α:Type} {J:α->Prop} {g:α->Fr} {s:α->St}
  (h:aD C code (tO next (qT (λf' σ'=>∃ a',J a'/\yV C f' σ' (g a') (s a')) (tO out Q))) f σ):eL C code out next (λf' σ'=>∃ a',J a'/\f'=g a'/\σ'=s a') Q f σ:=by
 have h2:=wZ hmx h;refine yw (YN h2 λe f1 σ1 hq=>?_)
 cases e with
 | normal=> obtain⟨a',hj',hwk⟩:=hq;exact⟨_,_,hwk,a',hj',rfl,rfl⟩
 | exit j=>
  simp only [tO,qT] at hq
  by_cases hj2:j=next
  ·rw [if_pos hj2] at hq;obtain⟨a',hj',hwk⟩:=hq;refine⟨_,_,hwk,?_⟩;simp only [tO,qT];rw [if_pos hj2];exact⟨a',hj',rfl,rfl⟩
  ·rw [if_neg hj2] at hq;refine⟨f1,σ1,yV.refl,?_⟩;simp only [tO,qT];rw [if_neg hj2];exact hq
 | goto l=>exact⟨f1,σ1,yV.refl,hq⟩
 | ret=>exact⟨f1,σ1,yV.refl,hq⟩
 | panic ch=>exact⟨f1,σ1,yV.refl,hq⟩
 | outgrown=>exact⟨f1,σ1,yV.refl,hq⟩
theorem uI {C:Cx} {dc:DC} {f:Fr} {σ:St} {Q:Exit->Fr->St->Prop} {α:Type} (g:α->Fr) (s:α->St) (I:α->Prop) (m:α->Nat) (a0:α) (h0:I a0) (hw:yV C f σ (g a0) (s a0))
  (round:∀ a,I a->wpS C dc (g a) (s a) (qT (λf' σ'=>∃ a',I a'/\yV C f' σ' (g a') (s a')/\ m a'<m a) (xh C Q))):wpS C (.loop dc) f σ Q:=
 yw (zC g s I m a0 h0 hw round)
end
theorem To : ((0:Nat):Int)= 0:=rfl
theorem yB {k:Nat} (h:k<9223372036854775807):IntKind.i64.wrap ((k:Int)+ 1)= ((k+1:Nat):Int):=by rw [wrap_i64 (by omega)]; omega
section
variable [vU]
theorem QG (f:Fr) (n:Nat):uX f (.t n)= Fr.get f n:=rfl
theorem QF (f:Fr) (d:D):uX f (.c d)= d:=rfl
theorem Zn (f:Fr) (t:Nat) (d:D):Fr.put f (some t) d=(t,d) :: f:=rfl
theorem Zm (f:Fr) (d:D):Fr.put f none d=f:=rfl
theorem get_nil (n:Nat):Fr.get [] n = .top:=rfl
theorem Wx (t:Nat) (d:D) (r:Fr) (n:Nat):Fr.get ((t,d) :: r) n=if t=n then d else Fr.get r n:=rfl
theorem look_nil (k:Nat):St.look [] k=none:=rfl
theorem xX (j:Nat) (o:Ob) (r:List (Nat × Ob)) (k:Nat):St.look ((j,o) :: r) k=if j=k then some o else St.look r k:=rfl
theorem YE (k:Nat) (o:Ob):vK [] k o = []:=rfl
theorem s7 (j:Nat) (o:Ob) (r:List (Nat × Ob)) (k:Nat) (o':Ob):vK ((j,o) :: r) k o'=if j=k then(j,o') :: r else(j,o) :: vK r k o':=rfl
theorem fj (k:Nat):zI [] k = []:=rfl
theorem pk (j:Nat) (o:Ob) (r:List (Nat × Ob)) (k:Nat):zI ((j,o) :: r) k=if j=k then zI r k else(j,o) :: zI r k:=rfl
theorem iz (n:Nat) (l:List (Nat × Ob)) (k:Nat):St.get ⟨n,l⟩ k=St.look l k:=rfl
theorem set_mk (n:Nat) (l:List (Nat × Ob)) (k:Nat) (o:Ob):St.set ⟨n,l⟩ k o=⟨n,vK l k o⟩:=rfl
theorem SY (n:Nat) (l:List (Nat × Ob)) (o:Ob):St.new ⟨n,l⟩ o=⟨n+1,(n,o) :: l⟩:=rfl
theorem Wp (n:Nat) (l:List (Nat × Ob)) (k:Nat):St.erase ⟨n,l⟩ k=⟨n,zI l k⟩:=rfl
theorem p9 (σ:St) (sz sz':Nat) (xZ:List (List D)):rowsOf σ sz (.sl sz' xZ)= if sz=sz' then some xZ else none:=rfl
theorem py (σ:St) (sz:Nat):rowsOf σ sz .xU=some []:=rfl
theorem gw (σ:St) (sz:Nat):rowsOf σ sz .emp=some []:=rfl
def zD :=γ @YW (γ @VE (γ @YU (γ @VG (γ @YR (γ @z8 (γ @YT (γ @YV (γ @YS (γ @VF (γ @y8 (γ @Zi (γ @o8 (γ @Zd (γ @o5 (γ @UU @UV)))))))))))))))
def zT :=γ @QG (γ @QF (γ @Zn (γ @Zm (γ @get_nil (γ @Wx (γ @look_nil (γ @xX (γ @YE (γ @s7 (γ @fj (γ @pk (γ @iz (γ @set_mk (γ @SY (γ @Wp (γ @p9 (γ @py (γ @gw (γ @Int.cast_ofNat_Int (γ @To (γ @Int.toNat_zero (γ @Int.toNat_one (γ @beq_self_eq_true.{0} (γ @bne_self_eq_false.{0} (γ @Bool.false_eq_true (γ @Wo (γ @Wy (γ @UT (γ @Wj (γ @ef (γ @Wg (γ @Xf (γ @Xd (γ @Xg (γ @ed (γ @YG (γ @u0 (γ @s9 (γ @j7 (γ @Ue (γ @Z6 (γ @Z7 (γ @j8 (γ @Z5 (γ @j4 (γ @UX (γ @Z2 (γ @Z3 (γ @pv (γ @ZP (γ @ZQ (γ @ZR (γ @ZS (γ @ZT (γ @ZU (γ @l4 (γ @fw (γ @fv (γ @j9 (γ @ZN (γ @ZM (γ @Uj (γ @fy (γ @fx (γ @aP (γ @l5 (γ @gh (γ @aR (γ @l6 (γ @l7 (γ @l8 (γ @gk (γ @gl (γ @zM (γ @lY (γ @fD (γ @uo (γ @yp (γ @gy (γ @uw (γ @Option.or_none.{0} (γ @List.length_set.{0} (γ @jx (γ @n8 (γ @Nat.lt_irrefl (γ @oM (γ @gW (γ @V9 (γ @true_and (γ @and_true (γ @κ.{0} (γ @List.getD_cons_succ.{0} (γ @Aa.{0} (γ @θ.{0} (γ @Bool.not_true (γ @Bool.not_false (γ @ζ.{0,0} (γ @List.map_nil.{0,0} (γ @η.{0} (γ @ν.{0} (γ @δ.{0} (γ @o7 (γ @o6 (γ @List.take_succ_cons.{0} (γ @List.take_zero.{0} (γ @List.drop_succ_cons.{0} (γ @List.drop_zero.{0} (γ @false_implies (γ @or_true (γ @true_or (γ @Ag (γ @Int.toNat_natCast (γ @and_self (γ @O2 (γ @O3 (γ @O4 (γ @O5 (γ @Ss (γ @Qc (γ @T6 (γ @u9 (γ @Sr (γ @T4 (γ @Sw (γ @Sy (γ @Sx (γ @Sz (γ @Yk (γ @Su (γ @Sq (γ @not_false_eq_true (γ @Xl (γ @Xp (γ @Xk (γ @eo (γ @Xo (γ @Wl (γ @fc (γ @Xj (γ @Xi (γ @Wk (γ @Xn (γ @Xm (γ @eu (γ @fb (γ @ez (γ @ew (γ @Un (γ @ZZ (γ @Ur (γ @Sa (γ @Zc (γ @Um (γ @SX (γ @Uq (γ @Uo (γ @Up (γ @ZY (γ @Zb (γ @Za (γ @ZX (γ @μ.{0} (γ @List.all_nil.{0} (γ @Bool.and_true (γ @Bool.and_self (γ @List.set_cons_zero.{0} (γ @List.set_cons_succ.{0} (γ @Ah (γ @Nat.add_zero (γ @Nat.zero_lt_succ (γ @Nat.lt_add_one (γ @decide_true (γ @decide_false (γ @gt_iff_lt.{0} (γ @ge_iff_le.{0} (γ @Sd (γ @V0 (γ @Bool.true_and (γ @decide_eq_true_eq (γ @decide_eq_false_iff_not (γ @gC (γ @fp (γ @gD (γ @fq (γ @s5 (γ @yj (γ @cp (γ @vu (γ @qy (γ @yi (γ @Yn (γ @cn (γ @χ.{0} (γ @List.cons_ne_nil.{0} (γ @List.take_length.{0} (γ @Option.map_some.{0,0} (γ @Option.map_none.{0,0} (γ @ω.{0} (γ @Yi @cd)))))))))))))))))))))))))))))))))))))))))))))))))))))))))))))))))))))))))))))))))))))))))))))))))))))))))))))))))))))))))))))))))))))))))))))))))))))))))))))))))))))))))))))))))))))))))))))))))))))))
def zR :=γ @To (γ @qp (γ @j5 (γ @qo (γ @bo (γ @aU (γ @qa (γ @fP (γ @uz (γ @jV (γ @gM (γ @TC (γ @bV (γ @YK (γ @VB (γ @cv (γ @ik (γ @UG (γ @aI (γ @jy (γ @aH (γ @zl (γ @qw (γ @Zl (γ @gn (γ @o9 (γ @ur (γ @p3 (γ @zM (γ @lY (γ @Option.or_none.{0} (γ @Nat.zero_lt_succ (γ @Nat.lt_add_one (γ @Option.some.injEq.{0} (γ @and_true (γ @true_and (γ @and_self (γ @or_true (γ @true_or (γ @not_false_eq_true (γ @π.{0} (γ @χ.{0} (γ @List.not_mem_nil.{0} (γ @D.int.injEq (γ @D.bool.injEq (γ @D.sl.injEq (γ @D.ref.injEq (γ @Aa.{0} (γ @θ.{0} (γ @cp (γ @yj (γ @vu (γ @Ah (γ @cn (γ @Yn (γ @Yi (γ @cd (γ @qy @yi)))))))))))))))))))))))))))))))))))))))))))))))))))))))))
end
end Go.Pd
namespace Go.Pd
open Go Go.ChangeShapes Go.WideShapes Go.RowKit
def bX : List (Nat × Nat)->Nat->Nat->Bool
 | [],o,n=>o==n
 | (a,s) :: r,o,n=>(a==o)&& bX r (o+s) n
def tE (P:Program):Nat->TypeId->Bool
 | 0,_=>false
 | n+1,t=>match P.underlying t with
  | some .bool=>true
  | some (.int _)=>true
  | some .string=>true
  | some (.slice e)=>tE P n e&&decide (0<P.cellsOf e)
  | some (.struct fs)=>(fs.toList.all λf=>tE P n f.type)&& bX (fs.toList.map λf=>(f.offset,P.cellsOf f.type)) 0 (P.cellsOf t)
  | some (.array k e)=>tE P n e&&(P.cellsOf t==k*P.cellsOf e)
  | _=>false
mutual
def rK (P:Program):Nat->TypeId->List D->Prop
 | 0,_,_=>False
 | n+1,t,ds=>match P.underlying t with
  | some .bool=>∃ b,ds = [.bool b]
  | some (.int k)=>∃ i,ds = [.int k i]
  | some .string=>∃ s,ds = [.str s]
  | some (.slice e)=>∃ xZ,ds = [.sl (P.cellsOf e) xZ]/\∀ row ∈ xZ,rK P n e row
  | some (.struct fs)=>oA P n (fs.toList.map λf=>f.type) ds
  | some (.array k e)=>oA P n (List.replicate k e) ds
  | _=>False
def oA (P:Program):Nat->List TypeId->List D->Prop
 | _,[],ds=>ds = []
 | n,f :: fs,ds=>∃ a b,ds=a++b/\rK P n f a/\oA P n fs b
end
def cX (P:Program) (n:Nat) (t:TypeId) (d:D):Prop:=
 match P.underlying t with
 | some (.struct _)=>∃ ds,d = .agg ds/\rK P n t ds
 | some (.array _ _)=>∃ ds,d = .agg ds/\rK P n t ds
 | _=>rK P n t [d]
def vv (P:Program) (n:Nat):List TypeId->List D->Prop
 | [],as=>as = []
 | t :: ts,as=>∃ a r,as=a :: r/\cX P n t a/\vv P n ts r
def eG (w:World) (cs:List Value) (ds:List D):Prop:=ds.length=cs.length/\∀ j,j<ds.length->RP (λ_=>False) w (cs.getD j undef) (ds.getD j .top)
theorem fO {w:World} {a b:List Value} {x y:List D} (h:eG w a x) (h':eG w b y):eG w (a++b) (x++y):=by
 refine⟨by simp [h.1,h'.1],λj hj=>?_⟩;simp only [List.getD]
 by_cases hx:j<x.length
 ·rw [ο hx,ο (by rw [<- h.1]; exact hx)];exact h.2 j hx
 ·have h1:=h.1;rw [ξ (by omega),ξ (by omega),<- h.1];rw [ω] at hj;exact h'.2 (j-x.length) (by omega)
section
variable {H : Type} {enc : TypeId × Value -> H} {P : Program} {w : World} {sp : Nat -> Bool} {held : Bool}
theorem zr {n:Nat} (key:∀ (t:TypeId) (cs:List Value) (fuel:Nat) (x:DataW H × List MemPlace),tE P n t=true->DataW.trod enc P w 0 sp held fuel t cs=some x->∃ ds,eG w cs ds/\rK P n t ds) {cs:List Value} {fuel:Nat} :
  ∀ (fl:List Field) (o:Nat),(fl.all λf=>tE P n f.type)= true->bX (fl.map λf=>(f.offset,P.cellsOf f.type)) o cs.length=true ->
   (∀ f ∈ fl,∃ x,DataW.trod enc P w 0 sp held fuel f.type ((cs.drop f.offset).take (P.cellsOf f.type))= some x)->∃ ds,eG w (cs.drop o) ds/\oA P n (fl.map λf=>f.type) ds
 | [],o,_,hc,_=>by simp only [List.map_nil,bX,beq_iff_eq] at hc;subst hc;exact⟨[],by simp [eG],by simp [oA]⟩
 | f :: fl,o,hp,hc,hx=>by
  simp only [μ,Ab] at hp;simp only [ζ,bX,Ab,beq_iff_eq] at hc;obtain⟨x,h1⟩:=hx f (by simp);obtain⟨a,ha,hsa⟩:=key _ _ _ _ hp.1 h1;obtain⟨b,hb,hsb⟩:=zr key fl (o+P.cellsOf f.type) hp.2 hc.2 λg hg=>hx g (by simp [hg]);refine⟨a++b,?_,by simp only [ζ,oA]; exact⟨a,b,rfl,hsa,hsb⟩⟩;rw [hc.1] at ha
  have e:cs.drop o=(cs.drop o).take (P.cellsOf f.type)++ cs.drop (o+P.cellsOf f.type):=by rw [<- List.drop_drop,υ]
  rw [e];exact fO ha hb
theorem YZ {n:Nat} (key:∀ (t:TypeId) (cs:List Value) (fuel:Nat) (x:DataW H × List MemPlace),tE P n t=true->DataW.trod enc P w 0 sp held fuel t cs=some x->∃ ds,eG w cs ds/\rK P n t ds) {cs:List Value} {fuel:Nat} {e:TypeId} (hp:tE P n e=true) :
  ∀ (k o:Nat),cs.length=(o+k)* P.cellsOf e ->
   (∀ i,o<=i->i<o+k->∃ x,DataW.trod enc P w 0 sp held fuel e ((cs.drop (i*P.cellsOf e)).take (P.cellsOf e))= some x)->∃ ds,eG w (cs.drop (o*P.cellsOf e)) ds/\oA P n (List.replicate k e) ds
 | 0,o,hl,_=>⟨[],by rw [List.drop_eq_nil_of_le (by rw [hl]; simp)]; simp [eG],by simp [oA]⟩
 | k+1,o,hl,hx=>by
  obtain⟨x,h1⟩:=hx o (Ag _) (by omega);obtain⟨a,ha,hsa⟩:=key _ _ _ _ hp h1;obtain⟨b,hb,hsb⟩:=YZ key hp k (o+1) (by rw [hl]; congr 1; omega) λi h1 h2=>hx i (by omega) (by omega);refine⟨a++b,?_,by simp only [List.replicate_succ,oA]; exact⟨a,b,rfl,hsa,hsb⟩⟩
  have e1:cs.drop (o*P.cellsOf e)= (cs.drop (o*P.cellsOf e)).take (P.cellsOf e)++ cs.drop ((o+1)* P.cellsOf e):=by rw [Nat.succ_mul,<- List.drop_drop,υ]
  rw [e1];exact fO ha hb
theorem eP : ∀ (n:Nat) (t:TypeId) (cs:List Value) (fuel:Nat) (x:DataW H × List MemPlace),tE P n t=true->DataW.trod enc P w 0 sp held fuel t cs=some x->∃ ds,eG w cs ds/\rK P n t ds
 | 0,t,cs,fuel,x,hp,_=>by simp [tE] at hp
 | n + 1,t,cs,fuel,x,hp,h=>by
  unfold tE at hp;unfold rK
  split at hp
  ·rename_i hu;obtain⟨b,rfl,_⟩:=DataW.trod_bool hu h;exact⟨[.bool b],⟨rfl,λj hj=>by simp at hj; subst hj; exact .bool b⟩,⟨b,rfl⟩⟩
  ·rename_i k hu;obtain⟨i,rfl,_,hw⟩:=DataW.trod_int hu h;refine⟨[.int k i],⟨rfl,λj hj=>?_⟩,⟨i,rfl⟩⟩;simp at hj; subst hj;simp only [Lit.wf,Ab,decide_eq_true_eq] at hw;exact .int hw
  ·rename_i hu;obtain⟨s,rfl,_,hs⟩:=DataW.trod_string hu h;exact⟨[.str s],⟨rfl,λj hj=>by simp at hj; subst hj; exact .str hs⟩,⟨s,rfl⟩⟩
  ·rename_i e hu;simp only [Ab,decide_eq_true_eq] at hp
   rcases Deep.open_slice hu h with ⟨rfl,_⟩ | ⟨a,len,cap,m,fu,Dd,Pl,rfl,_,hl,hm,hmm,_,hx⟩
   ·exact⟨[.sl (P.cellsOf e) []],⟨rfl,λj hj=>by simp at hj; subst hj; exact .uh none 0 _ (λ_=>rfl)⟩,⟨[],rfl,by simp⟩⟩
   ·have hle:len<=m:=by rw [hmm]; split <;> omega
    by_cases h0:len=0
    ·subst h0;exact⟨[.sl (P.cellsOf e) []],⟨rfl,λj hj=>by simp at hj; subst hj; exact .uh (some a) cap _ (λh=>by cases h)⟩,⟨[],rfl,by simp⟩⟩
    ·obtain⟨f,hf⟩:=Deep.choose_lt (α:=List Value × List D) (n:=len) (p:=λi y=>w.cells? 0 (a.add (i*P.cellsOf e)) (P.cellsOf e)= some y.1/\eG w y.1 y.2/\rK P n e y.2) λi hi=>by obtain⟨cs',h1,h2⟩:=hx i (by omega);obtain⟨ds,h3,h4⟩:=eP n e cs' fu _ hp.1 h2;exact⟨(cs',ds),h1,h3,h4⟩
     have hcells:∀ i,i<len->∀ j,j<P.cellsOf e->w.cell? ((a.add (i*P.cellsOf e)).add j)= some ((f i).1.getD j undef):=by intro i hi j hj;obtain⟨_,h2,h3⟩:=World.cells?_some (hf i hi).1;rw [h3 j hj];simp [List.getD,show j<(f i).1.length by omega]
     have hlen:∀ i,i<len->(f i).1.length=P.cellsOf e:=λi hi=>(World.cells?_some (hf i hi).1).2.1
     have hspot:a.spot=none:=by have:=World.cell?_spot (hcells 0 (by omega) 0 hp.2);simpa [Addr.add] using this
     obtain⟨b,off,spot⟩:=a;simp only at hspot;subst hspot
     have hadd:∀ i j,((⟨b,off,none⟩:Addr).add i).add j=⟨b,off+i+j,none⟩:=by
      intro i j;rw [Deep.add_add];unfold Addr.add
      by_cases h:i+j=0
      ·have h1:i=0:=by omega
       have h2:j=0:=by omega
       subst h1; subst h2; rfl
      ·rw [if_neg h]; simp [Nat.add_assoc]
     have xZ:∀ i,i<len->((List.range len).map λi=>(f i).2).getD i []=(f i).2:=by intro i hi;simp [List.getD,hi]
     refine⟨[.sl (P.cellsOf e) ((List.range len).map λi=>(f i).2)],⟨rfl,λj hj=>?_⟩,⟨_,rfl,?_⟩⟩
     ·simp at hj; subst hj;simp only [κ]
      have:=RP.sl (M:=λ_=>False) (w:=w) (b:=b) (off:=off) (cap:=cap) (sz:=P.cellsOf e) (xZ:=(List.range len).map λi=>(f i).2) (λi j=>(f i).1.getD j undef) hp.2 (λh=>h) (by simpa using hl) hm ?_ ?_ ?_
      ·simpa using this
      ·intro x hx';simp only [ε,List.mem_range] at hx';obtain⟨i,hi,rfl⟩:=hx';rw [(hf i hi).2.1.1,hlen i hi]
      ·intro i hi j hj;have hi':i<len:=by simpa using hi
       have:=hcells i hi' j hj;rw [hadd] at this;exact this
      ·intro i hi j hj;have hi':i<len:=by simpa using hi
       rw [xZ i hi'];exact(hf i hi').2.1.2 j (by rw [(hf i hi').2.1.1,hlen i hi']; exact hj)
     ·intro row hrow;simp only [ε,List.mem_range] at hrow;obtain⟨i,hi,rfl⟩:=hrow;exact(hf i hi).2.2
  ·rename_i fs hu;simp only [Ab] at hp;obtain⟨xs,n',_,_,hlen,hsz,hf⟩:=DataW.trod_struct hu h;rw [<- hlen] at hp
   obtain⟨ds,h1,h2⟩:=zr (λt cs fuel x=>eP n t cs fuel x) (fuel:=n') fs.toList 0 hp.1 hp.2 λg hg=>by
    obtain⟨i,hi,rfl⟩:=List.getElem_of_mem hg;have hi':i<fs.size:=by simpa using hi
    have:=hf i fs[i] (by simp [hi']);refine⟨xs[i]'(by omega),?_⟩;simp only [Array.getElem_toList];rw [this];simp [show i<xs.length by omega]
   exact⟨ds,by simpa using h1,h2⟩
  ·rename_i k e hu;simp only [Ab,beq_iff_eq] at hp;obtain⟨xs,m,_,_,hlen,hxs,hf⟩:=DataW.trod_array hu h
   obtain⟨ds,h1,h2⟩:=YZ (λt cs fuel x=>eP n t cs fuel x) (fuel:=m) hp.1 k 0 (by rw [hlen,hp.2]; simp) λi _ hi=>by have:=hf i (by omega);rw [this];simp [show i<xs.length by omega]
   exact⟨ds,by simpa using h1,h2⟩
  ·cases hp
end
section
variable {H : Type} {enc : TypeId × Value -> H} {P : Program} {w : World} {sp : Nat -> Bool} {held : Bool}
theorem uq {r:Reach} {b:Nat} {t:TypeId} {v:Value} {k:Nat} {e:TypeId} (ht:P.underlying t=some (.array k e)) (h:Value.okWide P w r b t v):∃ cs,v = .agg cs/\cs.size=P.cellsOf t:=by simp only [Value.okWide,ht] at h;obtain⟨cs,h1,h2,_⟩:=h;exact⟨cs,h1,h2⟩
theorem S7 {n:Nat} {b:Nat} {t:TypeId} {v:Value} {d:DataW H} {ps:List MemPlace} (hp:tE P n t=true) (hv:Value.okWide P w .any b t v) (h:DataW.Trod enc P w 0 sp held t v d ps):∃ a,RP (λ_=>False) w v a/\cX P n t a:=by
 obtain⟨fuel,h⟩:=h;obtain⟨ds,h1,h2⟩:=eP n t _ fuel _ hp h;unfold cX
 split
 ·rename_i fs hu;obtain⟨cs,rfl,_⟩:=okWide_struct hu hv;refine⟨.agg ds,.agg (by rw [h1.1]; rfl) λj hj=>?_,ds,rfl,h2⟩;have:=h1.2 j hj
  have e:(Value.agg cs).cells.toList.getD j undef=cs.getD j undef:=by simp [Value.cells,List.getD,Array.getD];by_cases hj:j<cs.size <;> simp [hj]
  rw [e] at this;exact this
 ·rename_i k e hu;obtain⟨cs,rfl,_⟩:=uq hu hv;refine⟨.agg ds,.agg (by rw [h1.1]; rfl) λj hj=>?_,ds,rfl,h2⟩;have:=h1.2 j hj
  have e:(Value.agg cs).cells.toList.getD j undef=cs.getD j undef:=by simp [Value.cells,List.getD,Array.getD];by_cases hj:j<cs.size <;> simp [hj]
  rw [e] at this;exact this
 ·rename_i hns hna
  have one:∃ x,ds = [x]:=by
   cases n with
   | zero=>simp [tE] at hp
   | succ n=>
    unfold rK at h2
    split at h2
    ·obtain⟨b,rfl⟩:=h2; exact⟨_,rfl⟩
    ·obtain⟨b,rfl⟩:=h2; exact⟨_,rfl⟩
    ·obtain⟨b,rfl⟩:=h2; exact⟨_,rfl⟩
    ·obtain⟨b,rfl,_⟩:=h2; exact⟨_,rfl⟩
    ·rename_i fs hu; exact absurd hu (hns fs)
    ·rename_i k e hu; exact absurd hu (hna k e)
    ·cases h2
  obtain⟨x,rfl⟩:=one;refine⟨x,?_,h2⟩;have hx:=h1.2 0 (by simp);simp only [κ] at hx;have hlen:=h1.1
  cases v with
  | agg cs=>
   exfalso;unfold Value.okWide at hv
   split at hv
   ·rename_i fs hu; exact absurd hu (hns fs)
   ·rename_i k e hu; exact absurd hu (hna k e)
   ·rename_i h3 h4
    cases n with
    | zero=>simp [tE] at hp
    | succ n=>
     unfold tE at hp;unfold Cell.okWide at hv;split at hp <;> rename_i hu <;> simp [hu,Cell.ok] at hv
     all_goals first | exact absurd hu (hns _) | exact absurd hu (hna _ _) | cases hp
  | _=>simpa [Value.cells] using hx
theorem bd {n:Nat} {b:Nat}:∀ {ts:List TypeId} {vs:List Value} {ds:List (DataW H)} {ps:List MemPlace},(ts.all λt=>tE P n t)= true->(∀ (j:Nat) t v,ts[j]?=some t->vs[j]?=some v->Value.okWide P w .any b t v) ->
  DataW.TrodAll enc P w 0 sp held ts vs ds ps->∃ as,as.length=vs.length/\vs.length=ts.length/\ds.length=ts.length/\(∀ j,j<as.length->RP (λ_=>False) w (vs.getD j undef) (as.getD j .top))/\ vv P n ts as
 | [],vs,ds,ps,_,_,h=>by obtain⟨rfl,rfl,rfl⟩:=trodAll_nil h;exact⟨[],rfl,rfl,rfl,λj hj=>by simp at hj,rfl⟩
 | t :: ts,vs,ds,ps,hp,hv,h=>by
  obtain⟨v,vs',d,ds',p,q,rfl,rfl,rfl,h1,h2⟩:=trodAll_cons h;simp only [μ,Ab] at hp;obtain⟨a,r1,s1⟩:=S7 hp.1 (hv 0 t v rfl rfl) h1;obtain⟨as,l1,l2,l3,r2,s2⟩:=bd hp.2 (λj t v h1 h2=>hv (j+1) t v h1 h2) h2;refine⟨a :: as,by simp [l1],by simp [l2],by simp [l3],λj hj=>?_,a,as,rfl,s1,s2⟩
  cases j with
  | zero=>exact r1
  | succ j=>exact r2 j (by simpa using hj)
theorem kJ (hl:laidOutB P=true) {W W':World} (hb:Below W.heap.size W W'):∀ {ts:List TypeId} {vs:List Value} {ds:List (DataW H)} {ps:List MemPlace},(ts.all λt=>P.readableRec t&&decide (t<P.types.size))= true ->
  (∀ x ∈ ps,x.block<W.heap.size)->DataW.TrodAll enc P W 0 (λ_=>true) true ts vs ds ps->DataW.TrodAll enc P W' 0 (λb=>decide (b<W.heap.size)) true ts vs ds ps
 | [],vs,ds,ps,_,_,h=>by obtain⟨rfl,rfl,rfl⟩:=trodAll_nil h;exact rfl
 | t :: ts,vs,ds,ps,hr,hlt,h=>by obtain⟨v,vs',d,ds',p,q,rfl,rfl,rfl,h1,h2⟩:=trodAll_cons h;simp only [μ,Ab,decide_eq_true_eq] at hr;exact⟨p,q,Below.trod hl hr.1.1 hr.1.2 h1 hb λx hx=>hlt x (by simp [hx]),kJ hl hb hr.2 (λx hx=>hlt x (by simp [hx])) h2,rfl⟩
theorem aV {W:World}:∀ {ts:List TypeId} {vs:List Value} {ds:List (DataW H)} {ps:List MemPlace},DataW.TrodAll enc P W 0 sp held ts vs ds ps->∀ x ∈ ps,x.block<W.heap.size
 | [],vs,ds,ps,h=>by obtain⟨rfl,rfl,rfl⟩:=trodAll_nil h;intro x hx; simp at hx
 | t :: ts,vs,ds,ps,h=>by
  obtain⟨v,vs',d,ds',p,q,rfl,rfl,rfl,⟨m,hm⟩,h2⟩:=trodAll_cons h;intro x hx
  rcases List.mem_append.1 hx with hx | hx
  ·exact DataW.trod_lt m _ _ _ hm x hx
  ·exact aV h2 x hx
end
section
variable [vU]
theorem xK.calls {P:Program} {g:FuncId} {args:List D} {b:Bool} (h:xK P g args (.bool b)) {w:World} {vals:Array Value} (ht:dS w λ_=>False) (hl:vals.size=args.length)
  (hv:∀ j,j<args.length->RP (λ_=>False) w (vals.getD j undef) (args.getD j .top)):Calls P g vals w λe w'=>e = .returned (.bool b)/\ Below w.heap.size w w':=by
 have hM:∀ b,yR (λ_=>False) (λ_=>0) tQ b->False:=by
  rintro b (h | ⟨k,o,hk,_⟩)
  ·exact h
  ·cases hk
 have hS:yC (λ_=>False) w tQ (λ_=>0):=⟨λb hb=>hb.elim,(λk o hk=>by cases hk),(λk k' o o' hk=>by cases hk),(λk o hk=>by cases hk),ht.yY (Ag _) (λ_ _ _=>rfl) λb _ hb=>hM b hb⟩;refine(h.run _ w _ vals hS hl λj hj=>.pure ((hv j hj).yY (λ_ _ _=>rfl) λb _ hb=>hM b hb)).mono λe w' hh=>?_;obtain⟨v,ι',rfl,k1,k2,k3,k4,k5,k6⟩:=hh;have K0:Kept w w' λ_=>False:=k1.mono λb _ ⟨k,o,hk,_⟩=>by cases hk
 rw [k6.qK];exact⟨rfl,K0.below⟩
end
theorem qc (a:Array Value) (j:Nat) (d:Value):a.getD j d=a.toList.getD j d:=by simp [List.getD,Array.getD];by_cases h:j<a.size <;> simp [h]
theorem Z4 {H:Type} {enc:TypeId × Value->H} {P:Program} {f:Func} {s:ChangeSpec} {W W':World} {args:Array Value} {ds gs:List (DataW H)} {before:List MemPlace} {tb:TypeId}
  (hl:laidOutB P=true) (hr:(f.params.toList.all λt=>P.readableRec t&&decide (t<P.types.size))= true) (hb:f.resultTypes = #[tb]) (htb:P.underlying tb=some .bool) (hsv:s.vars = [])
  (hW:DataW.Whole enc P f.params.toList s.vars false W args.toList ds gs before) (hs:s.fn H (ds++gs)= { results:=[.lit (.bool true)],args:=ds }) (bel:Below W.heap.size W W') :
  s.post enc P f false true false false W args (.bool true) W':=by
 have hW':=hW;obtain⟨p,q,hA,hV,rfl,hfz,hnd⟩:=hW;rw [hsv] at hV;obtain⟨rfl,rfl⟩:=trodVars_none hV;have hA2:=kJ hl bel hr (aV hA) hA
 refine⟨_,_,_,[],p,[],hW',?_,?_,?_,bel.frame _,λh=>by cases h⟩
 ·rw [hs,hb];exact trodAll_mk1 (shut_bool htb _)
 ·rw [hs];exact hA2
 ·rw [hs,hsv];rfl
abbrev dO (i:Nat) (k:DK):xN:=⟨some i,none,k⟩
abbrev dF (i j:Nat) (k:DK):xN:=⟨some i,some (j,false),k⟩
abbrev dT (i j:Nat) (k:DK):xN:=⟨some i,some (j,true),k⟩
abbrev wQ.i (n:Int):wQ:=.c (.int .i64 n)
abbrev dM (i j:Nat):xN:=⟨some i,none,.mv (.t j)⟩
abbrev dL (i j:Nat):xN:=⟨some i,none,.load 1 false (.t j)⟩
abbrev dG (i n j:Nat):xN:=⟨some i,none,.XT n (.t j)⟩
abbrev DC.r (l:List xN) (c:DC):DC:=.seq (.wN [] l) c
abbrev DK.cf (f:FuncId) (l:List wQ):DK:=.call (.c (.fn f [])) l
abbrev bT (i:Nat) (o:BinOp) (a b:Nat):xN:=⟨some i,none,.bin o (.t a) (.t b)⟩
abbrev bI (i:Nat) (o:BinOp) (a:Nat) (n:Int):xN:=⟨some i,none,.bin o (.t a) (.i n)⟩
abbrev dI (i n a b:Nat):xN:=⟨some i,none,.idx n (.t a) (.t b)⟩
abbrev dN (i a:Nat):xN:=⟨some i,none,.len (.t a)⟩
abbrev fG (i j n a:Nat):xN:=⟨some i,some (j,false),.XT n (.t a)⟩
abbrev fL (i j a:Nat):xN:=⟨some i,some (j,false),.load 1 false (.t a)⟩
abbrev fN (i j a:Nat):xN:=⟨some i,some (j,false),.len (.t a)⟩
abbrev fM (i j a:Nat):xN:=⟨some i,some (j,false),.mv (.t a)⟩
abbrev dP (i a b:Nat):xN:=⟨some i,none,.pick (.t a) (.c (.bool true)) (.t b)⟩
abbrev dE (i a n:Nat):xN:=⟨some i,none,.tx (.t a) n⟩
abbrev sQ (n a b:Nat):xN:=⟨none,none,.store n (.t a) (.t b)⟩
abbrev dV (i:Nat) (b:Bool):xN:=⟨some i,none,.mv (.c (.bool b))⟩
abbrev dJ (i:Nat) (n:Int):xN:=⟨some i,none,.mv (.i n)⟩
abbrev dA (i n a:Nat):xN:=⟨some i,none,.load n true (.t a)⟩
abbrev DC.w (a b:Nat) (c:DC):DC:=.seq (.cond (.t a) .skip (.exit b)) c
abbrev DC.g (l:List xN):DC:=.wN [] l
abbrev dX (i a:Nat):xN:=⟨some i,none,.box (.t a)⟩
abbrev tL (i j a:Nat):xN:=⟨some i,some (j,true),.load 1 false (.t a)⟩
abbrev tG (i j n a:Nat):xN:=⟨some i,some (j,true),.XT n (.t a)⟩
abbrev tM (i j a:Nat):xN:=⟨some i,some (j,true),.mv (.t a)⟩
abbrev dK (i a:Nat):xN:=⟨some i,none,.XY (.t a)⟩
abbrev dH (i a:Nat):xN:=⟨some i,none,.nt (.t a)⟩
abbrev dQ (i a b:Nat):xN:=⟨some i,none,.pick (.t a) (.t b) (.c (.bool false))⟩
abbrev dZ (i:Nat):xN:=⟨some i,none,.mv (.c .xU)⟩
abbrev dB (i f a:Nat):xN:=⟨some i,none,.cf f [.t a]⟩
abbrev dD (i f a b:Nat):xN:=⟨some i,none,.cf f [.t a,.t b]⟩
abbrev fB (i j:Nat) (o:BinOp) (a:Nat) (n:Int):xN:=⟨some i,some (j,false),.bin o (.t a) (.i n)⟩
abbrev CT :=Nat × DC × List oV
abbrev DC.x (a b:Nat):DC:=.cond (.t a) .skip (.exit b)
abbrev DC.n (a b c:Nat):DC:=.g [dM a b,bI c .add a 1,dM b c]
abbrev DC.q (a:Nat) (c d:DC):DC:=.cond (.t a) c d
abbrev DC.u (i:Nat) (n:Int):DC:=.r [dJ i n] .ret
abbrev DC.v (i:Nat) (b:Bool):DC:=.r [dV i b] .ret
abbrev DC.l (n:Nat) (c:DC):DC:=.block n (.loop c)
abbrev wQ.u (n:Int):wQ:=.c (.int .u64 n)
abbrev iZ : D:=.int .i64 0
def zS :=γ @D.int.injEq (γ @D.bool.injEq (γ @D.sl.injEq (γ @and_true (γ @true_and @and_self))))
def zW.{u} :=γ @ne_eq.{u} (γ @forall_const.{u} (γ @implies_true.{u} @forall_eq.{u}))
section
variable [vU]
def zU :=γ @cz.eq_1 (γ @WR.eq_1 (γ @Q3.eq_1 (γ @qT.eq_1 (γ @qT.eq_2 (γ @tO.eq_1 (γ @tO.eq_2 (γ @aC.eq_1 (γ @aC.eq_2 (γ @aC.eq_3 (γ @aC.eq_4 (γ @aC.eq_5 (γ @aC.eq_6 (γ @aC.eq_7 (γ @aC.eq_8 (γ @aC.eq_9 (γ @aC.eq_10 (γ @aC.eq_11 (γ @aC.eq_12 (γ @aC.eq_13 (γ @aC.eq_14 (γ @aC.eq_15 (γ @aC.eq_16 (γ @vO.eq_1 (γ @vO.eq_2 (γ @vO.eq_3 (γ @vO.eq_4 (γ @vO.eq_5 (γ @vO.eq_6 (γ @vO.eq_7 (γ @vO.eq_8 (γ @vO.eq_9 (γ @vO.eq_10 (γ @vO.eq_11 (γ @vO.eq_12 (γ @vO.eq_13 (γ @vO.eq_14 (γ @vO.eq_15 (γ @vO.eq_16 (γ @pX.eq_1 (γ @pX.eq_2 (γ @pX.eq_3 (γ @pX.eq_4 (γ @pX.eq_5 (γ @pX.eq_6 (γ @pX.eq_7 (γ @pX.eq_8 (γ @pW.eq_1 (γ @pW.eq_2 (γ @pW.eq_3 (γ @pW.eq_4 (γ @pW.eq_5 (γ @pW.eq_6 (γ @pW.eq_7 (γ @pW.eq_8 (γ @pW.eq_9 (γ @pW.eq_10 (γ @pW.eq_11 (γ @pW.eq_12 (γ @pW.eq_13 (γ @pW.eq_14 (γ @pW.eq_15 (γ @pW.eq_16 (γ @pW.eq_17 (γ @pW.eq_18 (γ @pW.eq_19 (γ @pW.eq_20 (γ @pW.eq_21 (γ @pW.eq_22 (γ @pW.eq_23 (γ @pW.eq_24 (γ @pW.eq_25 (γ @pW.eq_26 (γ @pW.eq_27 (γ @pW.eq_28 (γ @pW.eq_29 (γ @pW.eq_30 (γ @TO.eq_1 (γ @TP.eq_1 (γ @MN.eq_1 (γ @fV.eq_1 @du.eq_1))))))))))))))))))))))))))))))))))))))))))))))))))))))))))))))))))))))))))))))))
def zQ :=γ @rN.eq_1 (γ @rN.eq_2 (γ @rN.eq_3 (γ @vw.eq_1 (γ @vw.eq_2 (γ @vw.eq_3 (γ @vw.eq_4 (γ @vw.eq_5 (γ @vw.eq_6 (γ @vw.eq_7 (γ @vw.eq_8 (γ @vw.eq_9 (γ @vw.eq_10 (γ @vw.eq_11 (γ @vw.eq_12 (γ @vw.eq_13 (γ @vw.eq_14 (γ @vw.eq_15 (γ @vw.eq_16 (γ @vw.eq_17 (γ @vw.eq_18 (γ @uk.eq_1 (γ @uk.eq_2 (γ @sw.eq_1 (γ @sw.eq_2 (γ @St.get.eq_1 (γ @St.look.eq_1 (γ @St.look.eq_2 (γ @Fr.get.eq_1 @Fr.get.eq_2))))))))))))))))))))))))))))
def zV :=γ @tQ.eq_1 (γ @oS.eq_1 (γ @oS.eq_2 (γ @sI.eq_1 (γ @sI.eq_2 (γ @sI.eq_3 (γ @sI.eq_4 (γ @sI.eq_5 (γ @sI.eq_6 (γ @sI.eq_7 (γ @sI.eq_8 (γ @sI.eq_9 (γ @sI.eq_10 (γ @sI.eq_11 (γ @sI.eq_12 (γ @sI.eq_13 (γ @sI.eq_14 (γ @sI.eq_15 (γ @sI.eq_16 (γ @sI.eq_17 (γ @rn.eq_1 (γ @pS.eq_1 (γ @pS.eq_2 (γ @pS.eq_3 (γ @pS.eq_4 (γ @pS.eq_5 (γ @pS.eq_6 (γ @rM.eq_1 (γ @rM.eq_2 (γ @WU.eq_1 (γ @zX.eq_1 (γ @pI.eq_1 (γ @pI.eq_2 (γ @O6.eq_1 (γ @kO.eq_1 (γ @kO.eq_2 (γ @fR.eq_1 (γ @fR.eq_2 (γ @List.replicate.eq_1.{0} (γ @List.replicate.eq_2.{0} (γ @rowsOf.eq_1 (γ @rowsOf.eq_2 (γ @rowsOf.eq_3 (γ @rowsOf.eq_4 @rowsOf.eq_5)))))))))))))))))))))))))))))))))))))))))))
end
theorem sd {p q:Prop} (b:q) (a:p:=by first | omega | exact v7 _ | exact Int.natCast_nonneg _ | rfl | exact r9 _ _ | exact T7 _ | (intro _ h; cases h; done)):p/\q:=⟨a,b⟩
theorem eU.dv {n0 n:Nat} {σ:St} {d d':D} (hn:n0<=n:=by simp) (h:vw σ ⟨n,[]⟩ (λk=>k) d d':=by simp [vw]):eU n0 σ d ⟨n,[]⟩ d':=.drop hn h
section
variable [vU]
theorem cr {P:Program} {g:FuncId} {args:List D} {d:D} {s:St} (hc:xK P g args d) (hp:D.xJ args=true:=by simp [D.xJ,D.xH]):xW P g args s d s:=xW.vZ hc hp
theorem cq {P:Program} {g:FuncId} {args:List D} {d:D} {s:St} (hc:xK P g args d) (hp:D.xJ args=true:=by rfl):xW P g args s d s:=xW.vZ hc hp
end
end Go.Pd
