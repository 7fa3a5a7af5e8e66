/- Part X6. -/
import Derived.Test.YtndfaefmmcoapaaGreatUfX5
import Derived.Carry
import Derived.ChangeArms
import Derived.Deep.Slices
import Derived.ProofKit
import Derived.OpenShut
set_option linter.unusedSectionVars false
set_option linter.unusedVariables false
set_option linter.unusedSimpArgs false
set_option linter.defProp false
open And renaming intro->γ
open List renaming append_nil->δ,mem_map->ε,map_cons->ζ,mem_cons->η,nil_append->θ,mem_singleton->κ,length_nil->μ,getD_cons_zero->ν,all_cons->ξ,getElem_mem->ο,cons_append->π,getElem?_append_right->τ,getElem?_append_left->υ,take_append_drop->χ,getElem?_eq_none->ω,getElem_of_mem->Aa,length_append->Ab,length_cons->Ac
open Nat renaming le_refl->Ad,zero_add->Ae,shiftRight_eq_div_pow->Af,pow_lt_pow_right->Ag,lt_of_lt_of_le->Ah
open BitVec renaming eq_of_toNat_eq->Ai,ofInt_natCast->Aj,toNat_ushiftRight->Ak,toNat_ofNat->Al,toNat_ofInt->Am,ofInt_mul->An,ofInt_add->Ao
open Bool renaming and_eq_true->Ap
open Int renaming natCast_nonneg->Aq,toNat_natCast->Ar
namespace Go.Pd
open Go
def ui (s:BitVec 64):Int:=s.toNat
theorem V6 (s:BitVec 64):0<=ui s:=by unfold ui; omega
theorem ct {s t:BitVec 64}:ui s=ui t ↔ s=t:=by
 unfold ui
 constructor
 ·intro h; exact Ai (by omega)
 ·rintro rfl; rfl
theorem K9 {n:Int} (h0:0<=n) (h1:n<18446744073709551616):ui (BitVec.ofInt 64 n)= n:=by unfold ui;rw [Am];have:n % 2 ^ 64=n:=Int.emod_eq_of_lt h0 (by omega);omega
theorem uK (s:BitVec 64):BitVec.ofInt 64 (ui s)= s:=by unfold ui;rw [Aj];simp
theorem iP (s:BitVec 64):IntKind.u64.wrap (s.toNat:Int)= ui s:=by unfold ui;have:=s.isLt;exact wrap_u64 ⟨by omega,by omega⟩
theorem MC (s t:BitVec 64):tS .and .u64 (ui s) (ui t)= ui (s &&& t):=by show IntKind.u64.wrap ((BitVec.ofInt 64 (ui s)&&& BitVec.ofInt 64 (ui t)).toNat:Int)= _;rw [uK,uK,iP]
theorem KA (s t:BitVec 64):tS .or .u64 (ui s) (ui t)= ui (s ||| t):=by show IntKind.u64.wrap ((BitVec.ofInt 64 (ui s) ||| BitVec.ofInt 64 (ui t)).toNat:Int)= _;rw [uK,uK,iP]
theorem Sv (s t:BitVec 64):tS .xor .u64 (ui s) (ui t)= ui (s ^^^ t):=by show IntKind.u64.wrap ((BitVec.ofInt 64 (ui s)^^^ BitVec.ofInt 64 (ui t)).toNat:Int)= _;rw [uK,uK,iP]
theorem V5 (s t:BitVec 64):tS .andNot .u64 (ui s) (ui t)= ui (s &&& ~~~t):=by show IntKind.u64.wrap ((BitVec.ofInt 64 (ui s)&&& ~~~BitVec.ofInt 64 (ui t)).toNat:Int)= _;rw [uK,uK,iP]
theorem aQ (n:Int):IntKind.u64.wrap n=ui (BitVec.ofInt 64 n):=by unfold ui;rw [Am];simp [IntKind.wrap,IntKind.signed,IntKind.bits];omega
theorem MB (s t:BitVec 64):IntKind.u64.wrap (ui s+ui t)= ui (s+t):=by rw [aQ,Ao,uK,uK]
theorem MJ (s t:BitVec 64):IntKind.u64.wrap (ui s-ui t)= ui (s-t):=by rw [aQ];congr 1;rw [Int.sub_eq_add_neg,Ao,BitVec.ofInt_neg,uK,uK,BitVec.sub_eq_add_neg]
theorem ME (s t:BitVec 64):IntKind.u64.wrap (ui s*ui t)= ui (s*t):=by rw [aQ,An,uK,uK]
theorem MG (s:BitVec 64) (k:Int):ua .u64 (ui s) k=ui (s <<< k.toNat):=by
 unfold ua;rw [aQ];congr 1;rw [An,uK];show s*BitVec.ofInt 64 (2 ^ min k.toNat 64)= _;apply Ai;rw [BitVec.toNat_mul,BitVec.toNat_shiftLeft,Nat.shiftLeft_eq]
 have e:(BitVec.ofInt 64 (2 ^ min k.toNat 64)).toNat=2 ^ min k.toNat 64 % 2 ^ 64:=by
  have:((2:Int)^ min k.toNat 64)= ((2 ^ min k.toNat 64:Nat):Int):=by norm_cast
  rw [this,Aj,Al]
 rw [e,Nat.mul_mod_mod]
 rcases Nat.lt_or_ge k.toNat 64 with h | h
 ·rw [Nat.min_eq_left (by omega)]
 ·rw [Nat.min_eq_right h];obtain⟨m,hm⟩:=Nat.exists_eq_add_of_le h;rw [hm,Nat.pow_add,<- Nat.mul_assoc,Nat.mul_right_comm];simp
theorem MH (s:BitVec 64) (k:Int):mg .u64 (ui s) k=ui (s >>> k.toNat):=by
 unfold mg ui;rw [Ak,Af];show (s.toNat:Int).fdiv (2 ^ min k.toNat 64)= _;have:((2:Int)^ min k.toNat 64)= ((2 ^ min k.toNat 64:Nat):Int):=by norm_cast
 rw [this,Int.fdiv_eq_ediv_of_nonneg _ (Aq _),<- Int.natCast_ediv];congr 1
 rcases Nat.lt_or_ge k.toNat 64 with h | h
 ·rw [Nat.min_eq_left (by omega)]
 ·rw [Nat.min_eq_right h];have h1:=s.isLt;rw [Nat.div_eq_of_lt h1,Nat.div_eq_of_lt (Ah h1 (Nat.pow_le_pow_right (by omega) h))]
theorem MF (s t:BitVec 64):(ui s).tmod (ui t)= ui (s % t):=by unfold ui;rw [BitVec.toNat_umod,Int.tmod_eq_emod_of_nonneg (by omega),Int.natCast_emod]
theorem Su (s t:BitVec 64):(ui s==ui t)= (s==t):=by
 by_cases h:s=t
 ·subst h; simp
 ·have:ui s≠ui t:=λe=>h (ct.1 e);rw [beq_eq_false_iff_ne.2 this,beq_eq_false_iff_ne.2 h]
theorem MD (s t:BitVec 64):(ui s != ui t)= (s != t):=by simp only [bne,Su]
theorem PP : D.int .u64 0=D.int .u64 (ui 0#64):=rfl
theorem PQ : D.int .u64 1=D.int .u64 (ui 1#64):=rfl
theorem JQ : D.int .u64 2=D.int .u64 (ui 2#64):=rfl
theorem JR : D.int .u64 18446744073709551615=D.int .u64 (ui 18446744073709551615#64):=rfl
theorem MA : ui 2#64≠0:=by decide
def us (l:List (BitVec 64)):List (List D):=l.map λs=>[.int .u64 (ui s)]
def VT (l:List (BitVec 64)):D:=.sl 1 (us l)
theorem xH (l:List (BitVec 64)):(us l).length=l.length:=by simp [us]
theorem cu : us [] = []:=rfl
theorem br (s:BitVec 64) (l:List (BitVec 64)):us (s :: l)= [.int .u64 (ui s)] :: us l:=rfl
theorem vL (l:List (BitVec 64)) {i:Nat} (h:i<l.length):(us l).getD i [] = [.int .u64 (ui (l.getD i 0))]:=by simp [us,List.getD,h]
theorem oS (l:List (BitVec 64)):∀ e ∈ us l,D.xP e=true:=by intro e he;simp only [us,ε] at he;obtain⟨n,_,rfl⟩:=he;rfl
theorem YA (l:List (BitVec 64)):∀ e ∈ us l,vK e=true:=by intro e he;simp only [us,ε] at he;obtain⟨n,_,rfl⟩:=he;rfl
theorem WV (l:List (BitVec 64)) (n:Nat):(us l).take n=us (l.take n):=by simp [us,List.map_take]
theorem bt (l:List (BitVec 64)) (s:BitVec 64):us l ++ [[.int .u64 (ui s)]]=us (l ++ [s]):=by simp [us]
theorem jC (l:List (BitVec 64)) (i:Nat) (s:BitVec 64):(us l).set i [.int .u64 (ui s)]=us (l.set i s):=by simp [us,List.map_set]
theorem xy (n:Nat) (s:BitVec 64):List.replicate n [D.int .u64 (ui s)]=us (List.replicate n s):=by simp [us]
theorem N7 : ∀ {xV:List (List D)},(∀ e ∈ xV,∃ n:Int,e = [.int .u64 n])->D.WX xV->∃ l,xV=us l
 | [],_,_=>⟨[],rfl⟩
 | e :: r,h,hf=>by obtain⟨n,rfl⟩:=h e (by simp);obtain⟨l,rfl⟩:=N7 (λe he=>h e (by simp [he])) hf.2;have h1:=hf.1;simp only [D.rJ,D.fact,and_true] at h1;obtain⟨h1,h2⟩:=h1;refine⟨BitVec.ofInt 64 n :: l,?_⟩;have:ui (BitVec.ofInt 64 n)= n:=K9 (by simpa [IntKind.min,IntKind.signed] using h1) (by have:IntKind.u64.max=18446744073709551615:=rfl; omega);simp [us,this]
theorem Ub (d:D):pT false [d]=d:=rfl
theorem Ua (cs:List D):pT true cs = .agg cs:=rfl
def xA (key sz:Nat):List (List D)->D
 | []=>.xJ
 | e :: r=>.yD key sz (e :: r).length
def yV (key sz:Nat):List (List D)->List (Nat × Ob)
 | []=>[]
 | e :: r=>[(key,⟨sz,e :: r⟩)]
end Go.Pd
namespace Go.Pd
open Go
variable [uC]
def xR (f:Fr):Fr->Prop
 | []=>True
 | (t,d) :: r=>f.get t=d/\xR f r
omit [uC] in
theorem jc {f:Fr}:∀ {f':Fr},xR f f'->∀ t,f'.get t = .top\/f'.get t=f.get t
 | [],_,t=>.inl rfl
 | (s,d) :: r,h,t=>by
  simp only [Fr.get]
  split
  ·rename_i e; subst e; exact .inr h.1.symm
  ·exact jc h.2 t
theorem xT.same {C:Cx} {f f':Fr} {σ:St} (h:xR f f'):xT C f σ f' σ:=xT.frame (jc h)
end Go.Pd
namespace Go.Pd
open Go
def rr (ll:List (List (BitVec 64))):List (List D):=ll.map λl=>[VT l]
def JU (ll:List (List (BitVec 64))):D:=.sl 1 (rr ll)
theorem wO (l:List (List (BitVec 64))):(rr l).length=l.length:=by simp [rr]
theorem kY (l:List (List (BitVec 64))) {i:Nat} (h:i<l.length):(rr l).getD i [] = [.sl 1 (us (l.getD i []))]:=by simp [rr,VT,List.getD,h]
theorem Ot (l:List (List (BitVec 64))) (n:Nat):(rr l).take n=rr (l.take n):=by simp [rr,List.map_take]
theorem bj (l:List (List (BitVec 64))):∀ e ∈ rr l,D.xP e=true:=by intro e he;simp only [rr,ε] at he;obtain⟨n,_,rfl⟩:=he;simp [D.xP,D.xD,VT]
end Go.Pd
namespace Go.Pd
open Go
theorem oK.same {n0:Nat} {σ:St} {d:D}:oK n0 σ d σ d:=.inl ⟨rfl,rfl⟩
theorem oK.drop {n0 n:Nat} {σ:St} {d d':D} (hn:n0<=n) (h:vw σ ⟨n,[]⟩ (λk=>k) d d'):oK n0 σ d ⟨n,[]⟩ d':= .inr ⟨λk=>k,hn,λ_ _=>rfl,h,by simp [stays],by simp [rS]⟩
end Go.Pd
namespace Go.Pd
open Go
universe u
variable [uC]
def FS (σ:St) (K:D->St->Prop) (d:D):Prop:=K d σ
def Ma (f:Fr) (dst:Option Nat) (K:Fr->St->Prop) (d:D) (σ:St):Prop:=K (f.put dst d) σ
def Mb (f:Fr) (dst:Option Nat) (K:Fr->Prop) (d:D):Prop:=K (f.put dst d)
def gX (Q:Exit->Fr->St->Prop) (f:Fr) (σ:St):Prop:=Q .normal f σ
def Ky (d:D) (want:Bool) (yes no:Prop):Prop:=
 match d with
 | .bool b=>if b=want then yes else no
 | .sS=>no
 | _=>False
theorem QA (b want:Bool) (yes no:Prop):Ky (.bool b) want yes no=if b=want then yes else no:=rfl
theorem Nn (want:Bool) (yes no:Prop):Ky .sS want yes no=no:=rfl
@[congr] theorem Kt {d d' : D} {want : Bool} {yes no : Prop} (h : d = d') : Ky d want yes no = Ky d' want yes no := by rw [h]
def gd (g:Option (Nat × Bool)) (f:Fr) (yes no:Prop):Prop:=
 match g with
 | none=>yes
 | some (j,want)=>Ky (f.get j) want yes no
theorem No (f:Fr) (yes no:Prop):gd none f yes no=yes:=rfl
theorem Np (j:Nat) (want:Bool) (f:Fr) (yes no:Prop):gd (some (j,want)) f yes no=Ky (f.get j) want yes no:=rfl
theorem My (o:xB) (f:Fr) (yes no:Prop):yG o f yes no=gd o.guard f yes no:=by
 unfold yG gd
 split
 ·rename_i h; rw [h]
 ·rename_i h; rw [h]; rfl
def xk (q:Bool) (σ:St) (sz bytes:Nat) (x:D) (y:Option (List (List D))) (K:D->St->Prop):Prop:=
 match y with
 | none=>False
 | some rows=>(∀ r ∈ rows,vK r=true)/\ match x with
  | .xJ=>rows.length*bytes<=140737488355328/\rows.length<=8000000000000/\(rows = []->K .xJ σ)/\ (rows ≠ []->K (.yD σ.nx sz rows.length) (σ.new ⟨sz,rows⟩))
  | .yD key sz' n=>match σ.get key with
   | some ob=>sz=sz'/\ob.sz=sz/\n<=ob.xV.length/\(n+rows.length)* bytes<=140737488355328/\n+rows.length<=8000000000000 /\
    K (.yD σ.nx sz (n+rows.length)) ((σ.erase key).new ⟨sz,ob.xV.take n++rows⟩)
   | none=>False
  | .sub key sz' lo n=>match σ.get key with
   | some ob=>q=true/\sz=sz'/\ob.sz=sz/\lo+n<=ob.xV.length/\(n+rows.length)* bytes<=140737488355328/\n+rows.length<=8000000000000 /\
    ∀ pre:List (List D),(pre = []\/pre=ob.xV.take lo)->K (.sub σ.nx sz pre.length (n+rows.length)) ((σ.erase key).new ⟨sz,pre++((ob.xV.drop lo).take n++rows)⟩)
   | none=>False
  | _=>False
def TQ (σ:St) (n:Nat) (a:D) (x:Option (List D)) (K:D->St->Prop):Prop:=
 match a,x with
 | .ref key sz i off,some ds=>match σ.get key with
  | some ob=>ob.sz=sz/\i<ob.xV.length/\ds.length=n/\off+n<=sz/\vK ds=true/\K .sS (σ.set key ⟨sz,ob.xV.set i (kP (ob.xV.getD i []) off ds)⟩)
  | none=>False
 | _,_=>False
def lu (x:D) (K:D->Prop):Prop:=
 match x with
 | .sl _ xV=>K (.int .i64 xV.length)
 | .yD _ _ n=>K (.int .i64 n)
 | .sub _ _ _ n=>K (.int .i64 n)
 | .xJ=>K (.int .i64 0)
 | .emp=>K (.int .i64 0)
 | _=>False
def df (sz:Nat) (x i:D) (K:D->Prop):Prop:=
 match x,i with
 | .sl sz' xV,.int _ n=>sz=sz'/\0<=n/\n<xV.length/\K (.ptr (xV.getD n.toNat []))
 | .yD key sz' len,.int _ n=>sz=sz'/\0<=n/\n<len/\K (.ref key sz n.toNat 0)
 | .sub key sz' lo len,.int _ n=>sz=sz'/\0<=n/\n<len/\K (.ref key sz (lo+n.toNat) 0)
 | _,_=>False
def mW (neg:Bool) (x y:D) (K:D->Prop):Prop:=
 match x,y with
 | .xJ,.xJ=>K (.bool (!neg))
 | .yD ..,.xJ | .xJ,.yD ..=>K (.bool neg)
 | .emp,.xJ | .xJ,.emp=>K (.bool neg)
 | .sl _ (_ :: _),.xJ=>K (.bool neg)
 | _,_=>False
def jq (σ:St) (n:Nat) (ag:Bool) (x:D) (K:D->Prop):Prop:=
 match x with
 | .ref key sz i off=>match σ.get key with
  | some o=>o.sz=sz/\i<o.xV.length/\off+n<=sz/\(ag=true\/n=1)/\ K (pT ag (((o.xV.getD i []).drop off).take n))
  | none=>False
 | .ptr cs=>n<=cs.length/\(ag=true\/n=1)/\ K (pT ag (cs.take n))
 | _=>False
def VP (x:D) (K:D->Prop):Prop:=
 match x with
 | .ref key sz i off=>K (.ref key sz i off)
 | .ptr cs=>K (.ptr cs)
 | .fn f cs=>K (.fn f cs)
 | _=>False
@[congr] theorem LB {x x' : D} {K : D -> Prop} (h : x = x') : VP x K = VP x' K := by rw [h]
theorem Qh {key sz i off:Nat} {K:D->Prop}:VP (.ref key sz i off) K=K (.ref key sz i off):=rfl
theorem Qg {cs:List D} {K:D->Prop}:VP (.ptr cs) K=K (.ptr cs):=rfl
theorem OH {f:FuncId} {cs:List D} {K:D->Prop}:VP (.fn f cs) K=K (.fn f cs):=rfl
def js (σ:St) (zero:D) (ok:Bool) (m k:D) (K:D->Prop):Prop:=
 match m,k with
 | .yK key,.int kk x=>match σ.get key with
  | some o=>o.sz=0/\gY kk o.xV/\K (pD ok zero (oI x o.xV 0))
  | none=>False
 | .qW,.int _ _=>K (pD ok zero none)
 | _,_=>False
def o6 (σ:St) (m k x:D) (K:D->St->Prop):Prop:=
 match m,k with
 | .yK key,.int kk y=>match σ.get key with
  | some o=>o.sz=0/\gY kk o.xV/\K .sS (σ.set key ⟨0,tm kk o.xV y x⟩)
  | none=>False
 | _,_=>False
def gI (σ:St) (n:Nat) (zero:D) (ok:Bool) (m k:D) (K:D->Prop):Prop:=
 match m,k with
 | .yK key,.agg cs=>match σ.get key with
  | some o=>o.sz=0/\∃ (x:List Int) (l:List (List Int × D)),(cs=x.map (D.int .i64)/\ o.xV=sF l/\x.length=n/\∀ p ∈ l,p.1.length=n)/\ K (pD ok zero (mU x l 0))
  | none=>False
 | _,_=>False
def jA (σ:St) (n:Nat) (m k x:D) (K:D->St->Prop):Prop:=
 match m,k with
 | .yK key,.agg cs=>match σ.get key with
  | some o=>o.sz=0/\∃ (y:List Int) (l:List (List Int × D)),(cs=y.map (D.int .i64)/\ o.xV=sF l/\(y.length=n/\∀ p ∈ l,p.1.length=n))/\ K .sS (σ.set key ⟨0,sF (bA y x l)⟩)
  | none=>False
 | _,_=>False
def T8 (σ:St) (zero m k:D) (K:D->St->Prop):Prop:=
 match m,k with
 | .yK key,.int kk y=>match σ.get key with
  | some o=>o.sz=0/\gY kk o.xV/\o.xV.length<=1000000000/\(match oI y o.xV 0 with
   | some (i,d)=>K (.wE [d,.int .i64 i]) (σ.set key ⟨0,o.xV⟩)
   | none=>K (.wE [zero,.int .i64 o.xV.length]) (σ.set key ⟨0,o.xV ++ [[.int kk y,zero]]⟩))
  | none=>False
 | _,_=>False
def T5 (σ:St) (m s x:D) (K:D->St->Prop):Prop:=
 match m,s with
 | .yK key,.int _ i=>match σ.get key with
  | some o=>o.sz=0/\0<=i/\i<o.xV.length/\(∃ kk y d,o.xV.getD i.toNat [] = [.int kk y,d]/\K .sS (σ.set key ⟨0,o.xV.set i.toNat [.int kk y,x]⟩))
  | none=>False
 | _,_=>False
@[congr] theorem Mr {σ : St} {zero : D} {ok : Bool} {m m' k k' : D} {K : D -> Prop} (h : m = m') (h' : k = k') : js σ zero ok m k K = js σ zero ok m' k' K := by rw [h, h']
@[congr] theorem Mt {σ : St} {m m' k k' x x' : D} {K : D -> St -> Prop} (h : m = m') (h' : k = k') (h2 : x = x') : o6 σ m k x K = o6 σ m' k' x' K := by rw [h, h', h2]
@[congr] theorem ND {σ : St} {n : Nat} {zero : D} {ok : Bool} {m m' k k' : D} {K : D -> Prop} (h : m = m') (h' : k = k') : gI σ n zero ok m k K = gI σ n zero ok m' k' K := by rw [h, h']
@[congr] theorem NG {σ : St} {n : Nat} {m m' k k' x x' : D} {K : D -> St -> Prop} (h : m = m') (h' : k = k') (h2 : x = x') : jA σ n m k x K = jA σ n m' k' x' K := by rw [h, h', h2]
@[congr] theorem Mp {σ : St} {zero m m' k k' : D} {K : D -> St -> Prop} (h : m = m') (h' : k = k') : T8 σ zero m k K = T8 σ zero m' k' K := by rw [h, h']
@[congr] theorem Ml {σ : St} {m m' k k' x x' : D} {K : D -> St -> Prop} (h : m = m') (h' : k = k') (h2 : x = x') : T5 σ m k x K = T5 σ m' k' x' K := by rw [h, h', h2]
@[congr] theorem L8 {q : Bool} {σ : St} {sz bytes : Nat} {x x' : D} {y y' : Option (List (List D))} {K : D -> St -> Prop} (h : x = x') (h' : y = y') : xk q σ sz bytes x y K = xk q σ sz bytes x' y' K := by rw [h, h']
@[congr] theorem LF {σ : St} {n : Nat} {x x' : D} {y y' : Option (List D)} {K : D -> St -> Prop} (h : x = x') (h' : y = y') : TQ σ n x y K = TQ σ n x' y' K := by rw [h, h']
@[congr] theorem LA {x x' : D} {K : D -> Prop} (h : x = x') : lu x K = lu x' K := by rw [h]
@[congr] theorem L9 {sz : Nat} {x x' i i' : D} {K : D -> Prop} (h : x = x') (h' : i = i') : df sz x i K = df sz x' i' K := by rw [h, h']
@[congr] theorem NH {neg : Bool} {x x' i i' : D} {K : D -> Prop} (h : x = x') (h' : i = i') : mW neg x i K = mW neg x' i' K := by rw [h, h']
@[congr] theorem Mo {σ : St} {n : Nat} {ag : Bool} {x x' : D} {K : D -> Prop} (h : x = x') : jq σ n ag x K = jq σ n ag x' K := by rw [h]
def pX (C:Cx) (σ:St) (ev:uF->D) (k:DK) (K:D->Prop):Prop:=
 match k with
 | .len x=>lu (ev x) K
 | .idx sz x i=>df sz (ev x) (ev i) K
 | .cX neg x y=>mW neg (ev x) (ev y) K
 | .load n ag x=>jq σ n ag (ev x) K
 | .lz zero ok m k=>js σ zero ok (ev m) (ev k) K
 | .wy n zero ok m k=>gI σ n zero ok (ev m) (ev k) K
 | .PV x=>VP (ev x) K
 | k=>pW C σ ev k K
theorem N3 (C:Cx) (σ:St) (ev:uF->D) (k:DK) (K:D->Prop):pX C σ ev k K=pW C σ ev k K:=by cases k <;> rfl
def mr (C:Cx) (σ:St) (ev:uF->D) (k:DK) (K:D->St->Prop):Prop:=
 match k with
 | .box x=>rP C σ ev (.box x) K
 | .alloc z=>rP C σ ev (.alloc z) K
 | .store n a x=>TQ σ n (ev a) (ev x).cells K
 | .app sz bytes x y=>xk (C.own.contains 77777) σ sz bytes (ev x) (rowsOf σ sz (ev y)) K
 | .lX sz bytes zero len cap=>rP C σ ev (.lX sz bytes zero len cap) K
 | .gU sz len zero parts=>rP C σ ev (.gU sz len zero parts) K
 | .VV zero x=>rP C σ ev (.VV zero x) K
 | .YT x y=>rP C σ ev (.YT x y) K
 | .call fn args=>rP C σ ev (.call fn args) K
 | .dh=>rP C σ ev .dh K
 | .gP m k x=>o6 σ (ev m) (ev k) (ev x) K
 | .kH n m k x=>jA σ n (ev m) (ev k) (ev x) K
 | .vk zero m k=>T8 σ zero (ev m) (ev k) K
 | .vj m s x=>T5 σ (ev m) (ev s) (ev x) K
 | k=>pX C σ ev k (FS σ K)
theorem Y6 (C:Cx) (σ:St) (ev:uF->D) (k:DK) (K:D->St->Prop):mr C σ ev k K=rP C σ ev k K:=by cases k <;> first | rfl | (show pX _ _ _ _ _=_; rw [N3]; rfl)
def vm (C:Cx):List xB->(Fr->St->Prop)->Fr->St->Prop
 | [],K,f,σ=>K f σ
 | ⟨dst,g,k⟩ :: rest,K,f,σ=>gd g f (mr C σ (qE f) k (Ma f dst (vm C rest K))) (vm C rest K (f.put dst .sS) σ)
theorem fC (C:Cx) (K:Fr->St->Prop):∀ (ops:List xB) (f:Fr) (σ:St),vm C ops K f σ=sJ C ops f σ K
 | [],f,σ=>rfl
 | o :: rest,f,σ=>by
  have ih:vm C rest K=λf σ=>sJ C rest f σ K:=by funext f σ; exact fC C K rest f σ
  unfold vm sJ;rw [My,Y6,ih];rfl
def vn (C:Cx) (σ:St):List xB->(Fr->Prop)->Fr->Prop
 | [],K,f=>K f
 | ⟨dst,g,k⟩ :: rest,K,f=>gd g f (pX C σ (qE f) k (Mb f dst (vn C σ rest K))) (vn C σ rest K (f.put dst .sS))
theorem iW (C:Cx) (σ:St) (K:Fr->Prop):∀ (ops:List xB) (f:Fr),vn C σ ops K f=vG C σ ops f K
 | [],f=>rfl
 | o :: rest,f=>by
  have ih:vn C σ rest K=λf=>vG C σ rest f K:=by funext f; exact iW C σ K rest f
  unfold vn vG;rw [My,N3,ih];rfl
def o7 (C:Cx) (post:List xB) (Q:Exit->Fr->St->Prop) (σ:St) (f:Fr):Prop:=vm C post (gX Q) f σ
def Kl (d:D) (p q:Prop):Prop:=
 match d with
 | .bool t=>if t=true then p else q
 | _=>False
theorem Ps (t:Bool) (p q:Prop):Kl (.bool t) p q=if t=true then p else q:=rfl
@[congr] theorem Ks {d d' : D} {p q : Prop} (h : d = d') : Kl d p q = Kl d' p q := by rw [h]
def si (C:Cx) (it:Nat) (m:uF) (out nx more next pair:Nat) (rest:List xB) (code:DC) (Q:Exit->Fr->St->Prop) (f:Fr) (σ:St):Prop:=sj C it m out nx more next pair rest code f σ Q
@[congr] theorem NF {C : Cx} {it : Nat} {m : uF} {out nx more next pair : Nat} {rest : List xB} {code : DC} {Q : Exit -> Fr -> St -> Prop} {f f' : Fr} {σ : St} (h : f = f') : si C it m out nx more next pair rest code Q f σ = si C it m out nx more next pair rest code Q f' σ := by rw [h]
def ur (C:Cx) (code:DC) (out next:Nat) (J:Fr->St->Prop) (Q:Exit->Fr->St->Prop) (f:Fr) (σ:St):Prop:=wpS C code f σ (rE next (oJ J (rE out Q)))
@[congr] theorem PZ {C : Cx} {code : DC} {out next : Nat} {J : Fr -> St -> Prop} {Q : Exit -> Fr -> St -> Prop} {f f' : Fr} {σ : St} (h : f = f') : ur C code out next J Q f σ = ur C code out next J Q f' σ := by rw [h]
def l9 (C:Cx) (k:DK) (K:Fr->D->St->Prop) (σ:St) (f1:Fr):Prop:=mr C σ (qE f1) k (K f1)
def Mc (f:Fr) (g:Fr):Prop:=g=f
def Kq (C:Cx) (un:Bool) (mid:List xB) (f1:Fr) (σ:St) (K:Fr->St->Prop) (σ1:St) (f2:Fr):Prop:=(if un=true then vn C σ mid (Mc f2) f1 else True)/\ K f2 σ1
def VN (C:Cx) (pre:List xB) (dst:Option Nat) (mid:List xB) (un:Bool) (post:List xB) (Q:Exit->Fr->St->Prop) (f:Fr) (σ:St) (f1:Fr) (d:D) (σ1:St):Prop:= vn C σ1 pre (Mc f1) f/\vn C σ1 mid (Kq C un mid (f1.put dst d) σ (vm C post (gX Q)) σ1) (f1.put dst d)
theorem OA {C:Cx} {pre:List xB} {dst:Option Nat} {mid:List xB} {un:Bool} {post:List xB} {Q:Exit->Fr->St->Prop} {f:Fr} {σ:St} {f1:Fr} {d:D} {σ1:St} :
  VN C pre dst mid un post Q f σ f1 d σ1=TK C pre dst mid un f σ (λf σ=>sJ C post f σ λf σ=>Q .normal f σ) f1 d σ1:=by
 unfold VN TK;rw [iW,iW]
 have:Kq C un mid (f1.put dst d) σ (vm C post (gX Q)) σ1=λf2=>(if un=true then vG C σ mid (f1.put dst d) (λg=>g=f2) else True)/\ sJ C post f2 σ1 λf σ=>Q .normal f σ:=by funext f2;unfold Kq;rw [iW,fC];rfl
 rw [this];rfl
def YP (C:Cx):DC->(Exit->Fr->St->Prop)->Fr->St->Prop
 | .skip,Q,f,σ=>Q .normal f σ
 | .nX pre post,Q,f,σ=>vn C σ pre (o7 C post Q σ) f
 | .mf pre m mid un post,Q,f,σ=>vn C σ pre (l9 C m.k (VN C pre m.dst mid un post Q f σ) σ) f
 | .p8 pre m1 mid1 m2 mid2 post,Q,f,σ=>xu C (.p8 pre m1 mid1 m2 mid2 post) f σ Q
 | .seq a b,Q,f,σ=>YP C a (oJ (YP C b Q) Q) f σ
 | .cond c a b,Q,f,σ=>Kl (qE f c) (YP C a Q f σ) (YP C b Q f σ)
 | .block id c,Q,f,σ=>YP C c (rE id Q) f σ
 | .loop c,Q,f,σ=>wpS C (.loop c) f σ Q
 | .vo g ps a c,Q,f,σ=>wpS C (.vo g ps a c) f σ Q
 | .cT pre m1 mid1 m2 mid2 post free,Q,f,σ=>wpS C (.cT pre m1 mid1 m2 mid2 post free) f σ Q
 | .bP pre m mid un post fl,Q,f,σ=>wpS C (.bP pre m mid un post fl) f σ Q
 | .exit id,Q,f,σ=>Q (.exit id) f σ
 | .ret,Q,f,σ=>Q .ret f σ
 | .TX ..,_,_,_=>False
 | .TW ..,_,_,_=>False
 | .TU ..,_,_,_=>False
 | .bF pre it m out nx more next pair rest code,Q,f,σ=>vm C pre (si C it m out nx more next pair rest code Q) f σ
theorem cN (C:Cx):∀ (dc:DC) (Q:Exit->Fr->St->Prop) (f:Fr) (σ:St),YP C dc Q f σ=xu C dc f σ Q
 | .skip,Q,f,σ=>rfl
 | .nX pre post,Q,f,σ=>by
  unfold YP xu;rw [iW]
  have:o7 C post Q σ=λf=>sJ C post f σ λf σ=>Q .normal f σ:=by funext f;unfold o7;rw [fC];rfl
  rw [this]
 | .mf pre m mid un post,Q,f,σ=>by
  unfold YP xu;rw [iW]
  have:l9 C m.k (VN C pre m.dst mid un post Q f σ) σ=λf1=>rP C σ (qE f1) m.k λd σ1=>TK C pre m.dst mid un f σ (λf σ=>sJ C post f σ λf σ=>Q .normal f σ) f1 d σ1:=by funext f1;unfold l9;rw [Y6];congr 1;funext d σ1;exact OA
  rw [this]
 | .p8 ..,Q,f,σ=>rfl
 | .seq a b,Q,f,σ=>by
  have ih:YP C b Q=λf σ=>xu C b f σ Q:=by funext f σ; exact cN C b Q f σ
  unfold YP;rw [cN C a,ih];rfl
 | .cond c a b,Q,f,σ=>by unfold YP;rw [cN C a,cN C b];rfl
 | .block id c,Q,f,σ=>by unfold YP; rw [cN C c]; rfl
 | .loop c,Q,f,σ=>rfl
 | .vo g ps a c,Q,f,σ=>rfl
 | .cT ..,Q,f,σ=>rfl
 | .bP ..,Q,f,σ=>rfl
 | .exit id,Q,f,σ=>rfl
 | .ret,Q,f,σ=>rfl
 | .TX ..,_,_,_=>rfl
 | .TW ..,_,_,_=>rfl
 | .TU ..,_,_,_=>rfl
 | .bF pre it m out nx more next pair rest code,Q,f,σ=>by unfold YP xu; rw [fC]; rfl
noncomputable def cn {α:Sort u} (a:α):α:=Classical.choose (⟨a,rfl⟩:∃ b:α,b=a)
theorem yv {α:Sort u} (a:α):cn a=a:=Classical.choose_spec (⟨a,rfl⟩:∃ b:α,b=a)
noncomputable def bN (C:Cx):List xB->(Fr->St->Prop)->Fr->St->Prop:=cn (vm C)
noncomputable def pG (C:Cx) (σ:St):List xB->(Fr->Prop)->Fr->Prop:=cn (vn C σ)
noncomputable def mw (C:Cx):DC->(Exit->Fr->St->Prop)->Fr->St->Prop:=cn (YP C)
theorem iU (C:Cx):bN C=vm C:=yv _
theorem iZ (C:Cx) (σ:St):pG C σ=vn C σ:=yv _
theorem qU (C:Cx):mw C=YP C:=yv _
section
variable (C : Cx) (σ : St) (f : Fr) (Q : Exit -> Fr -> St -> Prop) (K : Fr -> St -> Prop) (K1 : Fr -> Prop) (a b c : DC) (dst : Option Nat) (g : Option (Nat × Bool)) (k : DK) (rest pre post : List xB) (x : uF) (id : Nat)
theorem R4 : bN C [] K f σ=K f σ:=by rw [iU]; rfl
theorem UX : bN C (⟨dst,g,k⟩ :: rest) K f σ=gd g f (mr C σ (qE f) k (Ma f dst (bN C rest K))) (bN C rest K (f.put dst .sS) σ):=by rw [iU]; rfl
theorem Xv : pG C σ [] K1 f=K1 f:=by rw [iZ]; rfl
theorem Uc : pG C σ (⟨dst,g,k⟩ :: rest) K1 f=gd g f (pX C σ (qE f) k (Mb f dst (pG C σ rest K1))) (pG C σ rest K1 (f.put dst .sS)):=by rw [iZ]; rfl
def Wc (C:Cx) (post:List xB) (Q:Exit->Fr->St->Prop) (σ:St) (f:Fr):Prop:=bN C post (gX Q) f σ
theorem SO : mw C .skip Q f σ=Q .normal f σ:=by rw [qU]; rfl
theorem PF : mw C (.nX pre post) Q f σ=pG C σ pre (Wc C post Q σ) f:=by
 have e:Wc C post Q σ=o7 C post Q σ:=by funext f; unfold Wc o7; rw [iU]
 rw [qU,iZ,e]; rfl
def bC (C:Cx) (k:DK) (K:Fr->D->St->Prop) (σ:St) (f1:Fr):Prop:=mr C σ (qE f1) k (K f1)
def L6 (C:Cx) (un:Bool) (mid:List xB) (f1:Fr) (σ:St) (K:Fr->St->Prop) (σ1:St) (f2:Fr):Prop:=(if un=true then pG C σ mid (Mc f2) f1 else True)/\ K f2 σ1
def PR (C:Cx) (pre:List xB) (dst:Option Nat) (mid:List xB) (un:Bool) (post:List xB) (Q:Exit->Fr->St->Prop) (f:Fr) (σ:St) (f1:Fr) (d:D) (σ1:St):Prop:= pG C σ1 pre (Mc f1) f/\pG C σ1 mid (L6 C un mid (f1.put dst d) σ (bN C post (gX Q)) σ1) (f1.put dst d)
theorem SL {mid:List xB} {un:Bool}:mw C (.mf pre ⟨dst,g,k⟩ mid un post) Q f σ=pG C σ pre (bC C k (PR C pre dst mid un post Q f σ) σ) f:=by
 have e:bC C k (PR C pre dst mid un post Q f σ) σ=l9 C k (VN C pre dst mid un post Q f σ) σ:=by
  funext f1;unfold bC l9;congr 1;funext d σ1;unfold PR VN
  have e2:L6 C un mid (f1.put dst d) σ (bN C post (gX Q)) σ1=Kq C un mid (f1.put dst d) σ (vm C post (gX Q)) σ1:=by funext f2; unfold L6 Kq; rw [iU,iZ]
  rw [e2,iZ]
 rw [qU,iZ,e]; rfl
theorem Q3 (f:Fr):Mc f f=True:=eq_true rfl
theorem PH : mw C (.seq a b) Q f σ=mw C a (oJ (mw C b Q) Q) f σ:=by rw [qU]; rfl
theorem SI : mw C (.cond x a b) Q f σ=Kl (qE f x) (mw C a Q f σ) (mw C b Q f σ):=by rw [qU]; rfl
theorem VB : mw C (.block id c) Q f σ=mw C c (rE id Q) f σ:=by rw [qU]; rfl
theorem SK : mw C (.loop c) Q f σ=wpS C (.loop c) f σ Q:=by rw [qU]; rfl
theorem SN {g:uF} {ps:List Nat}:mw C (.vo g ps a c) Q f σ=wpS C (.vo g ps a c) f σ Q:=by rw [qU]; rfl
theorem SJ : mw C (.exit id) Q f σ=Q (.exit id) f σ:=by rw [qU]; rfl
theorem PG : mw C .ret Q f σ=Q .ret f σ:=by rw [qU]; rfl
theorem VC {it:Nat} {m:uF} {out nx more next pair:Nat} {rst:List xB} {code:DC}:mw C (.bF pre it m out nx more next pair rst code) Q f σ=bN C pre (si C it m out nx more next pair rst code Q) f σ:=by rw [qU,iU]; rfl
end
theorem xL {C:Cx} (hm:C.P.follows .mixedOrders=true) {dc:DC} {f:Fr} {σ:St} {Q:Exit->Fr->St->Prop} (h:mw C dc Q f σ):wpS C dc f σ Q:= Sz hm (by rw [<- cN,<- qU]; exact h)
theorem xY.xQ {P:Program} {g:FuncId} {fn:Func} {own:List Nat} {N:Nat} {dc:DC} {rs:List bH} {args:List D} {σ:St} {d:D} {σ':St} (hm:P.follows .mixedOrders=true) (hf:P.funcs[g]?=some fn)
  (hc:xS P own fn=some (N,dc,rs)) (hla:args.length<=N)
  (h:D.rJ args->mw ⟨P,N,σ.nx,own,none⟩ dc (l8 ⟨P,N,σ.nx,own,none⟩ rs d σ') (gK 0 args) σ):xY P g args σ d σ':=
 xY.Jw hm hf hc hla λhfa=>by rw [<- cN,<- qU]; exact h hfa
end Go.Pd
namespace Go.Pd
open Go
theorem qe (s:BitVec 64) (w:Nat):s >>> w &&& 1#64=if s.getLsbD w then 1#64 else 0#64:=by
 apply Ai;rw [BitVec.toNat_and,Ak];have:(1#64).toNat=1:=rfl;rw [this,Nat.and_one_is_mod];unfold BitVec.getLsbD;rw [Nat.testBit_eq_decide_div_mod_eq,Af]
 by_cases h:s.toNat / 2 ^ w % 2=1
 ·simp [h]
 ·simp [h]; omega
theorem bo {k:Nat} (hk:k<62):ua .i64 1 k=((2 ^ k:Nat):Int):=by
 have hp:2 ^ k<2 ^ 62:=Ag (by omega) hk;unfold ua
 have e:min (k:Int).toNat IntKind.i64.bits=k:=by have:IntKind.i64.bits=64:=rfl;rw [this,Ar]; omega
 rw [e,Int.one_mul,wrap_i64]
 ·simp
 ·have:((2:Int)^ k)= ((2 ^ k:Nat):Int):=by simp
  rw [this];exact⟨Int.le_trans (by decide) (Aq _),Int.le_trans (Int.ofNat_le.2 (Nat.le_of_lt hp)) (by decide)⟩
theorem or_zero {a k:Nat} (h:a<2 ^ k) (hk:k<62):tS .or .i64 (a:Int) (ua .i64 0 k)= (a:Int):=by
 have hp:2 ^ k<2 ^ 62:=Ag (by omega) hk
 have e1:ua .i64 0 k=0:=by unfold ua;rw [Int.zero_mul]; rfl
 rw [e1];show IntKind.i64.wrap ((BitVec.ofInt 64 (a:Int) ||| BitVec.ofInt 64 0).toNat:Int)= _;rw [Aj,BitVec.toNat_or,Al,Nat.mod_eq_of_lt (by omega)];have:(BitVec.ofInt 64 0).toNat=0:=rfl;rw [this,Nat.or_zero];exact wrap_i64 (by omega)
end Go.Pd
namespace Go.Pd
open Go
theorem vU (key sz:Nat):xA key sz [] = .xJ:=rfl
theorem nw (key sz:Nat) (e:List D) (r:List (List D)):xA key sz (e :: r)= .yD key sz (r.length+1):=rfl
theorem vV (key sz:Nat):yV key sz [] = []:=rfl
theorem nz (key sz:Nat) (e:List D) (r:List (List D)):yV key sz (e :: r)= [(key,⟨sz,e :: r⟩)]:=rfl
theorem jZ (k:IntKind):rows k [] = []:=rfl
theorem yu (k:IntKind) (n:Int) (l:List Int):rows k (n :: l)= [.int k n] :: rows k l:=rfl
theorem ja (k:IntKind) (l:List Int) (n:Int):rows k l ++ [[.int k n]]=rows k (l ++ [n]):=by simp [rows]
theorem bl (l:List (List (BitVec 64))) (r:List (BitVec 64)):rr l ++ [[.sl 1 (us r)]]=rr (l ++ [r]):=by simp [rr,VT]
theorem Ss : rr [] = []:=rfl
theorem WI (l:List (BitVec 64)) (r:List (List (BitVec 64))):rr (l :: r)= [.sl 1 (us l)] :: rr r:=rfl
variable [uC]
theorem UB {key m n sz:Nat} {xV:List (List D)} (hs:0<sz) (hp:∀ e ∈ xV,D.xP e=true) {ρ:Nat->Nat}:vw ⟨m,yV key sz xV⟩ ⟨n,[]⟩ ρ (xA key sz xV) (.sl sz xV):=by
 cases xV with
 | nil=>simp [xA,vw]
 | cons e r=> simp only [xA,yV,vw];refine⟨trivial,hs,by simp,⟨sz,e :: r⟩,by simp [St.get,St.look],rfl,Ad _,by simp,hp⟩
theorem oK.name {n0 n m sz j:Nat} {xV:List (List D)} {d d':D} (hn:n0<=n) (hp:∀ e ∈ xV,D.xP e=true) (hv:vw ⟨m,[(j,⟨sz,xV⟩)]⟩ ⟨n+1,[(n,⟨sz,xV⟩)]⟩ (λk=>if k=n then j else k) d d'):oK n0 ⟨m,[(j,⟨sz,xV⟩)]⟩ d ⟨n+1,[(n,⟨sz,xV⟩)]⟩ d':=by
 refine .inr ⟨λk=>if k=n then j else k,by show n0<=n+1; omega,λk hk=>if_neg (by omega),hv,?_,?_⟩
 ·intro p hp';simp only [κ] at hp';subst hp';exact⟨Nat.lt_succ_self n,⟨sz,xV⟩,by simp [St.get,St.look],rfl,.same hp⟩
 ·intro p hp' q hq' _;simp only [κ] at hp' hq';rw [hp',hq']
end Go.Pd
namespace Go.Pd
open Go
def vT (sz:Nat):List (List D)->Option Ob
 | []=>none
 | e :: r=>some ⟨sz,e :: r⟩
theorem yQ {k s:Nat} {xV:List (List D)} {r:List (Nat × Ob)} {k':Nat}:St.look (yV k s xV++r) k'=if k=k' then(vT s xV).or (St.look r k') else St.look r k':=by
 cases xV with
 | nil=>simp [yV,vT]
 | cons e l=>simp [yV,vT,St.look]
theorem fR {k s:Nat} {xV:List (List D)} {k':Nat}:St.look (yV k s xV) k'=if k=k' then vT s xV else none:=by have:=yQ (k:=k) (s:=s) (xV:=xV) (r:=[]) (k':=k');simp only [δ,St.look,Option.or_none] at this;exact this
theorem vy {k s:Nat} {xV:List (List D)} {r:List (Nat × Ob)} {k':Nat}:zX (yV k s xV++r) k'=if k=k' then zX r k' else yV k s xV++zX r k':=by
 cases xV with
 | nil=>simp [yV]
 | cons e l=>simp [yV,zX]
theorem u6 {k s:Nat} {xV:List (List D)} {k':Nat}:zX (yV k s xV) k'=if k=k' then [] else yV k s xV:=by have:=vy (k:=k) (s:=s) (xV:=xV) (r:=[]) (k':=k');simp only [δ,zX] at this;exact this
theorem j6 : ∀ {r:List (Nat × Ob)} {k:Nat} {o:Ob},St.look r k=none->zA r k o=r
 | [],_,_,_=>rfl
 | (j,o') :: r,k,o,h=>by
  simp only [St.look] at h
  split at h
  ·cases h
  ·rename_i hn;simp only [zA,if_neg hn,j6 h]
theorem nr : ∀ {r:List (Nat × Ob)} {k:Nat},St.look r k=none->zX r k=r
 | [],_,_=>rfl
 | (j,o') :: r,k,h=>by
  simp only [St.look] at h
  split at h
  ·cases h
  ·rename_i hn;simp only [zX,if_neg hn,nr h]
theorem je {k s:Nat} {xV els':List (List D)} {r:List (Nat × Ob)} (hl:els'.length=xV.length) (h:St.look r k=none):zA (yV k s xV++r) k ⟨s,els'⟩= yV k s els'++r:=by
 cases xV with
 | nil=> have:els' = []:=List.eq_nil_of_length_eq_zero (by simpa using hl);subst this;simp only [yV,θ];exact j6 h
 | cons e l=>
  cases els' with
  | nil=>simp at hl
  | cons e' l'=>simp [yV,zA]
theorem ph {k s:Nat} {xV els':List (List D)} (hl:els'.length=xV.length):zA (yV k s xV) k ⟨s,els'⟩= yV k s els':=by have:=je (k:=k) (s:=s) (r:=[]) hl rfl;simp only [δ] at this;exact this
theorem y8 {k s:Nat} {xV:List (List D)} {r:List (Nat × Ob)} {k':Nat} {o:Ob} (h:k≠k'):zA (yV k s xV++r) k' o=yV k s xV++zA r k' o:=by
 cases xV with
 | nil=>simp [yV]
 | cons e l=>simp [yV,zA,h]
theorem Ya (k s:Nat) (xV:List (List D)):(xA k s xV).cells=some [xA k s xV]:=by cases xV <;> rfl
theorem UZ (k s:Nat) (xV:List (List D)):(xA k s xV).one=true:=by cases xV <;> rfl
theorem Tq (k s n:Nat):(D.yD k s n).cells=some [.yD k s n]:=rfl
theorem Tv (k s l n:Nat):(D.sub k s l n).cells=some [.sub k s l n]:=rfl
theorem Tp (k:IntKind) (n:Int):(D.int k n).cells=some [.int k n]:=rfl
theorem Wt (b:Bool):(D.bool b).cells=some [.bool b]:=rfl
theorem Tu (s:ByteArray):(D.str s).cells=some [.str s]:=rfl
theorem Pw (sz:Nat) (xV:List (List D)):(D.sl sz xV).cells=some [.sl sz xV]:=rfl
theorem Wy : D.xJ.cells=some [.xJ]:=rfl
theorem To : D.emp.cells=some [.emp]:=rfl
theorem Tn (cs:List D):(D.agg cs).cells=some cs:=rfl
theorem Pv (f:FuncId) (cs:List D):(D.fn f cs).cells=some [.fn f cs]:=rfl
theorem Tt (a b c d:Nat):(D.ref a b c d).cells=some [.ref a b c d]:=rfl
theorem Ts (cs:List D):(D.ptr cs).cells=some [.ptr cs]:=rfl
theorem Wu (k:Nat):(D.yK k).cells=some [.yK k]:=rfl
theorem Wz : D.oN.cells=some [.oN]:=rfl
theorem Ww : D.qW.cells=some [.qW]:=rfl
theorem Wv : D.sI.cells=some [.sI]:=rfl
theorem OT (k:IntKind) (n:Int):(D.int k n).one=true:=rfl
theorem Qw (b:Bool):(D.bool b).one=true:=rfl
theorem OY (s:ByteArray):(D.str s).one=true:=rfl
theorem Lr (sz:Nat) (xV:List (List D)):(D.sl sz xV).one=true:=rfl
theorem R2 : D.xJ.one=true:=rfl
theorem OS : D.emp.one=true:=rfl
theorem Lq (f:FuncId) (cs:List D):(D.fn f cs).one=true:=rfl
theorem OW (a b c d:Nat):(D.ref a b c d).one=true:=rfl
theorem OU (a b c:Nat):(D.yD a b c).one=true:=rfl
theorem OV (cs:List D):(D.ptr cs).one=true:=rfl
theorem Qz (k:Nat):(D.yK k).one=true:=rfl
theorem R0 : D.oN.one=true:=rfl
theorem Qx : D.qW.one=true:=rfl
theorem Qy : D.sI.one=true:=rfl
section
variable [uC]
theorem Td {q:Bool} {σ:St} {sz bytes key:Nat} {xV:List (List D)} {rw:List (List D)} {K:D->St->Prop} (h:σ.get key=vT sz xV) (h0:rw ≠ []) :
  xk q σ sz bytes (xA key sz xV) (some rw) K=((∀ r ∈ rw,vK r=true)/\ (xV.length+rw.length)* bytes<=140737488355328/\xV.length+rw.length<=8000000000000 /\
   K (xA σ.nx sz (xV++rw)) ⟨σ.nx+1,yV σ.nx sz (xV++rw)++ zX σ.xZ key⟩):=by
 cases xV with
 | nil=>
  obtain⟨r,rs,rfl⟩:∃ r rs,rw=r :: rs:=by cases rw with | nil=>exact absurd rfl h0 | cons r rs=>exact⟨r,rs,rfl⟩
  have he:zX σ.xZ key=σ.xZ:=nr h;simp only [xk,xA,yV,St.new,he,θ,μ,Ae];simp
 | cons e l=>
  have e1:l.length+1+rw.length=l.length+rw.length+1:=by omega
  simp only [xk,xA,h,vT,St.erase,St.new,yV];simp [xA,yV,e1]
theorem Wq {q:Bool} {nx:Nat} {xZ:List (Nat × Ob)} {sz bytes key:Nat} {xV:List (List D)} {r:List D} {rs:List (List D)} {K:D->St->Prop} (h:St.look xZ key=vT sz xV) :
  xk q ⟨nx,xZ⟩ sz bytes (xA key sz xV) (some (r :: rs)) K=((∀ x ∈ r :: rs,vK x=true)/\ (xV.length+(r :: rs).length)* bytes<=140737488355328/\xV.length+(r :: rs).length<=8000000000000 /\
   K (xA nx sz (xV++r :: rs)) ⟨nx+1,yV nx sz (xV++r :: rs)++ zX xZ key⟩):=Td h (by simp)
theorem Ph {q:Bool} {σ:St} {sz bytes:Nat} {r:List D} {rs:List (List D)} {K:D->St->Prop} :
  xk q σ sz bytes .xJ (some (r :: rs)) K=((∀ x ∈ r :: rs,vK x=true)/\ (r :: rs).length*bytes<=140737488355328/\(r :: rs).length<=8000000000000/\K (.yD σ.nx sz (r :: rs).length) (σ.new ⟨sz,r :: rs⟩)):=by
 simp [xk]
theorem Pi {q:Bool} {σ:St} {sz sz' bytes key n:Nat} {rows:List (List D)} {K:D->St->Prop} :
  xk q σ sz bytes (.yD key sz' n) (some rows) K=((∀ x ∈ rows,vK x=true)/\ match σ.get key with
   | some ob=>sz=sz'/\ob.sz=sz/\n<=ob.xV.length/\(n+rows.length)* bytes<=140737488355328/\n+rows.length<=8000000000000/\K (.yD σ.nx sz (n+rows.length)) ((σ.erase key).new ⟨sz,ob.xV.take n++rows⟩)
   | none=>False):=rfl
def YK (nx:Nat) (xZ:List (Nat × Ob)) (n key sz i off:Nat) (ds:List D) (K:D->St->Prop):Option Ob->Prop
 | some ob=>ob.sz=sz/\i<ob.xV.length/\ds.length=n/\off+n<=sz/\vK ds=true/\K .sS ⟨nx,zA xZ key ⟨sz,ob.xV.set i (kP (ob.xV.getD i []) off ds)⟩⟩
 | none=>False
@[congr] theorem LD {nx : Nat} {xZ : List (Nat × Ob)} {n key sz i off : Nat} {ds : List D} {K : D -> St -> Prop} {o o' : Option Ob} (h : o = o') : YK nx xZ n key sz i off ds K o = YK nx xZ n key sz i off ds K o' := by rw [h]
theorem Ri {nx:Nat} {xZ:List (Nat × Ob)} {n key sz i off:Nat} {ds:List D} {K:D->St->Prop}:TQ ⟨nx,xZ⟩ n (.ref key sz i off) (some ds) K=YK nx xZ n key sz i off ds K (St.look xZ key):=by simp only [TQ,St.get];cases St.look xZ key <;> rfl
theorem V2 {nx:Nat} {xZ:List (Nat × Ob)} {n key sz i off:Nat} {ds:List D} {K:D->St->Prop} {sz':Nat} {xV:List (List D)} :
  YK nx xZ n key sz i off ds K (some ⟨sz',xV⟩)= (sz'=sz/\i<xV.length/\ds.length=n/\off+n<=sz/\vK ds=true/\K .sS ⟨nx,zA xZ key ⟨sz,xV.set i (kP (xV.getD i []) off ds)⟩⟩):=rfl
theorem V1 {nx:Nat} {xZ:List (Nat × Ob)} {n key sz i off:Nat} {ds:List D} {K:D->St->Prop} {xV:List (List D)} :
  YK nx xZ n key sz i off ds K (vT sz xV)= (i<xV.length/\ds.length=n/\off+n<=sz/\vK ds=true/\K .sS ⟨nx,zA xZ key ⟨sz,xV.set i (kP (xV.getD i []) off ds)⟩⟩):=by
 cases xV with
 | nil=>simp [YK,vT]
 | cons e l=>simp [YK,vT]
def tj (n:Nat) (ag:Bool) (sz i off:Nat) (K:D->Prop):Option Ob->Prop
 | some o=>o.sz=sz/\i<o.xV.length/\off+n<=sz/\(ag=true\/n=1)/\ K (pT ag (((o.xV.getD i []).drop off).take n))
 | none=>False
@[congr] theorem Mm {n sz i off : Nat} {ag : Bool} {K : D -> Prop} {o o' : Option Ob} (h : o = o') : tj n ag sz i off K o = tj n ag sz i off K o' := by rw [h]
theorem UL {nx:Nat} {xZ:List (Nat × Ob)} {n key sz i off:Nat} {ag:Bool} {K:D->Prop}:jq ⟨nx,xZ⟩ n ag (.ref key sz i off) K=tj n ag sz i off K (St.look xZ key):=by simp only [jq,St.get];cases St.look xZ key <;> rfl
theorem ZI {n sz i off:Nat} {ag:Bool} {K:D->Prop} {sz':Nat} {xV:List (List D)}:tj n ag sz i off K (some ⟨sz',xV⟩)= (sz'=sz/\i<xV.length/\off+n<=sz/\(ag=true\/n=1)/\ K (pT ag (((xV.getD i []).drop off).take n))):=rfl
theorem ZH {n sz i off:Nat} {ag:Bool} {K:D->Prop} {xV:List (List D)}:tj n ag sz i off K (vT sz xV)= (i<xV.length/\off+n<=sz/\(ag=true\/n=1)/\ K (pT ag (((xV.getD i []).drop off).take n))):=by
 cases xV with
 | nil=>simp [tj,vT]
 | cons e l=>simp [tj,vT]
theorem UK {σ:St} {n:Nat} {ag:Bool} {cs:List D} {K:D->Prop}:jq σ n ag (.ptr cs) K=(n<=cs.length/\(ag=true\/n=1)/\ K (pT ag (cs.take n))):=rfl
def sH (kk:IntKind) (l:List (Int × D)):List (List D):=l.map λp=>[.int kk p.1,p.2]
def uZ (x:Int):List (Int × D)->Nat->Option (Nat × D)
 | [],_=>none
 | (m,d) :: r,i=>if x=m then some (i,d) else uZ x r (i+1)
def xl (l:List (Int × D)) (x:Int) (d:D):List (Int × D):=
 match uZ x l 0 with
 | some (i,_)=>l.set i (x,d)
 | none=>l ++ [(x,d)]
theorem Xm (kk:IntKind) (l:List (Int × D)):(sH kk l).length=l.length:=by simp [sH]
theorem oc (kk:IntKind) (l:List (Int × D)):gY kk (sH kk l):=by intro row h;simp only [sH,ε] at h;obtain⟨p,_,rfl⟩:=h;exact⟨_,_,rfl⟩
theorem cE (kk:IntKind) (x:Int):∀ (l:List (Int × D)) (i:Nat),oI x (sH kk l) i=uZ x l i
 | [],_=>rfl
 | (m,d) :: r,i=>by show oI x ([.int kk m,d] :: sH kk r) i=_;rw [oI,uZ,cE kk x r (i+1)]
theorem ZO (kk:IntKind) (l:List (Int × D)) (x:Int) (d:D):tm kk (sH kk l) x d=sH kk (xl l x d):=by
 unfold tm xl;rw [cE]
 cases uZ x l 0 with
 | none=>simp [sH]
 | some p=>simp [sH,List.map_set]
theorem aE : ∀ {a b:List Int},a.map (D.int .i64)= b.map (D.int .i64)->a=b
 | [],[],_=>rfl
 | [],_ :: _,h=>by simp at h
 | _ :: _,[],h=>by simp at h
 | x :: a,y :: b,h=>by simp only [ζ,List.cons.injEq,D.int.injEq,true_and] at h;rw [h.1,aE h.2]
theorem qb : ∀ {a b:List (List Int × D)},sF a=sF b->a=b
 | [],[],_=>rfl
 | [],_ :: _,h=>by simp [sF] at h
 | _ :: _,[],h=>by simp [sF] at h
 | (x,d) :: a,(y,e) :: b,h=>by simp only [sF,ζ,List.cons.injEq,D.agg.injEq,and_true] at h;obtain⟨⟨h1,h2⟩,h3⟩:=h;rw [aE h1,h2,qb (a:=a) (b:=b) h3]
theorem zz {nx:Nat} {xZ:List (Nat × Ob)} {n:Nat} {zero:D} {ok:Bool} {key:Nat} {x:List Int} {l:List (List Int × D)} {cs:List D} {K:D->Prop} (hg:St.look xZ key=some ⟨0,sF l⟩) (hc:cs=x.map (D.int .i64)) (hx:x.length=n) (hl:∀ p ∈ l,p.1.length=n) :
  gI ⟨nx,xZ⟩ n zero ok (.yK key) (.agg cs) K=K (pD ok zero (mU x l 0)):=by
 subst hc;simp only [gI,St.get,hg];refine propext ⟨λh=>?_,λh=>⟨trivial,x,l,⟨rfl,rfl,hx,hl⟩,h⟩⟩;obtain⟨_,x',l',⟨h1,h2,_,_⟩,h3⟩:=h;rw [aE h1,qb h2]; exact h3
theorem ZQ {nx:Nat} {xZ:List (Nat × Ob)} {n:Nat} {key:Nat} {y:List Int} {l:List (List Int × D)} {cs:List D} {x:D} {K:D->St->Prop} (hg:St.look xZ key=some ⟨0,sF l⟩) (hc:cs=y.map (D.int .i64)) (hx:y.length=n) (hl:∀ p ∈ l,p.1.length=n) :
  jA ⟨nx,xZ⟩ n (.yK key) (.agg cs) x K=K .sS ⟨nx,zA xZ key ⟨0,sF (bA y x l)⟩⟩:=by
 subst hc;simp only [jA,St.get,hg,St.set];refine propext ⟨λh=>?_,λh=>⟨trivial,y,l,⟨rfl,rfl,hx,hl⟩,h⟩⟩;obtain⟨_,x',l',⟨h1,h2,_,_⟩,h3⟩:=h;rw [aE h1,qb h2]; exact h3
theorem yf {nx:Nat} {xZ:List (Nat × Ob)} {n:Nat} {key:Nat} {y:List Int} {l:List (List Int × D)} {cs:List D} {x:D} {K:D->St->Prop} (hg:St.look xZ key=some ⟨0,sF l⟩) (hc:cs=y.map (D.int .i64)) (hx:y.length=n) (hl:∀ p ∈ l,p.1.length=n) (hno:mU y l 0=none) :
  jA ⟨nx,xZ⟩ n (.yK key) (.agg cs) x K=K .sS ⟨nx,zA xZ key ⟨0,sF (l ++ [(y,x)])⟩⟩:=by
 rw [ZQ hg hc hx hl,show bA y x l=l ++ [(y,x)] by unfold bA; rw [hno]]
def jr (kk:IntKind) (x:Int) (zero:D) (ok:Bool) (K:D->Prop):Option Ob->Prop
 | some o=>o.sz=0/\gY kk o.xV/\K (pD ok zero (oI x o.xV 0))
 | none=>False
@[congr] theorem Mq {kk : IntKind} {x : Int} {zero : D} {ok : Bool} {K : D -> Prop} {o o' : Option Ob} (h : o = o') : jr kk x zero ok K o = jr kk x zero ok K o' := by rw [h]
theorem ZK {nx:Nat} {xZ:List (Nat × Ob)} {zero:D} {ok:Bool} {key:Nat} {kk:IntKind} {x:Int} {K:D->Prop}:js ⟨nx,xZ⟩ zero ok (.yK key) (.int kk x) K=jr kk x zero ok K (St.look xZ key):=by simp only [js,St.get];cases St.look xZ key <;> rfl
theorem ZL {σ:St} {zero:D} {ok:Bool} {kk:IntKind} {x:Int} {K:D->Prop}:js σ zero ok .qW (.int kk x) K=K (pD ok zero none):=rfl
theorem ou {kk:IntKind} {x:Int} {zero:D} {ok:Bool} {K:D->Prop} {l:List (Int × D)}:jr kk x zero ok K (some ⟨0,sH kk l⟩)= K (pD ok zero (uZ x l 0)):=by simp only [jr,cE];exact propext ⟨λh=>h.2.2,λh=>⟨trivial,oc kk l,h⟩⟩
theorem UM {kk:IntKind} {x:Int} {zero:D} {ok:Bool} {K:D->Prop}:jr kk x zero ok K (some ⟨0,[]⟩)= K (pD ok zero none):=ou (l:=[])
def jv (nx:Nat) (xZ:List (Nat × Ob)) (key:Nat) (kk:IntKind) (y:Int) (x:D) (K:D->St->Prop):Option Ob->Prop
 | some o=>o.sz=0/\gY kk o.xV/\K .sS ⟨nx,zA xZ key ⟨0,tm kk o.xV y x⟩⟩
 | none=>False
@[congr] theorem Ms {nx : Nat} {xZ : List (Nat × Ob)} {key : Nat} {kk : IntKind} {y : Int} {x : D} {K : D -> St -> Prop} {o o' : Option Ob} (h : o = o') : jv nx xZ key kk y x K o = jv nx xZ key kk y x K o' := by rw [h]
theorem ZP {nx:Nat} {xZ:List (Nat × Ob)} {key:Nat} {kk:IntKind} {y:Int} {x:D} {K:D->St->Prop}:o6 ⟨nx,xZ⟩ (.yK key) (.int kk y) x K=jv nx xZ key kk y x K (St.look xZ key):=by simp only [o6,St.get];cases St.look xZ key <;> rfl
theorem pa {nx:Nat} {xZ:List (Nat × Ob)} {key:Nat} {kk:IntKind} {y:Int} {x:D} {K:D->St->Prop} {l:List (Int × D)}:jv nx xZ key kk y x K (some ⟨0,sH kk l⟩)= K .sS ⟨nx,zA xZ key ⟨0,sH kk (xl l y x)⟩⟩:=by simp only [jv,ZO];exact propext ⟨λh=>h.2.2,λh=>⟨trivial,oc kk l,h⟩⟩
theorem UR {nx:Nat} {xZ:List (Nat × Ob)} {key:Nat} {kk:IntKind} {y:Int} {x:D} {K:D->St->Prop}:jv nx xZ key kk y x K (some ⟨0,[]⟩)= K .sS ⟨nx,zA xZ key ⟨0,sH kk [(y,x)]⟩⟩:=pa (l:=[])
theorem US (zero:D):pD true zero none = .wE [zero,.bool false]:=rfl
theorem UT (zero:D) (i:Nat) (d:D):pD true zero (some (i,d))= .wE [d,.bool true]:=rfl
theorem ZR (zero:D):pD false zero none=zero:=rfl
theorem ZS (zero:D) (i:Nat) (d:D):pD false zero (some (i,d))= d:=rfl
theorem O9 {sz:Nat} {xV:List (List D)} {K:D->Prop}:lu (.sl sz xV) K=K (.int .i64 xV.length):=rfl
theorem QM {k sz n:Nat} {K:D->Prop}:lu (.yD k sz n) K=K (.int .i64 n):=rfl
theorem QN {k sz lo n:Nat} {K:D->Prop}:lu (.sub k sz lo n) K=K (.int .i64 n):=rfl
theorem QF {sz key sz' lo len:Nat} {k:IntKind} {n:Int} {K:D->Prop}:df sz (.sub key sz' lo len) (.int k n) K=(sz=sz'/\0<=n/\n<len/\K (.ref key sz (lo+n.toNat) 0)):=rfl
theorem UI {K:D->Prop}:lu .xJ K=K (.int .i64 0):=rfl
theorem QL {K:D->Prop}:lu .emp K=K (.int .i64 0):=rfl
theorem Ny {sz sz':Nat} {xV:List (List D)} {k:IntKind} {n:Int} {K:D->Prop}:df sz (.sl sz' xV) (.int k n) K=(sz=sz'/\0<=n/\n<xV.length/\K (.ptr (xV.getD n.toNat []))):=rfl
theorem QE {sz key sz' len:Nat} {k:IntKind} {n:Int} {K:D->Prop}:df sz (.yD key sz' len) (.int k n) K=(sz=sz'/\0<=n/\n<len/\K (.ref key sz n.toNat 0)):=rfl
theorem Qi {neg:Bool} {K:D->Prop}:mW neg .xJ .xJ K=K (.bool (!neg)):=rfl
theorem Qj {neg:Bool} {K:D->Prop} {a b c:Nat}:mW neg (.yD a b c) .xJ K=K (.bool neg):=rfl
theorem Qk {neg:Bool} {K:D->Prop} {a b c:Nat}:mW neg .xJ (.yD a b c) K=K (.bool neg):=rfl
theorem Ql {neg:Bool} {K:D->Prop}:mW neg .emp .xJ K=K (.bool neg):=rfl
theorem Qm {neg:Bool} {K:D->Prop}:mW neg .xJ .emp K=K (.bool neg):=rfl
theorem Qn {neg:Bool} {K:D->Prop} {sz:Nat} {e:List D} {r:List (List D)}:mW neg (.sl sz (e :: r)) .xJ K=K (.bool neg):=rfl
def PL (nx:Nat) (xZ:List (Nat × Ob)) (sz sz' bytes key n:Nat) (rows:List (List D)) (K:D->St->Prop):Option Ob->Prop
 | some ob=>sz=sz'/\ob.sz=sz/\n<=ob.xV.length/\(n+rows.length)* bytes<=140737488355328/\n+rows.length<=8000000000000/\K (.yD nx sz (n+rows.length)) ⟨nx+1,(nx,⟨sz,ob.xV.take n++rows⟩) :: zX xZ key⟩
 | none=>False
@[congr] theorem L7 {nx : Nat} {xZ : List (Nat × Ob)} {sz sz' bytes key n : Nat} {rows : List (List D)} {K : D -> St -> Prop} {o o' : Option Ob} (h : o = o') : PL nx xZ sz sz' bytes key n rows K o = PL nx xZ sz sz' bytes key n rows K o' := by rw [h]
theorem Tf {q:Bool} {nx:Nat} {xZ:List (Nat × Ob)} {sz sz' bytes key n:Nat} {rows:List (List D)} {K:D->St->Prop} :
  xk q ⟨nx,xZ⟩ sz bytes (.yD key sz' n) (some rows) K=((∀ x ∈ rows,vK x=true)/\ PL nx xZ sz sz' bytes key n rows K (St.look xZ key)):=by
 rw [Pi];simp only [St.get];cases St.look xZ key <;> rfl
theorem Tc {nx:Nat} {xZ:List (Nat × Ob)} {sz sz' bytes key n:Nat} {rows:List (List D)} {K:D->St->Prop} {sz0:Nat} {xV:List (List D)} :
  PL nx xZ sz sz' bytes key n rows K (some ⟨sz0,xV⟩)= (sz=sz'/\sz0=sz/\n<=xV.length/\(n+rows.length)* bytes<=140737488355328/\n+rows.length<=8000000000000/\K (.yD nx sz (n+rows.length)) ⟨nx+1,(nx,⟨sz,xV.take n++rows⟩) :: zX xZ key⟩):=rfl
def WY (q:Bool) (nx:Nat) (xZ:List (Nat × Ob)) (sz sz' bytes key lo n:Nat) (rows:List (List D)) (K:D->St->Prop):Option Ob->Prop
 | some ob=>q=true/\sz=sz'/\ob.sz=sz/\lo+n<=ob.xV.length/\(n+rows.length)* bytes<=140737488355328/\n+rows.length<=8000000000000 /\
  ∀ pre:List (List D),(pre = []\/pre=ob.xV.take lo)->K (.sub nx sz pre.length (n+rows.length)) ⟨nx+1,(nx,⟨sz,pre++((ob.xV.drop lo).take n++rows)⟩) :: zX xZ key⟩
 | none=>False
@[congr] theorem Mh {q : Bool} {nx : Nat} {xZ : List (Nat × Ob)} {sz sz' bytes key lo n : Nat} {rows : List (List D)} {K : D -> St -> Prop} {o o' : Option Ob} (h : o = o') : WY q nx xZ sz sz' bytes key lo n rows K o = WY q nx xZ sz sz' bytes key lo n rows K o' := by rw [h]
theorem Tg {q:Bool} {nx:Nat} {xZ:List (Nat × Ob)} {sz sz' bytes key lo n:Nat} {rows:List (List D)} {K:D->St->Prop} :
  xk q ⟨nx,xZ⟩ sz bytes (.sub key sz' lo n) (some rows) K=((∀ x ∈ rows,vK x=true)/\ WY q nx xZ sz sz' bytes key lo n rows K (St.look xZ key)):=by
 simp only [xk,St.get];cases St.look xZ key <;> rfl
theorem Wp {q:Bool} {nx:Nat} {xZ:List (Nat × Ob)} {sz sz' bytes key lo n:Nat} {rows:List (List D)} {K:D->St->Prop} {sz0:Nat} {xV:List (List D)} :
  WY q nx xZ sz sz' bytes key lo n rows K (some ⟨sz0,xV⟩)= (q=true/\sz=sz'/\sz0=sz/\lo+n<=xV.length/\(n+rows.length)* bytes<=140737488355328/\n+rows.length<=8000000000000 /\
   ∀ pre:List (List D),(pre = []\/pre=xV.take lo)->K (.sub nx sz pre.length (n+rows.length)) ⟨nx+1,(nx,⟨sz,pre++((xV.drop lo).take n++rows)⟩) :: zX xZ key⟩):=rfl
theorem UH {key sz:Nat} {xV:List (List D)} {K:D->Prop}:lu (xA key sz xV) K=K (.int .i64 xV.length):=by cases xV <;> simp [lu,xA]
theorem UC {key sz sz':Nat} {xV:List (List D)} {k:IntKind} {n:Int} {K:D->Prop}:df sz' (xA key sz xV) (.int k n) K=(sz'=sz/\0<=n/\n<xV.length/\K (.ref key sz n.toNat 0)):=by
 cases xV with
 | nil=>simp only [df,xA,μ]; simp; intro _ h1 h2; omega
 | cons e l=>simp [df,xA]; rintro rfl _ _; rfl
theorem Ym {key sz:Nat} {neg:Bool} {xV:List (List D)} {K:D->Prop}:mW neg (xA key sz xV) .xJ K=K (.bool (if neg then !xV.isEmpty else xV.isEmpty)):=by cases xV <;> cases neg <;> simp [mW,xA]
def sw : List (Nat × Nat)->Nat->Nat
 | [],k=>k
 | (a,b) :: r,k=>if k=a then b else sw r k
def tK (xV:List (List D)):Prop:=∀ e ∈ xV,D.xP e=true
theorem wU (l:List (BitVec 64)):tK (us l)= True:=eq_true (oS l)
theorem oH (l:List (List (BitVec 64))):tK (rr l)= True:=eq_true (bj l)
theorem ZV (k:IntKind) (l:List Int):tK (rows k l)= True:=eq_true (qL k l)
theorem Ue : tK []=True:=by simp [tK]
theorem v8 (a b:List (List D)):tK (a++b)= (tK a/\tK b):=by simp only [tK,List.mem_append];exact propext ⟨λh=>⟨λe he=>h e (.inl he),λe he=>h e (.inr he)⟩,λh e he=>he.elim (h.1 e) (h.2 e)⟩
theorem Ug (l:List (BitVec 64)) (i:Nat) (s:BitVec 64):tK ((us l).set i [.int .u64 (ui s)])= True:=by rw [jC,wU]
theorem bw {σ σ':St} {ρ:Nat->Nat} {a b sz:Nat} {xV:List (List D)}:vw σ σ' ρ (xA a sz xV) (xA b sz xV)= (xV = []\/(b<σ'.nx/\a=ρ b)):=by
 cases xV with
 | nil=>simp [xA,vw]
 | cons e l=>simp [xA,vw]
def MT (σ':St) (ρ:Nat->Nat) (k0:Nat):Prop:=∀ p ∈ σ'.xZ,ρ p.1≠k0
theorem pv {σ σ':St} {ρ:Nat->Nat} {k0 sz:Nat} {xV:List (List D)} (hs:0<sz) (h:MT σ' ρ k0) (hg:σ.get k0=vT sz xV) (hp:tK xV):vw σ σ' ρ (xA k0 sz xV) (.sl sz xV)= True:=by
 cases xV with
 | nil=>simp [xA,vw]
 | cons e l=> refine eq_true ?_;simp only [xA,vw];exact⟨trivial,hs,h,⟨sz,e :: l⟩,hg,rfl,Ad _,by simp,hp⟩
def NC (σ σ':St) (ρ:Nat->Nat) (as bs:List (List D)):Prop:=s9 σ σ' ρ as bs
theorem S4 {σ σ':St} {ρ:Nat->Nat} {xV:List (List D)} (h:tK xV):NC σ σ' ρ xV xV=True:=eq_true (.same h)
end
section
variable [uC]
theorem rm {σ σ':St} {ρ:Nat->Nat}:∀ {a:List D},D.xP a=true->uR σ σ' ρ a a:=by
 intro a h
 have key:∀ d:D,d.xD=true->vw σ σ' ρ d d:=by
  intro d
  refine D.rec (motive_1:=λd=>d.xD=true->vw σ σ' ρ d d) (motive_2:=λ_=>True) (motive_3:=λcs=>D.xP cs=true->uR σ σ' ρ cs cs)
   ?top ?sS ?int ?bool ?str ?sl ?xJ ?emp ?agg ?wE ?fn ?ref ?yD ?sub ?ptr ?yK ?oN ?qW ?sI ?xt trivial (λ_ _ _ _=>trivial) ?nil ?cons d
  case agg=>intro cs ih h; simp only [D.xD] at h; simp only [vw]; exact⟨trivial,ih h⟩
  case wE=>intro cs ih h; simp only [D.xD] at h; simp only [vw]; exact⟨trivial,ih h⟩
  case fn=>intro f cs ih h; simp only [D.xD] at h; simp only [vw]; exact⟨trivial,trivial,ih h⟩
  case ref=>intro k sz i off h; simp [D.xD] at h
  case yD=>intro k sz n h; simp [D.xD] at h
  case sub=>intro k sz lo n h; simp [D.xD] at h
  case yK=>intro k h; simp [D.xD] at h
  case nil=>intro _; simp [uR]
  case cons=> intro d r h1 h2 h;simp only [D.xP,Ap] at h;simp only [uR];exact⟨h1 h.1,h2 h.2⟩
  case ptr=>intro cs _ _; simp [vw]
  all_goals intros; simp [vw]
 induction a with
 | nil=>simp [uR]
 | cons d r ih=> simp only [D.xP,Ap] at h;simp only [uR];exact⟨key d h.1,ih h.2⟩
theorem l4 {σ σ':St} {ρ:Nat->Nat}:∀ {xV:List (List D)} {a b:List D},tK xV->a.length=b.length->uR σ σ' ρ a b->s9 σ σ' ρ (xV ++ [a]) (xV ++ [b])
 | [],a,b,_,hl,h=>.cons hl h .nil
 | e :: r,a,b,hp,hl,h=>.cons rfl (rm (hp e (by simp))) (l4 (λx hx=>hp x (by simp [hx])) hl h)
theorem ML {σ σ':St} {ρ:Nat->Nat} {xV:List (List D)} {a b:List D} (h:NC σ σ' ρ (xV ++ [a]) (xV ++ [b])):a.length=b.length/\uR σ σ' ρ a b:=by
 have:=(vd (show s9 σ σ' ρ (xV ++ [a]) (xV ++ [b]) from h)).2 xV.length (by simp);have e1:∀ x:List D,(xV ++ [x]).getD xV.length []=x:=by intro x; simp [List.getD]
 rw [e1,e1] at this;refine⟨this.1,?_⟩
 rcases this.2 with h | ⟨h1,h2⟩
 ·exact h
 ·rw [h1]; exact rm h2
theorem rn {σ σ':St} {ρ:Nat->Nat} {xV:List (List D)} {a b:List D} (hp:tK xV):NC σ σ' ρ (xV ++ [a]) (xV ++ [b])= (a.length=b.length/\uR σ σ' ρ a b):= propext ⟨λh=>ML h,λh=>l4 hp h.1 h.2⟩
theorem PB {σ σ':St} {ρ:Nat->Nat} {a b:List D}:NC σ σ' ρ [a] [b]=(a.length=b.length/\uR σ σ' ρ a b):=rn (xV:=[]) (by simp [tK])
theorem MM {σ σ':St} {ρ:Nat->Nat} {l:List (List (BitVec 64))} {r:List (BitVec 64)} {x:D}:NC σ σ' ρ (rr l ++ [[x]]) (rr (l ++ [r]))= uR σ σ' ρ [x] [.sl 1 (us r)]:=by rw [<- bl,rn (bj l)];simp
def yT (σ σ':St) (ρ:Nat->Nat) (p:Nat × Ob):Prop:=p.1<σ'.nx/\∃ ob,σ.get (ρ p.1)= some ob/\ob.sz=p.2.sz/\NC σ σ' ρ ob.xV p.2.xV
def kJ (σ σ':St) (ρ:Nat->Nat) (l:List (Nat × Ob)):Prop:=∀ p ∈ l,yT σ σ' ρ p
theorem yy {σ σ':St} {ρ:Nat->Nat}:kJ σ σ' ρ []=True:=by simp [kJ]
theorem cG {σ σ':St} {ρ:Nat->Nat} {p:Nat × Ob} {l:List (Nat × Ob)}:kJ σ σ' ρ (p :: l)= (yT σ σ' ρ p/\kJ σ σ' ρ l):=by simp [kJ]
theorem pk {σ σ':St} {ρ:Nat->Nat} {k sz:Nat} {xV:List (List D)} {l:List (Nat × Ob)} (hk:k<σ'.nx) (hg:σ.get (ρ k)= vT sz xV) (hp:tK xV):kJ σ σ' ρ (yV k sz xV++l)= kJ σ σ' ρ l:=by
 cases xV with
 | nil=>rfl
 | cons e r=> simp only [yV,π,θ,cG];refine propext ⟨λh=>h.2,λh=>⟨⟨hk,⟨sz,e :: r⟩,hg,rfl,.same hp⟩,h⟩⟩
theorem Yt {σ σ':St} {ρ:Nat->Nat} {k sz:Nat} {xV:List (List D)} (hk:k<σ'.nx) (hg:σ.get (ρ k)= vT sz xV) (hp:tK xV):kJ σ σ' ρ (yV k sz xV)= True:=by have:=pk (l:=[]) hk hg hp;rw [δ,yy] at this;exact this
theorem ql {sz:Nat} {xV:List (List D)} (h:xV ≠ []):vT sz xV=some ⟨sz,xV⟩:=by
 cases xV with
 | nil=>exact absurd rfl h
 | cons e r=>rfl
theorem wo {σ σ':St} {ρ:Nat->Nat} {k sz:Nat} {xV els':List (List D)} {l:List (Nat × Ob)} (hk:k<σ'.nx) (hg:σ.get (ρ k)= vT sz els') (hq:NC σ σ' ρ els' xV):kJ σ σ' ρ (yV k sz xV++l)= kJ σ σ' ρ l:=by
 cases xV with
 | nil=>rfl
 | cons e r=>
  have hne:els' ≠ []:=by rintro rfl;have:=(vd (show s9 σ σ' ρ [] (e :: r) from hq)).1;simp at this
  simp only [yV,π,θ,cG];refine propext ⟨λh=>h.2,λh=>⟨⟨hk,⟨sz,els'⟩,?_,rfl,hq⟩,h⟩⟩;rw [hg,ql hne]
theorem x8 {σ σ':St} {ρ:Nat->Nat} {k sz:Nat} {xV els':List (List D)} (hk:k<σ'.nx) (hg:σ.get (ρ k)= vT sz els') (hq:NC σ σ' ρ els' xV):kJ σ σ' ρ (yV k sz xV)= True:=by have:=wo (l:=[]) hk hg hq;rw [δ,yy] at this;exact this
def PX (ks:List Nat) (l:List (Nat × Ob)):Prop:=∀ p ∈ l,p.1 ∈ ks
theorem Vv {ks:List Nat}:PX ks []=True:=by simp [PX]
theorem XX {ks:List Nat} {p:Nat × Ob} {l:List (Nat × Ob)}:PX ks (p :: l)= (p.1 ∈ ks/\PX ks l):=by simp [PX]
theorem Xa {ks:List Nat} {k sz:Nat} {xV:List (List D)} {l:List (Nat × Ob)} (h:k ∈ ks):PX ks (yV k sz xV++l)= PX ks l:=by
 cases xV with
 | nil=>rfl
 | cons e r=>simp [yV,XX,h]
theorem UD {ks:List Nat} {k sz:Nat} {xV:List (List D)} (h:k ∈ ks):PX ks (yV k sz xV)= True:=by have:=Xa (sz:=sz) (xV:=xV) (l:=[]) h;rw [δ,Vv] at this;exact this
def bB (ρ:Nat->Nat) (k0:Nat) (l:List (Nat × Ob)):Prop:=∀ p ∈ l,ρ p.1≠k0
theorem NO {σ':St} {ρ:Nat->Nat} {k0:Nat}:MT σ' ρ k0=bB ρ k0 σ'.xZ:=propext Iff.rfl
theorem fb {ρ:Nat->Nat} {k0:Nat}:bB ρ k0 []=True:=by simp [bB]
theorem nh {ρ:Nat->Nat} {k0:Nat} {p:Nat × Ob} {l:List (Nat × Ob)}:bB ρ k0 (p :: l)= (ρ p.1≠k0/\bB ρ k0 l):=by simp [bB]
theorem nj {ρ:Nat->Nat} {k0 k sz:Nat} {xV:List (List D)} {l:List (Nat × Ob)}:bB ρ k0 (yV k sz xV++l)= ((xV = []\/ρ k≠k0)/\ bB ρ k0 l):=by
 cases xV with
 | nil=>simp [yV]
 | cons e r=>simp [yV,nh]
theorem YY {ρ:Nat->Nat} {k0 k sz:Nat} {xV:List (List D)}:bB ρ k0 (yV k sz xV)= (xV = []\/ρ k≠k0):=by have:=nj (ρ:=ρ) (k0:=k0) (k:=k) (sz:=sz) (xV:=xV) (l:=[]);rw [δ,fb,and_true] at this;exact this
theorem xT.sZ {C:Cx} {f f':Fr} {σ σ':St} (l:List (Nat × Nat)) (ks:List Nat) (hn:C.n0<=σ'.nx) (h0:∀ p ∈ l,C.n0<=p.1) (hd:(ks.map (sw l)).Nodup)
  (h:PX ks σ'.xZ/\kJ σ σ' (sw l) σ'.xZ/\YO σ σ' (sw l) f f'):xT C f σ f' σ':=by
 obtain⟨hk,hs,hf⟩:=h
 refine xT.view (sw l) hn ?_ hf ?_ ?_
 ·intro k hk
  induction l with
  | nil=>rfl
  | cons p l ih=>
   obtain⟨a,b⟩:=p;have:C.n0<=a:=h0 (a,b) (by simp);simp only [sw];rw [if_neg (by omega)];have hm:∀ p ∈ l,C.n0<=p.1:=λp hp=>h0 p (by simp [hp]);clear ih hd hs hf h0
   induction l with
   | nil=>rfl
   | cons q l ih=> obtain⟨c,d⟩:=q;have:C.n0<=c:=hm (c,d) (by simp);simp only [sw];rw [if_neg (by omega)];exact ih λp hp=>hm p (by simp [hp])
 ·intro p hp;obtain⟨h1,ob,h2,h3,h4⟩:=hs p hp;exact⟨h1,ob,h2,h3,h4⟩
 ·intro p hp q hq e;have h1:=hk p hp;have h2:=hk q hq
  have inj:∀ (ks:List Nat),(ks.map (sw l)).Nodup->∀ a ∈ ks,∀ b ∈ ks,sw l a=sw l b->a=b:=by
   intro ks
   induction ks with
   | nil=>intro _ a ha; simp at ha
   | cons x ks ih=>
    intro hd a ha b hb e;simp only [ζ,List.nodup_cons,ε,not_exists,not_and] at hd
    rcases η.1 ha with h1 | h1 <;> rcases η.1 hb with h2 | h2
    ·rw [h1,h2]
    ·rw [h1] at e; exact absurd e.symm (hd.1 b h2)
    ·rw [h2] at e; exact absurd e (hd.1 a h1)
    ·exact ih hd.2 a h1 b h2 e
  exact inj ks hd _ h1 _ h2 e
theorem oK.sZ {n0:Nat} {σ σ':St} {d d':D} (l:List (Nat × Nat)) (ks:List Nat) (hn:n0<=σ'.nx) (h0:∀ p ∈ l,n0<=p.1) (hd:(ks.map (sw l)).Nodup)
  (h:PX ks σ'.xZ/\kJ σ σ' (sw l) σ'.xZ/\vw σ σ' (sw l) d d'):oK n0 σ d σ' d':=by
 obtain⟨hk,hs,hf⟩:=h
 refine .inr ⟨sw l,hn,?_,hf,?_,?_⟩
 ·intro k hk;have hm:∀ p ∈ l,n0<=p.1:=h0;clear hd hs hf h0
  induction l with
  | nil=>rfl
  | cons q l ih=> obtain⟨c,d⟩:=q;have:n0<=c:=hm (c,d) (by simp);simp only [sw];rw [if_neg (by omega)];exact ih λp hp=>hm p (by simp [hp])
 ·intro p hp;obtain⟨h1,ob,h2,h3,h4⟩:=hs p hp;exact⟨h1,ob,h2,h3,h4⟩
 ·intro p hp q hq e;have h1:=hk p hp;have h2:=hk q hq
  have inj:∀ (ks:List Nat),(ks.map (sw l)).Nodup->∀ a ∈ ks,∀ b ∈ ks,sw l a=sw l b->a=b:=by
   intro ks
   induction ks with
   | nil=>intro _ a ha; simp at ha
   | cons x ks ih=>
    intro hd a ha b hb e;simp only [ζ,List.nodup_cons,ε,not_exists,not_and] at hd
    rcases η.1 ha with h1 | h1 <;> rcases η.1 hb with h2 | h2
    ·rw [h1,h2]
    ·rw [h1] at e; exact absurd e.symm (hd.1 b h2)
    ·rw [h2] at e; exact absurd e (hd.1 a h1)
    ·exact ih hd.2 a h1 b h2 e
  exact inj ks hd _ h1 _ h2 e
def jz (C:Cx) (Q:Exit->Fr->St->Prop) (e:Exit) (f:Fr) (σ:St):Prop:=∃ f' σ',xT C f σ f' σ'/\Q e f' σ'
theorem jz.yJ {C:Cx} {Q:Exit->Fr->St->Prop} {e:Exit} {f:Fr} {σ:St} (h:Q e f σ):jz C Q e f σ:=⟨f,σ,xT.refl,h⟩
theorem jz.go {C:Cx} {Q:Exit->Fr->St->Prop} {e:Exit} {f:Fr} {σ:St} (f':Fr) (σ':St) (hw:xT C f σ f' σ') (h:Q e f' σ'):jz C Q e f σ:=⟨f',σ',hw,h⟩
theorem jl {C:Cx} {dc:DC} {f:Fr} {σ:St} {Q:Exit->Fr->St->Prop} (h:wpS C dc f σ (jz C Q)):wpS C dc f σ Q:=by intro code hc E a w G;refine wpIn_mono (h code hc E a w G) λe a' w' hh=>?_;obtain⟨f1,σ1,G1,f2,σ2,hw,hq⟩:=hh;exact⟨f2,σ2,hw E a' w' G1,hq⟩
theorem Qc {C:Cx} (hmx:C.P.follows .mixedOrders=true) {it:Nat} {m:uF} {out nx more next pair:Nat} {rest:List xB} {code:DC} {Q:Exit->Fr->St->Prop} {f:Fr} {σ:St} (key:Nat) (xV:List (List D)) (hm:qE f m = .yK key) (hob:σ.get key=some ⟨0,xV⟩)
  {α:Type} (g:List Nat->α->Fr) (s:List Nat->α->St) (J:List Nat->α->Prop) (a0:α) (h0:J [] a0)
  (hw:∀ b,xT { C with n0:=max C.n0 (key+1) } ((it,.xt b) :: f) σ ((it,.xt b) :: g [] a0) (s [] a0))
  (hkey:∀ seen a,J seen a->(s seen a).get key=some ⟨0,xV⟩)
  (done:∀ b seen a,J seen a->seen.Nodup->(∀ j ∈ seen,j<xV.length)->seen.length=xV.length->Q .normal ((more,.top) :: (nx,.top) :: (it,.xt b) :: g seen a) (s seen a))
  (round:∀ b seen a i,J seen a->seen.Nodup->(∀ j ∈ seen,j<xV.length)->i<xV.length->i ∉ seen ->
   bN { C with n0:=max C.n0 (key+1) } rest (ur { C with n0:=max C.n0 (key+1) } code out next (λf' σ'=>∃ a',J (seen ++ [i]) a'/\f'=(it,.xt b) :: g (seen ++ [i]) a'/\σ'=s (seen ++ [i]) a') Q)
    ((pair,.wE (xV.getD i [])) :: (more,.top) :: (nx,.top) :: (it,.xt b) :: g seen a) (s seen a)) (hrd:C.rd=none:=by rfl) :
  si C it m out nx more next pair rest code Q f σ:=by
 refine⟨key,xV,hrd,hm,hob,λb=>⟨λseen f σ=>∃ a,J seen a/\f=(it,.xt b) :: g seen a/\σ=s seen a,⟨_,_,hw b,a0,h0,rfl,rfl⟩,?_,?_⟩⟩
 ·rintro seen f σ ⟨a,hj,rfl,rfl⟩;exact⟨by simp [Fr.get],hkey seen a hj⟩
 ·rintro seen f σ ⟨a,hj,rfl,rfl⟩ hnd hlt;refine⟨λhl=>done b seen a hj hnd hlt hl,λi hi hni=>?_⟩;have h:=round b seen a i hj hnd hlt hi hni;rw [iU,fC] at h;exact h
theorem UU {C:Cx} (hmx:C.P.follows .mixedOrders=true) {code:DC} {out next:Nat} {Q:Exit->Fr->St->Prop} {f:Fr} {σ:St} {α:Type} {J:α->Prop} {g:α->Fr} {s:α->St}
  (h:mw C code (rE next (oJ (λf' σ'=>∃ a',J a'/\xT C f' σ' (g a') (s a')) (rE out Q))) f σ):ur C code out next (λf' σ'=>∃ a',J a'/\f'=g a'/\σ'=s a') Q f σ:=by
 have h2:=xL hmx h;refine jl (l5 h2 λe f1 σ1 hq=>?_)
 cases e with
 | normal=> obtain⟨a',hj',hwk⟩:=hq;exact⟨_,_,hwk,a',hj',rfl,rfl⟩
 | exit j=>
  simp only [rE,oJ] at hq
  by_cases hj2:j=next
  ·rw [if_pos hj2] at hq;obtain⟨a',hj',hwk⟩:=hq;refine⟨_,_,hwk,?_⟩;simp only [rE,oJ];rw [if_pos hj2];exact⟨a',hj',rfl,rfl⟩
  ·rw [if_neg hj2] at hq;refine⟨f1,σ1,xT.refl,?_⟩;simp only [rE,oJ];rw [if_neg hj2];exact hq
 | goto l=>exact⟨f1,σ1,xT.refl,hq⟩
 | ret=>exact⟨f1,σ1,xT.refl,hq⟩
 | panic ch=>exact⟨f1,σ1,xT.refl,hq⟩
 | outgrown=>exact⟨f1,σ1,xT.refl,hq⟩
theorem wH {C:Cx} {dc:DC} {f:Fr} {σ:St} {Q:Exit->Fr->St->Prop} {α:Type} (g:α->Fr) (s:α->St) (I:α->Prop) (m:α->Nat) (a0:α) (h0:I a0) (hw:xT C f σ (g a0) (s a0))
  (round:∀ a,I a->wpS C dc (g a) (s a) (oJ (λf' σ'=>∃ a',I a'/\xT C f' σ' (g a') (s a')/\ m a'<m a) (jz C Q))):wpS C (.loop dc) f σ Q:=
 jl (xO g s I m a0 h0 hw round)
end
theorem Mw : ((0:Nat):Int)= 0:=rfl
theorem zZ {k:Nat} (h:k<9223372036854775807):IntKind.i64.wrap ((k:Int)+ 1)= ((k+1:Nat):Int):=by rw [wrap_i64 (by omega)]; omega
section
variable [uC]
theorem Jp (f:Fr) (n:Nat):qE f (.t n)= Fr.get f n:=rfl
theorem Jo (f:Fr) (d:D):qE f (.c d)= d:=rfl
theorem RC (f:Fr) (t:Nat) (d:D):Fr.put f (some t) d=(t,d) :: f:=rfl
theorem RB (f:Fr) (d:D):Fr.put f none d=f:=rfl
theorem get_nil (n:Nat):Fr.get [] n = .top:=rfl
theorem QB (t:Nat) (d:D) (r:Fr) (n:Nat):Fr.get ((t,d) :: r) n=if t=n then d else Fr.get r n:=rfl
theorem look_nil (k:Nat):St.look [] k=none:=rfl
theorem xX (j:Nat) (o:Ob) (r:List (Nat × Ob)) (k:Nat):St.look ((j,o) :: r) k=if j=k then some o else St.look r k:=rfl
theorem RY (k:Nat) (o:Ob):zA [] k o = []:=rfl
theorem pB (j:Nat) (o:Ob) (r:List (Nat × Ob)) (k:Nat) (o':Ob):zA ((j,o) :: r) k o'=if j=k then(j,o') :: r else(j,o) :: zA r k o':=rfl
theorem Z8 (k:Nat):zX [] k = []:=rfl
theorem Yd (j:Nat) (o:Ob) (r:List (Nat × Ob)) (k:Nat):zX ((j,o) :: r) k=if j=k then zX r k else(j,o) :: zX r k:=rfl
theorem Y1 (n:Nat) (l:List (Nat × Ob)) (k:Nat):St.get ⟨n,l⟩ k=St.look l k:=rfl
theorem set_mk (n:Nat) (l:List (Nat × Ob)) (k:Nat) (o:Ob):St.set ⟨n,l⟩ k o=⟨n,zA l k o⟩:=rfl
theorem Ll (n:Nat) (l:List (Nat × Ob)) (o:Ob):St.new ⟨n,l⟩ o=⟨n+1,(n,o) :: l⟩:=rfl
theorem Q4 (n:Nat) (l:List (Nat × Ob)) (k:Nat):St.erase ⟨n,l⟩ k=⟨n,zX l k⟩:=rfl
theorem Um (σ:St) (sz sz':Nat) (xV:List (List D)):rowsOf σ sz (.sl sz' xV)= if sz=sz' then some xV else none:=rfl
theorem Yo (σ:St) (sz:Nat):rowsOf σ sz .xJ=some []:=rfl
theorem Zg (σ:St) (sz:Nat):rowsOf σ sz .emp=some []:=rfl
def zD :=γ @SO (γ @PF (γ @SL (γ @PH (γ @SI (γ @VB (γ @SK (γ @SN (γ @SJ (γ @PG (γ @VC (γ @Xv (γ @Uc (γ @R4 (γ @UX (γ @No @Np)))))))))))))))
def zT :=γ @Jp (γ @Jo (γ @RC (γ @RB (γ @get_nil (γ @QB (γ @look_nil (γ @xX (γ @RY (γ @pB (γ @Z8 (γ @Yd (γ @Y1 (γ @set_mk (γ @Ll (γ @Q4 (γ @Um (γ @Yo (γ @Zg (γ @Int.cast_ofNat_Int (γ @Mw (γ @Int.toNat_zero (γ @Int.toNat_one (γ @beq_self_eq_true.{0} (γ @bne_self_eq_false.{0} (γ @Bool.false_eq_true (γ @Q3 (γ @QA (γ @Nn (γ @Ps (γ @Wq (γ @Ph (γ @Tf (γ @Tc (γ @Tg (γ @Wp (γ @Ri (γ @V2 (γ @V1 (γ @UH (γ @O9 (γ @QM (γ @QN (γ @UI (γ @QL (γ @UC (γ @Ny (γ @QE (γ @QF (γ @Ym (γ @Qi (γ @Qj (γ @Qk (γ @Ql (γ @Qm (γ @Qn (γ @UL (γ @ZI (γ @ZH (γ @UK (γ @Qh (γ @Qg (γ @OH (γ @ZK (γ @ZL (γ @ou (γ @UM (γ @ZP (γ @pa (γ @UR (γ @US (γ @UT (γ @ZR (γ @ZS (γ @yQ (γ @fR (γ @vy (γ @u6 (γ @je (γ @ph (γ @y8 (γ @Option.or_none.{0} (γ @List.length_set.{0} (γ @Ya (γ @UZ (γ @Nat.lt_irrefl (γ @zK (γ @xH (γ @WV (γ @true_and (γ @and_true (γ @ν.{0} (γ @List.getD_cons_succ.{0} (γ @Ac.{0} (γ @μ.{0} (γ @Bool.not_true (γ @Bool.not_false (γ @ζ.{0,0} (γ @List.map_nil.{0,0} (γ @θ.{0} (γ @π.{0} (γ @δ.{0} (γ @Ub (γ @Ua (γ @List.take_succ_cons.{0} (γ @List.take_zero.{0} (γ @List.drop_succ_cons.{0} (γ @List.drop_zero.{0} (γ @false_implies (γ @or_true (γ @true_or (γ @Ad (γ @Ar (γ @and_self (γ @PP (γ @PQ (γ @JQ (γ @JR (γ @MC (γ @KA (γ @Sv (γ @V5 (γ @MB (γ @MJ (γ @ME (γ @MG (γ @MH (γ @MF (γ @Su (γ @MD (γ @MA (γ @not_false_eq_true (γ @Tq (γ @Tv (γ @Tp (γ @Wt (γ @Tu (γ @Pw (γ @Wy (γ @To (γ @Tn (γ @Pv (γ @Tt (γ @Ts (γ @Wu (γ @Wz (γ @Ww (γ @Wv (γ @OT (γ @Qw (γ @OY (γ @Lr (γ @R2 (γ @OS (γ @Lq (γ @OW (γ @OU (γ @OV (γ @Qz (γ @R0 (γ @Qx (γ @Qy (γ @ξ.{0} (γ @List.all_nil.{0} (γ @Bool.and_true (γ @Bool.and_self (γ @List.set_cons_zero.{0} (γ @List.set_cons_succ.{0} (γ @Ae (γ @Nat.add_zero (γ @Nat.zero_lt_succ (γ @Nat.lt_add_one (γ @decide_true (γ @decide_false (γ @gt_iff_lt.{0} (γ @ge_iff_le.{0} (γ @wO (γ @Ot (γ @Bool.true_and (γ @decide_eq_true_eq (γ @decide_eq_false_iff_not (γ @vU (γ @nw (γ @vV (γ @nz (γ @Ur (γ @ja (γ @bt (γ @bl (γ @jZ (γ @yu (γ @cu (γ @br (γ @κ.{0} (γ @List.cons_ne_nil.{0} (γ @List.take_length.{0} (γ @Option.map_some.{0,0} (γ @Option.map_none.{0,0} (γ @Ab.{0} (γ @Ss @WI)))))))))))))))))))))))))))))))))))))))))))))))))))))))))))))))))))))))))))))))))))))))))))))))))))))))))))))))))))))))))))))))))))))))))))))))))))))))))))))))))))))))))))))))))))))))))))))))))))))))
def zR :=γ @Mw (γ @Xa (γ @UD (γ @XX (γ @Vv (γ @pk (γ @Yt (γ @wo (γ @x8 (γ @cG (γ @yy (γ @MM (γ @rn (γ @S4 (γ @PB (γ @bw (γ @pv (γ @NO (γ @nj (γ @YY (γ @nh (γ @fb (γ @wU (γ @oH (γ @ZV (γ @Ue (γ @v8 (γ @Ug (γ @yQ (γ @fR (γ @Option.or_none.{0} (γ @Nat.zero_lt_succ (γ @Nat.lt_add_one (γ @Option.some.injEq.{0} (γ @and_true (γ @true_and (γ @and_self (γ @or_true (γ @true_or (γ @not_false_eq_true (γ @η.{0} (γ @κ.{0} (γ @List.not_mem_nil.{0} (γ @D.int.injEq (γ @D.bool.injEq (γ @D.sl.injEq (γ @D.ref.injEq (γ @Ac.{0} (γ @μ.{0} (γ @bt (γ @ja (γ @bl (γ @Ae (γ @br (γ @cu (γ @Ss (γ @WI (γ @jZ @yu)))))))))))))))))))))))))))))))))))))))))))))))))))))))))
end
end Go.Pd
namespace Go.Pd
open Go Go.ChangeShapes Go.WideShapes Go.RowKit
def sb : List (Nat × Nat)->Nat->Nat->Bool
 | [],o,n=>o==n
 | (a,s) :: r,o,n=>(a==o)&& sb r (o+s) n
def qT (P:Program):Nat->TypeId->Bool
 | 0,_=>false
 | n+1,t=>match P.underlying t with
  | some .bool=>true
  | some (.int _)=>true
  | some .string=>true
  | some (.slice e)=>qT P n e&&decide (0<P.cellsOf e)
  | some (.struct fs)=>(fs.toList.all λf=>qT P n f.type)&& sb (fs.toList.map λf=>(f.offset,P.cellsOf f.type)) 0 (P.cellsOf t)
  | some (.array k e)=>qT P n e&&(P.cellsOf t==k*P.cellsOf e)
  | _=>false
mutual
def zF (P:Program):Nat->TypeId->List D->Prop
 | 0,_,_=>False
 | n+1,t,ds=>match P.underlying t with
  | some .bool=>∃ b,ds = [.bool b]
  | some (.int k)=>∃ i,ds = [.int k i]
  | some .string=>∃ s,ds = [.str s]
  | some (.slice e)=>∃ xV,ds = [.sl (P.cellsOf e) xV]/\∀ row ∈ xV,zF P n e row
  | some (.struct fs)=>pR P n (fs.toList.map λf=>f.type) ds
  | some (.array k e)=>pR P n (List.replicate k e) ds
  | _=>False
def pR (P:Program):Nat->List TypeId->List D->Prop
 | _,[],ds=>ds = []
 | n,f :: fs,ds=>∃ a b,ds=a++b/\zF P n f a/\pR P n fs b
end
def cL (P:Program) (n:Nat) (t:TypeId) (d:D):Prop:=
 match P.underlying t with
 | some (.struct _)=>∃ ds,d = .agg ds/\zF P n t ds
 | some (.array _ _)=>∃ ds,d = .agg ds/\zF P n t ds
 | _=>zF P n t [d]
def bn (P:Program) (n:Nat):List TypeId->List D->Prop
 | [],as=>as = []
 | t :: ts,as=>∃ a r,as=a :: r/\cL P n t a/\bn P n ts r
def tv (w:World) (cs:List Value) (ds:List D):Prop:=ds.length=cs.length/\∀ j,j<ds.length->RP (λ_=>False) w (cs.getD j undef) (ds.getD j .top)
theorem wj {w:World} {a b:List Value} {x y:List D} (h:tv w a x) (h':tv w b y):tv w (a++b) (x++y):=by
 refine⟨by simp [h.1,h'.1],λj hj=>?_⟩;simp only [List.getD]
 by_cases hx:j<x.length
 ·rw [υ hx,υ (by rw [<- h.1]; exact hx)];exact h.2 j hx
 ·have h1:=h.1;rw [τ (by omega),τ (by omega),<- h.1];rw [Ab] at hj;exact h'.2 (j-x.length) (by omega)
section
variable {H : Type} {nY : TypeId × Value -> H} {P : Program} {w : World} {sp : Nat -> Bool} {held : Bool}
theorem ft {n:Nat} (key:∀ (t:TypeId) (cs:List Value) (fuel:Nat) (x:DataW H × List MemPlace),qT P n t=true->DataW.trod nY P w 0 sp held fuel t cs=some x->∃ ds,tv w cs ds/\zF P n t ds) {cs:List Value} {fuel:Nat} :
  ∀ (fl:List Field) (o:Nat),(fl.all λf=>qT P n f.type)= true->sb (fl.map λf=>(f.offset,P.cellsOf f.type)) o cs.length=true ->
   (∀ f ∈ fl,∃ x,DataW.trod nY P w 0 sp held fuel f.type ((cs.drop f.offset).take (P.cellsOf f.type))= some x)->∃ ds,tv w (cs.drop o) ds/\pR P n (fl.map λf=>f.type) ds
 | [],o,_,hc,_=>by simp only [List.map_nil,sb,beq_iff_eq] at hc;subst hc;exact⟨[],by simp [tv],by simp [pR]⟩
 | f :: fl,o,hp,hc,hx=>by
  simp only [ξ,Ap] at hp;simp only [ζ,sb,Ap,beq_iff_eq] at hc;obtain⟨x,h1⟩:=hx f (by simp);obtain⟨a,ha,hsa⟩:=key _ _ _ _ hp.1 h1;obtain⟨b,hb,hsb⟩:=ft key fl (o+P.cellsOf f.type) hp.2 hc.2 λg hg=>hx g (by simp [hg]);refine⟨a++b,?_,by simp only [ζ,pR]; exact⟨a,b,rfl,hsa,hsb⟩⟩;rw [hc.1] at ha
  have e:cs.drop o=(cs.drop o).take (P.cellsOf f.type)++ cs.drop (o+P.cellsOf f.type):=by rw [<- List.drop_drop,χ]
  rw [e];exact wj ha hb
theorem SU {n:Nat} (key:∀ (t:TypeId) (cs:List Value) (fuel:Nat) (x:DataW H × List MemPlace),qT P n t=true->DataW.trod nY P w 0 sp held fuel t cs=some x->∃ ds,tv w cs ds/\zF P n t ds) {cs:List Value} {fuel:Nat} {e:TypeId} (hp:qT P n e=true) :
  ∀ (k o:Nat),cs.length=(o+k)* P.cellsOf e ->
   (∀ i,o<=i->i<o+k->∃ x,DataW.trod nY P w 0 sp held fuel e ((cs.drop (i*P.cellsOf e)).take (P.cellsOf e))= some x)->∃ ds,tv w (cs.drop (o*P.cellsOf e)) ds/\pR P n (List.replicate k e) ds
 | 0,o,hl,_=>⟨[],by rw [List.drop_eq_nil_of_le (by rw [hl]; simp)]; simp [tv],by simp [pR]⟩
 | k+1,o,hl,hx=>by
  obtain⟨x,h1⟩:=hx o (Ad _) (by omega);obtain⟨a,ha,hsa⟩:=key _ _ _ _ hp h1;obtain⟨b,hb,hsb⟩:=SU key hp k (o+1) (by rw [hl]; congr 1; omega) λi h1 h2=>hx i (by omega) (by omega);refine⟨a++b,?_,by simp only [List.replicate_succ,pR]; exact⟨a,b,rfl,hsa,hsb⟩⟩
  have e1:cs.drop (o*P.cellsOf e)= (cs.drop (o*P.cellsOf e)).take (P.cellsOf e)++ cs.drop ((o+1)* P.cellsOf e):=by rw [Nat.succ_mul,<- List.drop_drop,χ]
  rw [e1];exact wj ha hb
theorem uw : ∀ (n:Nat) (t:TypeId) (cs:List Value) (fuel:Nat) (x:DataW H × List MemPlace),qT P n t=true->DataW.trod nY P w 0 sp held fuel t cs=some x->∃ ds,tv w cs ds/\zF P n t ds
 | 0,t,cs,fuel,x,hp,_=>by simp [qT] at hp
 | n + 1,t,cs,fuel,x,hp,h=>by
  unfold qT at hp;unfold zF
  split at hp
  ·rename_i hu;obtain⟨b,rfl,_⟩:=DataW.trod_bool hu h;exact⟨[.bool b],⟨rfl,λj hj=>by simp at hj; subst hj; exact .bool b⟩,⟨b,rfl⟩⟩
  ·rename_i k hu;obtain⟨i,rfl,_,hw⟩:=DataW.trod_int hu h;refine⟨[.int k i],⟨rfl,λj hj=>?_⟩,⟨i,rfl⟩⟩;simp at hj; subst hj;simp only [Lit.wf,Ap,decide_eq_true_eq] at hw;exact .int hw
  ·rename_i hu;obtain⟨s,rfl,_,hs⟩:=DataW.trod_string hu h;exact⟨[.str s],⟨rfl,λj hj=>by simp at hj; subst hj; exact .str hs⟩,⟨s,rfl⟩⟩
  ·rename_i e hu;simp only [Ap,decide_eq_true_eq] at hp
   rcases Deep.open_slice hu h with ⟨rfl,_⟩ | ⟨a,len,cap,m,fu,Dd,Pl,rfl,_,hl,hm,hmm,_,hx⟩
   ·exact⟨[.sl (P.cellsOf e) []],⟨rfl,λj hj=>by simp at hj; subst hj; exact .mq none 0 _ (λ_=>rfl)⟩,⟨[],rfl,by simp⟩⟩
   ·have hle:len<=m:=by rw [hmm]; split <;> omega
    by_cases h0:len=0
    ·subst h0;exact⟨[.sl (P.cellsOf e) []],⟨rfl,λj hj=>by simp at hj; subst hj; exact .mq (some a) cap _ (λh=>by cases h)⟩,⟨[],rfl,by simp⟩⟩
    ·obtain⟨f,hf⟩:=Deep.choose_lt (α:=List Value × List D) (n:=len) (p:=λi y=>w.cells? 0 (a.add (i*P.cellsOf e)) (P.cellsOf e)= some y.1/\tv w y.1 y.2/\zF P n e y.2) λi hi=>by obtain⟨cs',h1,h2⟩:=hx i (by omega);obtain⟨ds,h3,h4⟩:=uw n e cs' fu _ hp.1 h2;exact⟨(cs',ds),h1,h3,h4⟩
     have hcells:∀ i,i<len->∀ j,j<P.cellsOf e->w.cell? ((a.add (i*P.cellsOf e)).add j)= some ((f i).1.getD j undef):=by intro i hi j hj;obtain⟨_,h2,h3⟩:=World.cells?_some (hf i hi).1;rw [h3 j hj];simp [List.getD,show j<(f i).1.length by omega]
     have hlen:∀ i,i<len->(f i).1.length=P.cellsOf e:=λi hi=>(World.cells?_some (hf i hi).1).2.1
     have hspot:a.spot=none:=by have:=World.cell?_spot (hcells 0 (by omega) 0 hp.2);simpa [Addr.add] using this
     obtain⟨b,off,spot⟩:=a;simp only at hspot;subst hspot
     have hadd:∀ i j,((⟨b,off,none⟩:Addr).add i).add j=⟨b,off+i+j,none⟩:=by
      intro i j;rw [Deep.add_add];unfold Addr.add
      by_cases h:i+j=0
      ·have h1:i=0:=by omega
       have h2:j=0:=by omega
       subst h1; subst h2; rfl
      ·rw [if_neg h]; simp [Nat.add_assoc]
     have xV:∀ i,i<len->((List.range len).map λi=>(f i).2).getD i []=(f i).2:=by intro i hi;simp [List.getD,hi]
     refine⟨[.sl (P.cellsOf e) ((List.range len).map λi=>(f i).2)],⟨rfl,λj hj=>?_⟩,⟨_,rfl,?_⟩⟩
     ·simp at hj; subst hj;simp only [ν]
      have:=RP.sl (M:=λ_=>False) (w:=w) (b:=b) (off:=off) (cap:=cap) (sz:=P.cellsOf e) (xV:=(List.range len).map λi=>(f i).2) (λi j=>(f i).1.getD j undef) hp.2 (λh=>h) (by simpa using hl) hm ?_ ?_ ?_
      ·simpa using this
      ·intro x hx';simp only [ε,List.mem_range] at hx';obtain⟨i,hi,rfl⟩:=hx';rw [(hf i hi).2.1.1,hlen i hi]
      ·intro i hi j hj;have hi':i<len:=by simpa using hi
       have:=hcells i hi' j hj;rw [hadd] at this;exact this
      ·intro i hi j hj;have hi':i<len:=by simpa using hi
       rw [xV i hi'];exact(hf i hi').2.1.2 j (by rw [(hf i hi').2.1.1,hlen i hi']; exact hj)
     ·intro row hrow;simp only [ε,List.mem_range] at hrow;obtain⟨i,hi,rfl⟩:=hrow;exact(hf i hi).2.2
  ·rename_i fs hu;simp only [Ap] at hp;obtain⟨xs,n',_,_,hlen,hsz,hf⟩:=DataW.trod_struct hu h;rw [<- hlen] at hp
   obtain⟨ds,h1,h2⟩:=ft (λt cs fuel x=>uw n t cs fuel x) (fuel:=n') fs.toList 0 hp.1 hp.2 λg hg=>by
    obtain⟨i,hi,rfl⟩:=Aa hg;have hi':i<fs.size:=by simpa using hi
    have:=hf i fs[i] (by simp [hi']);refine⟨xs[i]'(by omega),?_⟩;simp only [Array.getElem_toList];rw [this];simp [show i<xs.length by omega]
   exact⟨ds,by simpa using h1,h2⟩
  ·rename_i k e hu;simp only [Ap,beq_iff_eq] at hp;obtain⟨xs,m,_,_,hlen,hxs,hf⟩:=DataW.trod_array hu h
   obtain⟨ds,h1,h2⟩:=SU (λt cs fuel x=>uw n t cs fuel x) (fuel:=m) hp.1 k 0 (by rw [hlen,hp.2]; simp) λi _ hi=>by have:=hf i (by omega);rw [this];simp [show i<xs.length by omega]
   exact⟨ds,by simpa using h1,h2⟩
  ·cases hp
end
section
variable {H : Type} {nY : TypeId × Value -> H} {P : Program} {w : World} {sp : Nat -> Bool} {held : Bool}
theorem u9 {r:Reach} {b:Nat} {t:TypeId} {v:Value} {k:Nat} {e:TypeId} (ht:P.underlying t=some (.array k e)) (h:Value.okWide P w r b t v):∃ cs,v = .agg cs/\cs.size=P.cellsOf t:=by simp only [Value.okWide,ht] at h;obtain⟨cs,h1,h2,_⟩:=h;exact⟨cs,h1,h2⟩
theorem LM {n:Nat} {b:Nat} {t:TypeId} {v:Value} {d:DataW H} {ps:List MemPlace} (hp:qT P n t=true) (hv:Value.okWide P w .any b t v) (h:DataW.Trod nY P w 0 sp held t v d ps):∃ a,RP (λ_=>False) w v a/\cL P n t a:=by
 obtain⟨fuel,h⟩:=h;obtain⟨ds,h1,h2⟩:=uw n t _ fuel _ hp h;unfold cL
 split
 ·rename_i fs hu;obtain⟨cs,rfl,_⟩:=okWide_struct hu hv;refine⟨.agg ds,.agg (by rw [h1.1]; rfl) λj hj=>?_,ds,rfl,h2⟩;have:=h1.2 j hj
  have e:(Value.agg cs).cells.toList.getD j undef=cs.getD j undef:=by simp [Value.cells,List.getD,Array.getD];by_cases hj:j<cs.size <;> simp [hj]
  rw [e] at this;exact this
 ·rename_i k e hu;obtain⟨cs,rfl,_⟩:=u9 hu hv;refine⟨.agg ds,.agg (by rw [h1.1]; rfl) λj hj=>?_,ds,rfl,h2⟩;have:=h1.2 j hj
  have e:(Value.agg cs).cells.toList.getD j undef=cs.getD j undef:=by simp [Value.cells,List.getD,Array.getD];by_cases hj:j<cs.size <;> simp [hj]
  rw [e] at this;exact this
 ·rename_i hns hna
  have one:∃ x,ds = [x]:=by
   cases n with
   | zero=>simp [qT] at hp
   | succ n=>
    unfold zF at h2
    split at h2
    ·obtain⟨b,rfl⟩:=h2; exact⟨_,rfl⟩
    ·obtain⟨b,rfl⟩:=h2; exact⟨_,rfl⟩
    ·obtain⟨b,rfl⟩:=h2; exact⟨_,rfl⟩
    ·obtain⟨b,rfl,_⟩:=h2; exact⟨_,rfl⟩
    ·rename_i fs hu; exact absurd hu (hns fs)
    ·rename_i k e hu; exact absurd hu (hna k e)
    ·cases h2
  obtain⟨x,rfl⟩:=one;refine⟨x,?_,h2⟩;have hx:=h1.2 0 (by simp);simp only [ν] at hx;have hlen:=h1.1
  cases v with
  | agg cs=>
   exfalso;unfold Value.okWide at hv
   split at hv
   ·rename_i fs hu; exact absurd hu (hns fs)
   ·rename_i k e hu; exact absurd hu (hna k e)
   ·rename_i h3 h4
    cases n with
    | zero=>simp [qT] at hp
    | succ n=>
     unfold qT at hp;unfold Cell.okWide at hv;split at hp <;> rename_i hu <;> simp [hu,Cell.ok] at hv
     all_goals first | exact absurd hu (hns _) | exact absurd hu (hna _ _) | cases hp
  | _=>simpa [Value.cells] using hx
theorem Vk {n:Nat} {b:Nat}:∀ {ts:List TypeId} {vs:List Value} {ds:List (DataW H)} {ps:List MemPlace},(ts.all λt=>qT P n t)= true->(∀ (j:Nat) t v,ts[j]?=some t->vs[j]?=some v->Value.okWide P w .any b t v) ->
  DataW.TrodAll nY P w 0 sp held ts vs ds ps->∃ as,as.length=vs.length/\vs.length=ts.length/\ds.length=ts.length/\(∀ j,j<as.length->RP (λ_=>False) w (vs.getD j undef) (as.getD j .top))/\ bn P n ts as
 | [],vs,ds,ps,_,_,h=>by obtain⟨rfl,rfl,rfl⟩:=trodAll_nil h;exact⟨[],rfl,rfl,rfl,λj hj=>by simp at hj,rfl⟩
 | t :: ts,vs,ds,ps,hp,hv,h=>by
  obtain⟨v,vs',d,ds',p,q,rfl,rfl,rfl,h1,h2⟩:=trodAll_cons h;simp only [ξ,Ap] at hp;obtain⟨a,r1,s1⟩:=LM hp.1 (hv 0 t v rfl rfl) h1;obtain⟨as,l1,l2,l3,r2,s2⟩:=Vk hp.2 (λj t v h1 h2=>hv (j+1) t v h1 h2) h2;refine⟨a :: as,by simp [l1],by simp [l2],by simp [l3],λj hj=>?_,a,as,rfl,s1,s2⟩
  cases j with
  | zero=>exact r1
  | succ j=>exact r2 j (by simpa using hj)
theorem cV (hl:laidOutB P=true) {W W':World} (hb:Below W.heap.size W W'):∀ {ts:List TypeId} {vs:List Value} {ds:List (DataW H)} {ps:List MemPlace},(ts.all λt=>P.readableRec t&&decide (t<P.types.size))= true ->
  (∀ x ∈ ps,x.block<W.heap.size)->DataW.TrodAll nY P W 0 (λ_=>true) true ts vs ds ps->DataW.TrodAll nY P W' 0 (λb=>decide (b<W.heap.size)) true ts vs ds ps
 | [],vs,ds,ps,_,_,h=>by obtain⟨rfl,rfl,rfl⟩:=trodAll_nil h;exact rfl
 | t :: ts,vs,ds,ps,hr,hlt,h=>by obtain⟨v,vs',d,ds',p,q,rfl,rfl,rfl,h1,h2⟩:=trodAll_cons h;simp only [ξ,Ap,decide_eq_true_eq] at hr;exact⟨p,q,Below.trod hl hr.1.1 hr.1.2 h1 hb λx hx=>hlt x (by simp [hx]),cV hl hb hr.2 (λx hx=>hlt x (by simp [hx])) h2,rfl⟩
theorem po {W:World}:∀ {ts:List TypeId} {vs:List Value} {ds:List (DataW H)} {ps:List MemPlace},DataW.TrodAll nY P W 0 sp held ts vs ds ps->∀ x ∈ ps,x.block<W.heap.size
 | [],vs,ds,ps,h=>by obtain⟨rfl,rfl,rfl⟩:=trodAll_nil h;intro x hx; simp at hx
 | t :: ts,vs,ds,ps,h=>by
  obtain⟨v,vs',d,ds',p,q,rfl,rfl,rfl,⟨m,hm⟩,h2⟩:=trodAll_cons h;intro x hx
  rcases List.mem_append.1 hx with hx | hx
  ·exact DataW.trod_lt m _ _ _ hm x hx
  ·exact po h2 x hx
end
section
variable [uC]
theorem yW.calls {P:Program} {g:FuncId} {args:List D} {b:Bool} (h:yW P g args (.bool b)) {w:World} {vals:Array Value} (ht:jn w λ_=>False) (hl:vals.size=args.length)
  (hv:∀ j,j<args.length->RP (λ_=>False) w (vals.getD j undef) (args.getD j .top)):Calls P g vals w λe w'=>e = .returned (.bool b)/\ Below w.heap.size w w':=by
 have hM:∀ b,yH (λ_=>False) (λ_=>0) gR b->False:=by
  rintro b (h | ⟨k,o,hk,_⟩)
  ·exact h
  ·cases hk
 have hS:wY (λ_=>False) w gR (λ_=>0):=⟨λb hb=>hb.elim,(λk o hk=>by cases hk),(λk k' o o' hk=>by cases hk),(λk o hk=>by cases hk),ht.yJ (Ad _) (λ_ _ _=>rfl) λb _ hb=>hM b hb⟩;refine(h.run _ w _ vals hS hl λj hj=>.pure ((hv j hj).yJ (λ_ _ _=>rfl) λb _ hb=>hM b hb)).mono λe w' hh=>?_;obtain⟨v,ι',rfl,k1,k2,k3,k4,k5,k6⟩:=hh;have K0:Kept w w' λ_=>False:=k1.mono λb _ ⟨k,o,hk,_⟩=>by cases hk
 rw [k6.mL];exact⟨rfl,K0.below⟩
end
theorem Yw (a:Array Value) (j:Nat) (d:Value):a.getD j d=a.toList.getD j d:=by simp [List.getD,Array.getD];by_cases h:j<a.size <;> simp [h]
theorem QK {H:Type} {nY:TypeId × Value->H} {P:Program} {f:Func} {s:ChangeSpec} {W W':World} {args:Array Value} {ds gs:List (DataW H)} {before:List MemPlace} {tb:TypeId}
  (hl:laidOutB P=true) (hr:(f.params.toList.all λt=>P.readableRec t&&decide (t<P.types.size))= true) (hb:f.resultTypes = #[tb]) (htb:P.underlying tb=some .bool) (hsv:s.vars = [])
  (hW:DataW.Whole nY P f.params.toList s.vars false W args.toList ds gs before) (hs:s.fn H (ds++gs)= { results:=[.lit (.bool true)],args:=ds }) (bel:Below W.heap.size W W') :
  s.post nY P f false true false false W args (.bool true) W':=by
 have hW':=hW;obtain⟨p,q,hA,hV,rfl,hfz,hnd⟩:=hW;rw [hsv] at hV;obtain⟨rfl,rfl⟩:=trodVars_none hV;have hA2:=cV hl bel hr (po hA) hA
 refine⟨_,_,_,[],p,[],hW',?_,?_,?_,bel.frame _,λh=>by cases h⟩
 ·rw [hs,hb];exact trodAll_mk1 (shut_bool htb _)
 ·rw [hs];exact hA2
 ·rw [hs,hsv];rfl
abbrev dO (i:Nat) (k:DK):xB:=⟨some i,none,k⟩
abbrev dF (i j:Nat) (k:DK):xB:=⟨some i,some (j,false),k⟩
abbrev dT (i j:Nat) (k:DK):xB:=⟨some i,some (j,true),k⟩
abbrev uF.i (n:Int):uF:=.c (.int .i64 n)
abbrev dM (i j:Nat):xB:=⟨some i,none,.mv (.t j)⟩
abbrev dL (i j:Nat):xB:=⟨some i,none,.load 1 false (.t j)⟩
abbrev dG (i n j:Nat):xB:=⟨some i,none,.NA n (.t j)⟩
abbrev DC.r (l:List xB) (c:DC):DC:=.seq (.nX [] l) c
abbrev DK.cf (f:FuncId) (l:List uF):DK:=.call (.c (.fn f [])) l
abbrev bT (i:Nat) (o:BinOp) (a b:Nat):xB:=⟨some i,none,.bin o (.t a) (.t b)⟩
abbrev bI (i:Nat) (o:BinOp) (a:Nat) (n:Int):xB:=⟨some i,none,.bin o (.t a) (.i n)⟩
abbrev dI (i n a b:Nat):xB:=⟨some i,none,.idx n (.t a) (.t b)⟩
abbrev dN (i a:Nat):xB:=⟨some i,none,.len (.t a)⟩
abbrev fG (i j n a:Nat):xB:=⟨some i,some (j,false),.NA n (.t a)⟩
abbrev fL (i j a:Nat):xB:=⟨some i,some (j,false),.load 1 false (.t a)⟩
abbrev fN (i j a:Nat):xB:=⟨some i,some (j,false),.len (.t a)⟩
abbrev fM (i j a:Nat):xB:=⟨some i,some (j,false),.mv (.t a)⟩
abbrev dP (i a b:Nat):xB:=⟨some i,none,.pick (.t a) (.c (.bool true)) (.t b)⟩
abbrev dE (i a n:Nat):xB:=⟨some i,none,.TH (.t a) n⟩
abbrev sQ (n a b:Nat):xB:=⟨none,none,.store n (.t a) (.t b)⟩
abbrev dV (i:Nat) (b:Bool):xB:=⟨some i,none,.mv (.c (.bool b))⟩
abbrev dJ (i:Nat) (n:Int):xB:=⟨some i,none,.mv (.i n)⟩
abbrev dA (i n a:Nat):xB:=⟨some i,none,.load n true (.t a)⟩
abbrev DC.w (a b:Nat) (c:DC):DC:=.seq (.cond (.t a) .skip (.exit b)) c
abbrev DC.g (l:List xB):DC:=.nX [] l
abbrev dX (i a:Nat):xB:=⟨some i,none,.box (.t a)⟩
abbrev tL (i j a:Nat):xB:=⟨some i,some (j,true),.load 1 false (.t a)⟩
abbrev tG (i j n a:Nat):xB:=⟨some i,some (j,true),.NA n (.t a)⟩
abbrev tM (i j a:Nat):xB:=⟨some i,some (j,true),.mv (.t a)⟩
abbrev dK (i a:Nat):xB:=⟨some i,none,.PV (.t a)⟩
abbrev dH (i a:Nat):xB:=⟨some i,none,.nt (.t a)⟩
abbrev dQ (i a b:Nat):xB:=⟨some i,none,.pick (.t a) (.t b) (.c (.bool false))⟩
abbrev dZ (i:Nat):xB:=⟨some i,none,.mv (.c .xJ)⟩
abbrev dB (i f a:Nat):xB:=⟨some i,none,.cf f [.t a]⟩
abbrev dD (i f a b:Nat):xB:=⟨some i,none,.cf f [.t a,.t b]⟩
abbrev fB (i j:Nat) (o:BinOp) (a:Nat) (n:Int):xB:=⟨some i,some (j,false),.bin o (.t a) (.i n)⟩
abbrev CT :=Nat × DC × List bH
def zS :=γ @D.int.injEq (γ @D.bool.injEq (γ @D.sl.injEq (γ @and_true (γ @true_and @and_self))))
def zW.{u} :=γ @ne_eq.{u} (γ @forall_const.{u} (γ @implies_true.{u} @forall_eq.{u}))
section
variable [uC]
def zU :=γ @bC.eq_1 (γ @PR.eq_1 (γ @L6.eq_1 (γ @oJ.eq_1 (γ @oJ.eq_2 (γ @rE.eq_1 (γ @rE.eq_2 (γ @mr.eq_1 (γ @mr.eq_2 (γ @mr.eq_3 (γ @mr.eq_4 (γ @mr.eq_5 (γ @mr.eq_6 (γ @mr.eq_7 (γ @mr.eq_8 (γ @mr.eq_9 (γ @mr.eq_10 (γ @mr.eq_11 (γ @mr.eq_12 (γ @mr.eq_13 (γ @mr.eq_14 (γ @mr.eq_15 (γ @rP.eq_1 (γ @rP.eq_2 (γ @rP.eq_3 (γ @rP.eq_4 (γ @rP.eq_5 (γ @rP.eq_6 (γ @rP.eq_7 (γ @rP.eq_8 (γ @rP.eq_9 (γ @rP.eq_10 (γ @rP.eq_11 (γ @rP.eq_12 (γ @rP.eq_13 (γ @rP.eq_14 (γ @rP.eq_15 (γ @pX.eq_1 (γ @pX.eq_2 (γ @pX.eq_3 (γ @pX.eq_4 (γ @pX.eq_5 (γ @pX.eq_6 (γ @pX.eq_7 (γ @pX.eq_8 (γ @pW.eq_1 (γ @pW.eq_2 (γ @pW.eq_3 (γ @pW.eq_4 (γ @pW.eq_5 (γ @pW.eq_6 (γ @pW.eq_7 (γ @pW.eq_8 (γ @pW.eq_9 (γ @pW.eq_10 (γ @pW.eq_11 (γ @pW.eq_12 (γ @pW.eq_13 (γ @pW.eq_14 (γ @pW.eq_15 (γ @pW.eq_16 (γ @pW.eq_17 (γ @pW.eq_18 (γ @pW.eq_19 (γ @pW.eq_20 (γ @pW.eq_21 (γ @pW.eq_22 (γ @pW.eq_23 (γ @pW.eq_24 (γ @pW.eq_25 (γ @pW.eq_26 (γ @pW.eq_27 (γ @pW.eq_28 (γ @Ma.eq_1 (γ @Mb.eq_1 (γ @FS.eq_1 (γ @gX.eq_1 @Wc.eq_1))))))))))))))))))))))))))))))))))))))))))))))))))))))))))))))))))))))))))))
def zQ :=γ @uR.eq_1 (γ @uR.eq_2 (γ @uR.eq_3 (γ @vw.eq_1 (γ @vw.eq_2 (γ @vw.eq_3 (γ @vw.eq_4 (γ @vw.eq_5 (γ @vw.eq_6 (γ @vw.eq_7 (γ @vw.eq_8 (γ @vw.eq_9 (γ @vw.eq_10 (γ @vw.eq_11 (γ @vw.eq_12 (γ @vw.eq_13 (γ @vw.eq_14 (γ @vw.eq_15 (γ @vw.eq_16 (γ @vw.eq_17 (γ @vw.eq_18 (γ @YO.eq_1 (γ @YO.eq_2 (γ @sw.eq_1 (γ @sw.eq_2 (γ @St.get.eq_1 (γ @St.look.eq_1 (γ @St.look.eq_2 (γ @Fr.get.eq_1 @Fr.get.eq_2))))))))))))))))))))))))))))
def zV :=γ @gR.eq_1 (γ @gK.eq_1 (γ @gK.eq_2 (γ @oL.eq_1 (γ @oL.eq_2 (γ @oL.eq_3 (γ @oL.eq_4 (γ @oL.eq_5 (γ @oL.eq_6 (γ @oL.eq_7 (γ @oL.eq_8 (γ @oL.eq_9 (γ @oL.eq_10 (γ @oL.eq_11 (γ @oL.eq_12 (γ @oL.eq_13 (γ @oL.eq_14 (γ @oL.eq_15 (γ @oL.eq_16 (γ @oL.eq_17 (γ @l8.eq_1 (γ @dC.eq_1 (γ @dC.eq_2 (γ @dC.eq_3 (γ @dC.eq_4 (γ @dC.eq_5 (γ @dC.eq_6 (γ @bQ.eq_1 (γ @bQ.eq_2 (γ @VT.eq_1 (γ @vK.eq_1 (γ @kP.eq_1 (γ @kP.eq_2 (γ @JU.eq_1 (γ @wv.eq_1 (γ @wv.eq_2 (γ @ti.eq_1 (γ @ti.eq_2 (γ @List.replicate.eq_1.{0} (γ @List.replicate.eq_2.{0} (γ @rowsOf.eq_1 (γ @rowsOf.eq_2 (γ @rowsOf.eq_3 (γ @rowsOf.eq_4 @rowsOf.eq_5)))))))))))))))))))))))))))))))))))))))))))
end
theorem sd {p q:Prop} (b:q) (a:p:=by first | omega | exact V6 _ | exact Aq _ | rfl | exact Uq _ _ | exact YA _ | (intro _ h; cases h; done)):p/\q:=⟨a,b⟩
theorem oK.dv {n0 n:Nat} {σ:St} {d d':D} (hn:n0<=n:=by simp) (h:vw σ ⟨n,[]⟩ (λk=>k) d d':=by simp [vw]):oK n0 σ d ⟨n,[]⟩ d':=.drop hn h
section
variable [uC]
theorem cr {P:Program} {g:FuncId} {args:List D} {d:D} {s:St} (hc:yW P g args d) (hp:D.xP args=true:=by simp [D.xP,D.xD]):xY P g args s d s:=xY.zP hc hp
theorem cq {P:Program} {g:FuncId} {args:List D} {d:D} {s:St} (hc:yW P g args d) (hp:D.xP args=true:=by rfl):xY P g args s d s:=xY.zP hc hp
end
end Go.Pd

/- Part X8. -/
namespace Go.Pd
open Go
variable [uC]
def D.fl : D->Bool
 | .int _ _ | .bool _ | .str _ | .sS | .xJ | .emp | .oN | .qW | .sI | .top | .ref .. | .yD .. | .sub .. | .yK _=>true
 | .agg cs | .wE cs=>cs.attach.all λ⟨d,_⟩=>D.fl d
 | _=>false
def D.Wi (cs:List D):Bool:=cs.all D.fl
theorem Se (cs:List D):(D.agg cs).fl=D.Wi cs:=by rw [D.fl]; simp [D.Wi]
theorem Sf (cs:List D):(D.wE cs).fl=D.Wi cs:=by rw [D.fl]; simp [D.Wi]
theorem sf {cs:List D} (h:D.Wi cs=true) (j:Nat):(cs.getD j .top).fl=true:=by
 by_cases hj:j<cs.length
 ·have:cs.getD j .top=cs[j]:=by simp [List.getD,hj]
  rw [this];exact List.all_eq_true.1 h _ (ο hj)
 ·simp [List.getD,ω (Nat.le_of_not_lt hj),D.fl]
theorem RP.fl {M M':Nat->Prop} {w:World} {v:Value} {d:D} (h:RP M w v d) (hf:d.fl=true):RP M' w v d:=by
 induction h with
 | top v=>exact .top v
 | sS=>exact .sS
 | int h=>exact .int h
 | bool b=>exact .bool b
 | str h=>exact .str h
 | mq=>simp [D.fl] at hf
 | emp a c=>exact .emp a c
 | sl=>simp [D.fl] at hf
 | xJ=>exact .xJ
 | ptr=>simp [D.fl] at hf
 | agg hl hr ih=>rw [Se] at hf; exact .agg hl λj hj=>ih j hj (sf hf j)
 | wE hl hr ih=>rw [Sf] at hf; exact .wE hl λj hj=>ih j hj (sf hf j)
 | fn=>simp [D.fl] at hf
 | oN=>exact .oN
 | qW=>exact .qW
 | sI=>exact .sI
 | xt b=>simp [D.fl] at hf
theorem R.fl {M M':Nat->Prop} {w:World} {ι:Nat->Nat} {n:Nat} {v:Value} {d:D} (h:R M w ι n v d) (hf:d.fl=true):R M' w ι n v d:=by
 induction h with
 | pure h=>exact .pure (h.fl hf)
 | ref hk h0=>exact .ref hk h0
 | yD hk h1 h2 h3 h4=>exact .yD hk h1 h2 h3 h4
 | sub hk h1 h2 h3 h4=>exact .sub hk h1 h2 h3 h4
 | yK hk=>exact .yK hk
 | agg hl hr ih=>rw [Se] at hf; exact .agg hl λj hj=>ih j hj (sf hf j)
 | wE hl hr ih=>rw [Sf] at hf; exact .wE hl λj hj=>ih j hj (sf hf j)
 | fn=>simp [D.fl] at hf
theorem yL.fl {M M':Nat->Prop} {w:World} {ι:Nat->Nat} {n:Nat} {nW:Option Obj} {o:Ob} (h:yL M w ι n nW o) (hf:∀ e ∈ o.xV,D.Wi e=true):yL M' w ι n nW o:=by
 have at_:∀ i j,((o.xV.getD i []).getD j .top).fl=true:=by
  intro i j
  by_cases hi:i<o.xV.length
  ·have:o.xV.getD i []=o.xV[i]:=by simp [List.getD,hi]
   rw [this];exact sf (hf _ (ο hi)) j
  ·have:o.xV.getD i [] = []:=by simp [List.getD,ω (Nat.le_of_not_lt hi)]
   rw [this]; simp [D.fl]
 rcases h with ⟨h0,cur,e,h1,h2,h3,h4⟩ | ⟨h0,es,h1,h2,h3⟩
 ·exact .inl ⟨h0,cur,e,h1,h2,h3,λi hi j hj=>⟨(h4 i hi j hj).1,(h4 i hi j hj).2.fl (at_ i j)⟩⟩
 ·refine .inr ⟨h0,es,h1,h2,λi hi=>?_⟩;obtain⟨kk,v,x,d,g1,g2,g3,g4⟩:=h3 i hi;have a0:=at_ i 0;have a1:=at_ i 1;rw [g1] at a0 a1;exact⟨kk,v,x,d,g1,g2,g3.fl a0,g4.fl a1⟩
def Mk (M0:Nat->Prop) (ι:Nat->Nat) (σ:St) (K:Nat->Prop) (b:Nat):Prop:=M0 b\/∃ k o,K k/\σ.get k=some o/\ι k=b
def Seen (σ:St) (K:Nat->Prop) (d d':D):Prop:=∀ (M0:Nat->Prop) (w:World) (ι:Nat->Nat) (v:Value),wY M0 w σ ι->R (yH M0 ι σ) w ι σ.nx v d->RP (Mk M0 ι σ K) w v d'
def kF (σ:St) (K:Nat->Prop):List D->List D->Prop
 | [],[]=>True
 | d :: ds,c :: cs=>Seen σ K d c/\kF σ K ds cs
 | _,_=>False
theorem Mk.FW {M0:Nat->Prop} {ι:Nat->Nat} {σ:St} {K:Nat->Prop} {b:Nat} (h:Mk M0 ι σ K b):yH M0 ι σ b:=h.imp id λ⟨k,o,_,h1,h2⟩=>⟨k,o,h1,h2⟩
theorem kF.len {σ:St} {K:Nat->Prop}:∀ {ds cs:List D},kF σ K ds cs->ds.length=cs.length
 | [],[],_=>rfl
 | _ :: _,_ :: _,h=>by simp [kF.len h.2]
 | [],_ :: _,h=>h.elim
 | _ :: _,[],h=>h.elim
theorem kF.at_ {σ:St} {K:Nat->Prop}:∀ {ds cs:List D},kF σ K ds cs->∀ j,j<cs.length->Seen σ K (ds.getD j .top) (cs.getD j .top)
 | [],[],_,j,hj=>by simp at hj
 | _ :: _,_ :: _,h,0,_=>by simpa using h.1
 | _ :: _,_ :: _,h,j+1,hj=>by simpa using kF.at_ h.2 j (by simpa using hj)
 | [],_ :: _,h,_,_=>h.elim
 | _ :: _,[],h,_,_=>h.elim
theorem Seen.pure {σ:St} {K:Nat->Prop} {d:D} (h:d.xD=true):Seen σ K d d:=λ_ _ _ _ _ hR=>(hR.ub h).yJ (λ_ _ _=>rfl) λ_ _ hb=>hb.FW
theorem Seen.nil {σ:St} {K:Nat->Prop} (sz:Nat):Seen σ K .xJ (.sl sz []):=λ_ _ _ v _ hR=>by have:=hR.tX;subst this;exact .mq _ _ _ (by simp)
theorem Mk.not {M0:Nat->Prop} {w:World} {ι:Nat->Nat} {σ:St} {K:Nat->Prop} {key:Nat} {ob:Ob} (hS:wY M0 w σ ι) (hob:σ.get key=some ob) (hk:¬ K key):¬ Mk M0 ι σ K (ι key):=by
 rintro (h | ⟨k,o,h1,h2,h3⟩)
 ·exact hS.notM key ob hob h
 ·exact hk (hS.inj k key o ob h2 hob h3 ▸ h1)
theorem Seen.yD {σ:St} {K:Nat->Prop} {key sz n:Nat} {ob:Ob} {xV:List (List D)} (hob:σ.get key=some ob) (hk:¬ K key) (hs:0<sz) (hsz:ob.sz=sz) (hn:n<=ob.xV.length) (hl:xV.length=n)
  (hrow:∀ e ∈ xV,e.length=sz) (h:∀ i,i<n->∀ j,j<sz->Seen σ K ((ob.xV.getD i []).getD j .top) ((xV.getD i []).getD j .top)):Seen σ K (.yD key sz n) (.sl sz xV):=λM0 w ι v hS hR=>by
 subst hsz; subst hl;obtain⟨cap,cur,e,rfl,k1,k2,k3,k4,k5⟩:=hR.sL;obtain⟨_,cur',e',c1,c2,c3,c4⟩:=yL.rows (hS.holds key ob hob).2 k4;rw [k4] at c1;simp at c1;obtain⟨rfl,rfl⟩:=c1;refine .sl (λi j=>cur.getD (i*ob.sz+j) undef) hs (Mk.not hS hob hk) k2 k3 hrow (λi hi j hj=>?_) λi hi j hj=>h i hi j hj M0 w ι _ hS (c4 i (by omega) j hj).2
 have:i*ob.sz+j<cur.size:=by have:=mV (m:=ob.xV.length) (i:=i) (j:=j) (sz:=ob.sz) (by omega) hj;omega
 rw [Ae,cell_of_row _ _ _ _ _ _ k4];simp [this]
theorem Seen.ref {σ:St} {K:Nat->Prop} {key sz i off:Nat} {ob:Ob} {cs:List D} (hob:σ.get key=some ob) (hk:¬ K key) (hsz:ob.sz=sz) (hi:i<ob.xV.length) (hc:0<cs.length) (hl:off+cs.length<=sz)
  (h:∀ j,j<cs.length->Seen σ K ((ob.xV.getD i []).getD (off+j) .top) (cs.getD j .top)):Seen σ K (.ref key sz i off) (.ptr cs):=λM0 w ι v hS hR=>by
 subst hsz;obtain⟨rfl,k1,k2⟩:=hR.tQ;obtain⟨cur,e,c1,c2,c3,c4⟩:=(hS.holds key ob hob).2.cells k2;refine .ptr (λj=>cur.getD (i*ob.sz+(off+j)) undef) hc (Mk.not hS hob hk) (λj hj=>?_) λj hj=>h j hj M0 w ι _ hS (c4 i hi (off+j) (by omega)).2
 have:i*ob.sz+(off+j)<cur.size:=by have:=mV (m:=ob.xV.length) (i:=i) (j:=off+j) (sz:=ob.sz) hi (by omega);omega
 rw [Nat.add_assoc,cell_of_row _ _ _ _ _ _ c1];simp [this]
def Mv (σ:St) (d d':D):Prop:=∀ (M0:Nat->Prop) (w:World) (ι:Nat->Nat) (v:Value),wY M0 w σ ι->R (yH M0 ι σ) w ι σ.nx v d->RP (λ_=>False) w v d'
theorem Seen.f {σ:St} {K:Nat->Prop} {d d':D} (h:Seen σ K d d'):Mv σ d d':=λM0 w ι v hS hR=>(h M0 w ι v hS hR).yJ (λ_ _ _=>rfl) λ_ _ hb=>hb.elim
theorem xY.Js {P:Program} {g:FuncId} {args args':List D} {d:D} {σ:St} (hc:yW P g args' d) (hl':kF σ (λ_=>False) args args') (hf:d.flat=true):xY P g args σ d σ:=by
 refine⟨hc.ord,λM0 w ι vals hS hl hv=>?_⟩;have S1:wY (λ_=>False) w gR ι:=⟨λb hb=>hb.elim,(λk o hk=>by cases hk),(λk k' o o' hk=>by cases hk),(λk o hk=>by cases hk),hS.pE.yJ (Ad _) (λ_ _ _=>rfl) λb _ hb=>hb.elim False.elim λ⟨k,o,hk,_⟩=>by cases hk⟩
 have e1:∀ (ι':Nat->Nat) b,yH (λ_=>False) ι' gR b->False:=by
  intro ι' b hb
  rcases hb with hb | ⟨k,o,hk,_⟩
  ·exact hb
  ·cases hk
 have hlen:=hl'.len;refine(hc.run _ w ι vals S1 (by omega) λj hj=>.pure (((hl'.at_ j hj).f M0 w ι _ hS (hv j (by omega))).yJ (λ_ _ _=>rfl) λb _ hb=>e1 ι b hb)).mono λe w' hh=>?_;obtain⟨v,ι',rfl,k1,k2,k3,k4,k5,k6⟩:=hh;have K0:Kept w w' λ_=>False:=k1.mono λb _ ⟨k,o,hk,_⟩=>by cases hk
 exact⟨v,ι,rfl,K0.none _,hS.ext K0,Ad _,λ_ _=>rfl,λk o hk=>.inr ⟨k,o,hk,rfl⟩,.pure (k6.zero.flat hf)⟩
theorem xY.Ld {P:Program} {g:FuncId} {args args':List D} {d:D} {σ:St} {m:Nat} {xZ:List (Nat × Ob)} (hc:xY P g args' gR d ⟨m,xZ⟩) (hlen:args.length=args'.length) (ats:∀ j,j<args'.length->Mv σ (args.getD j .top) (args'.getD j .top)) (hf:d.fl=true) (ho:∀ p ∈ xZ,∀ e ∈ p.2.xV,D.Wi e=true) :
  xY P g args σ (d.shift σ.nx) ⟨σ.nx+m,zM σ.nx xZ++σ.xZ⟩:=by
 refine⟨hc.ord,λM0 w ι vals hS hl hv=>?_⟩;have S1:wY (λ_=>False) w gR ι:=⟨λb hb=>hb.elim,(λk o hk=>by cases hk),(λk k' o o' hk=>by cases hk),(λk o hk=>by cases hk),hS.pE.yJ (Ad _) (λ_ _ _=>rfl) λb _ hb=>hb.elim False.elim λ⟨k,o,hk,_⟩=>by cases hk⟩
 have e1:∀ (ι':Nat->Nat) b,yH (λ_=>False) ι' gR b->False:=by
  intro ι' b hb
  rcases hb with hb | ⟨k,o,hk,_⟩
  ·exact hb
  ·cases hk
 refine(hc.run _ w ι vals S1 (by omega) λj hj=>.pure ((ats j hj M0 w ι _ hS (hv j (by omega))).yJ (λ_ _ _=>rfl) λb _ hb=>e1 ι b hb)).mono λe w' hh=>?_;obtain⟨v,ι',rfl,k1,k2,k3,k4,k5,k6⟩:=hh;have K0:Kept w w' λ_=>False:=k1.mono λb _ ⟨k,o,hk,_⟩=>by cases hk
 let ιn:Nat->Nat:=λk=>if k<σ.nx then ι k else ι' (k-σ.nx)
 have n1:∀ k,k<σ.nx->ιn k=ι k:=λk hk=>by simp only [ιn,if_pos hk]
 have n2:∀ k,ιn (σ.nx+k)= ι' k:=λk=>by simp only [ιn,if_neg (show ¬ (σ.nx+k<σ.nx) by omega)];congr 1; omega
 have lk:∀ k o,St.get ⟨σ.nx+m,zM σ.nx xZ++σ.xZ⟩ k=some o->(∃ k0 o0,k=σ.nx+k0/\St.get ⟨m,xZ⟩ k0=some o0/\o=o0.shift σ.nx)\/(k<σ.nx/\σ.get k=some o):=by
  intro k o hk;unfold St.get at hk;simp only at hk;rw [qI] at hk
  cases h1:St.look (zM σ.nx xZ) k with
  | some o1=> rw [h1] at hk;simp at hk; subst hk;exact .inl (iK _ _ _ _ h1)
  | none=> rw [h1] at hk;simp at hk;exact .inr ⟨(hS.holds k o hk).1,hk⟩
 have fresh:∀ k o,St.get ⟨m,xZ⟩ k=some o->w.heap.size<=ι' k:=by
  intro k o hk
  rcases k5 _ _ hk with h | ⟨k0,o0,hk0,_⟩
  ·exact h
  ·cases hk0
 have mm:∀ b,b<w.heap.size->yH M0 ιn ⟨σ.nx+m,zM σ.nx xZ++σ.xZ⟩ b->yH M0 ι σ b:=by
  intro b hb hm
  rcases hm with hm | ⟨k,o,hk,rfl⟩
  ·exact .inl hm
  ·rcases lk k o hk with ⟨k0,o0,rfl,h2,_⟩ | ⟨h1,h2⟩
   ·have:=fresh k0 o0 h2;rw [n2] at hb;omega
   ·exact .inr ⟨k,o,h2,(n1 k h1).symm⟩
 have mv:∀ b,yH M0 ιn ⟨σ.nx+m,zM σ.nx xZ++σ.xZ⟩ b->yH (yH M0 ι σ) ι' ⟨m,xZ⟩ b:=by
  intro b hm
  rcases hm with hm | ⟨k,o,hk,rfl⟩
  ·exact .inl (.inl hm)
  ·rcases lk k o hk with ⟨k0,o0,rfl,h2,_⟩ | ⟨h1,h2⟩
   ·exact .inr ⟨k0,o0,h2,(n2 k0).symm⟩
   ·exact .inl (.inr ⟨k,o,h2,(n1 k h1).symm⟩)
 refine⟨v,ιn,rfl,K0.none _,⟨λb hb=>Ah (hS.tV b hb) K0.size,λk o hk=>?_,λk k' o o' hk hk' e=>?_,λk o hk hm=>?_,hS.pE.yJ K0.size (λb hb hM=>K0.block b hb id) λb hb hm=>mm b hb hm⟩,Nat.le_add_right _ _,n1,λk o hk=>?_,R.shift mv (λk _=>n2 k) (k6.fl hf)⟩
 ·rcases lk k o hk with ⟨k0,o0,rfl,h2,rfl⟩ | ⟨h1,h2⟩
  ·obtain⟨g1,g20⟩:=k2.holds k0 o0 h2;have g2:yL (yH (yH M0 ι σ) ι' ⟨m,xZ⟩) w' ι' m w'.heap[ι' k0]? o0:=g20.fl (ho (k0,o0) (vR h2));have glt:k0<m:=g1;rcases g2 with ⟨s0,cur,e,c1,c2,c3,c4⟩ | ⟨s0,es,c1,c2,c3⟩
   case inr=>
    refine⟨by show σ.nx+k0<σ.nx+m; omega,.inr ⟨s0,es,by rw [n2]; exact c1,by simpa [Ob.shift] using c2,λi hi=>?_⟩⟩;simp only [Ob.shift,List.length_map] at hi ⊢;obtain⟨kk,v,x,d,r1,r2,r3,r4⟩:=c3 i hi;refine⟨kk,v,x.shift σ.nx,d.shift σ.nx,?_,r2,R.shift mv (λk _=>n2 k) r3,R.shift mv (λk _=>n2 k) r4⟩;have:(o0.xV.map (D.wB σ.nx)).getD i []=D.wB σ.nx (o0.xV.getD i []):=by simp [List.getD,hi]
    rw [this,r1]; rfl
   refine⟨by show σ.nx+k0<σ.nx+m; omega,.inl ⟨s0,cur,e,by rw [n2]; exact c1,λel he=>?_,by simpa [Ob.shift] using c3,λi hi j hj=>?_⟩⟩
   ·simp only [Ob.shift,ε] at he ⊢;obtain⟨el',h3,rfl⟩:=he;rw [sY]; exact c2 _ h3
   ·simp only [Ob.shift,List.length_map] at hi hj ⊢;have h3:=c4 i hi j hj
    have e2:((o0.xV.map (D.wB σ.nx)).getD i []).getD j .top=((o0.xV.getD i []).getD j .top).shift σ.nx:=by
     have:(o0.xV.map (D.wB σ.nx)).getD i []=D.wB σ.nx (o0.xV.getD i []):=by simp [List.getD,hi]
     rw [this,oW]
    rw [e2];exact⟨h3.1,R.shift mv (λk _=>n2 k) h3.2⟩
  ·obtain⟨g1,g2⟩:=hS.holds k o h2;exact⟨by show k<σ.nx+m; omega,g2.yJ (K0.block _ (Own.lt hS ⟨k,o,h2,rfl⟩) id) (n1 k h1) (λb hb _=>K0.block b hb id) (λb hb hm=>mm b hb hm) K0.shape n1 (Nat.le_add_right _ _)⟩
 ·rcases lk k o hk with ⟨k0,o0,rfl,h2,rfl⟩ | ⟨h1,h2⟩ <;> rcases lk k' o' hk' with ⟨k0',o0',rfl,h2',rfl⟩ | ⟨h1',h2'⟩
  ·rw [n2,n2] at e;rw [k2.inj _ _ _ _ h2 h2' e]
  ·rw [n2,n1 k' h1'] at e;have:=fresh _ _ h2;have:=Own.lt hS ⟨k',o',h2',rfl⟩;omega
  ·rw [n1 k h1,n2] at e;have:=fresh _ _ h2';have:=Own.lt hS ⟨k,o,h2,rfl⟩;omega
  ·rw [n1 k h1,n1 k' h1'] at e;exact hS.inj _ _ _ _ h2 h2' e
 ·rcases lk k o hk with ⟨k0,o0,rfl,h2,rfl⟩ | ⟨h1,h2⟩
  ·rw [n2] at hm;have:=fresh _ _ h2;have:=hS.tV _ hm;omega
  ·rw [n1 k h1] at hm;exact hS.notM k o h2 hm
 ·rcases lk k o hk with ⟨k0,o0,rfl,h2,rfl⟩ | ⟨h1,h2⟩
  ·rw [n2]; exact .inl (fresh _ _ h2)
  ·rw [n1 k h1]; exact .inr ⟨k,o,h2,rfl⟩
theorem xY.Le {P:Program} {g:FuncId} {args args':List D} {d:D} {σ:St} {m:Nat} {xZ:List (Nat × Ob)} (hc:xY P g args' gR d ⟨m,xZ⟩) (hl':kF σ (λ_=>False) args args') (hf:d.fl=true) (ho:∀ p ∈ xZ,∀ e ∈ p.2.xV,D.Wi e=true) :
  xY P g args σ (d.shift σ.nx) ⟨σ.nx+m,zM σ.nx xZ++σ.xZ⟩:=xY.Ld hc hl'.len (λj hj=>(hl'.at_ j hj).f) hf ho
theorem wY.sub {M0:Nat->Prop} {w:World} {σ:St} {ι:Nat->Nat} {objs':List (Nat × Ob)} (h:wY M0 w σ ι) (hs:∀ k o,St.look objs' k=some o->σ.get k=some o):wY M0 w ⟨σ.nx,objs'⟩ ι:=
 have hm:∀ b,yH M0 ι ⟨σ.nx,objs'⟩ b->yH M0 ι σ b:=λb hb=>hb.imp id λ⟨k,o,h1,h2⟩=>⟨k,o,hs k o h1,h2⟩
 ⟨h.tV,λk o hk=>⟨(h.holds k o (hs k o hk)).1,(h.holds k o (hs k o hk)).2.yJ rfl rfl (λ_ _ _=>rfl) (λb _ hb=>hm b hb) (λb cur e hc=>⟨cur,hc,rfl⟩) (λ_ _=>rfl) (Ad _)⟩,
  λk k' o o' hk hk'=>h.inj k k' o o' (hs k o hk) (hs k' o' hk'),λk o hk=>h.notM k o (hs k o hk),h.pE.yJ (Ad _) (λ_ _ _=>rfl) λb _ hb=>hm b hb⟩
theorem xY.MV {P:Program} {g:FuncId} {args args':List D} {d:D} {σ:St} {objs':List (Nat × Ob)} (K:Nat->Prop) (hc:yW P g args' d) (hl':kF σ K args args') (hs:∀ k o,St.look objs' k=some o->K k/\σ.get k=some o) :
  xY P g args σ d ⟨σ.nx,objs'⟩:=by
 refine⟨hc.ord,λM0 w ι vals hS hl hv=>?_⟩;have hS':=hS.sub (objs':=objs') λk o hk=>(hs k o hk).2;have S1:wY (yH M0 ι ⟨σ.nx,objs'⟩) w gR ι:=⟨λb hb=>yH.lt hS' hb,(λk o hk=>by cases hk),(λk k' o o' hk=>by cases hk),(λk o hk=>by cases hk),hS'.pE.yJ (Ad _) (λ_ _ _=>rfl) λb _ hb=>hb.elim id λ⟨k,o,hk,_⟩=>by cases hk⟩
 have e1:∀ (ι':Nat->Nat) b,yH (yH M0 ι ⟨σ.nx,objs'⟩) ι' gR b->yH M0 ι ⟨σ.nx,objs'⟩ b:=by
  intro ι' b hb
  rcases hb with hb | ⟨k,o,hk,_⟩
  ·exact hb
  ·cases hk
 have hlen:=hl'.len;have e2:∀ b,yH M0 ι ⟨σ.nx,objs'⟩ b->Mk M0 ι σ K b:=λb hb=>hb.imp id λ⟨k,o,h1,h2⟩=>⟨k,o,(hs k o h1).1,(hs k o h1).2,h2⟩;refine(hc.run _ w ι vals S1 (by omega) λj hj=>.pure ((hl'.at_ j hj M0 w ι _ hS (hv j (by omega))).yJ (λ_ _ _=>rfl) λb _ hb=>e2 b (e1 ι b hb))).mono λe w' hh=>?_;obtain⟨v,ι',rfl,k1,k2,k3,k4,k5,k6⟩:=hh;have K0:Kept w w' λ_=>False:=k1.mono λb _ ⟨k,o,hk,_⟩=>by cases hk
 exact⟨v,ι,rfl,K0.none _,hS'.ext K0,Ad _,λ_ _=>rfl,λk o hk=>.inr ⟨k,o,(hs k o hk).2,rfl⟩,.pure (k6.zero.yJ (λ_ _ _=>rfl) λb _ hb=>.inl hb)⟩
theorem Seen.rows {σ:St} {K:Nat->Prop} {key sz n:Nat} {xV:List (List D)} (hob:σ.get key=some ⟨sz,xV⟩) (hk:¬ K key) (hs:0<sz) (hn:n=xV.length) (hrow:∀ e ∈ xV,e.length=sz) (hp:∀ e ∈ xV,D.xP e=true):Seen σ K (.yD key sz n) (.sl sz xV):=by
 subst hn;refine Seen.yD hob hk hs rfl (Ad _) rfl hrow λi hi j hj=>?_;have hm:xV.getD i [] ∈ xV:=by simp [List.getD,hi]
 exact .pure (uS (hp _ hm) j)
theorem Seen.grow {σ:St} {K:Nat->Prop} {key sz:Nat} {xV:List (List D)} (hob:σ.get key=vT sz xV) (hk:¬ K key) (hs:0<sz) (hrow:∀ e ∈ xV,e.length=sz) (hp:∀ e ∈ xV,D.xP e=true):Seen σ K (xA key sz xV) (.sl sz xV):=by
 cases xV with
 | nil=>exact .nil sz
 | cons e r=>exact Seen.rows hob hk hs rfl hrow hp
def TC (σ:St) (K:Nat->Prop) (f:Fr):Fr->Prop
 | []=>True
 | (t,d) :: r=>(f.get t=d\/Seen σ K (f.get t) d)/\ TC σ K f r
def TD (σ:St) (K:Nat->Prop):List (Nat × Ob)->Prop
 | []=>True
 | (k,o) :: r=>(K k/\∃ ob,σ.get k=some ob/\ob.sz=o.sz/\ob.xV.length=o.xV.length/\∀ i,i<o.xV.length->(o.xV.getD i []).length=(ob.xV.getD i []).length/\∀ j,(o.xV.getD i []).getD j .top=(ob.xV.getD i []).getD j .top\/Seen σ K ((ob.xV.getD i []).getD j .top) ((o.xV.getD i []).getD j .top))/\ TD σ K r
theorem jd {σ:St} {K:Nat->Prop}:∀ {l:List (Nat × Ob)},TD σ K l->∀ p ∈ l,K p.1/\∃ ob,σ.get p.1=some ob/\ob.sz=p.2.sz/\ob.xV.length=p.2.xV.length/\∀ i,i<p.2.xV.length->(p.2.xV.getD i []).length=(ob.xV.getD i []).length/\∀ j,(p.2.xV.getD i []).getD j .top=(ob.xV.getD i []).getD j .top\/Seen σ K ((ob.xV.getD i []).getD j .top) ((p.2.xV.getD i []).getD j .top)
 | [],_,p,hp=>by cases hp
 | q :: r,h,p,hp=>by
  rcases η.1 hp with rfl | hp
  ·exact h.1
  ·exact jd h.2 p hp
theorem xT.deep {C:Cx} {f f':Fr} {σ:St} {objs':List (Nat × Ob)} (K:Nat->Prop) (ho:TD σ K objs') (hf:TC σ K f f'):xT C f σ f' ⟨σ.nx,objs'⟩:=by
 rintro E a w ⟨ι,G⟩;have hS:=G.nJ;have hlive:∀ k o,St.get ⟨σ.nx,objs'⟩ k=some o->K k/\∃ ob,σ.get k=some ob/\ob.sz=o.sz/\ob.xV.length=o.xV.length/\∀ i,i<o.xV.length->(o.xV.getD i []).length=(ob.xV.getD i []).length/\∀ j,(o.xV.getD i []).getD j .top=(ob.xV.getD i []).getD j .top\/Seen σ K ((ob.xV.getD i []).getD j .top) ((o.xV.getD i []).getD j .top):=λk o hk=>jd ho (k,o) (vR hk)
 have hM1:∀ b,yH E.M0 ι ⟨σ.nx,objs'⟩ b->Mk E.M0 ι σ K b:=by
  rintro b (hb | ⟨k,o,hk,rfl⟩)
  ·exact .inl hb
  ·obtain⟨h1,ob,h2,_⟩:=hlive k o hk;exact .inr ⟨k,ob,h1,h2,rfl⟩
 have hM2:∀ b,yH E.M0 ι ⟨σ.nx,objs'⟩ b->yH E.M0 ι σ b:=λb hb=>(hM1 b hb).FW;have same:∀ {v:Value} {d:D},R (yH E.M0 ι σ) w ι σ.nx v d->R (yH E.M0 ι ⟨σ.nx,objs'⟩) w ι σ.nx v d:=λh=>h.yJ (λ_ _ _=>rfl) (λb _ hb=>hM2 b hb) (λ_ cur _ h=>⟨cur,h,rfl⟩) (λ_ _=>rfl) (Ad _)
 have seen:∀ {v:Value} {d d':D},R (yH E.M0 ι σ) w ι σ.nx v d->(d'=d\/Seen σ K d d')->R (yH E.M0 ι ⟨σ.nx,objs'⟩) w ι σ.nx v d':=by
  intro v d d' h hs
  rcases hs with rfl | hs
  ·exact same h
  ·exact .pure ((hs _ w ι v hS h).yJ (λ_ _ _=>rfl) λb _ hb=>hM1 b hb)
 refine⟨ι,G.size,G.defers,G.nx,G.kept,⟨hS.tV,λk o hk=>?_,λk k' o o' hk hk' e=>?_,λk o hk=>?_,hS.pE.yJ (Ad _) (λ_ _ _=>rfl) λb _ hb=>hM2 b hb⟩,G.tV,λk o hk=>?_,G.stay,λt=>?_⟩
 ·obtain⟨_,ob,h2,h3,h4,h5⟩:=hlive k o hk;obtain⟨g1,g2⟩:=hS.holds k ob h2;refine⟨g1,?_⟩
  rcases g2 with ⟨s0,cur,e,c1,c2,c3,c4⟩ | ⟨s0,es,c1,c2,c3⟩
  ·refine .inl ⟨by omega,cur,e,c1,λel he=>?_,by rw [<- h4,<- h3]; exact c3,λi hi j hj=>⟨(c4 i (by omega) j (by omega)).1 |> λh=>by rw [<- h3]; exact h,?_⟩⟩
   ·obtain⟨i,hi,rfl⟩:=Aa he;have:=(h5 i hi).1;have e2:o.xV.getD i []=o.xV[i]:=by simp [List.getD,hi]
    rw [<- e2,this,<- h3];have hi':i<ob.xV.length:=by omega
    have e3:ob.xV.getD i []=ob.xV[i]:=by simp [List.getD,hi']
    rw [e3];exact c2 _ (ο hi')
   ·have:=(c4 i (by omega) j (by omega)).2;rw [h3] at this;exact seen this ((h5 i hi).2 j)
  ·refine .inr ⟨by omega,es,c1,by omega,λi hi=>?_⟩;obtain⟨kk,v,x,d,r1,r2,r3,r4⟩:=c3 i (by omega);obtain⟨e1,e2⟩:=h5 i hi;rw [r1] at e1 e2;generalize o.xV.getD i []=row at e1 e2
   match row,e1 with
   | [x',d'],_=>exact⟨kk,v,x',d',rfl,r2,seen r3 (e2 0),seen r4 (e2 1)⟩
 ·obtain⟨_,ob,h1,_⟩:=hlive k o hk;obtain⟨_,ob',h2,_⟩:=hlive k' o' hk';exact hS.inj k k' ob ob' h1 h2 e
 ·obtain⟨_,ob,h1,_⟩:=hlive k o hk;exact hS.notM k ob h1
 ·obtain⟨_,ob,h1,_⟩:=hlive k o hk;exact G.rD k ob h1
 ·have fr:=G.fr t
  induction f' with
  | nil=>exact R.top _
  | cons p r ih=>
   obtain⟨s,d'⟩:=p;simp only [TC] at hf;simp only [Fr.get]
   split
   ·rename_i e;subst e;exact seen fr (hf.1.imp Eq.symm id)
   ·exact ih hf.2
end Go.Pd
