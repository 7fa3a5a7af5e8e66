/- Part X6. -/
import Derived.Test.YtndfaefmmcoapaaGreatUcX5
import Derived.Carry
import Derived.ChangeArms
import Derived.Deep.Slices
import Derived.ProofKit
import Derived.OpenShut
set_option linter.unusedSectionVars false
set_option linter.unusedVariables false
set_option linter.unusedSimpArgs false
set_option linter.defProp false
open And renaming intro->γ
open List renaming append_nil->δ,mem_map->ε,map_cons->ζ,mem_cons->η,nil_append->θ,mem_singleton->κ,length_nil->μ,getD_cons_zero->ν,all_cons->ξ,getElem_mem->ο,cons_append->π,getElem?_append_right->τ,getElem?_append_left->υ,take_append_drop->χ,getElem?_eq_none->ω,getElem_of_mem->Aa,length_append->Ab,length_cons->Ac
open Nat renaming le_refl->Ad,zero_add->Ae,shiftRight_eq_div_pow->Af,pow_lt_pow_right->Ag,lt_of_lt_of_le->Ah
open BitVec renaming eq_of_toNat_eq->Ai,ofInt_natCast->Aj,toNat_ushiftRight->Ak,toNat_ofNat->Al,toNat_ofInt->Am,ofInt_mul->An,ofInt_add->Ao
open Bool renaming and_eq_true->Ap
open Int renaming natCast_nonneg->Aq,toNat_natCast->Ar
namespace Go.Pd
open Go
def ui (s:BitVec 64):Int:=s.toNat
theorem VD (s:BitVec 64):0<=ui s:=by unfold ui; omega
theorem Sq {s t:BitVec 64}:ui s=ui t ↔ s=t:=by
 unfold ui
 constructor
 ·intro h; exact Ai (by omega)
 ·rintro rfl; rfl
theorem KM {n:Int} (h0:0<=n) (h1:n<18446744073709551616):ui (BitVec.ofInt 64 n)= n:=by unfold ui;rw [Am];have:n % 2 ^ 64=n:=Int.emod_eq_of_lt h0 (by omega);omega
theorem uT (s:BitVec 64):BitVec.ofInt 64 (ui s)= s:=by unfold ui;rw [Aj];simp
theorem iU (s:BitVec 64):IntKind.u64.wrap (s.toNat:Int)= ui s:=by unfold ui;have:=s.isLt;exact wrap_u64 ⟨by omega,by omega⟩
theorem MJ (s t:BitVec 64):tY .and .u64 (ui s) (ui t)= ui (s &&& t):=by show IntKind.u64.wrap ((BitVec.ofInt 64 (ui s)&&& BitVec.ofInt 64 (ui t)).toNat:Int)= _;rw [uT,uT,iU]
theorem KN (s t:BitVec 64):tY .or .u64 (ui s) (ui t)= ui (s ||| t):=by show IntKind.u64.wrap ((BitVec.ofInt 64 (ui s) ||| BitVec.ofInt 64 (ui t)).toNat:Int)= _;rw [uT,uT,iU]
theorem Sr (s t:BitVec 64):tY .xor .u64 (ui s) (ui t)= ui (s ^^^ t):=by show IntKind.u64.wrap ((BitVec.ofInt 64 (ui s)^^^ BitVec.ofInt 64 (ui t)).toNat:Int)= _;rw [uT,uT,iU]
theorem VC (s t:BitVec 64):tY .andNot .u64 (ui s) (ui t)= ui (s &&& ~~~t):=by show IntKind.u64.wrap ((BitVec.ofInt 64 (ui s)&&& ~~~BitVec.ofInt 64 (ui t)).toNat:Int)= _;rw [uT,uT,iU]
theorem bC (n:Int):IntKind.u64.wrap n=ui (BitVec.ofInt 64 n):=by unfold ui;rw [Am];simp [IntKind.wrap,IntKind.signed,IntKind.bits];omega
theorem MH (s t:BitVec 64):IntKind.u64.wrap (ui s+ui t)= ui (s+t):=by rw [bC,Ao,uT,uT]
theorem MP (s t:BitVec 64):IntKind.u64.wrap (ui s-ui t)= ui (s-t):=by rw [bC];congr 1;rw [Int.sub_eq_add_neg,Ao,BitVec.ofInt_neg,uT,uT,BitVec.sub_eq_add_neg]
theorem ML (s t:BitVec 64):IntKind.u64.wrap (ui s*ui t)= ui (s*t):=by rw [bC,An,uT,uT]
theorem MN (s:BitVec 64) (k:Int):nk .u64 (ui s) k=ui (s <<< k.toNat):=by
 unfold nk;rw [bC];congr 1;rw [An,uT];show s*BitVec.ofInt 64 (2 ^ min k.toNat 64)= _;apply Ai;rw [BitVec.toNat_mul,BitVec.toNat_shiftLeft,Nat.shiftLeft_eq]
 have e:(BitVec.ofInt 64 (2 ^ min k.toNat 64)).toNat=2 ^ min k.toNat 64 % 2 ^ 64:=by
  have:((2:Int)^ min k.toNat 64)= ((2 ^ min k.toNat 64:Nat):Int):=by norm_cast
  rw [this,Aj,Al]
 rw [e,Nat.mul_mod_mod]
 rcases Nat.lt_or_ge k.toNat 64 with h | h
 ·rw [Nat.min_eq_left (by omega)]
 ·rw [Nat.min_eq_right h];obtain⟨m,hm⟩:=Nat.exists_eq_add_of_le h;rw [hm,Nat.pow_add,<- Nat.mul_assoc,Nat.mul_right_comm];simp
theorem MO (s:BitVec 64) (k:Int):fb .u64 (ui s) k=ui (s >>> k.toNat):=by
 unfold fb ui;rw [Ak,Af];show (s.toNat:Int).fdiv (2 ^ min k.toNat 64)= _;have:((2:Int)^ min k.toNat 64)= ((2 ^ min k.toNat 64:Nat):Int):=by norm_cast
 rw [this,Int.fdiv_eq_ediv_of_nonneg _ (Aq _),<- Int.natCast_ediv];congr 1
 rcases Nat.lt_or_ge k.toNat 64 with h | h
 ·rw [Nat.min_eq_left (by omega)]
 ·rw [Nat.min_eq_right h];have h1:=s.isLt;rw [Nat.div_eq_of_lt h1,Nat.div_eq_of_lt (Ah h1 (Nat.pow_le_pow_right (by omega) h))]
theorem MM (s t:BitVec 64):(ui s).tmod (ui t)= ui (s % t):=by unfold ui;rw [BitVec.toNat_umod,Int.tmod_eq_emod_of_nonneg (by omega),Int.natCast_emod]
theorem Sp (s t:BitVec 64):(ui s==ui t)= (s==t):=by
 by_cases h:s=t
 ·subst h; simp
 ·have:ui s≠ui t:=λe=>h (Sq.1 e);rw [beq_eq_false_iff_ne.2 this,beq_eq_false_iff_ne.2 h]
theorem MK (s t:BitVec 64):(ui s != ui t)= (s != t):=by simp only [bne,Sp]
theorem PR : D.int .u64 0=D.int .u64 (ui 0#64):=rfl
theorem PS : D.int .u64 1=D.int .u64 (ui 1#64):=rfl
theorem JZ : D.int .u64 2=D.int .u64 (ui 2#64):=rfl
theorem JY : D.int .u64 18446744073709551615=D.int .u64 (ui 18446744073709551615#64):=rfl
theorem MG : ui 2#64≠0:=by decide
def us (l:List (BitVec 64)):List (List D):=l.map λs=>[.int .u64 (ui s)]
def VX (l:List (BitVec 64)):D:=.sl 1 (us l)
theorem xI (l:List (BitVec 64)):(us l).length=l.length:=by simp [us]
theorem ud : us [] = []:=rfl
theorem cu (s:BitVec 64) (l:List (BitVec 64)):us (s :: l)= [.int .u64 (ui s)] :: us l:=rfl
theorem vX (l:List (BitVec 64)) {i:Nat} (h:i<l.length):(us l).getD i [] = [.int .u64 (ui (l.getD i 0))]:=by simp [us,List.getD,h]
theorem pP (l:List (BitVec 64)):∀ e ∈ us l,D.xR e=true:=by intro e he;simp only [us,ε] at he;obtain⟨n,_,rfl⟩:=he;rfl
theorem Y7 (l:List (BitVec 64)):∀ e ∈ us l,vT e=true:=by intro e he;simp only [us,ε] at he;obtain⟨n,_,rfl⟩:=he;rfl
theorem WO (l:List (BitVec 64)) (n:Nat):(us l).take n=us (l.take n):=by simp [us,List.map_take]
theorem cv (l:List (BitVec 64)) (s:BitVec 64):us l ++ [[.int .u64 (ui s)]]=us (l ++ [s]):=by simp [us]
theorem lA (l:List (BitVec 64)) (i:Nat) (s:BitVec 64):(us l).set i [.int .u64 (ui s)]=us (l.set i s):=by simp [us,List.map_set]
theorem aM (n:Nat) (s:BitVec 64):List.replicate n [D.int .u64 (ui s)]=us (List.replicate n s):=by simp [us]
theorem NF : ∀ {xV:List (List D)},(∀ e ∈ xV,∃ n:Int,e = [.int .u64 n])->D.WV xV->∃ l,xV=us l
 | [],_,_=>⟨[],rfl⟩
 | e :: r,h,hf=>by obtain⟨n,rfl⟩:=h e (by simp);obtain⟨l,rfl⟩:=NF (λe he=>h e (by simp [he])) hf.2;have h1:=hf.1;simp only [D.sZ,D.fact,and_true] at h1;obtain⟨h1,h2⟩:=h1;refine⟨BitVec.ofInt 64 n :: l,?_⟩;have:ui (BitVec.ofInt 64 n)= n:=KM (by simpa [IntKind.min,IntKind.signed] using h1) (by have:IntKind.u64.max=18446744073709551615:=rfl; omega);simp [us,this]
theorem UX (d:D):pU false [d]=d:=rfl
theorem UY (cs:List D):pU true cs = .agg cs:=rfl
def xB (key sz:Nat):List (List D)->D
 | []=>.xO
 | e :: r=>.yM key sz (e :: r).length
def yZ (key sz:Nat):List (List D)->List (Nat × Ob)
 | []=>[]
 | e :: r=>[(key,⟨sz,e :: r⟩)]
end Go.Pd
namespace Go.Pd
open Go
variable [uM]
def xS (f:Fr):Fr->Prop
 | []=>True
 | (t,d) :: r=>f.get t=d/\xS f r
omit [uM] in
theorem jm {f:Fr}:∀ {f':Fr},xS f f'->∀ t,f'.get t = .top\/f'.get t=f.get t
 | [],_,t=>.inl rfl
 | (s,d) :: r,h,t=>by
  simp only [Fr.get]
  split
  ·rename_i e; subst e; exact .inr h.1.symm
  ·exact jm h.2 t
theorem xT.same {C:Cx} {f f':Fr} {σ:St} (h:xS f f'):xT C f σ f' σ:=xT.frame (jm h)
end Go.Pd
namespace Go.Pd
open Go
def rr (ll:List (List (BitVec 64))):List (List D):=ll.map λl=>[VX l]
def Ja (ll:List (List (BitVec 64))):D:=.sl 1 (rr ll)
theorem zE (l:List (List (BitVec 64))):(rr l).length=l.length:=by simp [rr]
theorem nC (l:List (List (BitVec 64))) {i:Nat} (h:i<l.length):(rr l).getD i [] = [.sl 1 (us (l.getD i []))]:=by simp [rr,VX,List.getD,h]
theorem P0 (l:List (List (BitVec 64))) (n:Nat):(rr l).take n=rr (l.take n):=by simp [rr,List.map_take]
theorem cg (l:List (List (BitVec 64))):∀ e ∈ rr l,D.xR e=true:=by intro e he;simp only [rr,ε] at he;obtain⟨n,_,rfl⟩:=he;simp [D.xR,D.xD,VX]
end Go.Pd
namespace Go.Pd
open Go
theorem pC.same {n0:Nat} {σ:St} {d:D}:pC n0 σ d σ d:=.inl ⟨rfl,rfl⟩
theorem pC.drop {n0 n:Nat} {σ:St} {d d':D} (hn:n0<=n) (h:vw σ ⟨n,[]⟩ (λk=>k) d d'):pC n0 σ d ⟨n,[]⟩ d':= .inr ⟨λk=>k,hn,λ_ _=>rfl,h,by simp [stays],by simp [rY]⟩
end Go.Pd
namespace Go.Pd
open Go
universe u
variable [uM]
def GE (σ:St) (K:D->St->Prop) (d:D):Prop:=K d σ
def Mf (f:Fr) (dst:Option Nat) (K:Fr->St->Prop) (d:D) (σ:St):Prop:=K (f.put dst d) σ
def Mg (f:Fr) (dst:Option Nat) (K:Fr->Prop) (d:D):Prop:=K (f.put dst d)
def kG (Q:Exit->Fr->St->Prop) (f:Fr) (σ:St):Prop:=Q .normal f σ
def L8 (d:D) (want:Bool) (yes no:Prop):Prop:=
 match d with
 | .bool b=>if b=want then yes else no
 | .tF=>no
 | _=>False
theorem QA (b want:Bool) (yes no:Prop):L8 (.bool b) want yes no=if b=want then yes else no:=rfl
theorem Nv (want:Bool) (yes no:Prop):L8 .tF want yes no=no:=rfl
@[congr] theorem L4 {d d' : D} {want : Bool} {yes no : Prop} (h : d = d') : L8 d want yes no = L8 d' want yes no := by rw [h]
def gd (g:Option (Nat × Bool)) (f:Fr) (yes no:Prop):Prop:=
 match g with
 | none=>yes
 | some (j,want)=>L8 (f.get j) want yes no
theorem Nz (f:Fr) (yes no:Prop):gd none f yes no=yes:=rfl
theorem Ny (j:Nat) (want:Bool) (f:Fr) (yes no:Prop):gd (some (j,want)) f yes no=L8 (f.get j) want yes no:=rfl
theorem N5 (o:yX) (f:Fr) (yes no:Prop):yF o f yes no=gd o.guard f yes no:=by
 unfold yF gd
 split
 ·rename_i h; rw [h]
 ·rename_i h; rw [h]; rfl
def xw (q:Bool) (σ:St) (sz bytes:Nat) (x:D) (y:Option (List (List D))) (K:D->St->Prop):Prop:=
 match y with
 | none=>False
 | some rows=>(∀ r ∈ rows,vT r=true)/\ match x with
  | .xO=>rows.length*bytes<=140737488355328/\rows.length<=8000000000000/\(rows = []->K .xO σ)/\ (rows ≠ []->K (.yM σ.nx sz rows.length) (σ.new ⟨sz,rows⟩))
  | .yM key sz' n=>match σ.get key with
   | some ob=>sz=sz'/\ob.sz=sz/\n<=ob.xV.length/\(n+rows.length)* bytes<=140737488355328/\n+rows.length<=8000000000000 /\
    K (.yM σ.nx sz (n+rows.length)) ((σ.erase key).new ⟨sz,ob.xV.take n++rows⟩)
   | none=>False
  | .sub key sz' lo n=>match σ.get key with
   | some ob=>q=true/\sz=sz'/\ob.sz=sz/\lo+n<=ob.xV.length/\(n+rows.length)* bytes<=140737488355328/\n+rows.length<=8000000000000 /\
    ∀ pre:List (List D),(pre = []\/pre=ob.xV.take lo)->K (.sub σ.nx sz pre.length (n+rows.length)) ((σ.erase key).new ⟨sz,pre++((ob.xV.drop lo).take n++rows)⟩)
   | none=>False
  | _=>False
def TP (σ:St) (n:Nat) (a:D) (x:Option (List D)) (K:D->St->Prop):Prop:=
 match a,x with
 | .ref key sz i off,some ds=>match σ.get key with
  | some ob=>ob.sz=sz/\i<ob.xV.length/\ds.length=n/\off+n<=sz/\vT ds=true/\K .tF (σ.set key ⟨sz,ob.xV.set i (kQ (ob.xV.getD i []) off ds)⟩)
  | none=>False
 | _,_=>False
def nc (x:D) (K:D->Prop):Prop:=
 match x with
 | .sl _ xV=>K (.int .i64 xV.length)
 | .yM _ _ n=>K (.int .i64 n)
 | .sub _ _ _ n=>K (.int .i64 n)
 | .xO=>K (.int .i64 0)
 | .emp=>K (.int .i64 0)
 | _=>False
def eu (sz:Nat) (x i:D) (K:D->Prop):Prop:=
 match x,i with
 | .sl sz' xV,.int _ n=>sz=sz'/\0<=n/\n<xV.length/\K (.ptr (xV.getD n.toNat []))
 | .yM key sz' len,.int _ n=>sz=sz'/\0<=n/\n<len/\K (.ref key sz n.toNat 0)
 | .sub key sz' lo len,.int _ n=>sz=sz'/\0<=n/\n<len/\K (.ref key sz (lo+n.toNat) 0)
 | _,_=>False
def nA (neg:Bool) (x y:D) (K:D->Prop):Prop:=
 match x,y with
 | .xO,.xO=>K (.bool (!neg))
 | .yM ..,.xO | .xO,.yM ..=>K (.bool neg)
 | .emp,.xO | .xO,.emp=>K (.bool neg)
 | .sl _ (_ :: _),.xO=>K (.bool neg)
 | _,_=>False
def jz (σ:St) (n:Nat) (ag:Bool) (x:D) (K:D->Prop):Prop:=
 match x with
 | .ref key sz i off=>match σ.get key with
  | some o=>o.sz=sz/\i<o.xV.length/\off+n<=sz/\(ag=true\/n=1)/\ K (pU ag (((o.xV.getD i []).drop off).take n))
  | none=>False
 | .ptr cs=>n<=cs.length/\(ag=true\/n=1)/\ K (pU ag (cs.take n))
 | _=>False
def VU (x:D) (K:D->Prop):Prop:=
 match x with
 | .ref key sz i off=>K (.ref key sz i off)
 | .ptr cs=>K (.ptr cs)
 | .fn f cs=>K (.fn f cs)
 | _=>False
@[congr] theorem LS {x x' : D} {K : D -> Prop} (h : x = x') : VU x K = VU x' K := by rw [h]
theorem Qg {key sz i off:Nat} {K:D->Prop}:VU (.ref key sz i off) K=K (.ref key sz i off):=rfl
theorem Qf {cs:List D} {K:D->Prop}:VU (.ptr cs) K=K (.ptr cs):=rfl
theorem OO {f:FuncId} {cs:List D} {K:D->Prop}:VU (.fn f cs) K=K (.fn f cs):=rfl
def jx (σ:St) (zero:D) (ok:Bool) (m k:D) (K:D->Prop):Prop:=
 match m,k with
 | .yI key,.int kk x=>match σ.get key with
  | some o=>o.sz=0/\iC kk o.xV/\K (qC ok zero (oJ x o.xV 0))
  | none=>False
 | .qY,.int _ _=>K (qC ok zero none)
 | _,_=>False
def p5 (σ:St) (m k x:D) (K:D->St->Prop):Prop:=
 match m,k with
 | .yI key,.int kk y=>match σ.get key with
  | some o=>o.sz=0/\iC kk o.xV/\K .tF (σ.set key ⟨0,uk kk o.xV y x⟩)
  | none=>False
 | _,_=>False
def gQ (σ:St) (n:Nat) (zero:D) (ok:Bool) (m k:D) (K:D->Prop):Prop:=
 match m,k with
 | .yI key,.agg cs=>match σ.get key with
  | some o=>o.sz=0/\∃ (x:List Int) (l:List (List Int × D)),(cs=x.map (D.int .i64)/\ o.xV=sM l/\x.length=n/\∀ p ∈ l,p.1.length=n)/\ K (qC ok zero (mZ x l 0))
  | none=>False
 | _,_=>False
def jB (σ:St) (n:Nat) (m k x:D) (K:D->St->Prop):Prop:=
 match m,k with
 | .yI key,.agg cs=>match σ.get key with
  | some o=>o.sz=0/\∃ (y:List Int) (l:List (List Int × D)),(cs=y.map (D.int .i64)/\ o.xV=sM l/\(y.length=n/\∀ p ∈ l,p.1.length=n))/\ K .tF (σ.set key ⟨0,sM (bP y x l)⟩)
  | none=>False
 | _,_=>False
def T7 (σ:St) (zero m k:D) (K:D->St->Prop):Prop:=
 match m,k with
 | .yI key,.int kk y=>match σ.get key with
  | some o=>o.sz=0/\iC kk o.xV/\o.xV.length<=1000000000/\(match oJ y o.xV 0 with
   | some (i,d)=>K (.wK [d,.int .i64 i]) (σ.set key ⟨0,o.xV⟩)
   | none=>K (.wK [zero,.int .i64 o.xV.length]) (σ.set key ⟨0,o.xV ++ [[.int kk y,zero]]⟩))
  | none=>False
 | _,_=>False
def Sx (σ:St) (m s x:D) (K:D->St->Prop):Prop:=
 match m,s with
 | .yI key,.int _ i=>match σ.get key with
  | some o=>o.sz=0/\0<=i/\i<o.xV.length/\(∃ kk y d,o.xV.getD i.toNat [] = [.int kk y,d]/\K .tF (σ.set key ⟨0,o.xV.set i.toNat [.int kk y,x]⟩))
  | none=>False
 | _,_=>False
@[congr] theorem My {σ : St} {zero : D} {ok : Bool} {m m' k k' : D} {K : D -> Prop} (h : m = m') (h' : k = k') : jx σ zero ok m k K = jx σ zero ok m' k' K := by rw [h, h']
@[congr] theorem N0 {σ : St} {m m' k k' x x' : D} {K : D -> St -> Prop} (h : m = m') (h' : k = k') (h2 : x = x') : p5 σ m k x K = p5 σ m' k' x' K := by rw [h, h', h2]
@[congr] theorem NM {σ : St} {n : Nat} {zero : D} {ok : Bool} {m m' k k' : D} {K : D -> Prop} (h : m = m') (h' : k = k') : gQ σ n zero ok m k K = gQ σ n zero ok m' k' K := by rw [h, h']
@[congr] theorem NO {σ : St} {n : Nat} {m m' k k' x x' : D} {K : D -> St -> Prop} (h : m = m') (h' : k = k') (h2 : x = x') : jB σ n m k x K = jB σ n m' k' x' K := by rw [h, h', h2]
@[congr] theorem Mw {σ : St} {zero m m' k k' : D} {K : D -> St -> Prop} (h : m = m') (h' : k = k') : T7 σ zero m k K = T7 σ zero m' k' K := by rw [h, h']
@[congr] theorem Mt {σ : St} {m m' k k' x x' : D} {K : D -> St -> Prop} (h : m = m') (h' : k = k') (h2 : x = x') : Sx σ m k x K = Sx σ m' k' x' K := by rw [h, h', h2]
@[congr] theorem LO {q : Bool} {σ : St} {sz bytes : Nat} {x x' : D} {y y' : Option (List (List D))} {K : D -> St -> Prop} (h : x = x') (h' : y = y') : xw q σ sz bytes x y K = xw q σ sz bytes x' y' K := by rw [h, h']
@[congr] theorem LW {σ : St} {n : Nat} {x x' : D} {y y' : Option (List D)} {K : D -> St -> Prop} (h : x = x') (h' : y = y') : TP σ n x y K = TP σ n x' y' K := by rw [h, h']
@[congr] theorem LR {x x' : D} {K : D -> Prop} (h : x = x') : nc x K = nc x' K := by rw [h]
@[congr] theorem LP {sz : Nat} {x x' i i' : D} {K : D -> Prop} (h : x = x') (h' : i = i') : eu sz x i K = eu sz x' i' K := by rw [h, h']
@[congr] theorem NP {neg : Bool} {x x' i i' : D} {K : D -> Prop} (h : x = x') (h' : i = i') : nA neg x i K = nA neg x' i' K := by rw [h, h']
@[congr] theorem Mv {σ : St} {n : Nat} {ag : Bool} {x x' : D} {K : D -> Prop} (h : x = x') : jz σ n ag x K = jz σ n ag x' K := by rw [h]
def pX (C:Cx) (σ:St) (ev:uO->D) (k:DK) (K:D->Prop):Prop:=
 match k with
 | .len x=>nc (ev x) K
 | .idx sz x i=>eu sz (ev x) (ev i) K
 | .eA neg x y=>nA neg (ev x) (ev y) K
 | .load n ag x=>jz σ n ag (ev x) K
 | .wh zero ok m k=>jx σ zero ok (ev m) (ev k) K
 | .zn n zero ok m k=>gQ σ n zero ok (ev m) (ev k) K
 | .LB x=>VU (ev x) K
 | k=>pW C σ ev k K
theorem NB (C:Cx) (σ:St) (ev:uO->D) (k:DK) (K:D->Prop):pX C σ ev k K=pW C σ ev k K:=by cases k <;> rfl
def ns (C:Cx) (σ:St) (ev:uO->D) (k:DK) (K:D->St->Prop):Prop:=
 match k with
 | .box x=>sR C σ ev (.box x) K
 | .alloc z=>sR C σ ev (.alloc z) K
 | .store n a x=>TP σ n (ev a) (ev x).cells K
 | .app sz bytes x y=>xw (C.own.contains 77777) σ sz bytes (ev x) (rowsOf σ sz (ev y)) K
 | .mD sz bytes zero len cap=>sR C σ ev (.mD sz bytes zero len cap) K
 | .mF sz len zero parts=>sR C σ ev (.mF sz len zero parts) K
 | .YH zero x=>sR C σ ev (.YH zero x) K
 | .YQ x y=>sR C σ ev (.YQ x y) K
 | .call fn args=>sR C σ ev (.call fn args) K
 | .lh=>sR C σ ev .lh K
 | .gX m k x=>p5 σ (ev m) (ev k) (ev x) K
 | .kF n m k x=>jB σ n (ev m) (ev k) (ev x) K
 | .wg zero m k=>T7 σ zero (ev m) (ev k) K
 | .wc m s x=>Sx σ (ev m) (ev s) (ev x) K
 | k=>pX C σ ev k (GE σ K)
theorem ua (C:Cx) (σ:St) (ev:uO->D) (k:DK) (K:D->St->Prop):ns C σ ev k K=sR C σ ev k K:=by cases k <;> first | rfl | (show pX _ _ _ _ _=_; rw [NB]; rfl)
def aA (C:Cx):List yX->(Fr->St->Prop)->Fr->St->Prop
 | [],K,f,σ=>K f σ
 | ⟨dst,g,k⟩ :: rest,K,f,σ=>gd g f (ns C σ (rB f) k (Mf f dst (aA C rest K))) (aA C rest K (f.put dst .tF) σ)
theorem jA (C:Cx) (K:Fr->St->Prop):∀ (ops:List yX) (f:Fr) (σ:St),aA C ops K f σ=tS C ops f σ K
 | [],f,σ=>rfl
 | o :: rest,f,σ=>by
  have ih:aA C rest K=λf σ=>tS C rest f σ K:=by funext f σ; exact jA C K rest f σ
  unfold aA tS;rw [N5,ua,ih];rfl
def wj (C:Cx) (σ:St):List yX->(Fr->Prop)->Fr->Prop
 | [],K,f=>K f
 | ⟨dst,g,k⟩ :: rest,K,f=>gd g f (pX C σ (rB f) k (Mg f dst (wj C σ rest K))) (wj C σ rest K (f.put dst .tF))
theorem rU (C:Cx) (σ:St) (K:Fr->Prop):∀ (ops:List yX) (f:Fr),wj C σ ops K f=wL C σ ops f K
 | [],f=>rfl
 | o :: rest,f=>by
  have ih:wj C σ rest K=λf=>wL C σ rest f K:=by funext f; exact rU C σ K rest f
  unfold wj wL;rw [N5,NB,ih];rfl
def p6 (C:Cx) (post:List yX) (Q:Exit->Fr->St->Prop) (σ:St) (f:Fr):Prop:=aA C post (kG Q) f σ
def Ky (d:D) (p q:Prop):Prop:=
 match d with
 | .bool t=>if t=true then p else q
 | _=>False
theorem Pz (t:Bool) (p q:Prop):Ky (.bool t) p q=if t=true then p else q:=rfl
@[congr] theorem L3 {d d' : D} {p q : Prop} (h : d = d') : Ky d p q = Ky d' p q := by rw [h]
def tv (C:Cx) (it:Nat) (m:uO) (out nx more next pair:Nat) (rest:List yX) (code:DC) (Q:Exit->Fr->St->Prop) (f:Fr) (σ:St):Prop:=tw C it m out nx more next pair rest code f σ Q
@[congr] theorem NN {C : Cx} {it : Nat} {m : uO} {out nx more next pair : Nat} {rest : List yX} {code : DC} {Q : Exit -> Fr -> St -> Prop} {f f' : Fr} {σ : St} (h : f = f') : tv C it m out nx more next pair rest code Q f σ = tv C it m out nx more next pair rest code Q f' σ := by rw [h]
def vq (C:Cx) (code:DC) (out next:Nat) (J:Fr->St->Prop) (Q:Exit->Fr->St->Prop) (f:Fr) (σ:St):Prop:=wpS C code f σ (rI next (oK J (rI out Q)))
@[congr] theorem Pe {C : Cx} {code : DC} {out next : Nat} {J : Fr -> St -> Prop} {Q : Exit -> Fr -> St -> Prop} {f f' : Fr} {σ : St} (h : f = f') : vq C code out next J Q f σ = vq C code out next J Q f' σ := by rw [h]
def o9 (C:Cx) (k:DK) (K:Fr->D->St->Prop) (σ:St) (f1:Fr):Prop:=ns C σ (rB f1) k (K f1)
def Pg (f:Fr) (g:Fr):Prop:=g=f
def L2 (C:Cx) (un:Bool) (mid:List yX) (f1:Fr) (σ:St) (K:Fr->St->Prop) (σ1:St) (f2:Fr):Prop:=(if un=true then wj C σ mid (Pg f2) f1 else True)/\ K f2 σ1
def VT (C:Cx) (pre:List yX) (dst:Option Nat) (mid:List yX) (un:Bool) (post:List yX) (Q:Exit->Fr->St->Prop) (f:Fr) (σ:St) (f1:Fr) (d:D) (σ1:St):Prop:= wj C σ1 pre (Pg f1) f/\wj C σ1 mid (L2 C un mid (f1.put dst d) σ (aA C post (kG Q)) σ1) (f1.put dst d)
theorem OH {C:Cx} {pre:List yX} {dst:Option Nat} {mid:List yX} {un:Bool} {post:List yX} {Q:Exit->Fr->St->Prop} {f:Fr} {σ:St} {f1:Fr} {d:D} {σ1:St} :
  VT C pre dst mid un post Q f σ f1 d σ1=TJ C pre dst mid un f σ (λf σ=>tS C post f σ λf σ=>Q .normal f σ) f1 d σ1:=by
 unfold VT TJ;rw [rU,rU]
 have:L2 C un mid (f1.put dst d) σ (aA C post (kG Q)) σ1=λf2=>(if un=true then wL C σ mid (f1.put dst d) (λg=>g=f2) else True)/\ tS C post f2 σ1 λf σ=>Q .normal f σ:=by funext f2;unfold L2;rw [rU,jA];rfl
 rw [this];rfl
def YL (C:Cx):DC->(Exit->Fr->St->Prop)->Fr->St->Prop
 | .skip,Q,f,σ=>Q .normal f σ
 | .oN pre post,Q,f,σ=>wj C σ pre (p6 C post Q σ) f
 | .nh pre m mid un post,Q,f,σ=>wj C σ pre (o9 C m.k (VT C pre m.dst mid un post Q f σ) σ) f
 | .nf pre m1 mid1 m2 mid2 post,Q,f,σ=>cH C (.nf pre m1 mid1 m2 mid2 post) f σ Q
 | .seq a b,Q,f,σ=>YL C a (oK (YL C b Q) Q) f σ
 | .cond c a b,Q,f,σ=>Ky (rB f c) (YL C a Q f σ) (YL C b Q f σ)
 | .block id c,Q,f,σ=>YL C c (rI id Q) f σ
 | .loop c,Q,f,σ=>wpS C (.loop c) f σ Q
 | .wk g ps a c,Q,f,σ=>wpS C (.wk g ps a c) f σ Q
 | .dC pre m1 mid1 m2 mid2 post free,Q,f,σ=>wpS C (.dC pre m1 mid1 m2 mid2 post free) f σ Q
 | .cE pre m mid un post fl,Q,f,σ=>wpS C (.cE pre m mid un post fl) f σ Q
 | .exit id,Q,f,σ=>Q (.exit id) f σ
 | .ret,Q,f,σ=>Q .ret f σ
 | .TW ..,_,_,_=>False
 | .TT ..,_,_,_=>False
 | .TS ..,_,_,_=>False
 | .bU pre it m out nx more next pair rest code,Q,f,σ=>aA C pre (tv C it m out nx more next pair rest code Q) f σ
theorem cZ (C:Cx):∀ (dc:DC) (Q:Exit->Fr->St->Prop) (f:Fr) (σ:St),YL C dc Q f σ=cH C dc f σ Q
 | .skip,Q,f,σ=>rfl
 | .oN pre post,Q,f,σ=>by
  unfold YL cH;rw [rU]
  have:p6 C post Q σ=λf=>tS C post f σ λf σ=>Q .normal f σ:=by funext f;unfold p6;rw [jA];rfl
  rw [this]
 | .nh pre m mid un post,Q,f,σ=>by
  unfold YL cH;rw [rU]
  have:o9 C m.k (VT C pre m.dst mid un post Q f σ) σ=λf1=>sR C σ (rB f1) m.k λd σ1=>TJ C pre m.dst mid un f σ (λf σ=>tS C post f σ λf σ=>Q .normal f σ) f1 d σ1:=by funext f1;unfold o9;rw [ua];congr 1;funext d σ1;exact OH
  rw [this]
 | .nf ..,Q,f,σ=>rfl
 | .seq a b,Q,f,σ=>by
  have ih:YL C b Q=λf σ=>cH C b f σ Q:=by funext f σ; exact cZ C b Q f σ
  unfold YL;rw [cZ C a,ih];rfl
 | .cond c a b,Q,f,σ=>by unfold YL;rw [cZ C a,cZ C b];rfl
 | .block id c,Q,f,σ=>by unfold YL; rw [cZ C c]; rfl
 | .loop c,Q,f,σ=>rfl
 | .wk g ps a c,Q,f,σ=>rfl
 | .dC ..,Q,f,σ=>rfl
 | .cE ..,Q,f,σ=>rfl
 | .exit id,Q,f,σ=>rfl
 | .ret,Q,f,σ=>rfl
 | .TW ..,_,_,_=>rfl
 | .TT ..,_,_,_=>rfl
 | .TS ..,_,_,_=>rfl
 | .bU pre it m out nx more next pair rest code,Q,f,σ=>by unfold YL cH; rw [jA]; rfl
noncomputable def dt {α:Sort u} (a:α):α:=Classical.choose (⟨a,rfl⟩:∃ b:α,b=a)
theorem xf {α:Sort u} (a:α):dt a=a:=Classical.choose_spec (⟨a,rfl⟩:∃ b:α,b=a)
noncomputable def cC (C:Cx):List yX->(Fr->St->Prop)->Fr->St->Prop:=dt (aA C)
noncomputable def rZ (C:Cx) (σ:St):List yX->(Fr->Prop)->Fr->Prop:=dt (wj C σ)
noncomputable def vf (C:Cx):DC->(Exit->Fr->St->Prop)->Fr->St->Prop:=dt (YL C)
theorem lR (C:Cx):cC C=aA C:=xf _
theorem oP (C:Cx) (σ:St):rZ C σ=wj C σ:=xf _
theorem rK (C:Cx):vf C=YL C:=xf _
section
variable (C : Cx) (σ : St) (f : Fr) (Q : Exit -> Fr -> St -> Prop) (K : Fr -> St -> Prop) (K1 : Fr -> Prop) (a b c : DC) (dst : Option Nat) (g : Option (Nat × Bool)) (k : DK) (rest pre post : List yX) (x : uO) (id : Nat)
theorem Qx : cC C [] K f σ=K f σ:=by rw [lR]; rfl
theorem UZ : cC C (⟨dst,g,k⟩ :: rest) K f σ=gd g f (ns C σ (rB f) k (Mf f dst (cC C rest K))) (cC C rest K (f.put dst .tF) σ):=by rw [lR]; rfl
theorem Xs : rZ C σ [] K1 f=K1 f:=by rw [oP]; rfl
theorem Ua : rZ C σ (⟨dst,g,k⟩ :: rest) K1 f=gd g f (pX C σ (rB f) k (Mg f dst (rZ C σ rest K1))) (rZ C σ rest K1 (f.put dst .tF)):=by rw [oP]; rfl
def kn (C:Cx) (post:List yX) (Q:Exit->Fr->St->Prop) (σ:St) (f:Fr):Prop:=cC C post (kG Q) f σ
theorem SJ : vf C .skip Q f σ=Q .normal f σ:=by rw [rK]; rfl
theorem PG : vf C (.oN pre post) Q f σ=rZ C σ pre (kn C post Q σ) f:=by
 have e:kn C post Q σ=p6 C post Q σ:=by funext f; unfold kn p6; rw [lR]
 rw [rK,oP,e]; rfl
def nD (C:Cx) (k:DK) (K:Fr->D->St->Prop) (σ:St) (f1:Fr):Prop:=ns C σ (rB f1) k (K f1)
def LK (C:Cx) (un:Bool) (mid:List yX) (f1:Fr) (σ:St) (K:Fr->St->Prop) (σ1:St) (f2:Fr):Prop:=(if un=true then rZ C σ mid (Pg f2) f1 else True)/\ K f2 σ1
def PT (C:Cx) (pre:List yX) (dst:Option Nat) (mid:List yX) (un:Bool) (post:List yX) (Q:Exit->Fr->St->Prop) (f:Fr) (σ:St) (f1:Fr) (d:D) (σ1:St):Prop:= rZ C σ1 pre (Pg f1) f/\rZ C σ1 mid (LK C un mid (f1.put dst d) σ (cC C post (kG Q)) σ1) (f1.put dst d)
theorem SB {mid:List yX} {un:Bool}:vf C (.nh pre ⟨dst,g,k⟩ mid un post) Q f σ=rZ C σ pre (nD C k (PT C pre dst mid un post Q f σ) σ) f:=by
 have e:nD C k (PT C pre dst mid un post Q f σ) σ=o9 C k (VT C pre dst mid un post Q f σ) σ:=by
  funext f1;unfold nD o9;congr 1;funext d σ1;unfold PT VT
  have e2:LK C un mid (f1.put dst d) σ (cC C post (kG Q)) σ1=L2 C un mid (f1.put dst d) σ (aA C post (kG Q)) σ1:=by funext f2; unfold LK L2; rw [lR,oP]
  rw [e2,oP]
 rw [rK,oP,e]; rfl
theorem Q5 (f:Fr):Pg f f=True:=eq_true rfl
theorem PI : vf C (.seq a b) Q f σ=vf C a (oK (vf C b Q) Q) f σ:=by rw [rK]; rfl
theorem S5 : vf C (.cond x a b) Q f σ=Ky (rB f x) (vf C a Q f σ) (vf C b Q f σ):=by rw [rK]; rfl
theorem VG : vf C (.block id c) Q f σ=vf C c (rI id Q) f σ:=by rw [rK]; rfl
theorem S8 : vf C (.loop c) Q f σ=wpS C (.loop c) f σ Q:=by rw [rK]; rfl
theorem SI {g:uO} {ps:List Nat}:vf C (.wk g ps a c) Q f σ=wpS C (.wk g ps a c) f σ Q:=by rw [rK]; rfl
theorem S6 : vf C (.exit id) Q f σ=Q (.exit id) f σ:=by rw [rK]; rfl
theorem PH : vf C .ret Q f σ=Q .ret f σ:=by rw [rK]; rfl
theorem VH {it:Nat} {m:uO} {out nx more next pair:Nat} {rst:List yX} {code:DC}:vf C (.bU pre it m out nx more next pair rst code) Q f σ=cC C pre (tv C it m out nx more next pair rst code Q) f σ:=by rw [rK,lR]; rfl
end
theorem xM {C:Cx} (hm:C.P.follows .mixedOrders=true) {dc:DC} {f:Fr} {σ:St} {Q:Exit->Fr->St->Prop} (h:vf C dc Q f σ):wpS C dc f σ Q:= Su hm (by rw [<- cZ,<- rK]; exact h)
theorem xY.xN {P:Program} {g:FuncId} {fn:Func} {own:List Nat} {N:Nat} {dc:DC} {rs:List bW} {args:List D} {σ:St} {d:D} {σ':St} (hm:P.follows .mixedOrders=true) (hf:P.funcs[g]?=some fn)
  (hc:xQ P own fn=some (N,dc,rs)) (hla:args.length<=N)
  (h:D.sZ args->vf ⟨P,N,σ.nx,own,none⟩ dc (o8 ⟨P,N,σ.nx,own,none⟩ rs d σ') (gT 0 args) σ):xY P g args σ d σ':=
 xY.KC hm hf hc hla λhfa=>by rw [<- cZ,<- rK]; exact h hfa
end Go.Pd
namespace Go.Pd
open Go
theorem XK (s:BitVec 64) (w:Nat):s >>> w &&& 1#64=if s.getLsbD w then 1#64 else 0#64:=by
 apply Ai;rw [BitVec.toNat_and,Ak];have:(1#64).toNat=1:=rfl;rw [this,Nat.and_one_is_mod];unfold BitVec.getLsbD;rw [Nat.testBit_eq_decide_div_mod_eq,Af]
 by_cases h:s.toNat / 2 ^ w % 2=1
 ·simp [h]
 ·simp [h]; omega
theorem cm {k:Nat} (hk:k<62):nk .i64 1 k=((2 ^ k:Nat):Int):=by
 have hp:2 ^ k<2 ^ 62:=Ag (by omega) hk;unfold nk
 have e:min (k:Int).toNat IntKind.i64.bits=k:=by have:IntKind.i64.bits=64:=rfl;rw [this,Ar]; omega
 rw [e,Int.one_mul,wrap_i64]
 ·simp
 ·have:((2:Int)^ k)= ((2 ^ k:Nat):Int):=by simp
  rw [this];exact⟨Int.le_trans (by decide) (Aq _),Int.le_trans (Int.ofNat_le.2 (Nat.le_of_lt hp)) (by decide)⟩
theorem or_zero {a k:Nat} (h:a<2 ^ k) (hk:k<62):tY .or .i64 (a:Int) (nk .i64 0 k)= (a:Int):=by
 have hp:2 ^ k<2 ^ 62:=Ag (by omega) hk
 have e1:nk .i64 0 k=0:=by unfold nk;rw [Int.zero_mul]; rfl
 rw [e1];show IntKind.i64.wrap ((BitVec.ofInt 64 (a:Int) ||| BitVec.ofInt 64 0).toNat:Int)= _;rw [Aj,BitVec.toNat_or,Al,Nat.mod_eq_of_lt (by omega)];have:(BitVec.ofInt 64 0).toNat=0:=rfl;rw [this,Nat.or_zero];exact wrap_i64 (by omega)
end Go.Pd
namespace Go.Pd
open Go
theorem wR (key sz:Nat):xB key sz [] = .xO:=rfl
theorem pb (key sz:Nat) (e:List D) (r:List (List D)):xB key sz (e :: r)= .yM key sz (r.length+1):=rfl
theorem wS (key sz:Nat):yZ key sz [] = []:=rfl
theorem pc (key sz:Nat) (e:List D) (r:List (List D)):yZ key sz (e :: r)= [(key,⟨sz,e :: r⟩)]:=rfl
theorem mT (k:IntKind):rows k [] = []:=rfl
theorem eU (k:IntKind) (n:Int) (l:List Int):rows k (n :: l)= [.int k n] :: rows k l:=rfl
theorem ji (k:IntKind) (l:List Int) (n:Int):rows k l ++ [[.int k n]]=rows k (l ++ [n]):=by simp [rows]
theorem cj (l:List (List (BitVec 64))) (r:List (BitVec 64)):rr l ++ [[.sl 1 (us r)]]=rr (l ++ [r]):=by simp [rr,VX]
theorem So : rr [] = []:=rfl
theorem WH (l:List (BitVec 64)) (r:List (List (BitVec 64))):rr (l :: r)= [.sl 1 (us l)] :: rr r:=rfl
variable [uM]
theorem U6 {key m n sz:Nat} {xV:List (List D)} (hs:0<sz) (hp:∀ e ∈ xV,D.xR e=true) {ρ:Nat->Nat}:vw ⟨m,yZ key sz xV⟩ ⟨n,[]⟩ ρ (xB key sz xV) (.sl sz xV):=by
 cases xV with
 | nil=>simp [xB,vw]
 | cons e r=> simp only [xB,yZ,vw];refine⟨trivial,hs,by simp,⟨sz,e :: r⟩,by simp [St.get,St.look],rfl,Ad _,by simp,hp⟩
theorem pC.name {n0 n m sz j:Nat} {xV:List (List D)} {d d':D} (hn:n0<=n) (hp:∀ e ∈ xV,D.xR e=true) (hv:vw ⟨m,[(j,⟨sz,xV⟩)]⟩ ⟨n+1,[(n,⟨sz,xV⟩)]⟩ (λk=>if k=n then j else k) d d'):pC n0 ⟨m,[(j,⟨sz,xV⟩)]⟩ d ⟨n+1,[(n,⟨sz,xV⟩)]⟩ d':=by
 refine .inr ⟨λk=>if k=n then j else k,by show n0<=n+1; omega,λk hk=>if_neg (by omega),hv,?_,?_⟩
 ·intro p hp';simp only [κ] at hp';subst hp';exact⟨Nat.lt_succ_self n,⟨sz,xV⟩,by simp [St.get,St.look],rfl,.same hp⟩
 ·intro p hp' q hq' _;simp only [κ] at hp' hq';rw [hp',hq']
end Go.Pd
namespace Go.Pd
open Go
def wU (sz:Nat):List (List D)->Option Ob
 | []=>none
 | e :: r=>some ⟨sz,e :: r⟩
theorem xA {k s:Nat} {xV:List (List D)} {r:List (Nat × Ob)} {k':Nat}:St.look (yZ k s xV++r) k'=if k=k' then(wU s xV).or (St.look r k') else St.look r k':=by
 cases xV with
 | nil=>simp [yZ,wU]
 | cons e l=>simp [yZ,wU,St.look]
theorem fW {k s:Nat} {xV:List (List D)} {k':Nat}:St.look (yZ k s xV) k'=if k=k' then wU s xV else none:=by have:=xA (k:=k) (s:=s) (xV:=xV) (r:=[]) (k':=k');simp only [δ,St.look,Option.or_none] at this;exact this
theorem wu {k s:Nat} {xV:List (List D)} {r:List (Nat × Ob)} {k':Nat}:yC (yZ k s xV++r) k'=if k=k' then yC r k' else yZ k s xV++yC r k':=by
 cases xV with
 | nil=>simp [yZ]
 | cons e l=>simp [yZ,yC]
theorem v7 {k s:Nat} {xV:List (List D)} {k':Nat}:yC (yZ k s xV) k'=if k=k' then [] else yZ k s xV:=by have:=wu (k:=k) (s:=s) (xV:=xV) (r:=[]) (k':=k');simp only [δ,yC] at this;exact this
theorem j7 : ∀ {r:List (Nat × Ob)} {k:Nat} {o:Ob},St.look r k=none->zL r k o=r
 | [],_,_,_=>rfl
 | (j,o') :: r,k,o,h=>by
  simp only [St.look] at h
  split at h
  ·cases h
  ·rename_i hn;simp only [zL,if_neg hn,j7 h]
theorem ov : ∀ {r:List (Nat × Ob)} {k:Nat},St.look r k=none->yC r k=r
 | [],_,_=>rfl
 | (j,o') :: r,k,h=>by
  simp only [St.look] at h
  split at h
  ·cases h
  ·rename_i hn;simp only [yC,if_neg hn,ov h]
theorem jo {k s:Nat} {xV els':List (List D)} {r:List (Nat × Ob)} (hl:els'.length=xV.length) (h:St.look r k=none):zL (yZ k s xV++r) k ⟨s,els'⟩= yZ k s els'++r:=by
 cases xV with
 | nil=> have:els' = []:=List.eq_nil_of_length_eq_zero (by simpa using hl);subst this;simp only [yZ,θ];exact j7 h
 | cons e l=>
  cases els' with
  | nil=>simp at hl
  | cons e' l'=>simp [yZ,zL]
theorem qe {k s:Nat} {xV els':List (List D)} (hl:els'.length=xV.length):zL (yZ k s xV) k ⟨s,els'⟩= yZ k s els':=by have:=jo (k:=k) (s:=s) (r:=[]) hl rfl;simp only [δ] at this;exact this
theorem aa {k s:Nat} {xV:List (List D)} {r:List (Nat × Ob)} {k':Nat} {o:Ob} (h:k≠k'):zL (yZ k s xV++r) k' o=yZ k s xV++zL r k' o:=by
 cases xV with
 | nil=>simp [yZ]
 | cons e l=>simp [yZ,zL,h]
theorem YZ (k s:Nat) (xV:List (List D)):(xB k s xV).cells=some [xB k s xV]:=by cases xV <;> rfl
theorem UV (k s:Nat) (xV:List (List D)):(xB k s xV).one=true:=by cases xV <;> rfl
theorem Tl (k s n:Nat):(D.yM k s n).cells=some [.yM k s n]:=rfl
theorem Tp (k s l n:Nat):(D.sub k s l n).cells=some [.sub k s l n]:=rfl
theorem Tk (k:IntKind) (n:Int):(D.int k n).cells=some [.int k n]:=rfl
theorem Wo (b:Bool):(D.bool b).cells=some [.bool b]:=rfl
theorem To (s:ByteArray):(D.str s).cells=some [.str s]:=rfl
theorem Q0 (sz:Nat) (xV:List (List D)):(D.sl sz xV).cells=some [.sl sz xV]:=rfl
theorem Wt : D.xO.cells=some [.xO]:=rfl
theorem Tj : D.emp.cells=some [.emp]:=rfl
theorem Ti (cs:List D):(D.agg cs).cells=some cs:=rfl
theorem Px (f:FuncId) (cs:List D):(D.fn f cs).cells=some [.fn f cs]:=rfl
theorem Tn (a b c d:Nat):(D.ref a b c d).cells=some [.ref a b c d]:=rfl
theorem Tm (cs:List D):(D.ptr cs).cells=some [.ptr cs]:=rfl
theorem Wp (k:Nat):(D.yI k).cells=some [.yI k]:=rfl
theorem Ws : D.oM.cells=some [.oM]:=rfl
theorem Wr : D.qY.cells=some [.qY]:=rfl
theorem Wq : D.sP.cells=some [.sP]:=rfl
theorem OX (k:IntKind) (n:Int):(D.int k n).one=true:=rfl
theorem Qs (b:Bool):(D.bool b).one=true:=rfl
theorem Og (s:ByteArray):(D.str s).one=true:=rfl
theorem M8 (sz:Nat) (xV:List (List D)):(D.sl sz xV).one=true:=rfl
theorem Qz : D.xO.one=true:=rfl
theorem OZ : D.emp.one=true:=rfl
theorem M7 (f:FuncId) (cs:List D):(D.fn f cs).one=true:=rfl
theorem Oe (a b c d:Nat):(D.ref a b c d).one=true:=rfl
theorem Oc (a b c:Nat):(D.yM a b c).one=true:=rfl
theorem Od (cs:List D):(D.ptr cs).one=true:=rfl
theorem Qt (k:Nat):(D.yI k).one=true:=rfl
theorem Qw : D.oM.one=true:=rfl
theorem Qv : D.qY.one=true:=rfl
theorem Qu : D.sP.one=true:=rfl
section
variable [uM]
theorem TX {q:Bool} {σ:St} {sz bytes key:Nat} {xV:List (List D)} {rw:List (List D)} {K:D->St->Prop} (h:σ.get key=wU sz xV) (h0:rw ≠ []) :
  xw q σ sz bytes (xB key sz xV) (some rw) K=((∀ r ∈ rw,vT r=true)/\ (xV.length+rw.length)* bytes<=140737488355328/\xV.length+rw.length<=8000000000000 /\
   K (xB σ.nx sz (xV++rw)) ⟨σ.nx+1,yZ σ.nx sz (xV++rw)++ yC σ.xZ key⟩):=by
 cases xV with
 | nil=>
  obtain⟨r,rs,rfl⟩:∃ r rs,rw=r :: rs:=by cases rw with | nil=>exact absurd rfl h0 | cons r rs=>exact⟨r,rs,rfl⟩
  have he:yC σ.xZ key=σ.xZ:=ov h;simp only [xw,xB,yZ,St.new,he,θ,μ,Ae];simp
 | cons e l=>
  have e1:l.length+1+rw.length=l.length+rw.length+1:=by omega
  simp only [xw,xB,h,wU,St.erase,St.new,yZ];simp [xB,yZ,e1]
theorem Wk {q:Bool} {nx:Nat} {xZ:List (Nat × Ob)} {sz bytes key:Nat} {xV:List (List D)} {r:List D} {rs:List (List D)} {K:D->St->Prop} (h:St.look xZ key=wU sz xV) :
  xw q ⟨nx,xZ⟩ sz bytes (xB key sz xV) (some (r :: rs)) K=((∀ x ∈ r :: rs,vT x=true)/\ (xV.length+(r :: rs).length)* bytes<=140737488355328/\xV.length+(r :: rs).length<=8000000000000 /\
   K (xB nx sz (xV++r :: rs)) ⟨nx+1,yZ nx sz (xV++r :: rs)++ yC xZ key⟩):=TX h (by simp)
theorem Po {q:Bool} {σ:St} {sz bytes:Nat} {r:List D} {rs:List (List D)} {K:D->St->Prop} :
  xw q σ sz bytes .xO (some (r :: rs)) K=((∀ x ∈ r :: rs,vT x=true)/\ (r :: rs).length*bytes<=140737488355328/\(r :: rs).length<=8000000000000/\K (.yM σ.nx sz (r :: rs).length) (σ.new ⟨sz,r :: rs⟩)):=by
 simp [xw]
theorem Pp {q:Bool} {σ:St} {sz sz' bytes key n:Nat} {rows:List (List D)} {K:D->St->Prop} :
  xw q σ sz bytes (.yM key sz' n) (some rows) K=((∀ x ∈ rows,vT x=true)/\ match σ.get key with
   | some ob=>sz=sz'/\ob.sz=sz/\n<=ob.xV.length/\(n+rows.length)* bytes<=140737488355328/\n+rows.length<=8000000000000/\K (.yM σ.nx sz (n+rows.length)) ((σ.erase key).new ⟨sz,ob.xV.take n++rows⟩)
   | none=>False):=rfl
def YE (nx:Nat) (xZ:List (Nat × Ob)) (n key sz i off:Nat) (ds:List D) (K:D->St->Prop):Option Ob->Prop
 | some ob=>ob.sz=sz/\i<ob.xV.length/\ds.length=n/\off+n<=sz/\vT ds=true/\K .tF ⟨nx,zL xZ key ⟨sz,ob.xV.set i (kQ (ob.xV.getD i []) off ds)⟩⟩
 | none=>False
@[congr] theorem LU {nx : Nat} {xZ : List (Nat × Ob)} {n key sz i off : Nat} {ds : List D} {K : D -> St -> Prop} {o o' : Option Ob} (h : o = o') : YE nx xZ n key sz i off ds K o = YE nx xZ n key sz i off ds K o' := by rw [h]
theorem Rc {nx:Nat} {xZ:List (Nat × Ob)} {n key sz i off:Nat} {ds:List D} {K:D->St->Prop}:TP ⟨nx,xZ⟩ n (.ref key sz i off) (some ds) K=YE nx xZ n key sz i off ds K (St.look xZ key):=by simp only [TP,St.get];cases St.look xZ key <;> rfl
theorem V8 {nx:Nat} {xZ:List (Nat × Ob)} {n key sz i off:Nat} {ds:List D} {K:D->St->Prop} {sz':Nat} {xV:List (List D)} :
  YE nx xZ n key sz i off ds K (some ⟨sz',xV⟩)= (sz'=sz/\i<xV.length/\ds.length=n/\off+n<=sz/\vT ds=true/\K .tF ⟨nx,zL xZ key ⟨sz,xV.set i (kQ (xV.getD i []) off ds)⟩⟩):=rfl
theorem V7 {nx:Nat} {xZ:List (Nat × Ob)} {n key sz i off:Nat} {ds:List D} {K:D->St->Prop} {xV:List (List D)} :
  YE nx xZ n key sz i off ds K (wU sz xV)= (i<xV.length/\ds.length=n/\off+n<=sz/\vT ds=true/\K .tF ⟨nx,zL xZ key ⟨sz,xV.set i (kQ (xV.getD i []) off ds)⟩⟩):=by
 cases xV with
 | nil=>simp [YE,wU]
 | cons e l=>simp [YE,wU]
def uh (n:Nat) (ag:Bool) (sz i off:Nat) (K:D->Prop):Option Ob->Prop
 | some o=>o.sz=sz/\i<o.xV.length/\off+n<=sz/\(ag=true\/n=1)/\ K (pU ag (((o.xV.getD i []).drop off).take n))
 | none=>False
@[congr] theorem Mu {n sz i off : Nat} {ag : Bool} {K : D -> Prop} {o o' : Option Ob} (h : o = o') : uh n ag sz i off K o = uh n ag sz i off K o' := by rw [h]
theorem UI {nx:Nat} {xZ:List (Nat × Ob)} {n key sz i off:Nat} {ag:Bool} {K:D->Prop}:jz ⟨nx,xZ⟩ n ag (.ref key sz i off) K=uh n ag sz i off K (St.look xZ key):=by simp only [jz,St.get];cases St.look xZ key <;> rfl
theorem ZB {n sz i off:Nat} {ag:Bool} {K:D->Prop} {sz':Nat} {xV:List (List D)}:uh n ag sz i off K (some ⟨sz',xV⟩)= (sz'=sz/\i<xV.length/\off+n<=sz/\(ag=true\/n=1)/\ K (pU ag (((xV.getD i []).drop off).take n))):=rfl
theorem Z9 {n sz i off:Nat} {ag:Bool} {K:D->Prop} {xV:List (List D)}:uh n ag sz i off K (wU sz xV)= (i<xV.length/\off+n<=sz/\(ag=true\/n=1)/\ K (pU ag (((xV.getD i []).drop off).take n))):=by
 cases xV with
 | nil=>simp [uh,wU]
 | cons e l=>simp [uh,wU]
theorem UH {σ:St} {n:Nat} {ag:Bool} {cs:List D} {K:D->Prop}:jz σ n ag (.ptr cs) K=(n<=cs.length/\(ag=true\/n=1)/\ K (pU ag (cs.take n))):=rfl
def uA (kk:IntKind) (l:List (Int × D)):List (List D):=l.map λp=>[.int kk p.1,p.2]
def wI (x:Int):List (Int × D)->Nat->Option (Nat × D)
 | [],_=>none
 | (m,d) :: r,i=>if x=m then some (i,d) else wI x r (i+1)
def eD (l:List (Int × D)) (x:Int) (d:D):List (Int × D):=
 match wI x l 0 with
 | some (i,_)=>l.set i (x,d)
 | none=>l ++ [(x,d)]
theorem Qe (kk:IntKind):uA kk [] = []:=rfl
theorem Xk (kk:IntKind) (l:List (Int × D)):(uA kk l).length=l.length:=by simp [uA]
theorem pd (kk:IntKind) (l:List (Int × D)):iC kk (uA kk l):=by intro row h;simp only [uA,ε] at h;obtain⟨p,_,rfl⟩:=h;exact⟨_,_,rfl⟩
theorem cO (kk:IntKind) (x:Int):∀ (l:List (Int × D)) (i:Nat),oJ x (uA kk l) i=wI x l i
 | [],_=>rfl
 | (m,d) :: r,i=>by show oJ x ([.int kk m,d] :: uA kk r) i=_;rw [oJ,wI,cO kk x r (i+1)]
theorem ZG (kk:IntKind) (l:List (Int × D)) (x:Int) (d:D):uk kk (uA kk l) x d=uA kk (eD l x d):=by
 unfold uk eD;rw [cO]
 cases wI x l 0 with
 | none=>simp [uA]
 | some p=>simp [uA,List.map_set]
theorem aR : ∀ {a b:List Int},a.map (D.int .i64)= b.map (D.int .i64)->a=b
 | [],[],_=>rfl
 | [],_ :: _,h=>by simp at h
 | _ :: _,[],h=>by simp at h
 | x :: a,y :: b,h=>by simp only [ζ,List.cons.injEq,D.int.injEq,true_and] at h;rw [h.1,aR h.2]
theorem qm : ∀ {a b:List (List Int × D)},sM a=sM b->a=b
 | [],[],_=>rfl
 | [],_ :: _,h=>by simp [sM] at h
 | _ :: _,[],h=>by simp [sM] at h
 | (x,d) :: a,(y,e) :: b,h=>by simp only [sM,ζ,List.cons.injEq,D.agg.injEq,and_true] at h;obtain⟨⟨h1,h2⟩,h3⟩:=h;rw [aR h1,h2,qm (a:=a) (b:=b) h3]
theorem yt {nx:Nat} {xZ:List (Nat × Ob)} {n:Nat} {zero:D} {ok:Bool} {key:Nat} {x:List Int} {l:List (List Int × D)} {cs:List D} {K:D->Prop} (hg:St.look xZ key=some ⟨0,sM l⟩) (hc:cs=x.map (D.int .i64)) (hx:x.length=n) (hl:∀ p ∈ l,p.1.length=n) :
  gQ ⟨nx,xZ⟩ n zero ok (.yI key) (.agg cs) K=K (qC ok zero (mZ x l 0)):=by
 subst hc;simp only [gQ,St.get,hg];refine propext ⟨λh=>?_,λh=>⟨trivial,x,l,⟨rfl,rfl,hx,hl⟩,h⟩⟩;obtain⟨_,x',l',⟨h1,h2,_,_⟩,h3⟩:=h;rw [aR h1,qm h2]; exact h3
theorem ZI {nx:Nat} {xZ:List (Nat × Ob)} {n:Nat} {key:Nat} {y:List Int} {l:List (List Int × D)} {cs:List D} {x:D} {K:D->St->Prop} (hg:St.look xZ key=some ⟨0,sM l⟩) (hc:cs=y.map (D.int .i64)) (hx:y.length=n) (hl:∀ p ∈ l,p.1.length=n) :
  jB ⟨nx,xZ⟩ n (.yI key) (.agg cs) x K=K .tF ⟨nx,zL xZ key ⟨0,sM (bP y x l)⟩⟩:=by
 subst hc;simp only [jB,St.get,hg,St.set];refine propext ⟨λh=>?_,λh=>⟨trivial,y,l,⟨rfl,rfl,hx,hl⟩,h⟩⟩;obtain⟨_,x',l',⟨h1,h2,_,_⟩,h3⟩:=h;rw [aR h1,qm h2]; exact h3
theorem yw {nx:Nat} {xZ:List (Nat × Ob)} {n:Nat} {key:Nat} {y:List Int} {l:List (List Int × D)} {cs:List D} {x:D} {K:D->St->Prop} (hg:St.look xZ key=some ⟨0,sM l⟩) (hc:cs=y.map (D.int .i64)) (hx:y.length=n) (hl:∀ p ∈ l,p.1.length=n) (hno:mZ y l 0=none) :
  jB ⟨nx,xZ⟩ n (.yI key) (.agg cs) x K=K .tF ⟨nx,zL xZ key ⟨0,sM (l ++ [(y,x)])⟩⟩:=by
 rw [ZI hg hc hx hl,show bP y x l=l ++ [(y,x)] by unfold bP; rw [hno]]
def jy (kk:IntKind) (x:Int) (zero:D) (ok:Bool) (K:D->Prop):Option Ob->Prop
 | some o=>o.sz=0/\iC kk o.xV/\K (qC ok zero (oJ x o.xV 0))
 | none=>False
@[congr] theorem Mz {kk : IntKind} {x : Int} {zero : D} {ok : Bool} {K : D -> Prop} {o o' : Option Ob} (h : o = o') : jy kk x zero ok K o = jy kk x zero ok K o' := by rw [h]
theorem ZC {nx:Nat} {xZ:List (Nat × Ob)} {zero:D} {ok:Bool} {key:Nat} {kk:IntKind} {x:Int} {K:D->Prop}:jx ⟨nx,xZ⟩ zero ok (.yI key) (.int kk x) K=jy kk x zero ok K (St.look xZ key):=by simp only [jx,St.get];cases St.look xZ key <;> rfl
theorem ZD {σ:St} {zero:D} {ok:Bool} {kk:IntKind} {x:Int} {K:D->Prop}:jx σ zero ok .qY (.int kk x) K=K (qC ok zero none):=rfl
theorem pn {kk:IntKind} {x:Int} {zero:D} {ok:Bool} {K:D->Prop} {l:List (Int × D)}:jy kk x zero ok K (some ⟨0,uA kk l⟩)= K (qC ok zero (wI x l 0)):=by simp only [jy,cO];exact propext ⟨λh=>h.2.2,λh=>⟨trivial,pd kk l,h⟩⟩
theorem UK {kk:IntKind} {x:Int} {zero:D} {ok:Bool} {K:D->Prop}:jy kk x zero ok K (some ⟨0,[]⟩)= K (qC ok zero none):=pn (l:=[])
def kg (nx:Nat) (xZ:List (Nat × Ob)) (key:Nat) (kk:IntKind) (y:Int) (x:D) (K:D->St->Prop):Option Ob->Prop
 | some o=>o.sz=0/\iC kk o.xV/\K .tF ⟨nx,zL xZ key ⟨0,uk kk o.xV y x⟩⟩
 | none=>False
@[congr] theorem Mx {nx : Nat} {xZ : List (Nat × Ob)} {key : Nat} {kk : IntKind} {y : Int} {x : D} {K : D -> St -> Prop} {o o' : Option Ob} (h : o = o') : kg nx xZ key kk y x K o = kg nx xZ key kk y x K o' := by rw [h]
theorem ZH {nx:Nat} {xZ:List (Nat × Ob)} {key:Nat} {kk:IntKind} {y:Int} {x:D} {K:D->St->Prop}:p5 ⟨nx,xZ⟩ (.yI key) (.int kk y) x K=kg nx xZ key kk y x K (St.look xZ key):=by simp only [p5,St.get];cases St.look xZ key <;> rfl
theorem pr {nx:Nat} {xZ:List (Nat × Ob)} {key:Nat} {kk:IntKind} {y:Int} {x:D} {K:D->St->Prop} {l:List (Int × D)}:kg nx xZ key kk y x K (some ⟨0,uA kk l⟩)= K .tF ⟨nx,zL xZ key ⟨0,uA kk (eD l y x)⟩⟩:=by simp only [kg,ZG];exact propext ⟨λh=>h.2.2,λh=>⟨trivial,pd kk l,h⟩⟩
theorem UO {nx:Nat} {xZ:List (Nat × Ob)} {key:Nat} {kk:IntKind} {y:Int} {x:D} {K:D->St->Prop}:kg nx xZ key kk y x K (some ⟨0,[]⟩)= K .tF ⟨nx,zL xZ key ⟨0,uA kk [(y,x)]⟩⟩:=pr (l:=[])
theorem UP (zero:D):qC true zero none = .wK [zero,.bool false]:=rfl
theorem UQ (zero:D) (i:Nat) (d:D):qC true zero (some (i,d))= .wK [d,.bool true]:=rfl
theorem ZJ (zero:D):qC false zero none=zero:=rfl
theorem ZK (zero:D) (i:Nat) (d:D):qC false zero (some (i,d))= d:=rfl
theorem OF {sz:Nat} {xV:List (List D)} {K:D->Prop}:nc (.sl sz xV) K=K (.int .i64 xV.length):=rfl
theorem QL {k sz n:Nat} {K:D->Prop}:nc (.yM k sz n) K=K (.int .i64 n):=rfl
theorem QM {k sz lo n:Nat} {K:D->Prop}:nc (.sub k sz lo n) K=K (.int .i64 n):=rfl
theorem QG {sz key sz' lo len:Nat} {k:IntKind} {n:Int} {K:D->Prop}:eu sz (.sub key sz' lo len) (.int k n) K=(sz=sz'/\0<=n/\n<len/\K (.ref key sz (lo+n.toNat) 0)):=rfl
theorem UG {K:D->Prop}:nc .xO K=K (.int .i64 0):=rfl
theorem QK {K:D->Prop}:nc .emp K=K (.int .i64 0):=rfl
theorem O7 {sz sz':Nat} {xV:List (List D)} {k:IntKind} {n:Int} {K:D->Prop}:eu sz (.sl sz' xV) (.int k n) K=(sz=sz'/\0<=n/\n<xV.length/\K (.ptr (xV.getD n.toNat []))):=rfl
theorem QF {sz key sz' len:Nat} {k:IntKind} {n:Int} {K:D->Prop}:eu sz (.yM key sz' len) (.int k n) K=(sz=sz'/\0<=n/\n<len/\K (.ref key sz n.toNat 0)):=rfl
theorem Qh {neg:Bool} {K:D->Prop}:nA neg .xO .xO K=K (.bool (!neg)):=rfl
theorem Qi {neg:Bool} {K:D->Prop} {a b c:Nat}:nA neg (.yM a b c) .xO K=K (.bool neg):=rfl
theorem Qj {neg:Bool} {K:D->Prop} {a b c:Nat}:nA neg .xO (.yM a b c) K=K (.bool neg):=rfl
theorem Qk {neg:Bool} {K:D->Prop}:nA neg .emp .xO K=K (.bool neg):=rfl
theorem Ql {neg:Bool} {K:D->Prop}:nA neg .xO .emp K=K (.bool neg):=rfl
theorem Qm {neg:Bool} {K:D->Prop} {sz:Nat} {e:List D} {r:List (List D)}:nA neg (.sl sz (e :: r)) .xO K=K (.bool neg):=rfl
def PM (nx:Nat) (xZ:List (Nat × Ob)) (sz sz' bytes key n:Nat) (rows:List (List D)) (K:D->St->Prop):Option Ob->Prop
 | some ob=>sz=sz'/\ob.sz=sz/\n<=ob.xV.length/\(n+rows.length)* bytes<=140737488355328/\n+rows.length<=8000000000000/\K (.yM nx sz (n+rows.length)) ⟨nx+1,(nx,⟨sz,ob.xV.take n++rows⟩) :: yC xZ key⟩
 | none=>False
@[congr] theorem LN {nx : Nat} {xZ : List (Nat × Ob)} {sz sz' bytes key n : Nat} {rows : List (List D)} {K : D -> St -> Prop} {o o' : Option Ob} (h : o = o') : PM nx xZ sz sz' bytes key n rows K o = PM nx xZ sz sz' bytes key n rows K o' := by rw [h]
theorem Ta {q:Bool} {nx:Nat} {xZ:List (Nat × Ob)} {sz sz' bytes key n:Nat} {rows:List (List D)} {K:D->St->Prop} :
  xw q ⟨nx,xZ⟩ sz bytes (.yM key sz' n) (some rows) K=((∀ x ∈ rows,vT x=true)/\ PM nx xZ sz sz' bytes key n rows K (St.look xZ key)):=by
 rw [Pp];simp only [St.get];cases St.look xZ key <;> rfl
theorem TY {nx:Nat} {xZ:List (Nat × Ob)} {sz sz' bytes key n:Nat} {rows:List (List D)} {K:D->St->Prop} {sz0:Nat} {xV:List (List D)} :
  PM nx xZ sz sz' bytes key n rows K (some ⟨sz0,xV⟩)= (sz=sz'/\sz0=sz/\n<=xV.length/\(n+rows.length)* bytes<=140737488355328/\n+rows.length<=8000000000000/\K (.yM nx sz (n+rows.length)) ⟨nx+1,(nx,⟨sz,xV.take n++rows⟩) :: yC xZ key⟩):=rfl
def WT (q:Bool) (nx:Nat) (xZ:List (Nat × Ob)) (sz sz' bytes key lo n:Nat) (rows:List (List D)) (K:D->St->Prop):Option Ob->Prop
 | some ob=>q=true/\sz=sz'/\ob.sz=sz/\lo+n<=ob.xV.length/\(n+rows.length)* bytes<=140737488355328/\n+rows.length<=8000000000000 /\
  ∀ pre:List (List D),(pre = []\/pre=ob.xV.take lo)->K (.sub nx sz pre.length (n+rows.length)) ⟨nx+1,(nx,⟨sz,pre++((ob.xV.drop lo).take n++rows)⟩) :: yC xZ key⟩
 | none=>False
@[congr] theorem Mq {q : Bool} {nx : Nat} {xZ : List (Nat × Ob)} {sz sz' bytes key lo n : Nat} {rows : List (List D)} {K : D -> St -> Prop} {o o' : Option Ob} (h : o = o') : WT q nx xZ sz sz' bytes key lo n rows K o = WT q nx xZ sz sz' bytes key lo n rows K o' := by rw [h]
theorem Tb {q:Bool} {nx:Nat} {xZ:List (Nat × Ob)} {sz sz' bytes key lo n:Nat} {rows:List (List D)} {K:D->St->Prop} :
  xw q ⟨nx,xZ⟩ sz bytes (.sub key sz' lo n) (some rows) K=((∀ x ∈ rows,vT x=true)/\ WT q nx xZ sz sz' bytes key lo n rows K (St.look xZ key)):=by
 simp only [xw,St.get];cases St.look xZ key <;> rfl
theorem Wj {q:Bool} {nx:Nat} {xZ:List (Nat × Ob)} {sz sz' bytes key lo n:Nat} {rows:List (List D)} {K:D->St->Prop} {sz0:Nat} {xV:List (List D)} :
  WT q nx xZ sz sz' bytes key lo n rows K (some ⟨sz0,xV⟩)= (q=true/\sz=sz'/\sz0=sz/\lo+n<=xV.length/\(n+rows.length)* bytes<=140737488355328/\n+rows.length<=8000000000000 /\
   ∀ pre:List (List D),(pre = []\/pre=xV.take lo)->K (.sub nx sz pre.length (n+rows.length)) ⟨nx+1,(nx,⟨sz,pre++((xV.drop lo).take n++rows)⟩) :: yC xZ key⟩):=rfl
theorem UF {key sz:Nat} {xV:List (List D)} {K:D->Prop}:nc (xB key sz xV) K=K (.int .i64 xV.length):=by cases xV <;> simp [nc,xB]
theorem U9 {key sz sz':Nat} {xV:List (List D)} {k:IntKind} {n:Int} {K:D->Prop}:eu sz' (xB key sz xV) (.int k n) K=(sz'=sz/\0<=n/\n<xV.length/\K (.ref key sz n.toNat 0)):=by
 cases xV with
 | nil=>simp only [eu,xB,μ]; simp; intro _ h1 h2; omega
 | cons e l=>simp [eu,xB]; rintro rfl _ _; rfl
theorem Yl {key sz:Nat} {neg:Bool} {xV:List (List D)} {K:D->Prop}:nA neg (xB key sz xV) .xO K=K (.bool (if neg then !xV.isEmpty else xV.isEmpty)):=by cases xV <;> cases neg <;> simp [nA,xB]
def sw : List (Nat × Nat)->Nat->Nat
 | [],k=>k
 | (a,b) :: r,k=>if k=a then b else sw r k
def tW (xV:List (List D)):Prop:=∀ e ∈ xV,D.xR e=true
theorem yJ (l:List (BitVec 64)):tW (us l)= True:=eq_true (pP l)
theorem uU (l:List (List (BitVec 64))):tW (rr l)= True:=eq_true (cg l)
theorem ZO (k:IntKind) (l:List Int):tW (rows k l)= True:=eq_true (tI k l)
theorem Uc : tW []=True:=by simp [tW]
theorem ZN {kk:IntKind} {l:List (Int × D)} (h:∀ p ∈ l,p.2.xD=true):tW (uA kk l):=by intro e he;simp only [uA,ε] at he;obtain⟨p,hp,rfl⟩:=he;simp [D.xR,D.xD,h p hp]
theorem z6 (a b:List (List D)):tW (a++b)= (tW a/\tW b):=by simp only [tW,List.mem_append];exact propext ⟨λh=>⟨λe he=>h e (.inl he),λe he=>h e (.inr he)⟩,λh e he=>he.elim (h.1 e) (h.2 e)⟩
theorem Ue (l:List (BitVec 64)) (i:Nat) (s:BitVec 64):tW ((us l).set i [.int .u64 (ui s)])= True:=by rw [lA,yJ]
theorem WS {σ σ':St} {ρ:Nat->Nat} {a b sz:Nat} {xV:List (List D)}:vw σ σ' ρ (xB a sz xV) (xB b sz xV)= (xV = []\/(b<σ'.nx/\a=ρ b)):=by
 cases xV with
 | nil=>simp [xB,vw]
 | cons e l=>simp [xB,vw]
def Kj (σ':St) (ρ:Nat->Nat) (k0:Nat):Prop:=∀ p ∈ σ'.xZ,ρ p.1≠k0
theorem Zp {σ σ':St} {ρ:Nat->Nat} {k0 sz:Nat} {xV:List (List D)} (hs:0<sz) (h:Kj σ' ρ k0) (hg:σ.get k0=wU sz xV) (hp:tW xV):vw σ σ' ρ (xB k0 sz xV) (.sl sz xV)= True:=by
 cases xV with
 | nil=>simp [xB,vw]
 | cons e l=> refine eq_true ?_;simp only [xB,vw];exact⟨trivial,hs,h,⟨sz,e :: l⟩,hg,rfl,Ad _,by simp,hp⟩
def NL (σ σ':St) (ρ:Nat->Nat) (as bs:List (List D)):Prop:=u6 σ σ' ρ as bs
theorem Rv {σ σ':St} {ρ:Nat->Nat} {xV:List (List D)} (h:tW xV):NL σ σ' ρ xV xV=True:=eq_true (.same h)
end
section
variable [uM]
theorem n9 {σ σ':St} {ρ:Nat->Nat}:∀ {a:List D},D.xR a=true->vI σ σ' ρ a a:=by
 intro a h
 have key:∀ d:D,d.xD=true->vw σ σ' ρ d d:=by
  intro d
  refine D.rec (motive_1:=λd=>d.xD=true->vw σ σ' ρ d d) (motive_2:=λ_=>True) (motive_3:=λcs=>D.xR cs=true->vI σ σ' ρ cs cs)
   ?top ?tF ?int ?bool ?str ?sl ?xO ?emp ?agg ?wK ?fn ?ref ?yM ?sub ?ptr ?yI ?oM ?qY ?sP ?aG trivial (λ_ _ _ _=>trivial) ?nil ?cons d
  case agg=>intro cs ih h; simp only [D.xD] at h; simp only [vw]; exact⟨trivial,ih h⟩
  case wK=>intro cs ih h; simp only [D.xD] at h; simp only [vw]; exact⟨trivial,ih h⟩
  case fn=>intro f cs ih h; simp only [D.xD] at h; simp only [vw]; exact⟨trivial,trivial,ih h⟩
  case ref=>intro k sz i off h; simp [D.xD] at h
  case yM=>intro k sz n h; simp [D.xD] at h
  case sub=>intro k sz lo n h; simp [D.xD] at h
  case yI=>intro k h; simp [D.xD] at h
  case nil=>intro _; simp [vI]
  case cons=> intro d r h1 h2 h;simp only [D.xR,Ap] at h;simp only [vI];exact⟨h1 h.1,h2 h.2⟩
  case ptr=>intro cs _ _; simp [vw]
  all_goals intros; simp [vw]
 induction a with
 | nil=>simp [vI]
 | cons d r ih=> simp only [D.xR,Ap] at h;simp only [vI];exact⟨key d h.1,ih h.2⟩
theorem l9 {σ σ':St} {ρ:Nat->Nat}:∀ {xV:List (List D)} {a b:List D},tW xV->a.length=b.length->vI σ σ' ρ a b->u6 σ σ' ρ (xV ++ [a]) (xV ++ [b])
 | [],a,b,_,hl,h=>.cons hl h .nil
 | e :: r,a,b,hp,hl,h=>.cons rfl (n9 (hp e (by simp))) (l9 (λx hx=>hp x (by simp [hx])) hl h)
theorem MR {σ σ':St} {ρ:Nat->Nat} {xV:List (List D)} {a b:List D} (h:NL σ σ' ρ (xV ++ [a]) (xV ++ [b])):a.length=b.length/\vI σ σ' ρ a b:=by
 have:=(vz (show u6 σ σ' ρ (xV ++ [a]) (xV ++ [b]) from h)).2 xV.length (by simp);have e1:∀ x:List D,(xV ++ [x]).getD xV.length []=x:=by intro x; simp [List.getD]
 rw [e1,e1] at this;refine⟨this.1,?_⟩
 rcases this.2 with h | ⟨h1,h2⟩
 ·exact h
 ·rw [h1]; exact n9 h2
theorem tg {σ σ':St} {ρ:Nat->Nat} {xV:List (List D)} {a b:List D} (hp:tW xV):NL σ σ' ρ (xV ++ [a]) (xV ++ [b])= (a.length=b.length/\vI σ σ' ρ a b):= propext ⟨λh=>MR h,λh=>l9 hp h.1 h.2⟩
theorem PC {σ σ':St} {ρ:Nat->Nat} {a b:List D}:NL σ σ' ρ [a] [b]=(a.length=b.length/\vI σ σ' ρ a b):=tg (xV:=[]) (by simp [tW])
theorem MS {σ σ':St} {ρ:Nat->Nat} {l:List (List (BitVec 64))} {r:List (BitVec 64)} {x:D}:NL σ σ' ρ (rr l ++ [[x]]) (rr (l ++ [r]))= vI σ σ' ρ [x] [.sl 1 (us r)]:=by rw [<- cj,tg (cg l)];simp
def yQ (σ σ':St) (ρ:Nat->Nat) (p:Nat × Ob):Prop:=p.1<σ'.nx/\∃ ob,σ.get (ρ p.1)= some ob/\ob.sz=p.2.sz/\NL σ σ' ρ ob.xV p.2.xV
def kH (σ σ':St) (ρ:Nat->Nat) (l:List (Nat × Ob)):Prop:=∀ p ∈ l,yQ σ σ' ρ p
theorem xg {σ σ':St} {ρ:Nat->Nat}:kH σ σ' ρ []=True:=by simp [kH]
theorem cR {σ σ':St} {ρ:Nat->Nat} {p:Nat × Ob} {l:List (Nat × Ob)}:kH σ σ' ρ (p :: l)= (yQ σ σ' ρ p/\kH σ σ' ρ l):=by simp [kH]
theorem qg {σ σ':St} {ρ:Nat->Nat} {k sz:Nat} {xV:List (List D)} {l:List (Nat × Ob)} (hk:k<σ'.nx) (hg:σ.get (ρ k)= wU sz xV) (hp:tW xV):kH σ σ' ρ (yZ k sz xV++l)= kH σ σ' ρ l:=by
 cases xV with
 | nil=>rfl
 | cons e r=> simp only [yZ,π,θ,cR];refine propext ⟨λh=>h.2,λh=>⟨⟨hk,⟨sz,e :: r⟩,hg,rfl,.same hp⟩,h⟩⟩
theorem Yr {σ σ':St} {ρ:Nat->Nat} {k sz:Nat} {xV:List (List D)} (hk:k<σ'.nx) (hg:σ.get (ρ k)= wU sz xV) (hp:tW xV):kH σ σ' ρ (yZ k sz xV)= True:=by have:=qg (l:=[]) hk hg hp;rw [δ,xg] at this;exact this
theorem qy {sz:Nat} {xV:List (List D)} (h:xV ≠ []):wU sz xV=some ⟨sz,xV⟩:=by
 cases xV with
 | nil=>exact absurd rfl h
 | cons e r=>rfl
theorem zf {σ σ':St} {ρ:Nat->Nat} {k sz:Nat} {xV els':List (List D)} {l:List (Nat × Ob)} (hk:k<σ'.nx) (hg:σ.get (ρ k)= wU sz els') (hq:NL σ σ' ρ els' xV):kH σ σ' ρ (yZ k sz xV++l)= kH σ σ' ρ l:=by
 cases xV with
 | nil=>rfl
 | cons e r=>
  have hne:els' ≠ []:=by rintro rfl;have:=(vz (show u6 σ σ' ρ [] (e :: r) from hq)).1;simp at this
  simp only [yZ,π,θ,cR];refine propext ⟨λh=>h.2,λh=>⟨⟨hk,⟨sz,els'⟩,?_,rfl,hq⟩,h⟩⟩;rw [hg,qy hne]
theorem ae {σ σ':St} {ρ:Nat->Nat} {k sz:Nat} {xV els':List (List D)} (hk:k<σ'.nx) (hg:σ.get (ρ k)= wU sz els') (hq:NL σ σ' ρ els' xV):kH σ σ' ρ (yZ k sz xV)= True:=by have:=zf (l:=[]) hk hg hq;rw [δ,xg] at this;exact this
def Ph (ks:List Nat) (l:List (Nat × Ob)):Prop:=∀ p ∈ l,p.1 ∈ ks
theorem Vy {ks:List Nat}:Ph ks []=True:=by simp [Ph]
theorem XY {ks:List Nat} {p:Nat × Ob} {l:List (Nat × Ob)}:Ph ks (p :: l)= (p.1 ∈ ks/\Ph ks l):=by simp [Ph]
theorem XX {ks:List Nat} {k sz:Nat} {xV:List (List D)} {l:List (Nat × Ob)} (h:k ∈ ks):Ph ks (yZ k sz xV++l)= Ph ks l:=by
 cases xV with
 | nil=>rfl
 | cons e r=>simp [yZ,XY,h]
theorem UA {ks:List Nat} {k sz:Nat} {xV:List (List D)} (h:k ∈ ks):Ph ks (yZ k sz xV)= True:=by have:=XX (sz:=sz) (xV:=xV) (l:=[]) h;rw [δ,Vy] at this;exact this
def bQ (ρ:Nat->Nat) (k0:Nat) (l:List (Nat × Ob)):Prop:=∀ p ∈ l,ρ p.1≠k0
theorem NW {σ':St} {ρ:Nat->Nat} {k0:Nat}:Kj σ' ρ k0=bQ ρ k0 σ'.xZ:=propext Iff.rfl
theorem ft {ρ:Nat->Nat} {k0:Nat}:bQ ρ k0 []=True:=by simp [bQ]
theorem oc {ρ:Nat->Nat} {k0:Nat} {p:Nat × Ob} {l:List (Nat × Ob)}:bQ ρ k0 (p :: l)= (ρ p.1≠k0/\bQ ρ k0 l):=by simp [bQ]
theorem od {ρ:Nat->Nat} {k0 k sz:Nat} {xV:List (List D)} {l:List (Nat × Ob)}:bQ ρ k0 (yZ k sz xV++l)= ((xV = []\/ρ k≠k0)/\ bQ ρ k0 l):=by
 cases xV with
 | nil=>simp [yZ]
 | cons e r=>simp [yZ,oc]
theorem YV {ρ:Nat->Nat} {k0 k sz:Nat} {xV:List (List D)}:bQ ρ k0 (yZ k sz xV)= (xV = []\/ρ k≠k0):=by have:=od (ρ:=ρ) (k0:=k0) (k:=k) (sz:=sz) (xV:=xV) (l:=[]);rw [δ,ft,and_true] at this;exact this
theorem xT.tP {C:Cx} {f f':Fr} {σ σ':St} (l:List (Nat × Nat)) (ks:List Nat) (hn:C.n0<=σ'.nx) (h0:∀ p ∈ l,C.n0<=p.1) (hd:(ks.map (sw l)).Nodup)
  (h:Ph ks σ'.xZ/\kH σ σ' (sw l) σ'.xZ/\YR σ σ' (sw l) f f'):xT C f σ f' σ':=by
 obtain⟨hk,hs,hf⟩:=h
 refine xT.view (sw l) hn ?_ hf ?_ ?_
 ·intro k hk
  induction l with
  | nil=>rfl
  | cons p l ih=>
   obtain⟨a,b⟩:=p;have:C.n0<=a:=h0 (a,b) (by simp);simp only [sw];rw [if_neg (by omega)];have hm:∀ p ∈ l,C.n0<=p.1:=λp hp=>h0 p (by simp [hp]);clear ih hd hs hf h0
   induction l with
   | nil=>rfl
   | cons q l ih=> obtain⟨c,d⟩:=q;have:C.n0<=c:=hm (c,d) (by simp);simp only [sw];rw [if_neg (by omega)];exact ih λp hp=>hm p (by simp [hp])
 ·intro p hp;obtain⟨h1,ob,h2,h3,h4⟩:=hs p hp;exact⟨h1,ob,h2,h3,h4⟩
 ·intro p hp q hq e;have h1:=hk p hp;have h2:=hk q hq
  have inj:∀ (ks:List Nat),(ks.map (sw l)).Nodup->∀ a ∈ ks,∀ b ∈ ks,sw l a=sw l b->a=b:=by
   intro ks
   induction ks with
   | nil=>intro _ a ha; simp at ha
   | cons x ks ih=>
    intro hd a ha b hb e;simp only [ζ,List.nodup_cons,ε,not_exists,not_and] at hd
    rcases η.1 ha with h1 | h1 <;> rcases η.1 hb with h2 | h2
    ·rw [h1,h2]
    ·rw [h1] at e; exact absurd e.symm (hd.1 b h2)
    ·rw [h2] at e; exact absurd e (hd.1 a h1)
    ·exact ih hd.2 a h1 b h2 e
  exact inj ks hd _ h1 _ h2 e
theorem pC.tP {n0:Nat} {σ σ':St} {d d':D} (l:List (Nat × Nat)) (ks:List Nat) (hn:n0<=σ'.nx) (h0:∀ p ∈ l,n0<=p.1) (hd:(ks.map (sw l)).Nodup)
  (h:Ph ks σ'.xZ/\kH σ σ' (sw l) σ'.xZ/\vw σ σ' (sw l) d d'):pC n0 σ d σ' d':=by
 obtain⟨hk,hs,hf⟩:=h
 refine .inr ⟨sw l,hn,?_,hf,?_,?_⟩
 ·intro k hk;have hm:∀ p ∈ l,n0<=p.1:=h0;clear hd hs hf h0
  induction l with
  | nil=>rfl
  | cons q l ih=> obtain⟨c,d⟩:=q;have:n0<=c:=hm (c,d) (by simp);simp only [sw];rw [if_neg (by omega)];exact ih λp hp=>hm p (by simp [hp])
 ·intro p hp;obtain⟨h1,ob,h2,h3,h4⟩:=hs p hp;exact⟨h1,ob,h2,h3,h4⟩
 ·intro p hp q hq e;have h1:=hk p hp;have h2:=hk q hq
  have inj:∀ (ks:List Nat),(ks.map (sw l)).Nodup->∀ a ∈ ks,∀ b ∈ ks,sw l a=sw l b->a=b:=by
   intro ks
   induction ks with
   | nil=>intro _ a ha; simp at ha
   | cons x ks ih=>
    intro hd a ha b hb e;simp only [ζ,List.nodup_cons,ε,not_exists,not_and] at hd
    rcases η.1 ha with h1 | h1 <;> rcases η.1 hb with h2 | h2
    ·rw [h1,h2]
    ·rw [h1] at e; exact absurd e.symm (hd.1 b h2)
    ·rw [h2] at e; exact absurd e (hd.1 a h1)
    ·exact ih hd.2 a h1 b h2 e
  exact inj ks hd _ h1 _ h2 e
def kp (C:Cx) (Q:Exit->Fr->St->Prop) (e:Exit) (f:Fr) (σ:St):Prop:=∃ f' σ',xT C f σ f' σ'/\Q e f' σ'
theorem kp.yD {C:Cx} {Q:Exit->Fr->St->Prop} {e:Exit} {f:Fr} {σ:St} (h:Q e f σ):kp C Q e f σ:=⟨f,σ,xT.refl,h⟩
theorem kp.go {C:Cx} {Q:Exit->Fr->St->Prop} {e:Exit} {f:Fr} {σ:St} (f':Fr) (σ':St) (hw:xT C f σ f' σ') (h:Q e f' σ'):kp C Q e f σ:=⟨f',σ',hw,h⟩
theorem ju {C:Cx} {dc:DC} {f:Fr} {σ:St} {Q:Exit->Fr->St->Prop} (h:wpS C dc f σ (kp C Q)):wpS C dc f σ Q:=by intro code hc E a w G;refine wpIn_mono (h code hc E a w G) λe a' w' hh=>?_;obtain⟨f1,σ1,G1,f2,σ2,hw,hq⟩:=hh;exact⟨f2,σ2,hw E a' w' G1,hq⟩
theorem Qa {C:Cx} (hmx:C.P.follows .mixedOrders=true) {it:Nat} {m:uO} {out nx more next pair:Nat} {rest:List yX} {code:DC} {Q:Exit->Fr->St->Prop} {f:Fr} {σ:St} (key:Nat) (xV:List (List D)) (hm:rB f m = .yI key) (hob:σ.get key=some ⟨0,xV⟩)
  {α:Type} (g:List Nat->α->Fr) (s:List Nat->α->St) (J:List Nat->α->Prop) (a0:α) (h0:J [] a0)
  (hw:∀ b,xT { C with n0:=max C.n0 (key+1) } ((it,.aG b) :: f) σ ((it,.aG b) :: g [] a0) (s [] a0))
  (hkey:∀ seen a,J seen a->(s seen a).get key=some ⟨0,xV⟩)
  (done:∀ b seen a,J seen a->seen.Nodup->(∀ j ∈ seen,j<xV.length)->seen.length=xV.length->Q .normal ((more,.top) :: (nx,.top) :: (it,.aG b) :: g seen a) (s seen a))
  (round:∀ b seen a i,J seen a->seen.Nodup->(∀ j ∈ seen,j<xV.length)->i<xV.length->i ∉ seen ->
   cC { C with n0:=max C.n0 (key+1) } rest (vq { C with n0:=max C.n0 (key+1) } code out next (λf' σ'=>∃ a',J (seen ++ [i]) a'/\f'=(it,.aG b) :: g (seen ++ [i]) a'/\σ'=s (seen ++ [i]) a') Q)
    ((pair,.wK (xV.getD i [])) :: (more,.top) :: (nx,.top) :: (it,.aG b) :: g seen a) (s seen a)) (hrd:C.rd=none:=by rfl) :
  tv C it m out nx more next pair rest code Q f σ:=by
 refine⟨key,xV,hrd,hm,hob,λb=>⟨λseen f σ=>∃ a,J seen a/\f=(it,.aG b) :: g seen a/\σ=s seen a,⟨_,_,hw b,a0,h0,rfl,rfl⟩,?_,?_⟩⟩
 ·rintro seen f σ ⟨a,hj,rfl,rfl⟩;exact⟨by simp [Fr.get],hkey seen a hj⟩
 ·rintro seen f σ ⟨a,hj,rfl,rfl⟩ hnd hlt;refine⟨λhl=>done b seen a hj hnd hlt hl,λi hi hni=>?_⟩;have h:=round b seen a i hj hnd hlt hi hni;rw [lR,jA] at h;exact h
theorem UR {C:Cx} (hmx:C.P.follows .mixedOrders=true) {code:DC} {out next:Nat} {Q:Exit->Fr->St->Prop} {f:Fr} {σ:St} {α:Type} {J:α->Prop} {g:α->Fr} {s:α->St}
  (h:vf C code (rI next (oK (λf' σ'=>∃ a',J a'/\xT C f' σ' (g a') (s a')) (rI out Q))) f σ):vq C code out next (λf' σ'=>∃ a',J a'/\f'=g a'/\σ'=s a') Q f σ:=by
 have h2:=xM hmx h;refine ju (o5 h2 λe f1 σ1 hq=>?_)
 cases e with
 | normal=> obtain⟨a',hj',hwk⟩:=hq;exact⟨_,_,hwk,a',hj',rfl,rfl⟩
 | exit j=>
  simp only [rI,oK] at hq
  by_cases hj2:j=next
  ·rw [if_pos hj2] at hq;obtain⟨a',hj',hwk⟩:=hq;refine⟨_,_,hwk,?_⟩;simp only [rI,oK];rw [if_pos hj2];exact⟨a',hj',rfl,rfl⟩
  ·rw [if_neg hj2] at hq;refine⟨f1,σ1,xT.refl,?_⟩;simp only [rI,oK];rw [if_neg hj2];exact hq
 | goto l=>exact⟨f1,σ1,xT.refl,hq⟩
 | ret=>exact⟨f1,σ1,xT.refl,hq⟩
 | panic ch=>exact⟨f1,σ1,xT.refl,hq⟩
 | outgrown=>exact⟨f1,σ1,xT.refl,hq⟩
theorem uZ {C:Cx} {dc:DC} {f:Fr} {σ:St} {Q:Exit->Fr->St->Prop} {α:Type} (g:α->Fr) (s:α->St) (I:α->Prop) (m:α->Nat) (a0:α) (h0:I a0) (hw:xT C f σ (g a0) (s a0))
  (round:∀ a,I a->wpS C dc (g a) (s a) (oK (λf' σ'=>∃ a',I a'/\xT C f' σ' (g a') (s a')/\ m a'<m a) (kp C Q))):wpS C (.loop dc) f σ Q:=
 ju (xP g s I m a0 h0 hw round)
end
theorem N3 : ((0:Nat):Int)= 0:=rfl
theorem vP {k:Nat} (h:k<9223372036854775807):IntKind.i64.wrap ((k:Int)+ 1)= ((k+1:Nat):Int):=by rw [wrap_i64 (by omega)]; omega
section
variable [uM]
theorem Jx (f:Fr) (n:Nat):rB f (.t n)= Fr.get f n:=rfl
theorem Jy (f:Fr) (d:D):rB f (.c d)= d:=rfl
theorem RA (f:Fr) (t:Nat) (d:D):Fr.put f (some t) d=(t,d) :: f:=rfl
theorem R9 (f:Fr) (d:D):Fr.put f none d=f:=rfl
theorem get_nil (n:Nat):Fr.get [] n = .top:=rfl
theorem QC (t:Nat) (d:D) (r:Fr) (n:Nat):Fr.get ((t,d) :: r) n=if t=n then d else Fr.get r n:=rfl
theorem look_nil (k:Nat):St.look [] k=none:=rfl
theorem xX (j:Nat) (o:Ob) (r:List (Nat × Ob)) (k:Nat):St.look ((j,o) :: r) k=if j=k then some o else St.look r k:=rfl
theorem RW (k:Nat) (o:Ob):zL [] k o = []:=rfl
theorem oX (j:Nat) (o:Ob) (r:List (Nat × Ob)) (k:Nat) (o':Ob):zL ((j,o) :: r) k o'=if j=k then(j,o') :: r else(j,o) :: zL r k o':=rfl
theorem Z0 (k:Nat):yC [] k = []:=rfl
theorem Yc (j:Nat) (o:Ob) (r:List (Nat × Ob)) (k:Nat):yC ((j,o) :: r) k=if j=k then yC r k else(j,o) :: yC r k:=rfl
theorem Se (n:Nat) (l:List (Nat × Ob)) (k:Nat):St.get ⟨n,l⟩ k=St.look l k:=rfl
theorem set_mk (n:Nat) (l:List (Nat × Ob)) (k:Nat) (o:Ob):St.set ⟨n,l⟩ k o=⟨n,zL l k o⟩:=rfl
theorem Lx (n:Nat) (l:List (Nat × Ob)) (o:Ob):St.new ⟨n,l⟩ o=⟨n+1,(n,o) :: l⟩:=rfl
theorem Q6 (n:Nat) (l:List (Nat × Ob)) (k:Nat):St.erase ⟨n,l⟩ k=⟨n,yC l k⟩:=rfl
theorem Up (σ:St) (sz sz':Nat) (xV:List (List D)):rowsOf σ sz (.sl sz' xV)= if sz=sz' then some xV else none:=rfl
theorem Yn (σ:St) (sz:Nat):rowsOf σ sz .xO=some []:=rfl
theorem Zc (σ:St) (sz:Nat):rowsOf σ sz .emp=some []:=rfl
def zD :=γ @SJ (γ @PG (γ @SB (γ @PI (γ @S5 (γ @VG (γ @S8 (γ @SI (γ @S6 (γ @PH (γ @VH (γ @Xs (γ @Ua (γ @Qx (γ @UZ (γ @Nz @Ny)))))))))))))))
def zT :=γ @Jx (γ @Jy (γ @RA (γ @R9 (γ @get_nil (γ @QC (γ @look_nil (γ @xX (γ @RW (γ @oX (γ @Z0 (γ @Yc (γ @Se (γ @set_mk (γ @Lx (γ @Q6 (γ @Up (γ @Yn (γ @Zc (γ @Int.cast_ofNat_Int (γ @N3 (γ @Int.toNat_zero (γ @Int.toNat_one (γ @beq_self_eq_true.{0} (γ @bne_self_eq_false.{0} (γ @Bool.false_eq_true (γ @Q5 (γ @QA (γ @Nv (γ @Pz (γ @Wk (γ @Po (γ @Ta (γ @TY (γ @Tb (γ @Wj (γ @Rc (γ @V8 (γ @V7 (γ @UF (γ @OF (γ @QL (γ @QM (γ @UG (γ @QK (γ @U9 (γ @O7 (γ @QF (γ @QG (γ @Yl (γ @Qh (γ @Qi (γ @Qj (γ @Qk (γ @Ql (γ @Qm (γ @UI (γ @ZB (γ @Z9 (γ @UH (γ @Qg (γ @Qf (γ @OO (γ @ZC (γ @ZD (γ @pn (γ @UK (γ @ZH (γ @pr (γ @UO (γ @UP (γ @UQ (γ @ZJ (γ @ZK (γ @xA (γ @fW (γ @wu (γ @v7 (γ @jo (γ @qe (γ @aa (γ @Option.or_none.{0} (γ @List.length_set.{0} (γ @YZ (γ @UV (γ @Nat.lt_irrefl (γ @yO (γ @xI (γ @WO (γ @true_and (γ @and_true (γ @ν.{0} (γ @List.getD_cons_succ.{0} (γ @Ac.{0} (γ @μ.{0} (γ @Bool.not_true (γ @Bool.not_false (γ @ζ.{0,0} (γ @List.map_nil.{0,0} (γ @θ.{0} (γ @π.{0} (γ @δ.{0} (γ @UX (γ @UY (γ @List.take_succ_cons.{0} (γ @List.take_zero.{0} (γ @List.drop_succ_cons.{0} (γ @List.drop_zero.{0} (γ @false_implies (γ @or_true (γ @true_or (γ @Ad (γ @Ar (γ @and_self (γ @PR (γ @PS (γ @JZ (γ @JY (γ @MJ (γ @KN (γ @Sr (γ @VC (γ @MH (γ @MP (γ @ML (γ @MN (γ @MO (γ @MM (γ @Sp (γ @MK (γ @MG (γ @not_false_eq_true (γ @Tl (γ @Tp (γ @Tk (γ @Wo (γ @To (γ @Q0 (γ @Wt (γ @Tj (γ @Ti (γ @Px (γ @Tn (γ @Tm (γ @Wp (γ @Ws (γ @Wr (γ @Wq (γ @OX (γ @Qs (γ @Og (γ @M8 (γ @Qz (γ @OZ (γ @M7 (γ @Oe (γ @Oc (γ @Od (γ @Qt (γ @Qw (γ @Qv (γ @Qu (γ @ξ.{0} (γ @List.all_nil.{0} (γ @Bool.and_true (γ @Bool.and_self (γ @List.set_cons_zero.{0} (γ @List.set_cons_succ.{0} (γ @Ae (γ @Nat.add_zero (γ @Nat.zero_lt_succ (γ @Nat.lt_add_one (γ @decide_true (γ @decide_false (γ @gt_iff_lt.{0} (γ @ge_iff_le.{0} (γ @zE (γ @P0 (γ @Bool.true_and (γ @decide_eq_true_eq (γ @decide_eq_false_iff_not (γ @wR (γ @pb (γ @wS (γ @pc (γ @jj (γ @ji (γ @cv (γ @cj (γ @mT (γ @eU (γ @ud (γ @cu (γ @κ.{0} (γ @List.cons_ne_nil.{0} (γ @List.take_length.{0} (γ @Option.map_some.{0,0} (γ @Option.map_none.{0,0} (γ @Ab.{0} (γ @So @WH)))))))))))))))))))))))))))))))))))))))))))))))))))))))))))))))))))))))))))))))))))))))))))))))))))))))))))))))))))))))))))))))))))))))))))))))))))))))))))))))))))))))))))))))))))))))))))))))))))))))
def zR :=γ @N3 (γ @XX (γ @UA (γ @XY (γ @Vy (γ @qg (γ @Yr (γ @zf (γ @ae (γ @cR (γ @xg (γ @MS (γ @tg (γ @Rv (γ @PC (γ @WS (γ @Zp (γ @NW (γ @od (γ @YV (γ @oc (γ @ft (γ @yJ (γ @uU (γ @ZO (γ @Uc (γ @z6 (γ @Ue (γ @xA (γ @fW (γ @Option.or_none.{0} (γ @Nat.zero_lt_succ (γ @Nat.lt_add_one (γ @Option.some.injEq.{0} (γ @and_true (γ @true_and (γ @and_self (γ @or_true (γ @true_or (γ @not_false_eq_true (γ @η.{0} (γ @κ.{0} (γ @List.not_mem_nil.{0} (γ @D.int.injEq (γ @D.bool.injEq (γ @D.sl.injEq (γ @D.ref.injEq (γ @Ac.{0} (γ @μ.{0} (γ @cv (γ @ji (γ @cj (γ @Ae (γ @cu (γ @ud (γ @So (γ @WH (γ @mT @eU)))))))))))))))))))))))))))))))))))))))))))))))))))))))))
end
end Go.Pd
namespace Go.Pd
open Go Go.ChangeShapes Go.WideShapes Go.RowKit
def tn : List (Nat × Nat)->Nat->Nat->Bool
 | [],o,n=>o==n
 | (a,s) :: r,o,n=>(a==o)&& tn r (o+s) n
def qV (P:Program):Nat->TypeId->Bool
 | 0,_=>false
 | n+1,t=>match P.underlying t with
  | some .bool=>true
  | some (.int _)=>true
  | some .string=>true
  | some (.slice e)=>qV P n e&&decide (0<P.cellsOf e)
  | some (.struct fs)=>(fs.toList.all λf=>qV P n f.type)&& tn (fs.toList.map λf=>(f.offset,P.cellsOf f.type)) 0 (P.cellsOf t)
  | some (.array k e)=>qV P n e&&(P.cellsOf t==k*P.cellsOf e)
  | _=>false
mutual
def zI (P:Program):Nat->TypeId->List D->Prop
 | 0,_,_=>False
 | n+1,t,ds=>match P.underlying t with
  | some .bool=>∃ b,ds = [.bool b]
  | some (.int k)=>∃ i,ds = [.int k i]
  | some .string=>∃ s,ds = [.str s]
  | some (.slice e)=>∃ xV,ds = [.sl (P.cellsOf e) xV]/\∀ row ∈ xV,zI P n e row
  | some (.struct fs)=>pT P n (fs.toList.map λf=>f.type) ds
  | some (.array k e)=>pT P n (List.replicate k e) ds
  | _=>False
def pT (P:Program):Nat->List TypeId->List D->Prop
 | _,[],ds=>ds = []
 | n,f :: fs,ds=>∃ a b,ds=a++b/\zI P n f a/\pT P n fs b
end
def cV (P:Program) (n:Nat) (t:TypeId) (d:D):Prop:=
 match P.underlying t with
 | some (.struct _)=>∃ ds,d = .agg ds/\zI P n t ds
 | some (.array _ _)=>∃ ds,d = .agg ds/\zI P n t ds
 | _=>zI P n t [d]
def ck (P:Program) (n:Nat):List TypeId->List D->Prop
 | [],as=>as = []
 | t :: ts,as=>∃ a r,as=a :: r/\cV P n t a/\ck P n ts r
def uw (w:World) (cs:List Value) (ds:List D):Prop:=ds.length=cs.length/\∀ j,j<ds.length->RP (λ_=>False) w (cs.getD j undef) (ds.getD j .top)
theorem zc {w:World} {a b:List Value} {x y:List D} (h:uw w a x) (h':uw w b y):uw w (a++b) (x++y):=by
 refine⟨by simp [h.1,h'.1],λj hj=>?_⟩;simp only [List.getD]
 by_cases hx:j<x.length
 ·rw [υ hx,υ (by rw [<- h.1]; exact hx)];exact h.2 j hx
 ·have h1:=h.1;rw [τ (by omega),τ (by omega),<- h.1];rw [Ab] at hj;exact h'.2 (j-x.length) (by omega)
section
variable {H : Type} {oC : TypeId × Value -> H} {P : Program} {w : World} {sp : Nat -> Bool} {held : Bool}
theorem gp {n:Nat} (key:∀ (t:TypeId) (cs:List Value) (fuel:Nat) (x:DataW H × List MemPlace),qV P n t=true->DataW.trod oC P w 0 sp held fuel t cs=some x->∃ ds,uw w cs ds/\zI P n t ds) {cs:List Value} {fuel:Nat} :
  ∀ (fl:List Field) (o:Nat),(fl.all λf=>qV P n f.type)= true->tn (fl.map λf=>(f.offset,P.cellsOf f.type)) o cs.length=true ->
   (∀ f ∈ fl,∃ x,DataW.trod oC P w 0 sp held fuel f.type ((cs.drop f.offset).take (P.cellsOf f.type))= some x)->∃ ds,uw w (cs.drop o) ds/\pT P n (fl.map λf=>f.type) ds
 | [],o,_,hc,_=>by simp only [List.map_nil,tn,beq_iff_eq] at hc;subst hc;exact⟨[],by simp [uw],by simp [pT]⟩
 | f :: fl,o,hp,hc,hx=>by
  simp only [ξ,Ap] at hp;simp only [ζ,tn,Ap,beq_iff_eq] at hc;obtain⟨x,h1⟩:=hx f (by simp);obtain⟨a,ha,hsa⟩:=key _ _ _ _ hp.1 h1;obtain⟨b,hb,hsb⟩:=gp key fl (o+P.cellsOf f.type) hp.2 hc.2 λg hg=>hx g (by simp [hg]);refine⟨a++b,?_,by simp only [ζ,pT]; exact⟨a,b,rfl,hsa,hsb⟩⟩;rw [hc.1] at ha
  have e:cs.drop o=(cs.drop o).take (P.cellsOf f.type)++ cs.drop (o+P.cellsOf f.type):=by rw [<- List.drop_drop,χ]
  rw [e];exact zc ha hb
theorem SO {n:Nat} (key:∀ (t:TypeId) (cs:List Value) (fuel:Nat) (x:DataW H × List MemPlace),qV P n t=true->DataW.trod oC P w 0 sp held fuel t cs=some x->∃ ds,uw w cs ds/\zI P n t ds) {cs:List Value} {fuel:Nat} {e:TypeId} (hp:qV P n e=true) :
  ∀ (k o:Nat),cs.length=(o+k)* P.cellsOf e ->
   (∀ i,o<=i->i<o+k->∃ x,DataW.trod oC P w 0 sp held fuel e ((cs.drop (i*P.cellsOf e)).take (P.cellsOf e))= some x)->∃ ds,uw w (cs.drop (o*P.cellsOf e)) ds/\pT P n (List.replicate k e) ds
 | 0,o,hl,_=>⟨[],by rw [List.drop_eq_nil_of_le (by rw [hl]; simp)]; simp [uw],by simp [pT]⟩
 | k+1,o,hl,hx=>by
  obtain⟨x,h1⟩:=hx o (Ad _) (by omega);obtain⟨a,ha,hsa⟩:=key _ _ _ _ hp h1;obtain⟨b,hb,hsb⟩:=SO key hp k (o+1) (by rw [hl]; congr 1; omega) λi h1 h2=>hx i (by omega) (by omega);refine⟨a++b,?_,by simp only [List.replicate_succ,pT]; exact⟨a,b,rfl,hsa,hsb⟩⟩
  have e1:cs.drop (o*P.cellsOf e)= (cs.drop (o*P.cellsOf e)).take (P.cellsOf e)++ cs.drop ((o+1)* P.cellsOf e):=by rw [Nat.succ_mul,<- List.drop_drop,χ]
  rw [e1];exact zc ha hb
theorem vt : ∀ (n:Nat) (t:TypeId) (cs:List Value) (fuel:Nat) (x:DataW H × List MemPlace),qV P n t=true->DataW.trod oC P w 0 sp held fuel t cs=some x->∃ ds,uw w cs ds/\zI P n t ds
 | 0,t,cs,fuel,x,hp,_=>by simp [qV] at hp
 | n + 1,t,cs,fuel,x,hp,h=>by
  unfold qV at hp;unfold zI
  split at hp
  ·rename_i hu;obtain⟨b,rfl,_⟩:=DataW.trod_bool hu h;exact⟨[.bool b],⟨rfl,λj hj=>by simp at hj; subst hj; exact .bool b⟩,⟨b,rfl⟩⟩
  ·rename_i k hu;obtain⟨i,rfl,_,hw⟩:=DataW.trod_int hu h;refine⟨[.int k i],⟨rfl,λj hj=>?_⟩,⟨i,rfl⟩⟩;simp at hj; subst hj;simp only [Lit.wf,Ap,decide_eq_true_eq] at hw;exact .int hw
  ·rename_i hu;obtain⟨s,rfl,_,hs⟩:=DataW.trod_string hu h;exact⟨[.str s],⟨rfl,λj hj=>by simp at hj; subst hj; exact .str hs⟩,⟨s,rfl⟩⟩
  ·rename_i e hu;simp only [Ap,decide_eq_true_eq] at hp
   rcases Deep.open_slice hu h with ⟨rfl,_⟩ | ⟨a,len,cap,m,fu,Dd,Pl,rfl,_,hl,hm,hmm,_,hx⟩
   ·exact⟨[.sl (P.cellsOf e) []],⟨rfl,λj hj=>by simp at hj; subst hj; exact .nq none 0 _ (λ_=>rfl)⟩,⟨[],rfl,by simp⟩⟩
   ·have hle:len<=m:=by rw [hmm]; split <;> omega
    by_cases h0:len=0
    ·subst h0;exact⟨[.sl (P.cellsOf e) []],⟨rfl,λj hj=>by simp at hj; subst hj; exact .nq (some a) cap _ (λh=>by cases h)⟩,⟨[],rfl,by simp⟩⟩
    ·obtain⟨f,hf⟩:=Deep.choose_lt (α:=List Value × List D) (n:=len) (p:=λi y=>w.cells? 0 (a.add (i*P.cellsOf e)) (P.cellsOf e)= some y.1/\uw w y.1 y.2/\zI P n e y.2) λi hi=>by obtain⟨cs',h1,h2⟩:=hx i (by omega);obtain⟨ds,h3,h4⟩:=vt n e cs' fu _ hp.1 h2;exact⟨(cs',ds),h1,h3,h4⟩
     have hcells:∀ i,i<len->∀ j,j<P.cellsOf e->w.cell? ((a.add (i*P.cellsOf e)).add j)= some ((f i).1.getD j undef):=by intro i hi j hj;obtain⟨_,h2,h3⟩:=World.cells?_some (hf i hi).1;rw [h3 j hj];simp [List.getD,show j<(f i).1.length by omega]
     have hlen:∀ i,i<len->(f i).1.length=P.cellsOf e:=λi hi=>(World.cells?_some (hf i hi).1).2.1
     have hspot:a.spot=none:=by have:=World.cell?_spot (hcells 0 (by omega) 0 hp.2);simpa [Addr.add] using this
     obtain⟨b,off,spot⟩:=a;simp only at hspot;subst hspot
     have hadd:∀ i j,((⟨b,off,none⟩:Addr).add i).add j=⟨b,off+i+j,none⟩:=by
      intro i j;rw [Deep.add_add];unfold Addr.add
      by_cases h:i+j=0
      ·have h1:i=0:=by omega
       have h2:j=0:=by omega
       subst h1; subst h2; rfl
      ·rw [if_neg h]; simp [Nat.add_assoc]
     have xV:∀ i,i<len->((List.range len).map λi=>(f i).2).getD i []=(f i).2:=by intro i hi;simp [List.getD,hi]
     refine⟨[.sl (P.cellsOf e) ((List.range len).map λi=>(f i).2)],⟨rfl,λj hj=>?_⟩,⟨_,rfl,?_⟩⟩
     ·simp at hj; subst hj;simp only [ν]
      have:=RP.sl (M:=λ_=>False) (w:=w) (b:=b) (off:=off) (cap:=cap) (sz:=P.cellsOf e) (xV:=(List.range len).map λi=>(f i).2) (λi j=>(f i).1.getD j undef) hp.2 (λh=>h) (by simpa using hl) hm ?_ ?_ ?_
      ·simpa using this
      ·intro x hx';simp only [ε,List.mem_range] at hx';obtain⟨i,hi,rfl⟩:=hx';rw [(hf i hi).2.1.1,hlen i hi]
      ·intro i hi j hj;have hi':i<len:=by simpa using hi
       have:=hcells i hi' j hj;rw [hadd] at this;exact this
      ·intro i hi j hj;have hi':i<len:=by simpa using hi
       rw [xV i hi'];exact(hf i hi').2.1.2 j (by rw [(hf i hi').2.1.1,hlen i hi']; exact hj)
     ·intro row hrow;simp only [ε,List.mem_range] at hrow;obtain⟨i,hi,rfl⟩:=hrow;exact(hf i hi).2.2
  ·rename_i fs hu;simp only [Ap] at hp;obtain⟨xs,n',_,_,hlen,hsz,hf⟩:=DataW.trod_struct hu h;rw [<- hlen] at hp
   obtain⟨ds,h1,h2⟩:=gp (λt cs fuel x=>vt n t cs fuel x) (fuel:=n') fs.toList 0 hp.1 hp.2 λg hg=>by
    obtain⟨i,hi,rfl⟩:=Aa hg;have hi':i<fs.size:=by simpa using hi
    have:=hf i fs[i] (by simp [hi']);refine⟨xs[i]'(by omega),?_⟩;simp only [Array.getElem_toList];rw [this];simp [show i<xs.length by omega]
   exact⟨ds,by simpa using h1,h2⟩
  ·rename_i k e hu;simp only [Ap,beq_iff_eq] at hp;obtain⟨xs,m,_,_,hlen,hxs,hf⟩:=DataW.trod_array hu h
   obtain⟨ds,h1,h2⟩:=SO (λt cs fuel x=>vt n t cs fuel x) (fuel:=m) hp.1 k 0 (by rw [hlen,hp.2]; simp) λi _ hi=>by have:=hf i (by omega);rw [this];simp [show i<xs.length by omega]
   exact⟨ds,by simpa using h1,h2⟩
  ·cases hp
end
section
variable {H : Type} {oC : TypeId × Value -> H} {P : Program} {w : World} {sp : Nat -> Bool} {held : Bool}
theorem w8 {r:Reach} {b:Nat} {t:TypeId} {v:Value} {k:Nat} {e:TypeId} (ht:P.underlying t=some (.array k e)) (h:Value.okWide P w r b t v):∃ cs,v = .agg cs/\cs.size=P.cellsOf t:=by simp only [Value.okWide,ht] at h;obtain⟨cs,h1,h2,_⟩:=h;exact⟨cs,h1,h2⟩
theorem Lb {n:Nat} {b:Nat} {t:TypeId} {v:Value} {d:DataW H} {ps:List MemPlace} (hp:qV P n t=true) (hv:Value.okWide P w .any b t v) (h:DataW.Trod oC P w 0 sp held t v d ps):∃ a,RP (λ_=>False) w v a/\cV P n t a:=by
 obtain⟨fuel,h⟩:=h;obtain⟨ds,h1,h2⟩:=vt n t _ fuel _ hp h;unfold cV
 split
 ·rename_i fs hu;obtain⟨cs,rfl,_⟩:=okWide_struct hu hv;refine⟨.agg ds,.agg (by rw [h1.1]; rfl) λj hj=>?_,ds,rfl,h2⟩;have:=h1.2 j hj
  have e:(Value.agg cs).cells.toList.getD j undef=cs.getD j undef:=by simp [Value.cells,List.getD,Array.getD];by_cases hj:j<cs.size <;> simp [hj]
  rw [e] at this;exact this
 ·rename_i k e hu;obtain⟨cs,rfl,_⟩:=w8 hu hv;refine⟨.agg ds,.agg (by rw [h1.1]; rfl) λj hj=>?_,ds,rfl,h2⟩;have:=h1.2 j hj
  have e:(Value.agg cs).cells.toList.getD j undef=cs.getD j undef:=by simp [Value.cells,List.getD,Array.getD];by_cases hj:j<cs.size <;> simp [hj]
  rw [e] at this;exact this
 ·rename_i hns hna
  have one:∃ x,ds = [x]:=by
   cases n with
   | zero=>simp [qV] at hp
   | succ n=>
    unfold zI at h2
    split at h2
    ·obtain⟨b,rfl⟩:=h2; exact⟨_,rfl⟩
    ·obtain⟨b,rfl⟩:=h2; exact⟨_,rfl⟩
    ·obtain⟨b,rfl⟩:=h2; exact⟨_,rfl⟩
    ·obtain⟨b,rfl,_⟩:=h2; exact⟨_,rfl⟩
    ·rename_i fs hu; exact absurd hu (hns fs)
    ·rename_i k e hu; exact absurd hu (hna k e)
    ·cases h2
  obtain⟨x,rfl⟩:=one;refine⟨x,?_,h2⟩;have hx:=h1.2 0 (by simp);simp only [ν] at hx;have hlen:=h1.1
  cases v with
  | agg cs=>
   exfalso;unfold Value.okWide at hv
   split at hv
   ·rename_i fs hu; exact absurd hu (hns fs)
   ·rename_i k e hu; exact absurd hu (hna k e)
   ·rename_i h3 h4
    cases n with
    | zero=>simp [qV] at hp
    | succ n=>
     unfold qV at hp;unfold Cell.okWide at hv;split at hp <;> rename_i hu <;> simp [hu,Cell.ok] at hv
     all_goals first | exact absurd hu (hns _) | exact absurd hu (hna _ _) | cases hp
  | _=>simpa [Value.cells] using hx
theorem Vp {n:Nat} {b:Nat}:∀ {ts:List TypeId} {vs:List Value} {ds:List (DataW H)} {ps:List MemPlace},(ts.all λt=>qV P n t)= true->(∀ (j:Nat) t v,ts[j]?=some t->vs[j]?=some v->Value.okWide P w .any b t v) ->
  DataW.TrodAll oC P w 0 sp held ts vs ds ps->∃ as,as.length=vs.length/\vs.length=ts.length/\ds.length=ts.length/\(∀ j,j<as.length->RP (λ_=>False) w (vs.getD j undef) (as.getD j .top))/\ ck P n ts as
 | [],vs,ds,ps,_,_,h=>by obtain⟨rfl,rfl,rfl⟩:=trodAll_nil h;exact⟨[],rfl,rfl,rfl,λj hj=>by simp at hj,rfl⟩
 | t :: ts,vs,ds,ps,hp,hv,h=>by
  obtain⟨v,vs',d,ds',p,q,rfl,rfl,rfl,h1,h2⟩:=trodAll_cons h;simp only [ξ,Ap] at hp;obtain⟨a,r1,s1⟩:=Lb hp.1 (hv 0 t v rfl rfl) h1;obtain⟨as,l1,l2,l3,r2,s2⟩:=Vp hp.2 (λj t v h1 h2=>hv (j+1) t v h1 h2) h2;refine⟨a :: as,by simp [l1],by simp [l2],by simp [l3],λj hj=>?_,a,as,rfl,s1,s2⟩
  cases j with
  | zero=>exact r1
  | succ j=>exact r2 j (by simpa using hj)
theorem dS (hl:laidOutB P=true) {W W':World} (hb:Below W.heap.size W W'):∀ {ts:List TypeId} {vs:List Value} {ds:List (DataW H)} {ps:List MemPlace},(ts.all λt=>P.readableRec t&&decide (t<P.types.size))= true ->
  (∀ x ∈ ps,x.block<W.heap.size)->DataW.TrodAll oC P W 0 (λ_=>true) true ts vs ds ps->DataW.TrodAll oC P W' 0 (λb=>decide (b<W.heap.size)) true ts vs ds ps
 | [],vs,ds,ps,_,_,h=>by obtain⟨rfl,rfl,rfl⟩:=trodAll_nil h;exact rfl
 | t :: ts,vs,ds,ps,hr,hlt,h=>by obtain⟨v,vs',d,ds',p,q,rfl,rfl,rfl,h1,h2⟩:=trodAll_cons h;simp only [ξ,Ap,decide_eq_true_eq] at hr;exact⟨p,q,Below.trod hl hr.1.1 hr.1.2 h1 hb λx hx=>hlt x (by simp [hx]),dS hl hb hr.2 (λx hx=>hlt x (by simp [hx])) h2,rfl⟩
theorem qh {W:World}:∀ {ts:List TypeId} {vs:List Value} {ds:List (DataW H)} {ps:List MemPlace},DataW.TrodAll oC P W 0 sp held ts vs ds ps->∀ x ∈ ps,x.block<W.heap.size
 | [],vs,ds,ps,h=>by obtain⟨rfl,rfl,rfl⟩:=trodAll_nil h;intro x hx; simp at hx
 | t :: ts,vs,ds,ps,h=>by
  obtain⟨v,vs',d,ds',p,q,rfl,rfl,rfl,⟨m,hm⟩,h2⟩:=trodAll_cons h;intro x hx
  rcases List.mem_append.1 hx with hx | hx
  ·exact DataW.trod_lt m _ _ _ hm x hx
  ·exact qh h2 x hx
end
section
variable [uM]
theorem yU.calls {P:Program} {g:FuncId} {args:List D} {b:Bool} (h:yU P g args (.bool b)) {w:World} {vals:Array Value} (ht:jw w λ_=>False) (hl:vals.size=args.length)
  (hv:∀ j,j<args.length->RP (λ_=>False) w (vals.getD j undef) (args.getD j .top)):Calls P g vals w λe w'=>e = .returned (.bool b)/\ Below w.heap.size w w':=by
 have hM:∀ b,yG (λ_=>False) (λ_=>0) gY b->False:=by
  rintro b (h | ⟨k,o,hk,_⟩)
  ·exact h
  ·cases hk
 have hS:wZ (λ_=>False) w gY (λ_=>0):=⟨λb hb=>hb.elim,(λk o hk=>by cases hk),(λk k' o o' hk=>by cases hk),(λk o hk=>by cases hk),ht.yD (Ad _) (λ_ _ _=>rfl) λb _ hb=>hM b hb⟩;refine(h.run _ w _ vals hS hl λj hj=>.pure ((hv j hj).yD (λ_ _ _=>rfl) λb _ hb=>hM b hb)).mono λe w' hh=>?_;obtain⟨v,ι',rfl,k1,k2,k3,k4,k5,k6⟩:=hh;have K0:Kept w w' λ_=>False:=k1.mono λb _ ⟨k,o,hk,_⟩=>by cases hk
 rw [k6.mN];exact⟨rfl,K0.below⟩
end
theorem Yv (a:Array Value) (j:Nat) (d:Value):a.getD j d=a.toList.getD j d:=by simp [List.getD,Array.getD];by_cases h:j<a.size <;> simp [h]
theorem QJ {H:Type} {oC:TypeId × Value->H} {P:Program} {f:Func} {s:ChangeSpec} {W W':World} {args:Array Value} {ds gs:List (DataW H)} {before:List MemPlace} {tb:TypeId}
  (hl:laidOutB P=true) (hr:(f.params.toList.all λt=>P.readableRec t&&decide (t<P.types.size))= true) (hb:f.resultTypes = #[tb]) (htb:P.underlying tb=some .bool) (hsv:s.vars = [])
  (hW:DataW.Whole oC P f.params.toList s.vars false W args.toList ds gs before) (hs:s.fn H (ds++gs)= { results:=[.lit (.bool true)],args:=ds }) (bel:Below W.heap.size W W') :
  s.post oC P f false true false false W args (.bool true) W':=by
 have hW':=hW;obtain⟨p,q,hA,hV,rfl,hfz,hnd⟩:=hW;rw [hsv] at hV;obtain⟨rfl,rfl⟩:=trodVars_none hV;have hA2:=dS hl bel hr (qh hA) hA
 refine⟨_,_,_,[],p,[],hW',?_,?_,?_,bel.frame _,λh=>by cases h⟩
 ·rw [hs,hb];exact trodAll_mk1 (shut_bool htb _)
 ·rw [hs];exact hA2
 ·rw [hs,hsv];rfl
abbrev dO (i:Nat) (k:DK):yX:=⟨some i,none,k⟩
abbrev dF (i j:Nat) (k:DK):yX:=⟨some i,some (j,false),k⟩
abbrev dT (i j:Nat) (k:DK):yX:=⟨some i,some (j,true),k⟩
abbrev uO.i (n:Int):uO:=.c (.int .i64 n)
abbrev dM (i j:Nat):yX:=⟨some i,none,.mv (.t j)⟩
abbrev dL (i j:Nat):yX:=⟨some i,none,.load 1 false (.t j)⟩
abbrev dG (i n j:Nat):yX:=⟨some i,none,.NK n (.t j)⟩
abbrev DC.r (l:List yX) (c:DC):DC:=.seq (.oN [] l) c
abbrev DK.cf (f:FuncId) (l:List uO):DK:=.call (.c (.fn f [])) l
abbrev bT (i:Nat) (o:BinOp) (a b:Nat):yX:=⟨some i,none,.bin o (.t a) (.t b)⟩
abbrev bI (i:Nat) (o:BinOp) (a:Nat) (n:Int):yX:=⟨some i,none,.bin o (.t a) (.i n)⟩
abbrev dI (i n a b:Nat):yX:=⟨some i,none,.idx n (.t a) (.t b)⟩
abbrev dN (i a:Nat):yX:=⟨some i,none,.len (.t a)⟩
abbrev fG (i j n a:Nat):yX:=⟨some i,some (j,false),.NK n (.t a)⟩
abbrev fL (i j a:Nat):yX:=⟨some i,some (j,false),.load 1 false (.t a)⟩
abbrev fN (i j a:Nat):yX:=⟨some i,some (j,false),.len (.t a)⟩
abbrev fM (i j a:Nat):yX:=⟨some i,some (j,false),.mv (.t a)⟩
abbrev dP (i a b:Nat):yX:=⟨some i,none,.pick (.t a) (.c (.bool true)) (.t b)⟩
abbrev dE (i a n:Nat):yX:=⟨some i,none,.TF (.t a) n⟩
abbrev sQ (n a b:Nat):yX:=⟨none,none,.store n (.t a) (.t b)⟩
abbrev dV (i:Nat) (b:Bool):yX:=⟨some i,none,.mv (.c (.bool b))⟩
abbrev dJ (i:Nat) (n:Int):yX:=⟨some i,none,.mv (.i n)⟩
abbrev dA (i n a:Nat):yX:=⟨some i,none,.load n true (.t a)⟩
abbrev DC.w (a b:Nat) (c:DC):DC:=.seq (.cond (.t a) .skip (.exit b)) c
abbrev DC.g (l:List yX):DC:=.oN [] l
abbrev dX (i a:Nat):yX:=⟨some i,none,.box (.t a)⟩
abbrev tL (i j a:Nat):yX:=⟨some i,some (j,true),.load 1 false (.t a)⟩
abbrev tG (i j n a:Nat):yX:=⟨some i,some (j,true),.NK n (.t a)⟩
abbrev tM (i j a:Nat):yX:=⟨some i,some (j,true),.mv (.t a)⟩
abbrev dK (i a:Nat):yX:=⟨some i,none,.LB (.t a)⟩
abbrev dH (i a:Nat):yX:=⟨some i,none,.nt (.t a)⟩
abbrev dQ (i a b:Nat):yX:=⟨some i,none,.pick (.t a) (.t b) (.c (.bool false))⟩
abbrev dZ (i:Nat):yX:=⟨some i,none,.mv (.c .xO)⟩
abbrev dB (i f a:Nat):yX:=⟨some i,none,.cf f [.t a]⟩
abbrev dD (i f a b:Nat):yX:=⟨some i,none,.cf f [.t a,.t b]⟩
abbrev fB (i j:Nat) (o:BinOp) (a:Nat) (n:Int):yX:=⟨some i,some (j,false),.bin o (.t a) (.i n)⟩
abbrev CT :=Nat × DC × List bW
def zS :=γ @D.int.injEq (γ @D.bool.injEq (γ @D.sl.injEq (γ @and_true (γ @true_and @and_self))))
def zW.{u} :=γ @ne_eq.{u} (γ @forall_const.{u} (γ @implies_true.{u} @forall_eq.{u}))
section
variable [uM]
def zU :=γ @nD.eq_1 (γ @PT.eq_1 (γ @LK.eq_1 (γ @oK.eq_1 (γ @oK.eq_2 (γ @rI.eq_1 (γ @rI.eq_2 (γ @ns.eq_1 (γ @ns.eq_2 (γ @ns.eq_3 (γ @ns.eq_4 (γ @ns.eq_5 (γ @ns.eq_6 (γ @ns.eq_7 (γ @ns.eq_8 (γ @ns.eq_9 (γ @ns.eq_10 (γ @ns.eq_11 (γ @ns.eq_12 (γ @ns.eq_13 (γ @ns.eq_14 (γ @ns.eq_15 (γ @sR.eq_1 (γ @sR.eq_2 (γ @sR.eq_3 (γ @sR.eq_4 (γ @sR.eq_5 (γ @sR.eq_6 (γ @sR.eq_7 (γ @sR.eq_8 (γ @sR.eq_9 (γ @sR.eq_10 (γ @sR.eq_11 (γ @sR.eq_12 (γ @sR.eq_13 (γ @sR.eq_14 (γ @sR.eq_15 (γ @pX.eq_1 (γ @pX.eq_2 (γ @pX.eq_3 (γ @pX.eq_4 (γ @pX.eq_5 (γ @pX.eq_6 (γ @pX.eq_7 (γ @pX.eq_8 (γ @pW.eq_1 (γ @pW.eq_2 (γ @pW.eq_3 (γ @pW.eq_4 (γ @pW.eq_5 (γ @pW.eq_6 (γ @pW.eq_7 (γ @pW.eq_8 (γ @pW.eq_9 (γ @pW.eq_10 (γ @pW.eq_11 (γ @pW.eq_12 (γ @pW.eq_13 (γ @pW.eq_14 (γ @pW.eq_15 (γ @pW.eq_16 (γ @pW.eq_17 (γ @pW.eq_18 (γ @pW.eq_19 (γ @pW.eq_20 (γ @pW.eq_21 (γ @pW.eq_22 (γ @pW.eq_23 (γ @pW.eq_24 (γ @pW.eq_25 (γ @pW.eq_26 (γ @pW.eq_27 (γ @pW.eq_28 (γ @Mf.eq_1 (γ @Mg.eq_1 (γ @GE.eq_1 (γ @kG.eq_1 @kn.eq_1))))))))))))))))))))))))))))))))))))))))))))))))))))))))))))))))))))))))))))
def zQ :=γ @vI.eq_1 (γ @vI.eq_2 (γ @vI.eq_3 (γ @vw.eq_1 (γ @vw.eq_2 (γ @vw.eq_3 (γ @vw.eq_4 (γ @vw.eq_5 (γ @vw.eq_6 (γ @vw.eq_7 (γ @vw.eq_8 (γ @vw.eq_9 (γ @vw.eq_10 (γ @vw.eq_11 (γ @vw.eq_12 (γ @vw.eq_13 (γ @vw.eq_14 (γ @vw.eq_15 (γ @vw.eq_16 (γ @vw.eq_17 (γ @vw.eq_18 (γ @YR.eq_1 (γ @YR.eq_2 (γ @sw.eq_1 (γ @sw.eq_2 (γ @St.get.eq_1 (γ @St.look.eq_1 (γ @St.look.eq_2 (γ @Fr.get.eq_1 @Fr.get.eq_2))))))))))))))))))))))))))))
def zV :=γ @gY.eq_1 (γ @gT.eq_1 (γ @gT.eq_2 (γ @oL.eq_1 (γ @oL.eq_2 (γ @oL.eq_3 (γ @oL.eq_4 (γ @oL.eq_5 (γ @oL.eq_6 (γ @oL.eq_7 (γ @oL.eq_8 (γ @oL.eq_9 (γ @oL.eq_10 (γ @oL.eq_11 (γ @oL.eq_12 (γ @oL.eq_13 (γ @oL.eq_14 (γ @oL.eq_15 (γ @oL.eq_16 (γ @oL.eq_17 (γ @o8.eq_1 (γ @eB.eq_1 (γ @eB.eq_2 (γ @eB.eq_3 (γ @eB.eq_4 (γ @eB.eq_5 (γ @eB.eq_6 (γ @cF.eq_1 (γ @cF.eq_2 (γ @VX.eq_1 (γ @vT.eq_1 (γ @kQ.eq_1 (γ @kQ.eq_2 (γ @Ja.eq_1 (γ @zk.eq_1 (γ @zk.eq_2 (γ @ug.eq_1 (γ @ug.eq_2 (γ @List.replicate.eq_1.{0} (γ @List.replicate.eq_2.{0} (γ @rowsOf.eq_1 (γ @rowsOf.eq_2 (γ @rowsOf.eq_3 (γ @rowsOf.eq_4 @rowsOf.eq_5)))))))))))))))))))))))))))))))))))))))))))
end
theorem sd {p q:Prop} (b:q) (a:p:=by first | omega | exact VD _ | exact Aq _ | rfl | exact Uu _ _ | exact Y7 _ | (intro _ h; cases h; done)):p/\q:=⟨a,b⟩
theorem pC.dv {n0 n:Nat} {σ:St} {d d':D} (hn:n0<=n:=by simp) (h:vw σ ⟨n,[]⟩ (λk=>k) d d':=by simp [vw]):pC n0 σ d ⟨n,[]⟩ d':=.drop hn h
section
variable [uM]
theorem cr {P:Program} {g:FuncId} {args:List D} {d:D} {s:St} (hc:yU P g args d) (hp:D.xR args=true:=by simp [D.xR,D.xD]):xY P g args s d s:=xY.yH hc hp
theorem cq {P:Program} {g:FuncId} {args:List D} {d:D} {s:St} (hc:yU P g args d) (hp:D.xR args=true:=by rfl):xY P g args s d s:=xY.yH hc hp
end
end Go.Pd

/- Part X8. -/
namespace Go.Pd
open Go
variable [uM]
def D.fl : D->Bool
 | .int _ _ | .bool _ | .str _ | .tF | .xO | .emp | .oM | .qY | .sP | .top | .ref .. | .yM .. | .sub .. | .yI _=>true
 | .agg cs | .wK cs=>cs.attach.all λ⟨d,_⟩=>D.fl d
 | _=>false
def D.We (cs:List D):Bool:=cs.all D.fl
theorem Sc (cs:List D):(D.agg cs).fl=D.We cs:=by rw [D.fl]; simp [D.We]
theorem Sd (cs:List D):(D.wK cs).fl=D.We cs:=by rw [D.fl]; simp [D.We]
theorem tt {cs:List D} (h:D.We cs=true) (j:Nat):(cs.getD j .top).fl=true:=by
 by_cases hj:j<cs.length
 ·have:cs.getD j .top=cs[j]:=by simp [List.getD,hj]
  rw [this];exact List.all_eq_true.1 h _ (ο hj)
 ·simp [List.getD,ω (Nat.le_of_not_lt hj),D.fl]
theorem RP.fl {M M':Nat->Prop} {w:World} {v:Value} {d:D} (h:RP M w v d) (hf:d.fl=true):RP M' w v d:=by
 induction h with
 | top v=>exact .top v
 | tF=>exact .tF
 | int h=>exact .int h
 | bool b=>exact .bool b
 | str h=>exact .str h
 | nq=>simp [D.fl] at hf
 | emp a c=>exact .emp a c
 | sl=>simp [D.fl] at hf
 | xO=>exact .xO
 | ptr=>simp [D.fl] at hf
 | agg hl hr ih=>rw [Sc] at hf; exact .agg hl λj hj=>ih j hj (tt hf j)
 | wK hl hr ih=>rw [Sd] at hf; exact .wK hl λj hj=>ih j hj (tt hf j)
 | fn=>simp [D.fl] at hf
 | oM=>exact .oM
 | qY=>exact .qY
 | sP=>exact .sP
 | aG b=>simp [D.fl] at hf
theorem R.fl {M M':Nat->Prop} {w:World} {ι:Nat->Nat} {n:Nat} {v:Value} {d:D} (h:R M w ι n v d) (hf:d.fl=true):R M' w ι n v d:=by
 induction h with
 | pure h=>exact .pure (h.fl hf)
 | ref hk h0=>exact .ref hk h0
 | yM hk h1 h2 h3 h4=>exact .yM hk h1 h2 h3 h4
 | sub hk h1 h2 h3 h4=>exact .sub hk h1 h2 h3 h4
 | yI hk=>exact .yI hk
 | agg hl hr ih=>rw [Sc] at hf; exact .agg hl λj hj=>ih j hj (tt hf j)
 | wK hl hr ih=>rw [Sd] at hf; exact .wK hl λj hj=>ih j hj (tt hf j)
 | fn=>simp [D.fl] at hf
theorem yK.fl {M M':Nat->Prop} {w:World} {ι:Nat->Nat} {n:Nat} {nU:Option Obj} {o:Ob} (h:yK M w ι n nU o) (hf:∀ e ∈ o.xV,D.We e=true):yK M' w ι n nU o:=by
 have at_:∀ i j,((o.xV.getD i []).getD j .top).fl=true:=by
  intro i j
  by_cases hi:i<o.xV.length
  ·have:o.xV.getD i []=o.xV[i]:=by simp [List.getD,hi]
   rw [this];exact tt (hf _ (ο hi)) j
  ·have:o.xV.getD i [] = []:=by simp [List.getD,ω (Nat.le_of_not_lt hi)]
   rw [this]; simp [D.fl]
 rcases h with ⟨h0,cur,e,h1,h2,h3,h4⟩ | ⟨h0,es,h1,h2,h3⟩
 ·exact .inl ⟨h0,cur,e,h1,h2,h3,λi hi j hj=>⟨(h4 i hi j hj).1,(h4 i hi j hj).2.fl (at_ i j)⟩⟩
 ·refine .inr ⟨h0,es,h1,h2,λi hi=>?_⟩;obtain⟨kk,v,x,d,g1,g2,g3,g4⟩:=h3 i hi;have a0:=at_ i 0;have a1:=at_ i 1;rw [g1] at a0 a1;exact⟨kk,v,x,d,g1,g2,g3.fl a0,g4.fl a1⟩
def Mk (M0:Nat->Prop) (ι:Nat->Nat) (σ:St) (K:Nat->Prop) (b:Nat):Prop:=M0 b\/∃ k o,K k/\σ.get k=some o/\ι k=b
def Seen (σ:St) (K:Nat->Prop) (d d':D):Prop:=∀ (M0:Nat->Prop) (w:World) (ι:Nat->Nat) (v:Value),wZ M0 w σ ι->R (yG M0 ι σ) w ι σ.nx v d->RP (Mk M0 ι σ K) w v d'
def kC (σ:St) (K:Nat->Prop):List D->List D->Prop
 | [],[]=>True
 | d :: ds,c :: cs=>Seen σ K d c/\kC σ K ds cs
 | _,_=>False
theorem Mk.GH {M0:Nat->Prop} {ι:Nat->Nat} {σ:St} {K:Nat->Prop} {b:Nat} (h:Mk M0 ι σ K b):yG M0 ι σ b:=h.imp id λ⟨k,o,_,h1,h2⟩=>⟨k,o,h1,h2⟩
theorem kC.len {σ:St} {K:Nat->Prop}:∀ {ds cs:List D},kC σ K ds cs->ds.length=cs.length
 | [],[],_=>rfl
 | _ :: _,_ :: _,h=>by simp [kC.len h.2]
 | [],_ :: _,h=>h.elim
 | _ :: _,[],h=>h.elim
theorem kC.at_ {σ:St} {K:Nat->Prop}:∀ {ds cs:List D},kC σ K ds cs->∀ j,j<cs.length->Seen σ K (ds.getD j .top) (cs.getD j .top)
 | [],[],_,j,hj=>by simp at hj
 | _ :: _,_ :: _,h,0,_=>by simpa using h.1
 | _ :: _,_ :: _,h,j+1,hj=>by simpa using kC.at_ h.2 j (by simpa using hj)
 | [],_ :: _,h,_,_=>h.elim
 | _ :: _,[],h,_,_=>h.elim
theorem Seen.pure {σ:St} {K:Nat->Prop} {d:D} (h:d.xD=true):Seen σ K d d:=λ_ _ _ _ _ hR=>(hR.vc h).yD (λ_ _ _=>rfl) λ_ _ hb=>hb.GH
theorem Seen.nil {σ:St} {K:Nat->Prop} (sz:Nat):Seen σ K .xO (.sl sz []):=λ_ _ _ v _ hR=>by have:=hR.uG;subst this;exact .nq _ _ _ (by simp)
theorem Mk.not {M0:Nat->Prop} {w:World} {ι:Nat->Nat} {σ:St} {K:Nat->Prop} {key:Nat} {ob:Ob} (hS:wZ M0 w σ ι) (hob:σ.get key=some ob) (hk:¬ K key):¬ Mk M0 ι σ K (ι key):=by
 rintro (h | ⟨k,o,h1,h2,h3⟩)
 ·exact hS.notM key ob hob h
 ·exact hk (hS.inj k key o ob h2 hob h3 ▸ h1)
theorem Seen.yM {σ:St} {K:Nat->Prop} {key sz n:Nat} {ob:Ob} {xV:List (List D)} (hob:σ.get key=some ob) (hk:¬ K key) (hs:0<sz) (hsz:ob.sz=sz) (hn:n<=ob.xV.length) (hl:xV.length=n)
  (hrow:∀ e ∈ xV,e.length=sz) (h:∀ i,i<n->∀ j,j<sz->Seen σ K ((ob.xV.getD i []).getD j .top) ((xV.getD i []).getD j .top)):Seen σ K (.yM key sz n) (.sl sz xV):=λM0 w ι v hS hR=>by
 subst hsz; subst hl;obtain⟨cap,cur,e,rfl,k1,k2,k3,k4,k5⟩:=hR.sU;obtain⟨_,cur',e',c1,c2,c3,c4⟩:=yK.rows (hS.holds key ob hob).2 k4;rw [k4] at c1;simp at c1;obtain⟨rfl,rfl⟩:=c1;refine .sl (λi j=>cur.getD (i*ob.sz+j) undef) hs (Mk.not hS hob hk) k2 k3 hrow (λi hi j hj=>?_) λi hi j hj=>h i hi j hj M0 w ι _ hS (c4 i (by omega) j hj).2
 have:i*ob.sz+j<cur.size:=by have:=mX (m:=ob.xV.length) (i:=i) (j:=j) (sz:=ob.sz) (by omega) hj;omega
 rw [Ae,cell_of_row _ _ _ _ _ _ k4];simp [this]
theorem Seen.ref {σ:St} {K:Nat->Prop} {key sz i off:Nat} {ob:Ob} {cs:List D} (hob:σ.get key=some ob) (hk:¬ K key) (hsz:ob.sz=sz) (hi:i<ob.xV.length) (hc:0<cs.length) (hl:off+cs.length<=sz)
  (h:∀ j,j<cs.length->Seen σ K ((ob.xV.getD i []).getD (off+j) .top) (cs.getD j .top)):Seen σ K (.ref key sz i off) (.ptr cs):=λM0 w ι v hS hR=>by
 subst hsz;obtain⟨rfl,k1,k2⟩:=hR.uB;obtain⟨cur,e,c1,c2,c3,c4⟩:=(hS.holds key ob hob).2.cells k2;refine .ptr (λj=>cur.getD (i*ob.sz+(off+j)) undef) hc (Mk.not hS hob hk) (λj hj=>?_) λj hj=>h j hj M0 w ι _ hS (c4 i hi (off+j) (by omega)).2
 have:i*ob.sz+(off+j)<cur.size:=by have:=mX (m:=ob.xV.length) (i:=i) (j:=off+j) (sz:=ob.sz) hi (by omega);omega
 rw [Nat.add_assoc,cell_of_row _ _ _ _ _ _ c1];simp [this]
def N2 (σ:St) (d d':D):Prop:=∀ (M0:Nat->Prop) (w:World) (ι:Nat->Nat) (v:Value),wZ M0 w σ ι->R (yG M0 ι σ) w ι σ.nx v d->RP (λ_=>False) w v d'
theorem Seen.f {σ:St} {K:Nat->Prop} {d d':D} (h:Seen σ K d d'):N2 σ d d':=λM0 w ι v hS hR=>(h M0 w ι v hS hR).yD (λ_ _ _=>rfl) λ_ _ hb=>hb.elim
theorem xY.K8 {P:Program} {g:FuncId} {args args':List D} {d:D} {σ:St} (hc:yU P g args' d) (hl':kC σ (λ_=>False) args args') (hf:d.flat=true):xY P g args σ d σ:=by
 refine⟨hc.ord,λM0 w ι vals hS hl hv=>?_⟩;have S1:wZ (λ_=>False) w gY ι:=⟨λb hb=>hb.elim,(λk o hk=>by cases hk),(λk k' o o' hk=>by cases hk),(λk o hk=>by cases hk),hS.pE.yD (Ad _) (λ_ _ _=>rfl) λb _ hb=>hb.elim False.elim λ⟨k,o,hk,_⟩=>by cases hk⟩
 have e1:∀ (ι':Nat->Nat) b,yG (λ_=>False) ι' gY b->False:=by
  intro ι' b hb
  rcases hb with hb | ⟨k,o,hk,_⟩
  ·exact hb
  ·cases hk
 have hlen:=hl'.len;refine(hc.run _ w ι vals S1 (by omega) λj hj=>.pure (((hl'.at_ j hj).f M0 w ι _ hS (hv j (by omega))).yD (λ_ _ _=>rfl) λb _ hb=>e1 ι b hb)).mono λe w' hh=>?_;obtain⟨v,ι',rfl,k1,k2,k3,k4,k5,k6⟩:=hh;have K0:Kept w w' λ_=>False:=k1.mono λb _ ⟨k,o,hk,_⟩=>by cases hk
 exact⟨v,ι,rfl,K0.none _,hS.ext K0,Ad _,λ_ _=>rfl,λk o hk=>.inr ⟨k,o,hk,rfl⟩,.pure (k6.zero.flat hf)⟩
theorem xY.Lr {P:Program} {g:FuncId} {args args':List D} {d:D} {σ:St} {m:Nat} {xZ:List (Nat × Ob)} (hc:xY P g args' gY d ⟨m,xZ⟩) (hlen:args.length=args'.length) (ats:∀ j,j<args'.length->N2 σ (args.getD j .top) (args'.getD j .top)) (hf:d.fl=true) (ho:∀ p ∈ xZ,∀ e ∈ p.2.xV,D.We e=true) :
  xY P g args σ (d.shift σ.nx) ⟨σ.nx+m,zN σ.nx xZ++σ.xZ⟩:=by
 refine⟨hc.ord,λM0 w ι vals hS hl hv=>?_⟩;have S1:wZ (λ_=>False) w gY ι:=⟨λb hb=>hb.elim,(λk o hk=>by cases hk),(λk k' o o' hk=>by cases hk),(λk o hk=>by cases hk),hS.pE.yD (Ad _) (λ_ _ _=>rfl) λb _ hb=>hb.elim False.elim λ⟨k,o,hk,_⟩=>by cases hk⟩
 have e1:∀ (ι':Nat->Nat) b,yG (λ_=>False) ι' gY b->False:=by
  intro ι' b hb
  rcases hb with hb | ⟨k,o,hk,_⟩
  ·exact hb
  ·cases hk
 refine(hc.run _ w ι vals S1 (by omega) λj hj=>.pure ((ats j hj M0 w ι _ hS (hv j (by omega))).yD (λ_ _ _=>rfl) λb _ hb=>e1 ι b hb)).mono λe w' hh=>?_;obtain⟨v,ι',rfl,k1,k2,k3,k4,k5,k6⟩:=hh;have K0:Kept w w' λ_=>False:=k1.mono λb _ ⟨k,o,hk,_⟩=>by cases hk
 let ιn:Nat->Nat:=λk=>if k<σ.nx then ι k else ι' (k-σ.nx)
 have n1:∀ k,k<σ.nx->ιn k=ι k:=λk hk=>by simp only [ιn,if_pos hk]
 have n2:∀ k,ιn (σ.nx+k)= ι' k:=λk=>by simp only [ιn,if_neg (show ¬ (σ.nx+k<σ.nx) by omega)];congr 1; omega
 have lk:∀ k o,St.get ⟨σ.nx+m,zN σ.nx xZ++σ.xZ⟩ k=some o->(∃ k0 o0,k=σ.nx+k0/\St.get ⟨m,xZ⟩ k0=some o0/\o=o0.shift σ.nx)\/(k<σ.nx/\σ.get k=some o):=by
  intro k o hk;unfold St.get at hk;simp only at hk;rw [qJ] at hk
  cases h1:St.look (zN σ.nx xZ) k with
  | some o1=> rw [h1] at hk;simp at hk; subst hk;exact .inl (iP _ _ _ _ h1)
  | none=> rw [h1] at hk;simp at hk;exact .inr ⟨(hS.holds k o hk).1,hk⟩
 have fresh:∀ k o,St.get ⟨m,xZ⟩ k=some o->w.heap.size<=ι' k:=by
  intro k o hk
  rcases k5 _ _ hk with h | ⟨k0,o0,hk0,_⟩
  ·exact h
  ·cases hk0
 have mm:∀ b,b<w.heap.size->yG M0 ιn ⟨σ.nx+m,zN σ.nx xZ++σ.xZ⟩ b->yG M0 ι σ b:=by
  intro b hb hm
  rcases hm with hm | ⟨k,o,hk,rfl⟩
  ·exact .inl hm
  ·rcases lk k o hk with ⟨k0,o0,rfl,h2,_⟩ | ⟨h1,h2⟩
   ·have:=fresh k0 o0 h2;rw [n2] at hb;omega
   ·exact .inr ⟨k,o,h2,(n1 k h1).symm⟩
 have mv:∀ b,yG M0 ιn ⟨σ.nx+m,zN σ.nx xZ++σ.xZ⟩ b->yG (yG M0 ι σ) ι' ⟨m,xZ⟩ b:=by
  intro b hm
  rcases hm with hm | ⟨k,o,hk,rfl⟩
  ·exact .inl (.inl hm)
  ·rcases lk k o hk with ⟨k0,o0,rfl,h2,_⟩ | ⟨h1,h2⟩
   ·exact .inr ⟨k0,o0,h2,(n2 k0).symm⟩
   ·exact .inl (.inr ⟨k,o,h2,(n1 k h1).symm⟩)
 refine⟨v,ιn,rfl,K0.none _,⟨λb hb=>Ah (hS.sO b hb) K0.size,λk o hk=>?_,λk k' o o' hk hk' e=>?_,λk o hk hm=>?_,hS.pE.yD K0.size (λb hb hM=>K0.block b hb id) λb hb hm=>mm b hb hm⟩,Nat.le_add_right _ _,n1,λk o hk=>?_,R.shift mv (λk _=>n2 k) (k6.fl hf)⟩
 ·rcases lk k o hk with ⟨k0,o0,rfl,h2,rfl⟩ | ⟨h1,h2⟩
  ·obtain⟨g1,g20⟩:=k2.holds k0 o0 h2;have g2:yK (yG (yG M0 ι σ) ι' ⟨m,xZ⟩) w' ι' m w'.heap[ι' k0]? o0:=g20.fl (ho (k0,o0) (wB h2));have glt:k0<m:=g1;rcases g2 with ⟨s0,cur,e,c1,c2,c3,c4⟩ | ⟨s0,es,c1,c2,c3⟩
   case inr=>
    refine⟨by show σ.nx+k0<σ.nx+m; omega,.inr ⟨s0,es,by rw [n2]; exact c1,by simpa [Ob.shift] using c2,λi hi=>?_⟩⟩;simp only [Ob.shift,List.length_map] at hi ⊢;obtain⟨kk,v,x,d,r1,r2,r3,r4⟩:=c3 i hi;refine⟨kk,v,x.shift σ.nx,d.shift σ.nx,?_,r2,R.shift mv (λk _=>n2 k) r3,R.shift mv (λk _=>n2 k) r4⟩;have:(o0.xV.map (D.wH σ.nx)).getD i []=D.wH σ.nx (o0.xV.getD i []):=by simp [List.getD,hi]
    rw [this,r1]; rfl
   refine⟨by show σ.nx+k0<σ.nx+m; omega,.inl ⟨s0,cur,e,by rw [n2]; exact c1,λel he=>?_,by simpa [Ob.shift] using c3,λi hi j hj=>?_⟩⟩
   ·simp only [Ob.shift,ε] at he ⊢;obtain⟨el',h3,rfl⟩:=he;rw [tQ]; exact c2 _ h3
   ·simp only [Ob.shift,List.length_map] at hi hj ⊢;have h3:=c4 i hi j hj
    have e2:((o0.xV.map (D.wH σ.nx)).getD i []).getD j .top=((o0.xV.getD i []).getD j .top).shift σ.nx:=by
     have:(o0.xV.map (D.wH σ.nx)).getD i []=D.wH σ.nx (o0.xV.getD i []):=by simp [List.getD,hi]
     rw [this,oT]
    rw [e2];exact⟨h3.1,R.shift mv (λk _=>n2 k) h3.2⟩
  ·obtain⟨g1,g2⟩:=hS.holds k o h2;exact⟨by show k<σ.nx+m; omega,g2.yD (K0.block _ (Own.lt hS ⟨k,o,h2,rfl⟩) id) (n1 k h1) (λb hb _=>K0.block b hb id) (λb hb hm=>mm b hb hm) K0.shape n1 (Nat.le_add_right _ _)⟩
 ·rcases lk k o hk with ⟨k0,o0,rfl,h2,rfl⟩ | ⟨h1,h2⟩ <;> rcases lk k' o' hk' with ⟨k0',o0',rfl,h2',rfl⟩ | ⟨h1',h2'⟩
  ·rw [n2,n2] at e;rw [k2.inj _ _ _ _ h2 h2' e]
  ·rw [n2,n1 k' h1'] at e;have:=fresh _ _ h2;have:=Own.lt hS ⟨k',o',h2',rfl⟩;omega
  ·rw [n1 k h1,n2] at e;have:=fresh _ _ h2';have:=Own.lt hS ⟨k,o,h2,rfl⟩;omega
  ·rw [n1 k h1,n1 k' h1'] at e;exact hS.inj _ _ _ _ h2 h2' e
 ·rcases lk k o hk with ⟨k0,o0,rfl,h2,rfl⟩ | ⟨h1,h2⟩
  ·rw [n2] at hm;have:=fresh _ _ h2;have:=hS.sO _ hm;omega
  ·rw [n1 k h1] at hm;exact hS.notM k o h2 hm
 ·rcases lk k o hk with ⟨k0,o0,rfl,h2,rfl⟩ | ⟨h1,h2⟩
  ·rw [n2]; exact .inl (fresh _ _ h2)
  ·rw [n1 k h1]; exact .inr ⟨k,o,h2,rfl⟩
theorem xY.Ls {P:Program} {g:FuncId} {args args':List D} {d:D} {σ:St} {m:Nat} {xZ:List (Nat × Ob)} (hc:xY P g args' gY d ⟨m,xZ⟩) (hl':kC σ (λ_=>False) args args') (hf:d.fl=true) (ho:∀ p ∈ xZ,∀ e ∈ p.2.xV,D.We e=true) :
  xY P g args σ (d.shift σ.nx) ⟨σ.nx+m,zN σ.nx xZ++σ.xZ⟩:=xY.Lr hc hl'.len (λj hj=>(hl'.at_ j hj).f) hf ho
theorem wZ.sub {M0:Nat->Prop} {w:World} {σ:St} {ι:Nat->Nat} {objs':List (Nat × Ob)} (h:wZ M0 w σ ι) (hs:∀ k o,St.look objs' k=some o->σ.get k=some o):wZ M0 w ⟨σ.nx,objs'⟩ ι:=
 have hm:∀ b,yG M0 ι ⟨σ.nx,objs'⟩ b->yG M0 ι σ b:=λb hb=>hb.imp id λ⟨k,o,h1,h2⟩=>⟨k,o,hs k o h1,h2⟩
 ⟨h.sO,λk o hk=>⟨(h.holds k o (hs k o hk)).1,(h.holds k o (hs k o hk)).2.yD rfl rfl (λ_ _ _=>rfl) (λb _ hb=>hm b hb) (λb cur e hc=>⟨cur,hc,rfl⟩) (λ_ _=>rfl) (Ad _)⟩,
  λk k' o o' hk hk'=>h.inj k k' o o' (hs k o hk) (hs k' o' hk'),λk o hk=>h.notM k o (hs k o hk),h.pE.yD (Ad _) (λ_ _ _=>rfl) λb _ hb=>hm b hb⟩
theorem xY.Ma {P:Program} {g:FuncId} {args args':List D} {d:D} {σ:St} {objs':List (Nat × Ob)} (K:Nat->Prop) (hc:yU P g args' d) (hl':kC σ K args args') (hs:∀ k o,St.look objs' k=some o->K k/\σ.get k=some o) :
  xY P g args σ d ⟨σ.nx,objs'⟩:=by
 refine⟨hc.ord,λM0 w ι vals hS hl hv=>?_⟩;have hS':=hS.sub (objs':=objs') λk o hk=>(hs k o hk).2;have S1:wZ (yG M0 ι ⟨σ.nx,objs'⟩) w gY ι:=⟨λb hb=>yG.lt hS' hb,(λk o hk=>by cases hk),(λk k' o o' hk=>by cases hk),(λk o hk=>by cases hk),hS'.pE.yD (Ad _) (λ_ _ _=>rfl) λb _ hb=>hb.elim id λ⟨k,o,hk,_⟩=>by cases hk⟩
 have e1:∀ (ι':Nat->Nat) b,yG (yG M0 ι ⟨σ.nx,objs'⟩) ι' gY b->yG M0 ι ⟨σ.nx,objs'⟩ b:=by
  intro ι' b hb
  rcases hb with hb | ⟨k,o,hk,_⟩
  ·exact hb
  ·cases hk
 have hlen:=hl'.len;have e2:∀ b,yG M0 ι ⟨σ.nx,objs'⟩ b->Mk M0 ι σ K b:=λb hb=>hb.imp id λ⟨k,o,h1,h2⟩=>⟨k,o,(hs k o h1).1,(hs k o h1).2,h2⟩;refine(hc.run _ w ι vals S1 (by omega) λj hj=>.pure ((hl'.at_ j hj M0 w ι _ hS (hv j (by omega))).yD (λ_ _ _=>rfl) λb _ hb=>e2 b (e1 ι b hb))).mono λe w' hh=>?_;obtain⟨v,ι',rfl,k1,k2,k3,k4,k5,k6⟩:=hh;have K0:Kept w w' λ_=>False:=k1.mono λb _ ⟨k,o,hk,_⟩=>by cases hk
 exact⟨v,ι,rfl,K0.none _,hS'.ext K0,Ad _,λ_ _=>rfl,λk o hk=>.inr ⟨k,o,(hs k o hk).2,rfl⟩,.pure (k6.zero.yD (λ_ _ _=>rfl) λb _ hb=>.inl hb)⟩
theorem Seen.rows {σ:St} {K:Nat->Prop} {key sz n:Nat} {xV:List (List D)} (hob:σ.get key=some ⟨sz,xV⟩) (hk:¬ K key) (hs:0<sz) (hn:n=xV.length) (hrow:∀ e ∈ xV,e.length=sz) (hp:∀ e ∈ xV,D.xR e=true):Seen σ K (.yM key sz n) (.sl sz xV):=by
 subst hn;refine Seen.yM hob hk hs rfl (Ad _) rfl hrow λi hi j hj=>?_;have hm:xV.getD i [] ∈ xV:=by simp [List.getD,hi]
 exact .pure (vC (hp _ hm) j)
theorem Seen.grow {σ:St} {K:Nat->Prop} {key sz:Nat} {xV:List (List D)} (hob:σ.get key=wU sz xV) (hk:¬ K key) (hs:0<sz) (hrow:∀ e ∈ xV,e.length=sz) (hp:∀ e ∈ xV,D.xR e=true):Seen σ K (xB key sz xV) (.sl sz xV):=by
 cases xV with
 | nil=>exact .nil sz
 | cons e r=>exact Seen.rows hob hk hs rfl hrow hp
def TA (σ:St) (K:Nat->Prop) (f:Fr):Fr->Prop
 | []=>True
 | (t,d) :: r=>(f.get t=d\/Seen σ K (f.get t) d)/\ TA σ K f r
def TB (σ:St) (K:Nat->Prop):List (Nat × Ob)->Prop
 | []=>True
 | (k,o) :: r=>(K k/\∃ ob,σ.get k=some ob/\ob.sz=o.sz/\ob.xV.length=o.xV.length/\∀ i,i<o.xV.length->(o.xV.getD i []).length=(ob.xV.getD i []).length/\∀ j,(o.xV.getD i []).getD j .top=(ob.xV.getD i []).getD j .top\/Seen σ K ((ob.xV.getD i []).getD j .top) ((o.xV.getD i []).getD j .top))/\ TB σ K r
theorem jn {σ:St} {K:Nat->Prop}:∀ {l:List (Nat × Ob)},TB σ K l->∀ p ∈ l,K p.1/\∃ ob,σ.get p.1=some ob/\ob.sz=p.2.sz/\ob.xV.length=p.2.xV.length/\∀ i,i<p.2.xV.length->(p.2.xV.getD i []).length=(ob.xV.getD i []).length/\∀ j,(p.2.xV.getD i []).getD j .top=(ob.xV.getD i []).getD j .top\/Seen σ K ((ob.xV.getD i []).getD j .top) ((p.2.xV.getD i []).getD j .top)
 | [],_,p,hp=>by cases hp
 | q :: r,h,p,hp=>by
  rcases η.1 hp with rfl | hp
  ·exact h.1
  ·exact jn h.2 p hp
theorem xT.deep {C:Cx} {f f':Fr} {σ:St} {objs':List (Nat × Ob)} (K:Nat->Prop) (ho:TB σ K objs') (hf:TA σ K f f'):xT C f σ f' ⟨σ.nx,objs'⟩:=by
 rintro E a w ⟨ι,G⟩;have hS:=G.nL;have hlive:∀ k o,St.get ⟨σ.nx,objs'⟩ k=some o->K k/\∃ ob,σ.get k=some ob/\ob.sz=o.sz/\ob.xV.length=o.xV.length/\∀ i,i<o.xV.length->(o.xV.getD i []).length=(ob.xV.getD i []).length/\∀ j,(o.xV.getD i []).getD j .top=(ob.xV.getD i []).getD j .top\/Seen σ K ((ob.xV.getD i []).getD j .top) ((o.xV.getD i []).getD j .top):=λk o hk=>jn ho (k,o) (wB hk)
 have hM1:∀ b,yG E.M0 ι ⟨σ.nx,objs'⟩ b->Mk E.M0 ι σ K b:=by
  rintro b (hb | ⟨k,o,hk,rfl⟩)
  ·exact .inl hb
  ·obtain⟨h1,ob,h2,_⟩:=hlive k o hk;exact .inr ⟨k,ob,h1,h2,rfl⟩
 have hM2:∀ b,yG E.M0 ι ⟨σ.nx,objs'⟩ b->yG E.M0 ι σ b:=λb hb=>(hM1 b hb).GH;have same:∀ {v:Value} {d:D},R (yG E.M0 ι σ) w ι σ.nx v d->R (yG E.M0 ι ⟨σ.nx,objs'⟩) w ι σ.nx v d:=λh=>h.yD (λ_ _ _=>rfl) (λb _ hb=>hM2 b hb) (λ_ cur _ h=>⟨cur,h,rfl⟩) (λ_ _=>rfl) (Ad _)
 have seen:∀ {v:Value} {d d':D},R (yG E.M0 ι σ) w ι σ.nx v d->(d'=d\/Seen σ K d d')->R (yG E.M0 ι ⟨σ.nx,objs'⟩) w ι σ.nx v d':=by
  intro v d d' h hs
  rcases hs with rfl | hs
  ·exact same h
  ·exact .pure ((hs _ w ι v hS h).yD (λ_ _ _=>rfl) λb _ hb=>hM1 b hb)
 refine⟨ι,G.size,G.defers,G.nx,G.kept,⟨hS.sO,λk o hk=>?_,λk k' o o' hk hk' e=>?_,λk o hk=>?_,hS.pE.yD (Ad _) (λ_ _ _=>rfl) λb _ hb=>hM2 b hb⟩,G.sO,λk o hk=>?_,G.stay,λt=>?_⟩
 ·obtain⟨_,ob,h2,h3,h4,h5⟩:=hlive k o hk;obtain⟨g1,g2⟩:=hS.holds k ob h2;refine⟨g1,?_⟩
  rcases g2 with ⟨s0,cur,e,c1,c2,c3,c4⟩ | ⟨s0,es,c1,c2,c3⟩
  ·refine .inl ⟨by omega,cur,e,c1,λel he=>?_,by rw [<- h4,<- h3]; exact c3,λi hi j hj=>⟨(c4 i (by omega) j (by omega)).1 |> λh=>by rw [<- h3]; exact h,?_⟩⟩
   ·obtain⟨i,hi,rfl⟩:=Aa he;have:=(h5 i hi).1;have e2:o.xV.getD i []=o.xV[i]:=by simp [List.getD,hi]
    rw [<- e2,this,<- h3];have hi':i<ob.xV.length:=by omega
    have e3:ob.xV.getD i []=ob.xV[i]:=by simp [List.getD,hi']
    rw [e3];exact c2 _ (ο hi')
   ·have:=(c4 i (by omega) j (by omega)).2;rw [h3] at this;exact seen this ((h5 i hi).2 j)
  ·refine .inr ⟨by omega,es,c1,by omega,λi hi=>?_⟩;obtain⟨kk,v,x,d,r1,r2,r3,r4⟩:=c3 i (by omega);obtain⟨e1,e2⟩:=h5 i hi;rw [r1] at e1 e2;generalize o.xV.getD i []=row at e1 e2
   match row,e1 with
   | [x',d'],_=>exact⟨kk,v,x',d',rfl,r2,seen r3 (e2 0),seen r4 (e2 1)⟩
 ·obtain⟨_,ob,h1,_⟩:=hlive k o hk;obtain⟨_,ob',h2,_⟩:=hlive k' o' hk';exact hS.inj k k' ob ob' h1 h2 e
 ·obtain⟨_,ob,h1,_⟩:=hlive k o hk;exact hS.notM k ob h1
 ·obtain⟨_,ob,h1,_⟩:=hlive k o hk;exact G.rH k ob h1
 ·have fr:=G.fr t
  induction f' with
  | nil=>exact R.top _
  | cons p r ih=>
   obtain⟨s,d'⟩:=p;simp only [TA] at hf;simp only [Fr.get]
   split
   ·rename_i e;subst e;exact seen fr (hf.1.imp Eq.symm id)
   ·exact ih hf.2
end Go.Pd
