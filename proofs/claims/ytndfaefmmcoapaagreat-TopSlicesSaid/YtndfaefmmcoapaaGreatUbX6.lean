/- Part X6. -/
import Derived.Test.YtndfaefmmcoapaaGreatUbX5
import Derived.Carry
import Derived.ChangeArms
import Derived.Deep.Slices
import Derived.ProofKit
import Derived.OpenShut
set_option linter.unusedSectionVars false
set_option linter.unusedVariables false
set_option linter.unusedSimpArgs false
set_option linter.defProp false
open And renaming intro->γ
open List renaming append_nil->δ,mem_map->ε,map_cons->ζ,nil_append->η,mem_singleton->θ,mem_cons->κ,length_nil->μ,getD_cons_zero->ν,all_cons->ξ,cons_append->ο,getElem?_append_right->π,getElem?_append_left->τ,take_append_drop->υ,length_append->χ,length_cons->ω
open BitVec renaming eq_of_toNat_eq->Aa,ofInt_natCast->Ab,toNat_ushiftRight->Ac,toNat_ofNat->Ad,toNat_ofInt->Ae,ofInt_mul->Af,ofInt_add->Ag
open Bool renaming and_eq_true->Ah
open Nat renaming le_refl->Ai,shiftRight_eq_div_pow->Aj,zero_add->Ak,pow_lt_pow_right->Al
open Int renaming natCast_nonneg->Am,toNat_natCast->An
namespace Go.Pd
open Go
def ui (s:BitVec 64):Int:=s.toNat
theorem ZT (s:BitVec 64):0<=ui s:=by unfold ui; omega
theorem Sm {s t:BitVec 64}:ui s=ui t ↔ s=t:=by
 unfold ui
 constructor
 ·intro h; exact Aa (by omega)
 ·rintro rfl; rfl
theorem N6 {n:Int} (h0:0<=n) (h1:n<18446744073709551616):ui (BitVec.ofInt 64 n)= n:=by unfold ui;rw [Ae];have:n % 2 ^ 64=n:=Int.emod_eq_of_lt h0 (by omega);omega
theorem wD (s:BitVec 64):BitVec.ofInt 64 (ui s)= s:=by unfold ui;rw [Ab];simp
theorem nH (s:BitVec 64):IntKind.u64.wrap (s.toNat:Int)= ui s:=by unfold ui;have:=s.isLt;exact wrap_u64 ⟨by omega,by omega⟩
theorem Og (s t:BitVec 64):pJ .and .u64 (ui s) (ui t)= ui (s &&& t):=by show IntKind.u64.wrap ((BitVec.ofInt 64 (ui s)&&& BitVec.ofInt 64 (ui t)).toNat:Int)= _;rw [wD,wD,nH]
theorem N7 (s t:BitVec 64):pJ .or .u64 (ui s) (ui t)= ui (s ||| t):=by show IntKind.u64.wrap ((BitVec.ofInt 64 (ui s) ||| BitVec.ofInt 64 (ui t)).toNat:Int)= _;rw [wD,wD,nH]
theorem Sn (s t:BitVec 64):pJ .xor .u64 (ui s) (ui t)= ui (s ^^^ t):=by show IntKind.u64.wrap ((BitVec.ofInt 64 (ui s)^^^ BitVec.ofInt 64 (ui t)).toNat:Int)= _;rw [wD,wD,nH]
theorem ZS (s t:BitVec 64):pJ .andNot .u64 (ui s) (ui t)= ui (s &&& ~~~t):=by show IntKind.u64.wrap ((BitVec.ofInt 64 (ui s)&&& ~~~BitVec.ofInt 64 (ui t)).toNat:Int)= _;rw [wD,wD,nH]
theorem gP (n:Int):IntKind.u64.wrap n=ui (BitVec.ofInt 64 n):=by unfold ui;rw [Ae];simp [IntKind.wrap,IntKind.signed,IntKind.bits];omega
theorem Of (s t:BitVec 64):IntKind.u64.wrap (ui s+ui t)= ui (s+t):=by rw [gP,Ag,wD,wD]
theorem On (s t:BitVec 64):IntKind.u64.wrap (ui s-ui t)= ui (s-t):=by rw [gP];congr 1;rw [Int.sub_eq_add_neg,Ag,BitVec.ofInt_neg,wD,wD,BitVec.sub_eq_add_neg]
theorem Oi (s t:BitVec 64):IntKind.u64.wrap (ui s*ui t)= ui (s*t):=by rw [gP,Af,wD,wD]
theorem Ol (s:BitVec 64) (k:Int):Vo .u64 (ui s) k=ui (s <<< k.toNat):=by
 unfold Vo;rw [gP];congr 1;rw [Af,wD];show s*BitVec.ofInt 64 (2 ^ min k.toNat 64)= _;apply Aa;rw [BitVec.toNat_mul,BitVec.toNat_shiftLeft,Nat.shiftLeft_eq]
 have e:(BitVec.ofInt 64 (2 ^ min k.toNat 64)).toNat=2 ^ min k.toNat 64 % 2 ^ 64:=by
  have:((2:Int)^ min k.toNat 64)= ((2 ^ min k.toNat 64:Nat):Int):=by norm_cast
  rw [this,Ab,Ad]
 rw [e,Nat.mul_mod_mod]
 rcases Nat.lt_or_ge k.toNat 64 with h | h
 ·rw [Nat.min_eq_left (by omega)]
 ·rw [Nat.min_eq_right h];obtain⟨m,hm⟩:=Nat.exists_eq_add_of_le h;rw [hm,Nat.pow_add,<- Nat.mul_assoc,Nat.mul_right_comm];simp
theorem Om (s:BitVec 64) (k:Int):Vg .u64 (ui s) k=ui (s >>> k.toNat):=by
 unfold Vg ui;rw [Ac,Aj];show (s.toNat:Int).fdiv (2 ^ min k.toNat 64)= _;have:((2:Int)^ min k.toNat 64)= ((2 ^ min k.toNat 64:Nat):Int):=by norm_cast
 rw [this,Int.fdiv_eq_ediv_of_nonneg _ (Am _),<- Int.natCast_ediv];congr 1
 rcases Nat.lt_or_ge k.toNat 64 with h | h
 ·rw [Nat.min_eq_left (by omega)]
 ·rw [Nat.min_eq_right h];have h1:=s.isLt;rw [Nat.div_eq_of_lt h1,Nat.div_eq_of_lt (Nat.lt_of_lt_of_le h1 (Nat.pow_le_pow_right (by omega) h))]
theorem Oj (s t:BitVec 64):(ui s).tmod (ui t)= ui (s % t):=by unfold ui;rw [BitVec.toNat_umod,Int.tmod_eq_emod_of_nonneg (by omega),Int.natCast_emod]
theorem Sl (s t:BitVec 64):(ui s==ui t)= (s==t):=by
 by_cases h:s=t
 ·subst h; simp
 ·have:ui s≠ui t:=λe=>h (Sm.1 e);rw [beq_eq_false_iff_ne.2 this,beq_eq_false_iff_ne.2 h]
theorem Oh (s t:BitVec 64):(ui s != ui t)= (s != t):=by simp only [bne,Sl]
theorem Na : D.int .u64 0=D.int .u64 (ui 0#64):=rfl
theorem Nb : D.int .u64 1=D.int .u64 (ui 1#64):=rfl
theorem MG : D.int .u64 2=D.int .u64 (ui 2#64):=rfl
theorem MH : D.int .u64 18446744073709551615=D.int .u64 (ui 18446744073709551615#64):=rfl
theorem Oe : ui 2#64≠0:=by decide
def us (l:List (BitVec 64)):List (List D):=l.map λs=>[.int .u64 (ui s)]
def Pm (l:List (BitVec 64)):D:=.sl 1 (us l)
theorem xI (l:List (BitVec 64)):(us l).length=l.length:=by simp [us]
theorem uj : us [] = []:=rfl
theorem nj (s:BitVec 64) (l:List (BitVec 64)):us (s :: l)= [.int .u64 (ui s)] :: us l:=rfl
theorem vI (l:List (BitVec 64)) {i:Nat} (h:i<l.length):(us l).getD i [] = [.int .u64 (ui (l.getD i 0))]:=by simp [us,List.getD,h]
theorem sF (l:List (BitVec 64)):∀ e ∈ us l,D.xU e=true:=by intro e he;simp only [us,ε] at he;obtain⟨n,_,rfl⟩:=he;rfl
theorem Ym (l:List (BitVec 64)):∀ e ∈ us l,wG e=true:=by intro e he;simp only [us,ε] at he;obtain⟨n,_,rfl⟩:=he;rfl
theorem YT (l:List (BitVec 64)) (n:Nat):(us l).take n=us (l.take n):=by simp [us,List.map_take]
theorem nk (l:List (BitVec 64)) (s:BitVec 64):us l ++ [[.int .u64 (ui s)]]=us (l ++ [s]):=by simp [us]
theorem mQ (l:List (BitVec 64)) (i:Nat) (s:BitVec 64):(us l).set i [.int .u64 (ui s)]=us (l.set i s):=by simp [us,List.map_set]
theorem iA (n:Nat) (s:BitVec 64):List.replicate n [D.int .u64 (ui s)]=us (List.replicate n s):=by simp [us]
theorem PC : ∀ {els:List (List D)},(∀ e ∈ els,∃ n:Int,e = [.int .u64 n])->D.u6 els->∃ l,els=us l
 | [],_,_=>⟨[],rfl⟩
 | e :: r,h,hf=>by obtain⟨n,rfl⟩:=h e (by simp);obtain⟨l,rfl⟩:=PC (λe he=>h e (by simp [he])) hf.2;have h1:=hf.1;simp only [D.sT,D.fact,and_true] at h1;obtain⟨h1,h2⟩:=h1;refine⟨BitVec.ofInt 64 n :: l,?_⟩;have:ui (BitVec.ofInt 64 n)= n:=N6 (by simpa [IntKind.min,IntKind.signed] using h1) (by have:IntKind.u64.max=18446744073709551615:=rfl; omega);simp [us,this]
theorem Wt (d:D):qC false [d]=d:=rfl
theorem Ws (cs:List D):qC true cs = .agg cs:=rfl
def xD (key sz:Nat):List (List D)->D
 | []=>.xK
 | e :: r=>.osl key sz (e :: r).length
def xA (key sz:Nat):List (List D)->List (Nat × Ob)
 | []=>[]
 | e :: r=>[(key,⟨sz,e :: r⟩)]
end Go.Pd
namespace Go.Pd
open Go
variable [rL]
def xQ (f:Fr):Fr->Prop
 | []=>True
 | (t,d) :: r=>f.get t=d/\xQ f r
omit [rL] in
theorem sr {f:Fr}:∀ {f':Fr},xQ f f'->∀ t,f'.get t = .top\/f'.get t=f.get t
 | [],_,t=>.inl rfl
 | (s,d) :: r,h,t=>by
  simp only [Fr.get]
  split
  ·rename_i e; subst e; exact .inr h.1.symm
  ·exact sr h.2 t
theorem xN.same {C:Cx} {f f':Fr} {σ:St} (h:xQ f f'):xN C f σ f' σ:=xN.frame (sr h)
end Go.Pd
namespace Go.Pd
open Go
def rr (ll:List (List (BitVec 64))):List (List D):=ll.map λl=>[Pm l]
def MK (ll:List (List (BitVec 64))):D:=.sl 1 (rr ll)
theorem zJ (l:List (List (BitVec 64))):(rr l).length=l.length:=by simp [rr]
theorem mM (l:List (List (BitVec 64))) {i:Nat} (h:i<l.length):(rr l).getD i [] = [.sl 1 (us (l.getD i []))]:=by simp [rr,Pm,List.getD,h]
theorem RU (l:List (List (BitVec 64))) (n:Nat):(rr l).take n=rr (l.take n):=by simp [rr,List.map_take]
theorem mw (l:List (List (BitVec 64))):∀ e ∈ rr l,D.xU e=true:=by intro e he;simp only [rr,ε] at he;obtain⟨n,_,rfl⟩:=he;simp [D.xU,D.xL,Pm]
end Go.Pd
namespace Go.Pd
open Go
theorem jM.same {n0:Nat} {σ:St} {d:D}:jM n0 σ d σ d:=.inl ⟨rfl,rfl⟩
theorem jM.drop {n0 n:Nat} {σ:St} {d d':D} (hn:n0<=n) (h:vw σ ⟨n,[]⟩ (λk=>k) d d'):jM n0 σ d ⟨n,[]⟩ d':= .inr ⟨λk=>k,hn,λ_ _=>rfl,h,by simp [stays],by simp [uQ]⟩
end Go.Pd
namespace Go.Pd
open Go
universe u
variable [rL]
def atK (σ:St) (K:D->St->Prop) (d:D):Prop:=K d σ
def NP (f:Fr) (dst:Option Nat) (K:Fr->St->Prop) (d:D) (σ:St):Prop:=K (f.put dst d) σ
def NQ (f:Fr) (dst:Option Nat) (K:Fr->Prop) (d:D):Prop:=K (f.put dst d)
def jH (Q:Exit->Fr->St->Prop) (f:Fr) (σ:St):Prop:=Q .normal f σ
def gdB (d:D) (want:Bool) (yes no:Prop):Prop:=
 match d with
 | .bool b=>if b=want then yes else no
 | .und=>no
 | _=>False
theorem TZ (b want:Bool) (yes no:Prop):gdB (.bool b) want yes no=if b=want then yes else no:=rfl
theorem QU (want:Bool) (yes no:Prop):gdB .und want yes no=no:=rfl
@[congr] theorem Nk {d d' : D} {want : Bool} {yes no : Prop} (h : d = d') : gdB d want yes no = gdB d' want yes no := by rw [h]
def gd (g:Option (Nat × Bool)) (f:Fr) (yes no:Prop):Prop:=
 match g with
 | none=>yes
 | some (j,want)=>gdB (f.get j) want yes no
theorem QV (f:Fr) (yes no:Prop):gd none f yes no=yes:=rfl
theorem QW (j:Nat) (want:Bool) (f:Fr) (yes no:Prop):gd (some (j,want)) f yes no=gdB (f.get j) want yes no:=rfl
theorem P2 (o:DOp) (f:Fr) (yes no:Prop):yK o f yes no=gd o.guard f yes no:=by
 unfold yK gd
 split
 ·rename_i h; rw [h]
 ·rename_i h; rw [h]; rfl
def ab (q:Bool) (σ:St) (sz bytes:Nat) (x:D) (y:Option (List (List D))) (K:D->St->Prop):Prop:=
 match y with
 | none=>False
 | some rows=>(∀ r ∈ rows,wG r=true)/\ match x with
  | .xK=>rows.length*bytes<=140737488355328/\rows.length<=8000000000000/\(rows = []->K .xK σ)/\ (rows ≠ []->K (.osl σ.nx sz rows.length) (σ.new ⟨sz,rows⟩))
  | .osl key sz' n=>match σ.get key with
   | some ob=>sz=sz'/\ob.sz=sz/\n<=ob.els.length/\(n+rows.length)* bytes<=140737488355328/\n+rows.length<=8000000000000 /\
    K (.osl σ.nx sz (n+rows.length)) ((σ.erase key).new ⟨sz,ob.els.take n++rows⟩)
   | none=>False
  | .sub key sz' lo n=>match σ.get key with
   | some ob=>q=true/\sz=sz'/\ob.sz=sz/\lo+n<=ob.els.length/\(n+rows.length)* bytes<=140737488355328/\n+rows.length<=8000000000000 /\
    ∀ pre:List (List D),(pre = []\/pre=ob.els.take lo)->K (.sub σ.nx sz pre.length (n+rows.length)) ((σ.erase key).new ⟨sz,pre++((ob.els.drop lo).take n++rows)⟩)
   | none=>False
  | _=>False
def PO (σ:St) (n:Nat) (a:D) (x:Option (List D)) (K:D->St->Prop):Prop:=
 match a,x with
 | .ref key sz i off,some ds=>match σ.get key with
  | some ob=>ob.sz=sz/\i<ob.els.length/\ds.length=n/\off+n<=sz/\wG ds=true/\K .und (σ.set key ⟨sz,ob.els.set i (bH (ob.els.getD i []) off ds)⟩)
  | none=>False
 | _,_=>False
def Vl (x:D) (K:D->Prop):Prop:=
 match x with
 | .sl _ els=>K (.int .i64 els.length)
 | .osl _ _ n=>K (.int .i64 n)
 | .sub _ _ _ n=>K (.int .i64 n)
 | .xK=>K (.int .i64 0)
 | .emp=>K (.int .i64 0)
 | _=>False
def Ve (sz:Nat) (x i:D) (K:D->Prop):Prop:=
 match x,i with
 | .sl sz' els,.int _ n=>sz=sz'/\0<=n/\n<els.length/\K (.ptr (els.getD n.toNat []))
 | .osl key sz' len,.int _ n=>sz=sz'/\0<=n/\n<len/\K (.ref key sz n.toNat 0)
 | .sub key sz' lo len,.int _ n=>sz=sz'/\0<=n/\n<len/\K (.ref key sz (lo+n.toNat) 0)
 | _,_=>False
def oT (neg:Bool) (x y:D) (K:D->Prop):Prop:=
 match x,y with
 | .xK,.xK=>K (.bool (!neg))
 | .osl ..,.xK | .xK,.osl ..=>K (.bool neg)
 | .emp,.xK | .xK,.emp=>K (.bool neg)
 | .sl _ (_ :: _),.xK=>K (.bool neg)
 | _,_=>False
def u9 (σ:St) (n:Nat) (ag:Bool) (x:D) (K:D->Prop):Prop:=
 match x with
 | .ref key sz i off=>match σ.get key with
  | some o=>o.sz=sz/\i<o.els.length/\off+n<=sz/\(ag=true\/n=1)/\ K (qC ag (((o.els.getD i []).drop off).take n))
  | none=>False
 | .ptr cs=>n<=cs.length/\(ag=true\/n=1)/\ K (qC ag (cs.take n))
 | _=>False
def Ph (x:D) (K:D->Prop):Prop:=
 match x with
 | .ref key sz i off=>K (.ref key sz i off)
 | .ptr cs=>K (.ptr cs)
 | .fn f cs=>K (.fn f cs)
 | _=>False
@[congr] theorem PT {x x' : D} {K : D -> Prop} (h : x = x') : Ph x K = Ph x' K := by rw [h]
theorem U3 {key sz i off:Nat} {K:D->Prop}:Ph (.ref key sz i off) K=K (.ref key sz i off):=rfl
theorem U1 {cs:List D} {K:D->Prop}:Ph (.ptr cs) K=K (.ptr cs):=rfl
theorem Qt {f:FuncId} {cs:List D} {K:D->Prop}:Ph (.fn f cs) K=K (.fn f cs):=rfl
def v8 (σ:St) (zero:D) (ok:Bool) (m k:D) (K:D->Prop):Prop:=
 match m,k with
 | .zE key,.int kk x=>match σ.get key with
  | some o=>o.sz=0/\gT kk o.els/\K (lH ok zero (oV x o.els 0))
  | none=>False
 | .mF,.int _ _=>K (lH ok zero none)
 | _,_=>False
def Ys (σ:St) (m k x:D) (K:D->St->Prop):Prop:=
 match m,k with
 | .zE key,.int kk y=>match σ.get key with
  | some o=>o.sz=0/\gT kk o.els/\K .und (σ.set key ⟨0,nw kk o.els y x⟩)
  | none=>False
 | _,_=>False
def iE (σ:St) (n:Nat) (zero:D) (ok:Bool) (m k:D) (K:D->Prop):Prop:=
 match m,k with
 | .zE key,.agg cs=>match σ.get key with
  | some o=>o.sz=0/\∃ (x:List Int) (l:List (List Int × D)),(cs=x.map (D.int .i64)/\ o.els=oY l/\x.length=n/\∀ p ∈ l,p.1.length=n)/\ K (lH ok zero (oQ x l 0))
  | none=>False
 | _,_=>False
def lC (σ:St) (n:Nat) (m k x:D) (K:D->St->Prop):Prop:=
 match m,k with
 | .zE key,.agg cs=>match σ.get key with
  | some o=>o.sz=0/\∃ (y:List Int) (l:List (List Int × D)),(cs=y.map (D.int .i64)/\ o.els=oY l/\(y.length=n/\∀ p ∈ l,p.1.length=n))/\ K .und (σ.set key ⟨0,oY (yv y x l)⟩)
  | none=>False
 | _,_=>False
def Rv (σ:St) (zero m k:D) (K:D->St->Prop):Prop:=
 match m,k with
 | .zE key,.int kk y=>match σ.get key with
  | some o=>o.sz=0/\gT kk o.els/\o.els.length<=1000000000/\(match oV y o.els 0 with
   | some (i,d)=>K (.tup [d,.int .i64 i]) (σ.set key ⟨0,o.els⟩)
   | none=>K (.tup [zero,.int .i64 o.els.length]) (σ.set key ⟨0,o.els ++ [[.int kk y,zero]]⟩))
  | none=>False
 | _,_=>False
def Rq (σ:St) (m s x:D) (K:D->St->Prop):Prop:=
 match m,s with
 | .zE key,.int _ i=>match σ.get key with
  | some o=>o.sz=0/\0<=i/\i<o.els.length/\(∃ kk y d,o.els.getD i.toNat [] = [.int kk y,d]/\K .und (σ.set key ⟨0,o.els.set i.toNat [.int kk y,x]⟩))
  | none=>False
 | _,_=>False
@[congr] theorem Pw {σ : St} {zero : D} {ok : Bool} {m m' k k' : D} {K : D -> Prop} (h : m = m') (h' : k = k') : v8 σ zero ok m k K = v8 σ zero ok m' k' K := by rw [h, h']
@[congr] theorem Py {σ : St} {m m' k k' x x' : D} {K : D -> St -> Prop} (h : m = m') (h' : k = k') (h2 : x = x') : Ys σ m k x K = Ys σ m' k' x' K := by rw [h, h', h2]
@[congr] theorem SJ {σ : St} {n : Nat} {zero : D} {ok : Bool} {m m' k k' : D} {K : D -> Prop} (h : m = m') (h' : k = k') : iE σ n zero ok m k K = iE σ n zero ok m' k' K := by rw [h, h']
@[congr] theorem SL {σ : St} {n : Nat} {m m' k k' x x' : D} {K : D -> St -> Prop} (h : m = m') (h' : k = k') (h2 : x = x') : lC σ n m k x K = lC σ n m' k' x' K := by rw [h, h', h2]
@[congr] theorem Pu {σ : St} {zero m m' k k' : D} {K : D -> St -> Prop} (h : m = m') (h' : k = k') : Rv σ zero m k K = Rv σ zero m' k' K := by rw [h, h']
@[congr] theorem Pq {σ : St} {m m' k k' x x' : D} {K : D -> St -> Prop} (h : m = m') (h' : k = k') (h2 : x = x') : Rq σ m k x K = Rq σ m' k' x' K := by rw [h, h', h2]
@[congr] theorem PQ {q : Bool} {σ : St} {sz bytes : Nat} {x x' : D} {y y' : Option (List (List D))} {K : D -> St -> Prop} (h : x = x') (h' : y = y') : ab q σ sz bytes x y K = ab q σ sz bytes x' y' K := by rw [h, h']
@[congr] theorem PV {σ : St} {n : Nat} {x x' : D} {y y' : Option (List D)} {K : D -> St -> Prop} (h : x = x') (h' : y = y') : PO σ n x y K = PO σ n x' y' K := by rw [h, h']
@[congr] theorem PS {x x' : D} {K : D -> Prop} (h : x = x') : Vl x K = Vl x' K := by rw [h]
@[congr] theorem PR {sz : Nat} {x x' i i' : D} {K : D -> Prop} (h : x = x') (h' : i = i') : Ve sz x i K = Ve sz x' i' K := by rw [h, h']
@[congr] theorem SN {neg : Bool} {x x' i i' : D} {K : D -> Prop} (h : x = x') (h' : i = i') : oT neg x i K = oT neg x' i' K := by rw [h, h']
@[congr] theorem Ps {σ : St} {n : Nat} {ag : Bool} {x x' : D} {K : D -> Prop} (h : x = x') : u9 σ n ag x K = u9 σ n ag x' K := by rw [h]
def pX (C:Cx) (σ:St) (ev:Opd->D) (k:DK) (K:D->Prop):Prop:=
 match k with
 | .len x=>Vl (ev x) K
 | .idx sz x i=>Ve sz (ev x) (ev i) K
 | .bR neg x y=>oT neg (ev x) (ev y) K
 | .load n ag x=>u9 σ n ag (ev x) K
 | .ai zero ok m k=>v8 σ zero ok (ev m) (ev k) K
 | .uq n zero ok m k=>iE σ n zero ok (ev m) (ev k) K
 | .nck x=>Ph (ev x) K
 | k=>pW C σ ev k K
theorem P9 (C:Cx) (σ:St) (ev:Opd->D) (k:DK) (K:D->Prop):pX C σ ev k K=pW C σ ev k K:=by cases k <;> rfl
def opX (C:Cx) (σ:St) (ev:Opd->D) (k:DK) (K:D->St->Prop):Prop:=
 match k with
 | .box x=>opV C σ ev (.box x) K
 | .alloc z=>opV C σ ev (.alloc z) K
 | .store n a x=>PO σ n (ev a) (ev x).cells K
 | .app sz bytes x y=>ab (C.own.contains 77777) σ sz bytes (ev x) (rowsOf σ sz (ev y)) K
 | .bX sz bytes zero len cap=>opV C σ ev (.bX sz bytes zero len cap) K
 | .cA sz len zero parts=>opV C σ ev (.cA sz len zero parts) K
 | .clr zero x=>opV C σ ev (.clr zero x) K
 | .cpy x y=>opV C σ ev (.cpy x y) K
 | .call fn args=>opV C σ ev (.call fn args) K
 | .mkm=>opV C σ ev .mkm K
 | .xh m k x=>Ys σ (ev m) (ev k) (ev x) K
 | .jG n m k x=>lC σ n (ev m) (ev k) (ev x) K
 | .XN zero m k=>Rv σ zero (ev m) (ev k) K
 | .XM m s x=>Rq σ (ev m) (ev s) (ev x) K
 | k=>pX C σ ev k (atK σ K)
theorem ue (C:Cx) (σ:St) (ev:Opd->D) (k:DK) (K:D->St->Prop):opX C σ ev k K=opV C σ ev k K:=by cases k <;> first | rfl | (show pX _ _ _ _ _=_; rw [P9]; rfl)
def aj (C:Cx):List DOp->(Fr->St->Prop)->Fr->St->Prop
 | [],K,f,σ=>K f σ
 | ⟨dst,g,k⟩ :: rest,K,f,σ=>gd g f (opX C σ (evO f) k (NP f dst (aj C rest K))) (aj C rest K (f.put dst .und) σ)
theorem lY (C:Cx) (K:Fr->St->Prop):∀ (ops:List DOp) (f:Fr) (σ:St),aj C ops K f σ=qE C ops f σ K
 | [],f,σ=>rfl
 | o :: rest,f,σ=>by
  have ih:aj C rest K=λf σ=>qE C rest f σ K:=by funext f σ; exact lY C K rest f σ
  unfold aj qE;rw [P2,ue,ih];rfl
def XP (C:Cx) (σ:St):List DOp->(Fr->Prop)->Fr->Prop
 | [],K,f=>K f
 | ⟨dst,g,k⟩ :: rest,K,f=>gd g f (pX C σ (evO f) k (NQ f dst (XP C σ rest K))) (XP C σ rest K (f.put dst .und))
theorem tU (C:Cx) (σ:St) (K:Fr->Prop):∀ (ops:List DOp) (f:Fr),XP C σ ops K f=uO C σ ops f K
 | [],f=>rfl
 | o :: rest,f=>by
  have ih:XP C σ rest K=λf=>uO C σ rest f K:=by funext f; exact tU C σ K rest f
  unfold XP uO;rw [P2,P9,ih];rfl
def Yt (C:Cx) (post:List DOp) (Q:Exit->Fr->St->Prop) (σ:St) (f:Fr):Prop:=aj C post (jH Q) f σ
def cdB (d:D) (p q:Prop):Prop:=
 match d with
 | .bool t=>if t=true then p else q
 | _=>False
theorem TF (t:Bool) (p q:Prop):cdB (.bool t) p q=if t=true then p else q:=rfl
@[congr] theorem Nj {d d' : D} {p q : Prop} (h : d = d') : cdB d p q = cdB d' p q := by rw [h]
def ub (C:Cx) (it:Nat) (m:Opd) (out nx more next pair:Nat) (rest:List DOp) (code:DC) (Q:Exit->Fr->St->Prop) (f:Fr) (σ:St):Prop:=uc C it m out nx more next pair rest code f σ Q
@[congr] theorem SK {C : Cx} {it : Nat} {m : Opd} {out nx more next pair : Nat} {rest : List DOp} {code : DC} {Q : Exit -> Fr -> St -> Prop} {f f' : Fr} {σ : St} (h : f = f') : ub C it m out nx more next pair rest code Q f σ = ub C it m out nx more next pair rest code Q f' σ := by rw [h]
def yg (C:Cx) (code:DC) (out next:Nat) (J:Fr->St->Prop) (Q:Exit->Fr->St->Prop) (f:Fr) (σ:St):Prop:=wpS C code f σ (sZ next (mC J (sZ out Q)))
@[congr] theorem Sx {C : Cx} {code : DC} {out next : Nat} {J : Fr -> St -> Prop} {Q : Exit -> Fr -> St -> Prop} {f f' : Fr} {σ : St} (h : f = f') : yg C code out next J Q f σ = yg C code out next J Q f' σ := by rw [h]
def Yp (C:Cx) (k:DK) (K:Fr->D->St->Prop) (σ:St) (f1:Fr):Prop:=opX C σ (evO f1) k (K f1)
def eqF (f:Fr) (g:Fr):Prop:=g=f
def unK (C:Cx) (un:Bool) (mid:List DOp) (f1:Fr) (σ:St) (K:Fr->St->Prop) (σ1:St) (f2:Fr):Prop:=(if un=true then XP C σ mid (eqF f2) f1 else True)/\ K f2 σ1
def Pg (C:Cx) (pre:List DOp) (dst:Option Nat) (mid:List DOp) (un:Bool) (post:List DOp) (Q:Exit->Fr->St->Prop) (f:Fr) (σ:St) (f1:Fr) (d:D) (σ1:St):Prop:= XP C σ1 pre (eqF f1) f/\XP C σ1 mid (unK C un mid (f1.put dst d) σ (aj C post (jH Q)) σ1) (f1.put dst d)
theorem Qm {C:Cx} {pre:List DOp} {dst:Option Nat} {mid:List DOp} {un:Bool} {post:List DOp} {Q:Exit->Fr->St->Prop} {f:Fr} {σ:St} {f1:Fr} {d:D} {σ1:St} :
  Pg C pre dst mid un post Q f σ f1 d σ1=PJ C pre dst mid un f σ (λf σ=>qE C post f σ λf σ=>Q .normal f σ) f1 d σ1:=by
 unfold Pg PJ;rw [tU,tU]
 have:unK C un mid (f1.put dst d) σ (aj C post (jH Q)) σ1=λf2=>(if un=true then uO C σ mid (f1.put dst d) (λg=>g=f2) else True)/\ qE C post f2 σ1 λf σ=>Q .normal f σ:=by funext f2;unfold unK;rw [tU,lY];rfl
 rw [this];rfl
def wpX (C:Cx):DC->(Exit->Fr->St->Prop)->Fr->St->Prop
 | .skip,Q,f,σ=>Q .normal f σ
 | .reg pre post,Q,f,σ=>XP C σ pre (Yt C post Q σ) f
 | .XD pre m mid un post,Q,f,σ=>XP C σ pre (Yp C m.k (Pg C pre m.dst mid un post Q f σ) σ) f
 | .Vm pre m1 mid1 m2 mid2 post,Q,f,σ=>wpD C (.Vm pre m1 mid1 m2 mid2 post) f σ Q
 | .seq a b,Q,f,σ=>wpX C a (mC (wpX C b Q) Q) f σ
 | .cond c a b,Q,f,σ=>cdB (evO f c) (wpX C a Q f σ) (wpX C b Q f σ)
 | .block id c,Q,f,σ=>wpX C c (sZ id Q) f σ
 | .loop c,Q,f,σ=>wpS C (.loop c) f σ Q
 | .XQ g ps a c,Q,f,σ=>wpS C (.XQ g ps a c) f σ Q
 | .ot pre m1 mid1 m2 mid2 post free,Q,f,σ=>wpS C (.ot pre m1 mid1 m2 mid2 post free) f σ Q
 | .im pre m mid un post fl,Q,f,σ=>wpS C (.im pre m mid un post fl) f σ Q
 | .exit id,Q,f,σ=>Q (.exit id) f σ
 | .ret,Q,f,σ=>Q .ret f σ
 | .rng ..,_,_,_=>False
 | .nxt ..,_,_,_=>False
 | .ent ..,_,_,_=>False
 | .xb pre it m out nx more next pair rest code,Q,f,σ=>aj C pre (ub C it m out nx more next pair rest code Q) f σ
theorem fT (C:Cx):∀ (dc:DC) (Q:Exit->Fr->St->Prop) (f:Fr) (σ:St),wpX C dc Q f σ=wpD C dc f σ Q
 | .skip,Q,f,σ=>rfl
 | .reg pre post,Q,f,σ=>by
  unfold wpX wpD;rw [tU]
  have:Yt C post Q σ=λf=>qE C post f σ λf σ=>Q .normal f σ:=by funext f;unfold Yt;rw [lY];rfl
  rw [this]
 | .XD pre m mid un post,Q,f,σ=>by
  unfold wpX wpD;rw [tU]
  have:Yp C m.k (Pg C pre m.dst mid un post Q f σ) σ=λf1=>opV C σ (evO f1) m.k λd σ1=>PJ C pre m.dst mid un f σ (λf σ=>qE C post f σ λf σ=>Q .normal f σ) f1 d σ1:=by funext f1;unfold Yp;rw [ue];congr 1;funext d σ1;exact Qm
  rw [this]
 | .Vm ..,Q,f,σ=>rfl
 | .seq a b,Q,f,σ=>by
  have ih:wpX C b Q=λf σ=>wpD C b f σ Q:=by funext f σ; exact fT C b Q f σ
  unfold wpX;rw [fT C a,ih];rfl
 | .cond c a b,Q,f,σ=>by unfold wpX;rw [fT C a,fT C b];rfl
 | .block id c,Q,f,σ=>by unfold wpX; rw [fT C c]; rfl
 | .loop c,Q,f,σ=>rfl
 | .XQ g ps a c,Q,f,σ=>rfl
 | .ot ..,Q,f,σ=>rfl
 | .im ..,Q,f,σ=>rfl
 | .exit id,Q,f,σ=>rfl
 | .ret,Q,f,σ=>rfl
 | .rng ..,_,_,_=>rfl
 | .nxt ..,_,_,_=>rfl
 | .ent ..,_,_,_=>rfl
 | .xb pre it m out nx more next pair rest code,Q,f,σ=>by unfold wpX wpD; rw [lY]; rfl
noncomputable def gz {α:Sort u} (a:α):α:=Classical.choose (⟨a,rfl⟩:∃ b:α,b=a)
theorem eP {α:Sort u} (a:α):gz a=a:=Classical.choose_spec (⟨a,rfl⟩:∃ b:α,b=a)
noncomputable def ik (C:Cx):List DOp->(Fr->St->Prop)->Fr->St->Prop:=gz (aj C)
noncomputable def nT (C:Cx) (σ:St):List DOp->(Fr->Prop)->Fr->Prop:=gz (XP C σ)
noncomputable def wpZ (C:Cx):DC->(Exit->Fr->St->Prop)->Fr->St->Prop:=gz (wpX C)
theorem oN (C:Cx):ik C=aj C:=eP _
theorem rA (C:Cx) (σ:St):nT C σ=XP C σ:=eP _
theorem sX (C:Cx):wpZ C=wpX C:=eP _
section
variable (C : Cx) (σ : St) (f : Fr) (Q : Exit -> Fr -> St -> Prop) (K : Fr -> St -> Prop) (K1 : Fr -> Prop) (a b c : DC) (dst : Option Nat) (g : Option (Nat × Bool)) (k : DK) (rest pre post : List DOp) (x : Opd) (id : Nat)
theorem UM : ik C [] K f σ=K f σ:=by rw [oN]; rfl
theorem Wr : ik C (⟨dst,g,k⟩ :: rest) K f σ=gd g f (opX C σ (evO f) k (NP f dst (ik C rest K))) (ik C rest K (f.put dst .und) σ):=by rw [oN]; rfl
theorem du : nT C σ [] K1 f=K1 f:=by rw [rA]; rfl
theorem Wu : nT C σ (⟨dst,g,k⟩ :: rest) K1 f=gd g f (pX C σ (evO f) k (NQ f dst (nT C σ rest K1))) (nT C σ rest K1 (f.put dst .und)):=by rw [rA]; rfl
def z7 (C:Cx) (post:List DOp) (Q:Exit->Fr->St->Prop) (σ:St) (f:Fr):Prop:=ik C post (jH Q) f σ
theorem VR : wpZ C .skip Q f σ=Q .normal f σ:=by rw [sX]; rfl
theorem Rk : wpZ C (.reg pre post) Q f σ=nT C σ pre (z7 C post Q σ) f:=by
 have e:z7 C post Q σ=Yt C post Q σ:=by funext f; unfold z7 Yt; rw [oN]
 rw [sX,rA,e]; rfl
def lX (C:Cx) (k:DK) (K:Fr->D->St->Prop) (σ:St) (f1:Fr):Prop:=opX C σ (evO f1) k (K f1)
def unZ (C:Cx) (un:Bool) (mid:List DOp) (f1:Fr) (σ:St) (K:Fr->St->Prop) (σ1:St) (f2:Fr):Prop:=(if un=true then nT C σ mid (eqF f2) f1 else True)/\ K f2 σ1
def Nc (C:Cx) (pre:List DOp) (dst:Option Nat) (mid:List DOp) (un:Bool) (post:List DOp) (Q:Exit->Fr->St->Prop) (f:Fr) (σ:St) (f1:Fr) (d:D) (σ1:St):Prop:= nT C σ1 pre (eqF f1) f/\nT C σ1 mid (unZ C un mid (f1.put dst d) σ (ik C post (jH Q)) σ1) (f1.put dst d)
theorem VO {mid:List DOp} {un:Bool}:wpZ C (.XD pre ⟨dst,g,k⟩ mid un post) Q f σ=nT C σ pre (lX C k (Nc C pre dst mid un post Q f σ) σ) f:=by
 have e:lX C k (Nc C pre dst mid un post Q f σ) σ=Yp C k (Pg C pre dst mid un post Q f σ) σ:=by
  funext f1;unfold lX Yp;congr 1;funext d σ1;unfold Nc Pg
  have e2:unZ C un mid (f1.put dst d) σ (ik C post (jH Q)) σ1=unK C un mid (f1.put dst d) σ (aj C post (jH Q)) σ1:=by funext f2; unfold unZ unK; rw [oN,rA]
  rw [e2,rA]
 rw [sX,rA,e]; rfl
theorem TR (f:Fr):eqF f f=True:=eq_true rfl
theorem Rm : wpZ C (.seq a b) Q f σ=wpZ C a (mC (wpZ C b Q) Q) f σ:=by rw [sX]; rfl
theorem VK : wpZ C (.cond x a b) Q f σ=cdB (evO f x) (wpZ C a Q f σ) (wpZ C b Q f σ):=by rw [sX]; rfl
theorem ZY : wpZ C (.block id c) Q f σ=wpZ C c (sZ id Q) f σ:=by rw [sX]; rfl
theorem VM : wpZ C (.loop c) Q f σ=wpS C (.loop c) f σ Q:=by rw [sX]; rfl
theorem VQ {g:Opd} {ps:List Nat}:wpZ C (.XQ g ps a c) Q f σ=wpS C (.XQ g ps a c) f σ Q:=by rw [sX]; rfl
theorem VL : wpZ C (.exit id) Q f σ=Q (.exit id) f σ:=by rw [sX]; rfl
theorem Rl : wpZ C .ret Q f σ=Q .ret f σ:=by rw [sX]; rfl
theorem ZX {it:Nat} {m:Opd} {out nx more next pair:Nat} {rst:List DOp} {code:DC}:wpZ C (.xb pre it m out nx more next pair rst code) Q f σ=ik C pre (ub C it m out nx more next pair rst code Q) f σ:=by rw [sX,oN]; rfl
end
theorem xO {C:Cx} (hm:C.P.follows .mixedOrders=true) {dc:DC} {f:Fr} {σ:St} {Q:Exit->Fr->St->Prop} (h:wpZ C dc Q f σ):wpS C dc f σ Q:= So hm (by rw [<- fT,<- sX]; exact h)
theorem xY.xP {P:Program} {g:FuncId} {fn:Func} {own:List Nat} {N:Nat} {dc:DC} {rs:List aa} {args:List D} {σ:St} {d:D} {σ':St} (hm:P.follows .mixedOrders=true) (hf:P.funcs[g]?=some fn)
  (hc:xS P own fn=some (N,dc,rs)) (hla:args.length<=N)
  (h:D.sT args->wpZ ⟨P,N,σ.nx,own,none⟩ dc (VT ⟨P,N,σ.nx,own,none⟩ rs d σ') (bO 0 args) σ):xY P g args σ d σ':=
 xY.My hm hf hc hla λhfa=>by rw [<- fT,<- sX]; exact h hfa
end Go.Pd
namespace Go.Pd
open Go
theorem vq (s:BitVec 64) (w:Nat):s >>> w &&& 1#64=if s.getLsbD w then 1#64 else 0#64:=by
 apply Aa;rw [BitVec.toNat_and,Ac];have:(1#64).toNat=1:=rfl;rw [this,Nat.and_one_is_mod];unfold BitVec.getLsbD;rw [Nat.testBit_eq_decide_div_mod_eq,Aj]
 by_cases h:s.toNat / 2 ^ w % 2=1
 ·simp [h]
 ·simp [h]; omega
theorem jb (s:BitVec 64) (w:Nat):(s >>> w &&& 1#64==1#64)= s.getLsbD w:=by rw [vq];cases s.getLsbD w <;> rfl
theorem nc {k:Nat} (hk:k<62):Vo .i64 1 k=((2 ^ k:Nat):Int):=by
 have hp:2 ^ k<2 ^ 62:=Al (by omega) hk;unfold Vo
 have e:min (k:Int).toNat IntKind.i64.bits=k:=by have:IntKind.i64.bits=64:=rfl;rw [this,An]; omega
 rw [e,Int.one_mul,wrap_i64]
 ·simp
 ·have:((2:Int)^ k)= ((2 ^ k:Nat):Int):=by simp
  rw [this];exact⟨Int.le_trans (by decide) (Am _),Int.le_trans (Int.ofNat_le.2 (Nat.le_of_lt hp)) (by decide)⟩
theorem or_zero {a k:Nat} (h:a<2 ^ k) (hk:k<62):pJ .or .i64 (a:Int) (Vo .i64 0 k)= (a:Int):=by
 have hp:2 ^ k<2 ^ 62:=Al (by omega) hk
 have e1:Vo .i64 0 k=0:=by unfold Vo;rw [Int.zero_mul]; rfl
 rw [e1];show IntKind.i64.wrap ((BitVec.ofInt 64 (a:Int) ||| BitVec.ofInt 64 0).toNat:Int)= _;rw [Ab,BitVec.toNat_or,Ad,Nat.mod_eq_of_lt (by omega)];have:(BitVec.ofInt 64 0).toNat=0:=rfl;rw [this,Nat.or_zero];exact wrap_i64 (by omega)
end Go.Pd
namespace Go.Pd
open Go
theorem zM (key sz:Nat):xD key sz [] = .xK:=rfl
theorem xz (key sz:Nat) (e:List D) (r:List (List D)):xD key sz (e :: r)= .osl key sz (r.length+1):=rfl
theorem zN (key sz:Nat):xA key sz [] = []:=rfl
theorem xy (key sz:Nat) (e:List D) (r:List (List D)):xA key sz (e :: r)= [(key,⟨sz,e :: r⟩)]:=rfl
theorem nP (k:IntKind):rows k [] = []:=rfl
theorem kB (k:IntKind) (n:Int) (l:List Int):rows k (n :: l)= [.int k n] :: rows k l:=rfl
theorem sj (k:IntKind) (l:List Int) (n:Int):rows k l ++ [[.int k n]]=rows k (l ++ [n]):=by simp [rows]
theorem mz (l:List (List (BitVec 64))) (r:List (BitVec 64)):rr l ++ [[.sl 1 (us r)]]=rr (l ++ [r]):=by simp [rr,Pm]
theorem Sj : rr [] = []:=rfl
theorem YG (l:List (BitVec 64)) (r:List (List (BitVec 64))):rr (l :: r)= [.sl 1 (us l)] :: rr r:=rfl
variable [rL]
theorem WQ {key m n sz:Nat} {els:List (List D)} (hs:0<sz) (hp:∀ e ∈ els,D.xU e=true) {ρ:Nat->Nat}:vw ⟨m,xA key sz els⟩ ⟨n,[]⟩ ρ (xD key sz els) (.sl sz els):=by
 cases els with
 | nil=>simp [xD,vw]
 | cons e r=> simp only [xD,xA,vw];refine⟨trivial,hs,by simp,⟨sz,e :: r⟩,by simp [St.get,St.look],rfl,Ai _,by simp,hp⟩
theorem jM.name {n0 n m sz j:Nat} {els:List (List D)} {d d':D} (hn:n0<=n) (hp:∀ e ∈ els,D.xU e=true) (hv:vw ⟨m,[(j,⟨sz,els⟩)]⟩ ⟨n+1,[(n,⟨sz,els⟩)]⟩ (λk=>if k=n then j else k) d d'):jM n0 ⟨m,[(j,⟨sz,els⟩)]⟩ d ⟨n+1,[(n,⟨sz,els⟩)]⟩ d':=by
 refine .inr ⟨λk=>if k=n then j else k,by show n0<=n+1; omega,λk hk=>if_neg (by omega),hv,?_,?_⟩
 ·intro p hp';simp only [θ] at hp';subst hp';exact⟨Nat.lt_succ_self n,⟨sz,els⟩,by simp [St.get,St.look],rfl,.same hp⟩
 ·intro p hp' q hq' _;simp only [θ] at hp' hq';rw [hp',hq']
end Go.Pd
namespace Go.Pd
open Go
def vZ (sz:Nat):List (List D)->Option Ob
 | []=>none
 | e :: r=>some ⟨sz,e :: r⟩
theorem xH {k s:Nat} {els:List (List D)} {r:List (Nat × Ob)} {k':Nat}:St.look (xA k s els++r) k'=if k=k' then(vZ s els).or (St.look r k') else St.look r k':=by
 cases els with
 | nil=>simp [xA,vZ]
 | cons e l=>simp [xA,vZ,St.look]
theorem lQ {k s:Nat} {els:List (List D)} {k':Nat}:St.look (xA k s els) k'=if k=k' then vZ s els else none:=by have:=xH (k:=k) (s:=s) (els:=els) (r:=[]) (k':=k');simp only [δ,St.look,Option.or_none] at this;exact this
theorem cH {k s:Nat} {els:List (List D)} {r:List (Nat × Ob)} {k':Nat}:yC (xA k s els++r) k'=if k=k' then yC r k' else xA k s els++yC r k':=by
 cases els with
 | nil=>simp [xA]
 | cons e l=>simp [xA,yC]
theorem pb {k s:Nat} {els:List (List D)} {k':Nat}:yC (xA k s els) k'=if k=k' then [] else xA k s els:=by have:=cH (k:=k) (s:=s) (els:=els) (r:=[]) (k':=k');simp only [δ,yC] at this;exact this
theorem ft : ∀ {r:List (Nat × Ob)} {k:Nat} {o:Ob},St.look r k=none->vN r k o=r
 | [],_,_,_=>rfl
 | (j,o') :: r,k,o,h=>by
  simp only [St.look] at h
  split at h
  ·cases h
  ·rename_i hn;simp only [vN,if_neg hn,ft h]
theorem xu : ∀ {r:List (Nat × Ob)} {k:Nat},St.look r k=none->yC r k=r
 | [],_,_=>rfl
 | (j,o') :: r,k,h=>by
  simp only [St.look] at h
  split at h
  ·cases h
  ·rename_i hn;simp only [yC,if_neg hn,xu h]
theorem tf {k s:Nat} {els els':List (List D)} {r:List (Nat × Ob)} (hl:els'.length=els.length) (h:St.look r k=none):vN (xA k s els++r) k ⟨s,els'⟩= xA k s els'++r:=by
 cases els with
 | nil=> have:els' = []:=List.eq_nil_of_length_eq_zero (by simpa using hl);subst this;simp only [xA,η];exact ft h
 | cons e l=>
  cases els' with
  | nil=>simp at hl
  | cons e' l'=>simp [xA,vN]
theorem aR {k s:Nat} {els els':List (List D)} (hl:els'.length=els.length):vN (xA k s els) k ⟨s,els'⟩= xA k s els':=by have:=tf (k:=k) (s:=s) (r:=[]) hl rfl;simp only [δ] at this;exact this
theorem po {k s:Nat} {els:List (List D)} {r:List (Nat × Ob)} {k':Nat} {o:Ob} (h:k≠k'):vN (xA k s els++r) k' o=xA k s els++vN r k' o:=by
 cases els with
 | nil=>simp [xA]
 | cons e l=>simp [xA,vN,h]
theorem jc (k s:Nat) (els:List (List D)):(xD k s els).cells=some [xD k s els]:=by cases els <;> rfl
theorem Wo (k s:Nat) (els:List (List D)):(xD k s els).one=true:=by cases els <;> rfl
theorem W6 (k s n:Nat):(D.osl k s n).cells=some [.osl k s n]:=rfl
theorem WA (k s l n:Nat):(D.sub k s l n).cells=some [.sub k s l n]:=rfl
theorem W5 (k:IntKind) (n:Int):(D.int k n).cells=some [.int k n]:=rfl
theorem Xc (b:Bool):(D.bool b).cells=some [.bool b]:=rfl
theorem W9 (s:ByteArray):(D.str s).cells=some [.str s]:=rfl
theorem TJ (sz:Nat) (els:List (List D)):(D.sl sz els).cells=some [.sl sz els]:=rfl
theorem Xh : D.xK.cells=some [.xK]:=rfl
theorem W4 : D.emp.cells=some [.emp]:=rfl
theorem W2 (cs:List D):(D.agg cs).cells=some cs:=rfl
theorem TH (f:FuncId) (cs:List D):(D.fn f cs).cells=some [.fn f cs]:=rfl
theorem W8 (a b c d:Nat):(D.ref a b c d).cells=some [.ref a b c d]:=rfl
theorem W7 (cs:List D):(D.ptr cs).cells=some [.ptr cs]:=rfl
theorem Xd (k:Nat):(D.zE k).cells=some [.zE k]:=rfl
theorem Xg : D.iH.cells=some [.iH]:=rfl
theorem Xf : D.mF.cells=some [.mF]:=rfl
theorem Xe : D.pC.cells=some [.pC]:=rfl
theorem R4 (k:IntKind) (n:Int):(D.int k n).one=true:=rfl
theorem UG (b:Bool):(D.bool b).one=true:=rfl
theorem RA (s:ByteArray):(D.str s).one=true:=rfl
theorem OM (sz:Nat) (els:List (List D)):(D.sl sz els).one=true:=rfl
theorem UL : D.xK.one=true:=rfl
theorem R3 : D.emp.one=true:=rfl
theorem OK (f:FuncId) (cs:List D):(D.fn f cs).one=true:=rfl
theorem R8 (a b c d:Nat):(D.ref a b c d).one=true:=rfl
theorem R5 (a b c:Nat):(D.osl a b c).one=true:=rfl
theorem R7 (cs:List D):(D.ptr cs).one=true:=rfl
theorem UH (k:Nat):(D.zE k).one=true:=rfl
theorem UK : D.iH.one=true:=rfl
theorem UJ : D.mF.one=true:=rfl
theorem UI : D.pC.one=true:=rfl
section
variable [rL]
theorem Vu {q:Bool} {σ:St} {sz bytes key:Nat} {els:List (List D)} {rw:List (List D)} {K:D->St->Prop} (h:σ.get key=vZ sz els) (h0:rw ≠ []) :
  ab q σ sz bytes (xD key sz els) (some rw) K=((∀ r ∈ rw,wG r=true)/\ (els.length+rw.length)* bytes<=140737488355328/\els.length+rw.length<=8000000000000 /\
   K (xD σ.nx sz (els++rw)) ⟨σ.nx+1,xA σ.nx sz (els++rw)++ yC σ.xZ key⟩):=by
 cases els with
 | nil=>
  obtain⟨r,rs,rfl⟩:∃ r rs,rw=r :: rs:=by cases rw with | nil=>exact absurd rfl h0 | cons r rs=>exact⟨r,rs,rfl⟩
  have he:yC σ.xZ key=σ.xZ:=xu h;simp only [ab,xD,xA,St.new,he,η,μ,Ak];simp
 | cons e l=>
  have e1:l.length+1+rw.length=l.length+rw.length+1:=by omega
  simp only [ab,xD,h,vZ,St.erase,St.new,xA];simp [xD,xA,e1]
theorem XY {q:Bool} {nx:Nat} {xZ:List (Nat × Ob)} {sz bytes key:Nat} {els:List (List D)} {r:List D} {rs:List (List D)} {K:D->St->Prop} (h:St.look xZ key=vZ sz els) :
  ab q ⟨nx,xZ⟩ sz bytes (xD key sz els) (some (r :: rs)) K=((∀ x ∈ r :: rs,wG x=true)/\ (els.length+(r :: rs).length)* bytes<=140737488355328/\els.length+(r :: rs).length<=8000000000000 /\
   K (xD nx sz (els++r :: rs)) ⟨nx+1,xA nx sz (els++r :: rs)++ yC xZ key⟩):=Vu h (by simp)
theorem T7 {q:Bool} {σ:St} {sz bytes:Nat} {r:List D} {rs:List (List D)} {K:D->St->Prop} :
  ab q σ sz bytes .xK (some (r :: rs)) K=((∀ x ∈ r :: rs,wG x=true)/\ (r :: rs).length*bytes<=140737488355328/\(r :: rs).length<=8000000000000/\K (.osl σ.nx sz (r :: rs).length) (σ.new ⟨sz,r :: rs⟩)):=by
 simp [ab]
theorem T8 {q:Bool} {σ:St} {sz sz' bytes key n:Nat} {rows:List (List D)} {K:D->St->Prop} :
  ab q σ sz bytes (.osl key sz' n) (some rows) K=((∀ x ∈ rows,wG x=true)/\ match σ.get key with
   | some ob=>sz=sz'/\ob.sz=sz/\n<=ob.els.length/\(n+rows.length)* bytes<=140737488355328/\n+rows.length<=8000000000000/\K (.osl σ.nx sz (n+rows.length)) ((σ.erase key).new ⟨sz,ob.els.take n++rows⟩)
   | none=>False):=rfl
def SF (nx:Nat) (xZ:List (Nat × Ob)) (n key sz i off:Nat) (ds:List D) (K:D->St->Prop):Option Ob->Prop
 | some ob=>ob.sz=sz/\i<ob.els.length/\ds.length=n/\off+n<=sz/\wG ds=true/\K .und ⟨nx,vN xZ key ⟨sz,ob.els.set i (bH (ob.els.getD i []) off ds)⟩⟩
 | none=>False
@[congr] theorem PU {nx : Nat} {xZ : List (Nat × Ob)} {n key sz i off : Nat} {ds : List D} {K : D -> St -> Prop} {o o' : Option Ob} (h : o = o') : SF nx xZ n key sz i off ds K o = SF nx xZ n key sz i off ds K o' := by rw [h]
theorem Uv {nx:Nat} {xZ:List (Nat × Ob)} {n key sz i off:Nat} {ds:List D} {K:D->St->Prop}:PO ⟨nx,xZ⟩ n (.ref key sz i off) (some ds) K=SF nx xZ n key sz i off ds K (St.look xZ key):=by simp only [PO,St.get];cases St.look xZ key <;> rfl
theorem ZO {nx:Nat} {xZ:List (Nat × Ob)} {n key sz i off:Nat} {ds:List D} {K:D->St->Prop} {sz':Nat} {els:List (List D)} :
  SF nx xZ n key sz i off ds K (some ⟨sz',els⟩)= (sz'=sz/\i<els.length/\ds.length=n/\off+n<=sz/\wG ds=true/\K .und ⟨nx,vN xZ key ⟨sz,els.set i (bH (els.getD i []) off ds)⟩⟩):=rfl
theorem ZN {nx:Nat} {xZ:List (Nat × Ob)} {n key sz i off:Nat} {ds:List D} {K:D->St->Prop} {els:List (List D)} :
  SF nx xZ n key sz i off ds K (vZ sz els)= (i<els.length/\ds.length=n/\off+n<=sz/\wG ds=true/\K .und ⟨nx,vN xZ key ⟨sz,els.set i (bH (els.getD i []) off ds)⟩⟩):=by
 cases els with
 | nil=>simp [SF,vZ]
 | cons e l=>simp [SF,vZ]
def nu (n:Nat) (ag:Bool) (sz i off:Nat) (K:D->Prop):Option Ob->Prop
 | some o=>o.sz=sz/\i<o.els.length/\off+n<=sz/\(ag=true\/n=1)/\ K (qC ag (((o.els.getD i []).drop off).take n))
 | none=>False
@[congr] theorem Pr {n sz i off : Nat} {ag : Bool} {K : D -> Prop} {o o' : Option Ob} (h : o = o') : nu n ag sz i off K o = nu n ag sz i off K o' := by rw [h]
theorem Wc {nx:Nat} {xZ:List (Nat × Ob)} {n key sz i off:Nat} {ag:Bool} {K:D->Prop}:u9 ⟨nx,xZ⟩ n ag (.ref key sz i off) K=nu n ag sz i off K (St.look xZ key):=by simp only [u9,St.get];cases St.look xZ key <;> rfl
theorem b8 {n sz i off:Nat} {ag:Bool} {K:D->Prop} {sz':Nat} {els:List (List D)}:nu n ag sz i off K (some ⟨sz',els⟩)= (sz'=sz/\i<els.length/\off+n<=sz/\(ag=true\/n=1)/\ K (qC ag (((els.getD i []).drop off).take n))):=rfl
theorem b7 {n sz i off:Nat} {ag:Bool} {K:D->Prop} {els:List (List D)}:nu n ag sz i off K (vZ sz els)= (i<els.length/\off+n<=sz/\(ag=true\/n=1)/\ K (qC ag (((els.getD i []).drop off).take n))):=by
 cases els with
 | nil=>simp [nu,vZ]
 | cons e l=>simp [nu,vZ]
theorem Wb {σ:St} {n:Nat} {ag:Bool} {cs:List D} {K:D->Prop}:u9 σ n ag (.ptr cs) K=(n<=cs.length/\(ag=true\/n=1)/\ K (qC ag (cs.take n))):=rfl
def rB (kk:IntKind) (l:List (Int × D)):List (List D):=l.map λp=>[.int kk p.1,p.2]
def wT (x:Int):List (Int × D)->Nat->Option (Nat × D)
 | [],_=>none
 | (m,d) :: r,i=>if x=m then some (i,d) else wT x r (i+1)
def xc (l:List (Int × D)) (x:Int) (d:D):List (Int × D):=
 match wT x l 0 with
 | some (i,_)=>l.set i (x,d)
 | none=>l ++ [(x,d)]
theorem Tx (kk:IntKind):rB kk [] = []:=rfl
theorem cw (kk:IntKind) (l:List (Int × D)):(rB kk l).length=l.length:=by simp [rB]
theorem aA (kk:IntKind) (l:List (Int × D)):gT kk (rB kk l):=by intro row h;simp only [rB,ε] at h;obtain⟨p,_,rfl⟩:=h;exact⟨_,_,rfl⟩
theorem iQ (kk:IntKind) (x:Int):∀ (l:List (Int × D)) (i:Nat),oV x (rB kk l) i=wT x l i
 | [],_=>rfl
 | (m,d) :: r,i=>by show oV x ([.int kk m,d] :: rB kk r) i=_;rw [oV,wT,iQ kk x r (i+1)]
theorem j4 (kk:IntKind) (l:List (Int × D)) (x:Int) (d:D):nw kk (rB kk l) x d=rB kk (xc l x d):=by
 unfold nw xc;rw [iQ]
 cases wT x l 0 with
 | none=>simp [rB]
 | some p=>simp [rB,List.map_set]
theorem gH : ∀ {a b:List Int},a.map (D.int .i64)= b.map (D.int .i64)->a=b
 | [],[],_=>rfl
 | [],_ :: _,h=>by simp at h
 | _ :: _,[],h=>by simp at h
 | x :: a,y :: b,h=>by simp only [ζ,List.cons.injEq,D.int.injEq,true_and] at h;rw [h.1,gH h.2]
theorem vl : ∀ {a b:List (List Int × D)},oY a=oY b->a=b
 | [],[],_=>rfl
 | [],_ :: _,h=>by simp [oY] at h
 | _ :: _,[],h=>by simp [oY] at h
 | (x,d) :: a,(y,e) :: b,h=>by simp only [oY,ζ,List.cons.injEq,D.agg.injEq,and_true] at h;obtain⟨⟨h1,h2⟩,h3⟩:=h;rw [gH h1,h2,vl (a:=a) (b:=b) h3]
theorem eD {nx:Nat} {xZ:List (Nat × Ob)} {n:Nat} {zero:D} {ok:Bool} {key:Nat} {x:List Int} {l:List (List Int × D)} {cs:List D} {K:D->Prop} (hg:St.look xZ key=some ⟨0,oY l⟩) (hc:cs=x.map (D.int .i64)) (hx:x.length=n) (hl:∀ p ∈ l,p.1.length=n) :
  iE ⟨nx,xZ⟩ n zero ok (.zE key) (.agg cs) K=K (lH ok zero (oQ x l 0)):=by
 subst hc;simp only [iE,St.get,hg];refine propext ⟨λh=>?_,λh=>⟨trivial,x,l,⟨rfl,rfl,hx,hl⟩,h⟩⟩;obtain⟨_,x',l',⟨h1,h2,_,_⟩,h3⟩:=h;rw [gH h1,vl h2]; exact h3
theorem j6 {nx:Nat} {xZ:List (Nat × Ob)} {n:Nat} {key:Nat} {y:List Int} {l:List (List Int × D)} {cs:List D} {x:D} {K:D->St->Prop} (hg:St.look xZ key=some ⟨0,oY l⟩) (hc:cs=y.map (D.int .i64)) (hx:y.length=n) (hl:∀ p ∈ l,p.1.length=n) :
  lC ⟨nx,xZ⟩ n (.zE key) (.agg cs) x K=K .und ⟨nx,vN xZ key ⟨0,oY (yv y x l)⟩⟩:=by
 subst hc;simp only [lC,St.get,hg,St.set];refine propext ⟨λh=>?_,λh=>⟨trivial,y,l,⟨rfl,rfl,hx,hl⟩,h⟩⟩;obtain⟨_,x',l',⟨h1,h2,_,_⟩,h3⟩:=h;rw [gH h1,vl h2]; exact h3
theorem eG {nx:Nat} {xZ:List (Nat × Ob)} {n:Nat} {key:Nat} {y:List Int} {l:List (List Int × D)} {cs:List D} {x:D} {K:D->St->Prop} (hg:St.look xZ key=some ⟨0,oY l⟩) (hc:cs=y.map (D.int .i64)) (hx:y.length=n) (hl:∀ p ∈ l,p.1.length=n) (hno:oQ y l 0=none) :
  lC ⟨nx,xZ⟩ n (.zE key) (.agg cs) x K=K .und ⟨nx,vN xZ key ⟨0,oY (l ++ [(y,x)])⟩⟩:=by
 rw [j6 hg hc hx hl,show yv y x l=l ++ [(y,x)] by unfold yv; rw [hno]]
def v7 (kk:IntKind) (x:Int) (zero:D) (ok:Bool) (K:D->Prop):Option Ob->Prop
 | some o=>o.sz=0/\gT kk o.els/\K (lH ok zero (oV x o.els 0))
 | none=>False
@[congr] theorem Pv {kk : IntKind} {x : Int} {zero : D} {ok : Bool} {K : D -> Prop} {o o' : Option Ob} (h : o = o') : v7 kk x zero ok K o = v7 kk x zero ok K o' := by rw [h]
theorem b9 {nx:Nat} {xZ:List (Nat × Ob)} {zero:D} {ok:Bool} {key:Nat} {kk:IntKind} {x:Int} {K:D->Prop}:v8 ⟨nx,xZ⟩ zero ok (.zE key) (.int kk x) K=v7 kk x zero ok K (St.look xZ key):=by simp only [v8,St.get];cases St.look xZ key <;> rfl
theorem c9 {σ:St} {zero:D} {ok:Bool} {kk:IntKind} {x:Int} {K:D->Prop}:v8 σ zero ok .mF (.int kk x) K=K (lH ok zero none):=rfl
theorem aG {kk:IntKind} {x:Int} {zero:D} {ok:Bool} {K:D->Prop} {l:List (Int × D)}:v7 kk x zero ok K (some ⟨0,rB kk l⟩)= K (lH ok zero (wT x l 0)):=by simp only [v7,iQ];exact propext ⟨λh=>h.2.2,λh=>⟨trivial,aA kk l,h⟩⟩
theorem We {kk:IntKind} {x:Int} {zero:D} {ok:Bool} {K:D->Prop}:v7 kk x zero ok K (some ⟨0,[]⟩)= K (lH ok zero none):=aG (l:=[])
def z6 (nx:Nat) (xZ:List (Nat × Ob)) (key:Nat) (kk:IntKind) (y:Int) (x:D) (K:D->St->Prop):Option Ob->Prop
 | some o=>o.sz=0/\gT kk o.els/\K .und ⟨nx,vN xZ key ⟨0,nw kk o.els y x⟩⟩
 | none=>False
@[congr] theorem Pz {nx : Nat} {xZ : List (Nat × Ob)} {key : Nat} {kk : IntKind} {y : Int} {x : D} {K : D -> St -> Prop} {o o' : Option Ob} (h : o = o') : z6 nx xZ key kk y x K o = z6 nx xZ key kk y x K o' := by rw [h]
theorem j5 {nx:Nat} {xZ:List (Nat × Ob)} {key:Nat} {kk:IntKind} {y:Int} {x:D} {K:D->St->Prop}:Ys ⟨nx,xZ⟩ (.zE key) (.int kk y) x K=z6 nx xZ key kk y x K (St.look xZ key):=by simp only [Ys,St.get];cases St.look xZ key <;> rfl
theorem aJ {nx:Nat} {xZ:List (Nat × Ob)} {key:Nat} {kk:IntKind} {y:Int} {x:D} {K:D->St->Prop} {l:List (Int × D)}:z6 nx xZ key kk y x K (some ⟨0,rB kk l⟩)= K .und ⟨nx,vN xZ key ⟨0,rB kk (xc l y x)⟩⟩:=by simp only [z6,j4];exact propext ⟨λh=>h.2.2,λh=>⟨trivial,aA kk l,h⟩⟩
theorem Wi {nx:Nat} {xZ:List (Nat × Ob)} {key:Nat} {kk:IntKind} {y:Int} {x:D} {K:D->St->Prop}:z6 nx xZ key kk y x K (some ⟨0,[]⟩)= K .und ⟨nx,vN xZ key ⟨0,rB kk [(y,x)]⟩⟩:=aJ (l:=[])
theorem Wj (zero:D):lH true zero none = .tup [zero,.bool false]:=rfl
theorem Wk (zero:D) (i:Nat) (d:D):lH true zero (some (i,d))= .tup [d,.bool true]:=rfl
theorem j7 (zero:D):lH false zero none=zero:=rfl
theorem j8 (zero:D) (i:Nat) (d:D):lH false zero (some (i,d))= d:=rfl
theorem Ql {sz:Nat} {els:List (List D)} {K:D->Prop}:Vl (.sl sz els) K=K (.int .i64 els.length):=rfl
theorem Th {k sz n:Nat} {K:D->Prop}:Vl (.osl k sz n) K=K (.int .i64 n):=rfl
theorem Ti {k sz lo n:Nat} {K:D->Prop}:Vl (.sub k sz lo n) K=K (.int .i64 n):=rfl
theorem Tb {sz key sz' lo len:Nat} {k:IntKind} {n:Int} {K:D->Prop}:Ve sz (.sub key sz' lo len) (.int k n) K=(sz=sz'/\0<=n/\n<len/\K (.ref key sz (lo+n.toNat) 0)):=rfl
theorem Wa {K:D->Prop}:Vl .xK K=K (.int .i64 0):=rfl
theorem Tg {K:D->Prop}:Vl .emp K=K (.int .i64 0):=rfl
theorem Qd {sz sz':Nat} {els:List (List D)} {k:IntKind} {n:Int} {K:D->Prop}:Ve sz (.sl sz' els) (.int k n) K=(sz=sz'/\0<=n/\n<els.length/\K (.ptr (els.getD n.toNat []))):=rfl
theorem Ta {sz key sz' len:Nat} {k:IntKind} {n:Int} {K:D->Prop}:Ve sz (.osl key sz' len) (.int k n) K=(sz=sz'/\0<=n/\n<len/\K (.ref key sz n.toNat 0)):=rfl
theorem U4 {neg:Bool} {K:D->Prop}:oT neg .xK .xK K=K (.bool (!neg)):=rfl
theorem U5 {neg:Bool} {K:D->Prop} {a b c:Nat}:oT neg (.osl a b c) .xK K=K (.bool neg):=rfl
theorem U6 {neg:Bool} {K:D->Prop} {a b c:Nat}:oT neg .xK (.osl a b c) K=K (.bool neg):=rfl
theorem U7 {neg:Bool} {K:D->Prop}:oT neg .emp .xK K=K (.bool neg):=rfl
theorem U8 {neg:Bool} {K:D->Prop}:oT neg .xK .emp K=K (.bool neg):=rfl
theorem U9 {neg:Bool} {K:D->Prop} {sz:Nat} {e:List D} {r:List (List D)}:oT neg (.sl sz (e :: r)) .xK K=K (.bool neg):=rfl
def NV (nx:Nat) (xZ:List (Nat × Ob)) (sz sz' bytes key n:Nat) (rows:List (List D)) (K:D->St->Prop):Option Ob->Prop
 | some ob=>sz=sz'/\ob.sz=sz/\n<=ob.els.length/\(n+rows.length)* bytes<=140737488355328/\n+rows.length<=8000000000000/\K (.osl nx sz (n+rows.length)) ⟨nx+1,(nx,⟨sz,ob.els.take n++rows⟩) :: yC xZ key⟩
 | none=>False
@[congr] theorem PP {nx : Nat} {xZ : List (Nat × Ob)} {sz sz' bytes key n : Nat} {rows : List (List D)} {K : D -> St -> Prop} {o o' : Option Ob} (h : o = o') : NV nx xZ sz sz' bytes key n rows K o = NV nx xZ sz sz' bytes key n rows K o' := by rw [h]
theorem Vv {q:Bool} {nx:Nat} {xZ:List (Nat × Ob)} {sz sz' bytes key n:Nat} {rows:List (List D)} {K:D->St->Prop} :
  ab q ⟨nx,xZ⟩ sz bytes (.osl key sz' n) (some rows) K=((∀ x ∈ rows,wG x=true)/\ NV nx xZ sz sz' bytes key n rows K (St.look xZ key)):=by
 rw [T8];simp only [St.get];cases St.look xZ key <;> rfl
theorem Vt {nx:Nat} {xZ:List (Nat × Ob)} {sz sz' bytes key n:Nat} {rows:List (List D)} {K:D->St->Prop} {sz0:Nat} {els:List (List D)} :
  NV nx xZ sz sz' bytes key n rows K (some ⟨sz0,els⟩)= (sz=sz'/\sz0=sz/\n<=els.length/\(n+rows.length)* bytes<=140737488355328/\n+rows.length<=8000000000000/\K (.osl nx sz (n+rows.length)) ⟨nx+1,(nx,⟨sz,els.take n++rows⟩) :: yC xZ key⟩):=rfl
def VS (q:Bool) (nx:Nat) (xZ:List (Nat × Ob)) (sz sz' bytes key lo n:Nat) (rows:List (List D)) (K:D->St->Prop):Option Ob->Prop
 | some ob=>q=true/\sz=sz'/\ob.sz=sz/\lo+n<=ob.els.length/\(n+rows.length)* bytes<=140737488355328/\n+rows.length<=8000000000000 /\
  ∀ pre:List (List D),(pre = []\/pre=ob.els.take lo)->K (.sub nx sz pre.length (n+rows.length)) ⟨nx+1,(nx,⟨sz,pre++((ob.els.drop lo).take n++rows)⟩) :: yC xZ key⟩
 | none=>False
@[congr] theorem Pn {q : Bool} {nx : Nat} {xZ : List (Nat × Ob)} {sz sz' bytes key lo n : Nat} {rows : List (List D)} {K : D -> St -> Prop} {o o' : Option Ob} (h : o = o') : VS q nx xZ sz sz' bytes key lo n rows K o = VS q nx xZ sz sz' bytes key lo n rows K o' := by rw [h]
theorem Vw {q:Bool} {nx:Nat} {xZ:List (Nat × Ob)} {sz sz' bytes key lo n:Nat} {rows:List (List D)} {K:D->St->Prop} :
  ab q ⟨nx,xZ⟩ sz bytes (.sub key sz' lo n) (some rows) K=((∀ x ∈ rows,wG x=true)/\ VS q nx xZ sz sz' bytes key lo n rows K (St.look xZ key)):=by
 simp only [ab,St.get];cases St.look xZ key <;> rfl
theorem XZ {q:Bool} {nx:Nat} {xZ:List (Nat × Ob)} {sz sz' bytes key lo n:Nat} {rows:List (List D)} {K:D->St->Prop} {sz0:Nat} {els:List (List D)} :
  VS q nx xZ sz sz' bytes key lo n rows K (some ⟨sz0,els⟩)= (q=true/\sz=sz'/\sz0=sz/\lo+n<=els.length/\(n+rows.length)* bytes<=140737488355328/\n+rows.length<=8000000000000 /\
   ∀ pre:List (List D),(pre = []\/pre=els.take lo)->K (.sub nx sz pre.length (n+rows.length)) ⟨nx+1,(nx,⟨sz,pre++((els.drop lo).take n++rows)⟩) :: yC xZ key⟩):=rfl
theorem WX {key sz:Nat} {els:List (List D)} {K:D->Prop}:Vl (xD key sz els) K=K (.int .i64 els.length):=by cases els <;> simp [Vl,xD]
theorem WT {key sz sz':Nat} {els:List (List D)} {k:IntKind} {n:Int} {K:D->Prop}:Ve sz' (xD key sz els) (.int k n) K=(sz'=sz/\0<=n/\n<els.length/\K (.ref key sz n.toNat 0)):=by
 cases els with
 | nil=>simp only [Ve,xD,μ]; simp; intro _ h1 h2; omega
 | cons e l=>simp [Ve,xD]; rintro rfl _ _; rfl
theorem jq {key sz:Nat} {neg:Bool} {els:List (List D)} {K:D->Prop}:oT neg (xD key sz els) .xK K=K (.bool (if neg then !els.isEmpty else els.isEmpty)):=by cases els <;> cases neg <;> simp [oT,xD]
def sw : List (Nat × Nat)->Nat->Nat
 | [],k=>k
 | (a,b) :: r,k=>if k=a then b else sw r k
def tW (els:List (List D)):Prop:=∀ e ∈ els,D.xU e=true
theorem yU (l:List (BitVec 64)):tW (us l)= True:=eq_true (sF l)
theorem wE (l:List (List (BitVec 64))):tW (rr l)= True:=eq_true (mw l)
theorem k8 (k:IntKind) (l:List Int):tW (rows k l)= True:=eq_true (uX k l)
theorem Ww : tW []=True:=by simp [tW]
theorem aO {kk:IntKind} {l:List (Int × D)} (h:∀ p ∈ l,p.2.xL=true):tW (rB kk l):=by intro e he;simp only [rB,ε] at he;obtain⟨p,hp,rfl⟩:=he;simp [D.xU,D.xL,h p hp]
theorem ph (a b:List (List D)):tW (a++b)= (tW a/\tW b):=by simp only [tW,List.mem_append];exact propext ⟨λh=>⟨λe he=>h e (.inl he),λe he=>h e (.inr he)⟩,λh e he=>he.elim (h.1 e) (h.2 e)⟩
theorem Wy (l:List (BitVec 64)) (i:Nat) (s:BitVec 64):tW ((us l).set i [.int .u64 (ui s)])= True:=by rw [mQ,yU]
theorem YV {σ σ':St} {ρ:Nat->Nat} {a b sz:Nat} {els:List (List D)}:vw σ σ' ρ (xD a sz els) (xD b sz els)= (els = []\/(b<σ'.nx/\a=ρ b)):=by
 cases els with
 | nil=>simp [xD,vw]
 | cons e l=>simp [xD,vw]
def MR (σ':St) (ρ:Nat->Nat) (k0:Nat):Prop:=∀ p ∈ σ'.xZ,ρ p.1≠k0
theorem s7 {σ σ':St} {ρ:Nat->Nat} {k0 sz:Nat} {els:List (List D)} (hs:0<sz) (h:MR σ' ρ k0) (hg:σ.get k0=vZ sz els) (hp:tW els):vw σ σ' ρ (xD k0 sz els) (.sl sz els)= True:=by
 cases els with
 | nil=>simp [xD,vw]
 | cons e l=> refine eq_true ?_;simp only [xD,vw];exact⟨trivial,hs,h,⟨sz,e :: l⟩,hg,rfl,Ai _,by simp,hp⟩
def vwQ (σ σ':St) (ρ:Nat->Nat) (as bs:List (List D)):Prop:=vwE σ σ' ρ as bs
theorem VD {σ σ':St} {ρ:Nat->Nat} {els:List (List D)} (h:tW els):vwQ σ σ' ρ els els=True:=eq_true (.same h)
end
section
variable [rL]
theorem gl {σ σ':St} {ρ:Nat->Nat}:∀ {a:List D},D.xU a=true->vwL σ σ' ρ a a:=by
 intro a h
 have key:∀ d:D,d.xL=true->vw σ σ' ρ d d:=by
  intro d
  refine D.rec (motive_1:=λd=>d.xL=true->vw σ σ' ρ d d) (motive_2:=λ_=>True) (motive_3:=λcs=>D.xU cs=true->vwL σ σ' ρ cs cs)
   ?top ?und ?int ?bool ?str ?sl ?xK ?emp ?agg ?tup ?fn ?ref ?osl ?sub ?ptr ?zE ?iH ?mF ?pC ?adr trivial (λ_ _ _ _=>trivial) ?nil ?cons d
  case agg=>intro cs ih h; simp only [D.xL] at h; simp only [vw]; exact⟨trivial,ih h⟩
  case tup=>intro cs ih h; simp only [D.xL] at h; simp only [vw]; exact⟨trivial,ih h⟩
  case fn=>intro f cs ih h; simp only [D.xL] at h; simp only [vw]; exact⟨trivial,trivial,ih h⟩
  case ref=>intro k sz i off h; simp [D.xL] at h
  case osl=>intro k sz n h; simp [D.xL] at h
  case sub=>intro k sz lo n h; simp [D.xL] at h
  case zE=>intro k h; simp [D.xL] at h
  case nil=>intro _; simp [vwL]
  case cons=> intro d r h1 h2 h;simp only [D.xU,Ah] at h;simp only [vwL];exact⟨h1 h.1,h2 h.2⟩
  case ptr=>intro cs _ _; simp [vw]
  all_goals intros; simp [vw]
 induction a with
 | nil=>simp [vwL]
 | cons d r ih=> simp only [D.xU,Ah] at h;simp only [vwL];exact⟨key d h.1,ih h.2⟩
theorem gk {σ σ':St} {ρ:Nat->Nat}:∀ {els:List (List D)} {a b:List D},tW els->a.length=b.length->vwL σ σ' ρ a b->vwE σ σ' ρ (els ++ [a]) (els ++ [b])
 | [],a,b,_,hl,h=>.cons hl h .nil
 | e :: r,a,b,hp,hl,h=>.cons rfl (gl (hp e (by simp))) (gk (λx hx=>hp x (by simp [hx])) hl h)
theorem Oq {σ σ':St} {ρ:Nat->Nat} {els:List (List D)} {a b:List D} (h:vwQ σ σ' ρ (els ++ [a]) (els ++ [b])):a.length=b.length/\vwL σ σ' ρ a b:=by
 have:=(yu (show vwE σ σ' ρ (els ++ [a]) (els ++ [b]) from h)).2 els.length (by simp);have e1:∀ x:List D,(els ++ [x]).getD els.length []=x:=by intro x; simp [List.getD]
 rw [e1,e1] at this;refine⟨this.1,?_⟩
 rcases this.2 with h | ⟨h1,h2⟩
 ·exact h
 ·rw [h1]; exact gl h2
theorem zl {σ σ':St} {ρ:Nat->Nat} {els:List (List D)} {a b:List D} (hp:tW els):vwQ σ σ' ρ (els ++ [a]) (els ++ [b])= (a.length=b.length/\vwL σ σ' ρ a b):= propext ⟨λh=>Oq h,λh=>gk hp h.1 h.2⟩
theorem Rh {σ σ':St} {ρ:Nat->Nat} {a b:List D}:vwQ σ σ' ρ [a] [b]=(a.length=b.length/\vwL σ σ' ρ a b):=zl (els:=[]) (by simp [tW])
theorem Ot {σ σ':St} {ρ:Nat->Nat} {l:List (List (BitVec 64))} {r:List (BitVec 64)} {x:D}:vwQ σ σ' ρ (rr l ++ [[x]]) (rr (l ++ [r]))= vwL σ σ' ρ [x] [.sl 1 (us r)]:=by rw [<- mz,zl (mw l)];simp
def yT (σ σ':St) (ρ:Nat->Nat) (p:Nat × Ob):Prop:=p.1<σ'.nx/\∃ ob,σ.get (ρ p.1)= some ob/\ob.sz=p.2.sz/\vwQ σ σ' ρ ob.els p.2.els
def jI (σ σ':St) (ρ:Nat->Nat) (l:List (Nat × Ob)):Prop:=∀ p ∈ l,yT σ σ' ρ p
theorem eR {σ σ':St} {ρ:Nat->Nat}:jI σ σ' ρ []=True:=by simp [jI]
theorem iU {σ σ':St} {ρ:Nat->Nat} {p:Nat × Ob} {l:List (Nat × Ob)}:jI σ σ' ρ (p :: l)= (yT σ σ' ρ p/\jI σ σ' ρ l):=by simp [jI]
theorem aT {σ σ':St} {ρ:Nat->Nat} {k sz:Nat} {els:List (List D)} {l:List (Nat × Ob)} (hk:k<σ'.nx) (hg:σ.get (ρ k)= vZ sz els) (hp:tW els):jI σ σ' ρ (xA k sz els++l)= jI σ σ' ρ l:=by
 cases els with
 | nil=>rfl
 | cons e r=> simp only [xA,ο,η,iU];refine propext ⟨λh=>h.2,λh=>⟨⟨hk,⟨sz,e :: r⟩,hg,rfl,.same hp⟩,h⟩⟩
theorem jw {σ σ':St} {ρ:Nat->Nat} {k sz:Nat} {els:List (List D)} (hk:k<σ'.nx) (hg:σ.get (ρ k)= vZ sz els) (hp:tW els):jI σ σ' ρ (xA k sz els)= True:=by have:=aT (l:=[]) hk hg hp;rw [δ,eR] at this;exact this
theorem wb {sz:Nat} {els:List (List D)} (h:els ≠ []):vZ sz els=some ⟨sz,els⟩:=by
 cases els with
 | nil=>exact absurd rfl h
 | cons e r=>rfl
theorem cS {σ σ':St} {ρ:Nat->Nat} {k sz:Nat} {els els':List (List D)} {l:List (Nat × Ob)} (hk:k<σ'.nx) (hg:σ.get (ρ k)= vZ sz els') (hq:vwQ σ σ' ρ els' els):jI σ σ' ρ (xA k sz els++l)= jI σ σ' ρ l:=by
 cases els with
 | nil=>rfl
 | cons e r=>
  have hne:els' ≠ []:=by rintro rfl;have:=(yu (show vwE σ σ' ρ [] (e :: r) from hq)).1;simp at this
  simp only [xA,ο,η,iU];refine propext ⟨λh=>h.2,λh=>⟨⟨hk,⟨sz,els'⟩,?_,rfl,hq⟩,h⟩⟩;rw [hg,wb hne]
theorem pr {σ σ':St} {ρ:Nat->Nat} {k sz:Nat} {els els':List (List D)} (hk:k<σ'.nx) (hg:σ.get (ρ k)= vZ sz els') (hq:vwQ σ σ' ρ els' els):jI σ σ' ρ (xA k sz els)= True:=by have:=cS (l:=[]) hk hg hq;rw [δ,eR] at this;exact this
def inL (ks:List Nat) (l:List (Nat × Ob)):Prop:=∀ p ∈ l,p.1 ∈ ks
theorem Zz {ks:List Nat}:inL ks []=True:=by simp [inL]
theorem bw {ks:List Nat} {p:Nat × Ob} {l:List (Nat × Ob)}:inL ks (p :: l)= (p.1 ∈ ks/\inL ks l):=by simp [inL]
theorem bz {ks:List Nat} {k sz:Nat} {els:List (List D)} {l:List (Nat × Ob)} (h:k ∈ ks):inL ks (xA k sz els++l)= inL ks l:=by
 cases els with
 | nil=>rfl
 | cons e r=>simp [xA,bw,h]
theorem WU {ks:List Nat} {k sz:Nat} {els:List (List D)} (h:k ∈ ks):inL ks (xA k sz els)= True:=by have:=bz (sz:=sz) (els:=els) (l:=[]) h;rw [δ,Zz] at this;exact this
def yw (ρ:Nat->Nat) (k0:Nat) (l:List (Nat × Ob)):Prop:=∀ p ∈ l,ρ p.1≠k0
theorem Q6 {σ':St} {ρ:Nat->Nat} {k0:Nat}:MR σ' ρ k0=yw ρ k0 σ'.xZ:=propext Iff.rfl
theorem qf {ρ:Nat->Nat} {k0:Nat}:yw ρ k0 []=True:=by simp [yw]
theorem xm {ρ:Nat->Nat} {k0:Nat} {p:Nat × Ob} {l:List (Nat × Ob)}:yw ρ k0 (p :: l)= (ρ p.1≠k0/\yw ρ k0 l):=by simp [yw]
theorem xn {ρ:Nat->Nat} {k0 k sz:Nat} {els:List (List D)} {l:List (Nat × Ob)}:yw ρ k0 (xA k sz els++l)= ((els = []\/ρ k≠k0)/\ yw ρ k0 l):=by
 cases els with
 | nil=>simp [xA]
 | cons e r=>simp [xA,xm]
theorem ix {ρ:Nat->Nat} {k0 k sz:Nat} {els:List (List D)}:yw ρ k0 (xA k sz els)= (els = []\/ρ k≠k0):=by have:=xn (ρ:=ρ) (k0:=k0) (k:=k) (sz:=sz) (els:=els) (l:=[]);rw [δ,qf,and_true] at this;exact this
theorem xN.ren {C:Cx} {f f':Fr} {σ σ':St} (l:List (Nat × Nat)) (ks:List Nat) (hn:C.n0<=σ'.nx) (h0:∀ p ∈ l,C.n0<=p.1) (hd:(ks.map (sw l)).Nodup)
  (h:inL ks σ'.xZ/\jI σ σ' (sw l) σ'.xZ/\vwF σ σ' (sw l) f f'):xN C f σ f' σ':=by
 obtain⟨hk,hs,hf⟩:=h
 refine xN.view (sw l) hn ?_ hf ?_ ?_
 ·intro k hk
  induction l with
  | nil=>rfl
  | cons p l ih=>
   obtain⟨a,b⟩:=p;have:C.n0<=a:=h0 (a,b) (by simp);simp only [sw];rw [if_neg (by omega)];have hm:∀ p ∈ l,C.n0<=p.1:=λp hp=>h0 p (by simp [hp]);clear ih hd hs hf h0
   induction l with
   | nil=>rfl
   | cons q l ih=> obtain⟨c,d⟩:=q;have:C.n0<=c:=hm (c,d) (by simp);simp only [sw];rw [if_neg (by omega)];exact ih λp hp=>hm p (by simp [hp])
 ·intro p hp;obtain⟨h1,ob,h2,h3,h4⟩:=hs p hp;exact⟨h1,ob,h2,h3,h4⟩
 ·intro p hp q hq e;have h1:=hk p hp;have h2:=hk q hq
  have inj:∀ (ks:List Nat),(ks.map (sw l)).Nodup->∀ a ∈ ks,∀ b ∈ ks,sw l a=sw l b->a=b:=by
   intro ks
   induction ks with
   | nil=>intro _ a ha; simp at ha
   | cons x ks ih=>
    intro hd a ha b hb e;simp only [ζ,List.nodup_cons,ε,not_exists,not_and] at hd
    rcases κ.1 ha with h1 | h1 <;> rcases κ.1 hb with h2 | h2
    ·rw [h1,h2]
    ·rw [h1] at e; exact absurd e.symm (hd.1 b h2)
    ·rw [h2] at e; exact absurd e (hd.1 a h1)
    ·exact ih hd.2 a h1 b h2 e
  exact inj ks hd _ h1 _ h2 e
theorem jM.ren {n0:Nat} {σ σ':St} {d d':D} (l:List (Nat × Nat)) (ks:List Nat) (hn:n0<=σ'.nx) (h0:∀ p ∈ l,n0<=p.1) (hd:(ks.map (sw l)).Nodup)
  (h:inL ks σ'.xZ/\jI σ σ' (sw l) σ'.xZ/\vw σ σ' (sw l) d d'):jM n0 σ d σ' d':=by
 obtain⟨hk,hs,hf⟩:=h
 refine .inr ⟨sw l,hn,?_,hf,?_,?_⟩
 ·intro k hk;have hm:∀ p ∈ l,n0<=p.1:=h0;clear hd hs hf h0
  induction l with
  | nil=>rfl
  | cons q l ih=> obtain⟨c,d⟩:=q;have:n0<=c:=hm (c,d) (by simp);simp only [sw];rw [if_neg (by omega)];exact ih λp hp=>hm p (by simp [hp])
 ·intro p hp;obtain⟨h1,ob,h2,h3,h4⟩:=hs p hp;exact⟨h1,ob,h2,h3,h4⟩
 ·intro p hp q hq e;have h1:=hk p hp;have h2:=hk q hq
  have inj:∀ (ks:List Nat),(ks.map (sw l)).Nodup->∀ a ∈ ks,∀ b ∈ ks,sw l a=sw l b->a=b:=by
   intro ks
   induction ks with
   | nil=>intro _ a ha; simp at ha
   | cons x ks ih=>
    intro hd a ha b hb e;simp only [ζ,List.nodup_cons,ε,not_exists,not_and] at hd
    rcases κ.1 ha with h1 | h1 <;> rcases κ.1 hb with h2 | h2
    ·rw [h1,h2]
    ·rw [h1] at e; exact absurd e.symm (hd.1 b h2)
    ·rw [h2] at e; exact absurd e (hd.1 a h1)
    ·exact ih hd.2 a h1 b h2 e
  exact inj ks hd _ h1 _ h2 e
def x7 (C:Cx) (Q:Exit->Fr->St->Prop) (e:Exit) (f:Fr) (σ:St):Prop:=∃ f' σ',xN C f σ f' σ'/\Q e f' σ'
theorem x7.zA {C:Cx} {Q:Exit->Fr->St->Prop} {e:Exit} {f:Fr} {σ:St} (h:Q e f σ):x7 C Q e f σ:=⟨f,σ,xN.refl,h⟩
theorem x7.go {C:Cx} {Q:Exit->Fr->St->Prop} {e:Exit} {f:Fr} {σ:St} (f':Fr) (σ':St) (hw:xN C f σ f' σ') (h:Q e f' σ'):x7 C Q e f σ:=⟨f',σ',hw,h⟩
theorem tm {C:Cx} {dc:DC} {f:Fr} {σ:St} {Q:Exit->Fr->St->Prop} (h:wpS C dc f σ (x7 C Q)):wpS C dc f σ Q:=by intro code hc E a w G;refine wpIn_mono (h code hc E a w G) λe a' w' hh=>?_;obtain⟨f1,σ1,G1,f2,σ2,hw,hq⟩:=hh;exact⟨f2,σ2,hw E a' w' G1,hq⟩
theorem Tv {C:Cx} (hmx:C.P.follows .mixedOrders=true) {it:Nat} {m:Opd} {out nx more next pair:Nat} {rest:List DOp} {code:DC} {Q:Exit->Fr->St->Prop} {f:Fr} {σ:St} (key:Nat) (els:List (List D)) (hm:evO f m = .zE key) (hob:σ.get key=some ⟨0,els⟩)
  {α:Type} (g:List Nat->α->Fr) (s:List Nat->α->St) (J:List Nat->α->Prop) (a0:α) (h0:J [] a0)
  (hw:∀ b,xN { C with n0:=max C.n0 (key+1) } ((it,.adr b) :: f) σ ((it,.adr b) :: g [] a0) (s [] a0))
  (hkey:∀ seen a,J seen a->(s seen a).get key=some ⟨0,els⟩)
  (done:∀ b seen a,J seen a->seen.Nodup->(∀ j ∈ seen,j<els.length)->seen.length=els.length->Q .normal ((more,.top) :: (nx,.top) :: (it,.adr b) :: g seen a) (s seen a))
  (round:∀ b seen a i,J seen a->seen.Nodup->(∀ j ∈ seen,j<els.length)->i<els.length->i ∉ seen ->
   ik { C with n0:=max C.n0 (key+1) } rest (yg { C with n0:=max C.n0 (key+1) } code out next (λf' σ'=>∃ a',J (seen ++ [i]) a'/\f'=(it,.adr b) :: g (seen ++ [i]) a'/\σ'=s (seen ++ [i]) a') Q)
    ((pair,.tup (els.getD i [])) :: (more,.top) :: (nx,.top) :: (it,.adr b) :: g seen a) (s seen a)) (hrd:C.rd=none:=by rfl) :
  ub C it m out nx more next pair rest code Q f σ:=by
 refine⟨key,els,hrd,hm,hob,λb=>⟨λseen f σ=>∃ a,J seen a/\f=(it,.adr b) :: g seen a/\σ=s seen a,⟨_,_,hw b,a0,h0,rfl,rfl⟩,?_,?_⟩⟩
 ·rintro seen f σ ⟨a,hj,rfl,rfl⟩;exact⟨by simp [Fr.get],hkey seen a hj⟩
 ·rintro seen f σ ⟨a,hj,rfl,rfl⟩ hnd hlt;refine⟨λhl=>done b seen a hj hnd hlt hl,λi hi hni=>?_⟩;have h:=round b seen a i hj hnd hlt hi hni;rw [oN,lY] at h;exact h
theorem Wl {C:Cx} (hmx:C.P.follows .mixedOrders=true) {code:DC} {out next:Nat} {Q:Exit->Fr->St->Prop} {f:Fr} {σ:St} {α:Type} {J:α->Prop} {g:α->Fr} {s:α->St}
  (h:wpZ C code (sZ next (mC (λf' σ'=>∃ a',J a'/\xN C f' σ' (g a') (s a')) (sZ out Q))) f σ):yg C code out next (λf' σ'=>∃ a',J a'/\f'=g a'/\σ'=s a') Q f σ:=by
 have h2:=xO hmx h;refine tm (VG h2 λe f1 σ1 hq=>?_)
 cases e with
 | normal=> obtain⟨a',hj',hwk⟩:=hq;exact⟨_,_,hwk,a',hj',rfl,rfl⟩
 | exit j=>
  simp only [sZ,mC] at hq
  by_cases hj2:j=next
  ·rw [if_pos hj2] at hq;obtain⟨a',hj',hwk⟩:=hq;refine⟨_,_,hwk,?_⟩;simp only [sZ,mC];rw [if_pos hj2];exact⟨a',hj',rfl,rfl⟩
  ·rw [if_neg hj2] at hq;refine⟨f1,σ1,xN.refl,?_⟩;simp only [sZ,mC];rw [if_neg hj2];exact hq
 | goto l=>exact⟨f1,σ1,xN.refl,hq⟩
 | ret=>exact⟨f1,σ1,xN.refl,hq⟩
 | panic ch=>exact⟨f1,σ1,xN.refl,hq⟩
 | outgrown=>exact⟨f1,σ1,xN.refl,hq⟩
theorem zZ {C:Cx} {dc:DC} {f:Fr} {σ:St} {Q:Exit->Fr->St->Prop} {α:Type} (g:α->Fr) (s:α->St) (I:α->Prop) (m:α->Nat) (a0:α) (h0:I a0) (hw:xN C f σ (g a0) (s a0))
  (round:∀ a,I a->wpS C dc (g a) (s a) (mC (λf' σ'=>∃ a',I a'/\xN C f' σ' (g a') (s a')/\ m a'<m a) (x7 C Q))):wpS C (.loop dc) f σ Q:=
 tm (xT g s I m a0 h0 hw round)
end
theorem P1 : ((0:Nat):Int)= 0:=rfl
theorem yB {k:Nat} (h:k<9223372036854775807):IntKind.i64.wrap ((k:Int)+ 1)= ((k+1:Nat):Int):=by rw [wrap_i64 (by omega)]; omega
section
variable [rL]
theorem Mr (f:Fr) (n:Nat):evO f (.t n)= Fr.get f n:=rfl
theorem Mq (f:Fr) (d:D):evO f (.c d)= d:=rfl
theorem UV (f:Fr) (t:Nat) (d:D):Fr.put f (some t) d=(t,d) :: f:=rfl
theorem UU (f:Fr) (d:D):Fr.put f none d=f:=rfl
theorem get_nil (n:Nat):Fr.get [] n = .top:=rfl
theorem TY (t:Nat) (d:D) (r:Fr) (n:Nat):Fr.get ((t,d) :: r) n=if t=n then d else Fr.get r n:=rfl
theorem look_nil (k:Nat):St.look [] k=none:=rfl
theorem xX (j:Nat) (o:Ob) (r:List (Nat × Ob)) (k:Nat):St.look ((j,o) :: r) k=if j=k then some o else St.look r k:=rfl
theorem Un (k:Nat) (o:Ob):vN [] k o = []:=rfl
theorem rW (j:Nat) (o:Ob) (r:List (Nat × Ob)) (k:Nat) (o':Ob):vN ((j,o) :: r) k o'=if j=k then(j,o') :: r else(j,o) :: vN r k o':=rfl
theorem Xs (k:Nat):yC [] k = []:=rfl
theorem jg (j:Nat) (o:Ob) (r:List (Nat × Ob)) (k:Nat):yC ((j,o) :: r) k=if j=k then yC r k else(j,o) :: yC r k:=rfl
theorem Ye (n:Nat) (l:List (Nat × Ob)) (k:Nat):St.get ⟨n,l⟩ k=St.look l k:=rfl
theorem set_mk (n:Nat) (l:List (Nat × Ob)) (k:Nat) (o:Ob):St.set ⟨n,l⟩ k o=⟨n,vN l k o⟩:=rfl
theorem OG (n:Nat) (l:List (Nat × Ob)) (o:Ob):St.new ⟨n,l⟩ o=⟨n+1,(n,o) :: l⟩:=rfl
theorem TS (n:Nat) (l:List (Nat × Ob)) (k:Nat):St.erase ⟨n,l⟩ k=⟨n,yC l k⟩:=rfl
theorem Z7 (σ:St) (sz sz':Nat) (els:List (List D)):rowsOf σ sz (.sl sz' els)= if sz=sz' then some els else none:=rfl
theorem js (σ:St) (sz:Nat):rowsOf σ sz .xK=some []:=rfl
theorem o7 (σ:St) (sz:Nat):rowsOf σ sz .emp=some []:=rfl
def zD :=γ @VR (γ @Rk (γ @VO (γ @Rm (γ @VK (γ @ZY (γ @VM (γ @VQ (γ @VL (γ @Rl (γ @ZX (γ @du (γ @Wu (γ @UM (γ @Wr (γ @QV @QW)))))))))))))))
def zT :=γ @Mr (γ @Mq (γ @UV (γ @UU (γ @get_nil (γ @TY (γ @look_nil (γ @xX (γ @Un (γ @rW (γ @Xs (γ @jg (γ @Ye (γ @set_mk (γ @OG (γ @TS (γ @Z7 (γ @js (γ @o7 (γ @Int.cast_ofNat_Int (γ @P1 (γ @Int.toNat_zero (γ @Int.toNat_one (γ @beq_self_eq_true.{0} (γ @bne_self_eq_false.{0} (γ @Bool.false_eq_true (γ @TR (γ @TZ (γ @QU (γ @TF (γ @XY (γ @T7 (γ @Vv (γ @Vt (γ @Vw (γ @XZ (γ @Uv (γ @ZO (γ @ZN (γ @WX (γ @Ql (γ @Th (γ @Ti (γ @Wa (γ @Tg (γ @WT (γ @Qd (γ @Ta (γ @Tb (γ @jq (γ @U4 (γ @U5 (γ @U6 (γ @U7 (γ @U8 (γ @U9 (γ @Wc (γ @b8 (γ @b7 (γ @Wb (γ @U3 (γ @U1 (γ @Qt (γ @b9 (γ @c9 (γ @aG (γ @We (γ @j5 (γ @aJ (γ @Wi (γ @Wj (γ @Wk (γ @j7 (γ @j8 (γ @xH (γ @lQ (γ @cH (γ @pb (γ @tf (γ @aR (γ @po (γ @Option.or_none.{0} (γ @List.length_set.{0} (γ @jc (γ @Wo (γ @Nat.lt_irrefl (γ @yZ (γ @xI (γ @YT (γ @true_and (γ @and_true (γ @ν.{0} (γ @List.getD_cons_succ.{0} (γ @ω.{0} (γ @μ.{0} (γ @Bool.not_true (γ @Bool.not_false (γ @ζ.{0,0} (γ @List.map_nil.{0,0} (γ @η.{0} (γ @ο.{0} (γ @δ.{0} (γ @Wt (γ @Ws (γ @List.take_succ_cons.{0} (γ @List.take_zero.{0} (γ @List.drop_succ_cons.{0} (γ @List.drop_zero.{0} (γ @false_implies (γ @or_true (γ @true_or (γ @Ai (γ @An (γ @and_self (γ @Na (γ @Nb (γ @MG (γ @MH (γ @Og (γ @N7 (γ @Sn (γ @ZS (γ @Of (γ @On (γ @Oi (γ @Ol (γ @Om (γ @Oj (γ @Sl (γ @Oh (γ @Oe (γ @not_false_eq_true (γ @W6 (γ @WA (γ @W5 (γ @Xc (γ @W9 (γ @TJ (γ @Xh (γ @W4 (γ @W2 (γ @TH (γ @W8 (γ @W7 (γ @Xd (γ @Xg (γ @Xf (γ @Xe (γ @R4 (γ @UG (γ @RA (γ @OM (γ @UL (γ @R3 (γ @OK (γ @R8 (γ @R5 (γ @R7 (γ @UH (γ @UK (γ @UJ (γ @UI (γ @ξ.{0} (γ @List.all_nil.{0} (γ @Bool.and_true (γ @Bool.and_self (γ @List.set_cons_zero.{0} (γ @List.set_cons_succ.{0} (γ @Ak (γ @Nat.add_zero (γ @Nat.zero_lt_succ (γ @Nat.lt_add_one (γ @decide_true (γ @decide_false (γ @gt_iff_lt.{0} (γ @ge_iff_le.{0} (γ @zJ (γ @RU (γ @Bool.true_and (γ @decide_eq_true_eq (γ @decide_eq_false_iff_not (γ @zM (γ @xz (γ @zN (γ @xy (γ @sn (γ @sj (γ @nk (γ @mz (γ @nP (γ @kB (γ @uj (γ @nj (γ @θ.{0} (γ @List.cons_ne_nil.{0} (γ @List.take_length.{0} (γ @Option.map_some.{0,0} (γ @Option.map_none.{0,0} (γ @χ.{0} (γ @Sj @YG)))))))))))))))))))))))))))))))))))))))))))))))))))))))))))))))))))))))))))))))))))))))))))))))))))))))))))))))))))))))))))))))))))))))))))))))))))))))))))))))))))))))))))))))))))))))))))))))))))))))
def zR :=γ @P1 (γ @bz (γ @WU (γ @bw (γ @Zz (γ @aT (γ @jw (γ @cS (γ @pr (γ @iU (γ @eR (γ @Ot (γ @zl (γ @VD (γ @Rh (γ @YV (γ @s7 (γ @Q6 (γ @xn (γ @ix (γ @xm (γ @qf (γ @yU (γ @wE (γ @k8 (γ @Ww (γ @ph (γ @Wy (γ @xH (γ @lQ (γ @Option.or_none.{0} (γ @Nat.zero_lt_succ (γ @Nat.lt_add_one (γ @Option.some.injEq.{0} (γ @and_true (γ @true_and (γ @and_self (γ @or_true (γ @true_or (γ @not_false_eq_true (γ @κ.{0} (γ @θ.{0} (γ @List.not_mem_nil.{0} (γ @D.int.injEq (γ @D.bool.injEq (γ @D.sl.injEq (γ @D.ref.injEq (γ @ω.{0} (γ @μ.{0} (γ @nk (γ @sj (γ @mz (γ @Ak (γ @nj (γ @uj (γ @Sj (γ @YG (γ @nP @kB)))))))))))))))))))))))))))))))))))))))))))))))))))))))))
end
end Go.Pd
namespace Go.Pd
open Go Go.ChangeShapes Go.WideShapes Go.RowKit
def tt : List (Nat × Nat)->Nat->Nat->Bool
 | [],o,n=>o==n
 | (a,s) :: r,o,n=>(a==o)&& tt r (o+s) n
def sI (P:Program):Nat->TypeId->Bool
 | 0,_=>false
 | n+1,t=>match P.underlying t with
  | some .bool=>true
  | some (.int _)=>true
  | some .string=>true
  | some (.slice e)=>sI P n e&&decide (0<P.cellsOf e)
  | some (.struct fs)=>(fs.toList.all λf=>sI P n f.type)&& tt (fs.toList.map λf=>(f.offset,P.cellsOf f.type)) 0 (P.cellsOf t)
  | some (.array k e)=>sI P n e&&(P.cellsOf t==k*P.cellsOf e)
  | _=>false
mutual
def wP (P:Program):Nat->TypeId->List D->Prop
 | 0,_,_=>False
 | n+1,t,ds=>match P.underlying t with
  | some .bool=>∃ b,ds = [.bool b]
  | some (.int k)=>∃ i,ds = [.int k i]
  | some .string=>∃ s,ds = [.str s]
  | some (.slice e)=>∃ els,ds = [.sl (P.cellsOf e) els]/\∀ row ∈ els,wP P n e row
  | some (.struct fs)=>pH P n (fs.toList.map λf=>f.type) ds
  | some (.array k e)=>pH P n (List.replicate k e) ds
  | _=>False
def pH (P:Program):Nat->List TypeId->List D->Prop
 | _,[],ds=>ds = []
 | n,f :: fs,ds=>∃ a b,ds=a++b/\wP P n f a/\pH P n fs b
end
def fQ (P:Program) (n:Nat) (t:TypeId) (d:D):Prop:=
 match P.underlying t with
 | some (.struct _)=>∃ ds,d = .agg ds/\wP P n t ds
 | some (.array _ _)=>∃ ds,d = .agg ds/\wP P n t ds
 | _=>wP P n t [d]
def my (P:Program) (n:Nat):List TypeId->List D->Prop
 | [],as=>as = []
 | t :: ts,as=>∃ a r,as=a :: r/\fQ P n t a/\my P n ts r
def XG (w:World) (cs:List Value) (ds:List D):Prop:=ds.length=cs.length/\∀ j,j<ds.length->RP (λ_=>False) w (cs.getD j undef) (ds.getD j .top)
theorem cP {w:World} {a b:List Value} {x y:List D} (h:XG w a x) (h':XG w b y):XG w (a++b) (x++y):=by
 refine⟨by simp [h.1,h'.1],λj hj=>?_⟩;simp only [List.getD]
 by_cases hx:j<x.length
 ·rw [τ hx,τ (by rw [<- h.1]; exact hx)];exact h.2 j hx
 ·have h1:=h.1;rw [π (by omega),π (by omega),<- h.1];rw [χ] at hj;exact h'.2 (j-x.length) (by omega)
section
variable {H : Type} {enc : TypeId × Value -> H} {P : Program} {w : World} {sp : Nat -> Bool} {held : Bool}
theorem qo {n:Nat} (key:∀ (t:TypeId) (cs:List Value) (fuel:Nat) (x:DataW H × List MemPlace),sI P n t=true->DataW.trod enc P w 0 sp held fuel t cs=some x->∃ ds,XG w cs ds/\wP P n t ds) {cs:List Value} {fuel:Nat} :
  ∀ (fl:List Field) (o:Nat),(fl.all λf=>sI P n f.type)= true->tt (fl.map λf=>(f.offset,P.cellsOf f.type)) o cs.length=true ->
   (∀ f ∈ fl,∃ x,DataW.trod enc P w 0 sp held fuel f.type ((cs.drop f.offset).take (P.cellsOf f.type))= some x)->∃ ds,XG w (cs.drop o) ds/\pH P n (fl.map λf=>f.type) ds
 | [],o,_,hc,_=>by simp only [List.map_nil,tt,beq_iff_eq] at hc;subst hc;exact⟨[],by simp [XG],by simp [pH]⟩
 | f :: fl,o,hp,hc,hx=>by
  simp only [ξ,Ah] at hp;simp only [ζ,tt,Ah,beq_iff_eq] at hc;obtain⟨x,h1⟩:=hx f (by simp);obtain⟨a,ha,hsa⟩:=key _ _ _ _ hp.1 h1;obtain⟨b,hb,hsb⟩:=qo key fl (o+P.cellsOf f.type) hp.2 hc.2 λg hg=>hx g (by simp [hg]);refine⟨a++b,?_,by simp only [ζ,pH]; exact⟨a,b,rfl,hsa,hsb⟩⟩;rw [hc.1] at ha
  have e:cs.drop o=(cs.drop o).take (P.cellsOf f.type)++ cs.drop (o+P.cellsOf f.type):=by rw [<- List.drop_drop,υ]
  rw [e];exact cP ha hb
theorem SQ {n:Nat} (key:∀ (t:TypeId) (cs:List Value) (fuel:Nat) (x:DataW H × List MemPlace),sI P n t=true->DataW.trod enc P w 0 sp held fuel t cs=some x->∃ ds,XG w cs ds/\wP P n t ds) {cs:List Value} {fuel:Nat} {e:TypeId} (hp:sI P n e=true) :
  ∀ (k o:Nat),cs.length=(o+k)* P.cellsOf e ->
   (∀ i,o<=i->i<o+k->∃ x,DataW.trod enc P w 0 sp held fuel e ((cs.drop (i*P.cellsOf e)).take (P.cellsOf e))= some x)->∃ ds,XG w (cs.drop (o*P.cellsOf e)) ds/\pH P n (List.replicate k e) ds
 | 0,o,hl,_=>⟨[],by rw [List.drop_eq_nil_of_le (by rw [hl]; simp)]; simp [XG],by simp [pH]⟩
 | k+1,o,hl,hx=>by
  obtain⟨x,h1⟩:=hx o (Ai _) (by omega);obtain⟨a,ha,hsa⟩:=key _ _ _ _ hp h1;obtain⟨b,hb,hsb⟩:=SQ key hp k (o+1) (by rw [hl]; congr 1; omega) λi h1 h2=>hx i (by omega) (by omega);refine⟨a++b,?_,by simp only [List.replicate_succ,pH]; exact⟨a,b,rfl,hsa,hsb⟩⟩
  have e1:cs.drop (o*P.cellsOf e)= (cs.drop (o*P.cellsOf e)).take (P.cellsOf e)++ cs.drop ((o+1)* P.cellsOf e):=by rw [Nat.succ_mul,<- List.drop_drop,υ]
  rw [e1];exact cP ha hb
theorem yo : ∀ (n:Nat) (t:TypeId) (cs:List Value) (fuel:Nat) (x:DataW H × List MemPlace),sI P n t=true->DataW.trod enc P w 0 sp held fuel t cs=some x->∃ ds,XG w cs ds/\wP P n t ds
 | 0,t,cs,fuel,x,hp,_=>by simp [sI] at hp
 | n + 1,t,cs,fuel,x,hp,h=>by
  unfold sI at hp;unfold wP
  split at hp
  ·rename_i hu;obtain⟨b,rfl,_⟩:=DataW.trod_bool hu h;exact⟨[.bool b],⟨rfl,λj hj=>by simp at hj; subst hj; exact .bool b⟩,⟨b,rfl⟩⟩
  ·rename_i k hu;obtain⟨i,rfl,_,hw⟩:=DataW.trod_int hu h;refine⟨[.int k i],⟨rfl,λj hj=>?_⟩,⟨i,rfl⟩⟩;simp at hj; subst hj;simp only [Lit.wf,Ah,decide_eq_true_eq] at hw;exact .int hw
  ·rename_i hu;obtain⟨s,rfl,_,hs⟩:=DataW.trod_string hu h;exact⟨[.str s],⟨rfl,λj hj=>by simp at hj; subst hj; exact .str hs⟩,⟨s,rfl⟩⟩
  ·rename_i e hu;simp only [Ah,decide_eq_true_eq] at hp
   rcases Deep.open_slice hu h with ⟨rfl,_⟩ | ⟨a,len,cap,m,fu,Dd,Pl,rfl,_,hl,hm,hmm,_,hx⟩
   ·exact⟨[.sl (P.cellsOf e) []],⟨rfl,λj hj=>by simp at hj; subst hj; exact .sl0 none 0 _ (λ_=>rfl)⟩,⟨[],rfl,by simp⟩⟩
   ·have hle:len<=m:=by rw [hmm]; split <;> omega
    by_cases h0:len=0
    ·subst h0;exact⟨[.sl (P.cellsOf e) []],⟨rfl,λj hj=>by simp at hj; subst hj; exact .sl0 (some a) cap _ (λh=>by cases h)⟩,⟨[],rfl,by simp⟩⟩
    ·obtain⟨f,hf⟩:=Deep.choose_lt (α:=List Value × List D) (n:=len) (p:=λi y=>w.cells? 0 (a.add (i*P.cellsOf e)) (P.cellsOf e)= some y.1/\XG w y.1 y.2/\wP P n e y.2) λi hi=>by obtain⟨cs',h1,h2⟩:=hx i (by omega);obtain⟨ds,h3,h4⟩:=yo n e cs' fu _ hp.1 h2;exact⟨(cs',ds),h1,h3,h4⟩
     have hcells:∀ i,i<len->∀ j,j<P.cellsOf e->w.cell? ((a.add (i*P.cellsOf e)).add j)= some ((f i).1.getD j undef):=by intro i hi j hj;obtain⟨_,h2,h3⟩:=World.cells?_some (hf i hi).1;rw [h3 j hj];simp [List.getD,show j<(f i).1.length by omega]
     have hlen:∀ i,i<len->(f i).1.length=P.cellsOf e:=λi hi=>(World.cells?_some (hf i hi).1).2.1
     have hspot:a.spot=none:=by have:=World.cell?_spot (hcells 0 (by omega) 0 hp.2);simpa [Addr.add] using this
     obtain⟨b,off,spot⟩:=a;simp only at hspot;subst hspot
     have hadd:∀ i j,((⟨b,off,none⟩:Addr).add i).add j=⟨b,off+i+j,none⟩:=by
      intro i j;rw [Deep.add_add];unfold Addr.add
      by_cases h:i+j=0
      ·have h1:i=0:=by omega
       have h2:j=0:=by omega
       subst h1; subst h2; rfl
      ·rw [if_neg h]; simp [Nat.add_assoc]
     have els:∀ i,i<len->((List.range len).map λi=>(f i).2).getD i []=(f i).2:=by intro i hi;simp [List.getD,hi]
     refine⟨[.sl (P.cellsOf e) ((List.range len).map λi=>(f i).2)],⟨rfl,λj hj=>?_⟩,⟨_,rfl,?_⟩⟩
     ·simp at hj; subst hj;simp only [ν]
      have:=RP.sl (M:=λ_=>False) (w:=w) (b:=b) (off:=off) (cap:=cap) (sz:=P.cellsOf e) (els:=(List.range len).map λi=>(f i).2) (λi j=>(f i).1.getD j undef) hp.2 (λh=>h) (by simpa using hl) hm ?_ ?_ ?_
      ·simpa using this
      ·intro x hx';simp only [ε,List.mem_range] at hx';obtain⟨i,hi,rfl⟩:=hx';rw [(hf i hi).2.1.1,hlen i hi]
      ·intro i hi j hj;have hi':i<len:=by simpa using hi
       have:=hcells i hi' j hj;rw [hadd] at this;exact this
      ·intro i hi j hj;have hi':i<len:=by simpa using hi
       rw [els i hi'];exact(hf i hi').2.1.2 j (by rw [(hf i hi').2.1.1,hlen i hi']; exact hj)
     ·intro row hrow;simp only [ε,List.mem_range] at hrow;obtain⟨i,hi,rfl⟩:=hrow;exact(hf i hi).2.2
  ·rename_i fs hu;simp only [Ah] at hp;obtain⟨xs,n',_,_,hlen,hsz,hf⟩:=DataW.trod_struct hu h;rw [<- hlen] at hp
   obtain⟨ds,h1,h2⟩:=qo (λt cs fuel x=>yo n t cs fuel x) (fuel:=n') fs.toList 0 hp.1 hp.2 λg hg=>by
    obtain⟨i,hi,rfl⟩:=List.getElem_of_mem hg;have hi':i<fs.size:=by simpa using hi
    have:=hf i fs[i] (by simp [hi']);refine⟨xs[i]'(by omega),?_⟩;simp only [Array.getElem_toList];rw [this];simp [show i<xs.length by omega]
   exact⟨ds,by simpa using h1,h2⟩
  ·rename_i k e hu;simp only [Ah,beq_iff_eq] at hp;obtain⟨xs,m,_,_,hlen,hxs,hf⟩:=DataW.trod_array hu h
   obtain⟨ds,h1,h2⟩:=SQ (λt cs fuel x=>yo n t cs fuel x) (fuel:=m) hp.1 k 0 (by rw [hlen,hp.2]; simp) λi _ hi=>by have:=hf i (by omega);rw [this];simp [show i<xs.length by omega]
   exact⟨ds,by simpa using h1,h2⟩
  ·cases hp
end
section
variable {H : Type} {enc : TypeId × Value -> H} {P : Program} {w : World} {sp : Nat -> Bool} {held : Bool}
theorem pf {r:Reach} {b:Nat} {t:TypeId} {v:Value} {k:Nat} {e:TypeId} (ht:P.underlying t=some (.array k e)) (h:Value.okWide P w r b t v):∃ cs,v = .agg cs/\cs.size=P.cellsOf t:=by simp only [Value.okWide,ht] at h;obtain⟨cs,h1,h2,_⟩:=h;exact⟨cs,h1,h2⟩
theorem Nr {n:Nat} {b:Nat} {t:TypeId} {v:Value} {d:DataW H} {ps:List MemPlace} (hp:sI P n t=true) (hv:Value.okWide P w .any b t v) (h:DataW.Trod enc P w 0 sp held t v d ps):∃ a,RP (λ_=>False) w v a/\fQ P n t a:=by
 obtain⟨fuel,h⟩:=h;obtain⟨ds,h1,h2⟩:=yo n t _ fuel _ hp h;unfold fQ
 split
 ·rename_i fs hu;obtain⟨cs,rfl,_⟩:=okWide_struct hu hv;refine⟨.agg ds,.agg (by rw [h1.1]; rfl) λj hj=>?_,ds,rfl,h2⟩;have:=h1.2 j hj
  have e:(Value.agg cs).cells.toList.getD j undef=cs.getD j undef:=by simp [Value.cells,List.getD,Array.getD];by_cases hj:j<cs.size <;> simp [hj]
  rw [e] at this;exact this
 ·rename_i k e hu;obtain⟨cs,rfl,_⟩:=pf hu hv;refine⟨.agg ds,.agg (by rw [h1.1]; rfl) λj hj=>?_,ds,rfl,h2⟩;have:=h1.2 j hj
  have e:(Value.agg cs).cells.toList.getD j undef=cs.getD j undef:=by simp [Value.cells,List.getD,Array.getD];by_cases hj:j<cs.size <;> simp [hj]
  rw [e] at this;exact this
 ·rename_i hns hna
  have one:∃ x,ds = [x]:=by
   cases n with
   | zero=>simp [sI] at hp
   | succ n=>
    unfold wP at h2
    split at h2
    ·obtain⟨b,rfl⟩:=h2; exact⟨_,rfl⟩
    ·obtain⟨b,rfl⟩:=h2; exact⟨_,rfl⟩
    ·obtain⟨b,rfl⟩:=h2; exact⟨_,rfl⟩
    ·obtain⟨b,rfl,_⟩:=h2; exact⟨_,rfl⟩
    ·rename_i fs hu; exact absurd hu (hns fs)
    ·rename_i k e hu; exact absurd hu (hna k e)
    ·cases h2
  obtain⟨x,rfl⟩:=one;refine⟨x,?_,h2⟩;have hx:=h1.2 0 (by simp);simp only [ν] at hx;have hlen:=h1.1
  cases v with
  | agg cs=>
   exfalso;unfold Value.okWide at hv
   split at hv
   ·rename_i fs hu; exact absurd hu (hns fs)
   ·rename_i k e hu; exact absurd hu (hna k e)
   ·rename_i h3 h4
    cases n with
    | zero=>simp [sI] at hp
    | succ n=>
     unfold sI at hp;unfold Cell.okWide at hv;split at hp <;> rename_i hu <;> simp [hu,Cell.ok] at hv
     all_goals first | exact absurd hu (hns _) | exact absurd hu (hna _ _) | cases hp
  | _=>simpa [Value.cells] using hx
theorem Zj {n:Nat} {b:Nat}:∀ {ts:List TypeId} {vs:List Value} {ds:List (DataW H)} {ps:List MemPlace},(ts.all λt=>sI P n t)= true->(∀ (j:Nat) t v,ts[j]?=some t->vs[j]?=some v->Value.okWide P w .any b t v) ->
  DataW.TrodAll enc P w 0 sp held ts vs ds ps->∃ as,as.length=vs.length/\vs.length=ts.length/\ds.length=ts.length/\(∀ j,j<as.length->RP (λ_=>False) w (vs.getD j undef) (as.getD j .top))/\ my P n ts as
 | [],vs,ds,ps,_,_,h=>by obtain⟨rfl,rfl,rfl⟩:=trodAll_nil h;exact⟨[],rfl,rfl,rfl,λj hj=>by simp at hj,rfl⟩
 | t :: ts,vs,ds,ps,hp,hv,h=>by
  obtain⟨v,vs',d,ds',p,q,rfl,rfl,rfl,h1,h2⟩:=trodAll_cons h;simp only [ξ,Ah] at hp;obtain⟨a,r1,s1⟩:=Nr hp.1 (hv 0 t v rfl rfl) h1;obtain⟨as,l1,l2,l3,r2,s2⟩:=Zj hp.2 (λj t v h1 h2=>hv (j+1) t v h1 h2) h2;refine⟨a :: as,by simp [l1],by simp [l2],by simp [l3],λj hj=>?_,a,as,rfl,s1,s2⟩
  cases j with
  | zero=>exact r1
  | succ j=>exact r2 j (by simpa using hj)
theorem jO (hl:laidOutB P=true) {W W':World} (hb:Below W.heap.size W W'):∀ {ts:List TypeId} {vs:List Value} {ds:List (DataW H)} {ps:List MemPlace},(ts.all λt=>P.readableRec t&&decide (t<P.types.size))= true ->
  (∀ x ∈ ps,x.block<W.heap.size)->DataW.TrodAll enc P W 0 (λ_=>true) true ts vs ds ps->DataW.TrodAll enc P W' 0 (λb=>decide (b<W.heap.size)) true ts vs ds ps
 | [],vs,ds,ps,_,_,h=>by obtain⟨rfl,rfl,rfl⟩:=trodAll_nil h;exact rfl
 | t :: ts,vs,ds,ps,hr,hlt,h=>by obtain⟨v,vs',d,ds',p,q,rfl,rfl,rfl,h1,h2⟩:=trodAll_cons h;simp only [ξ,Ah,decide_eq_true_eq] at hr;exact⟨p,q,Below.trod hl hr.1.1 hr.1.2 h1 hb λx hx=>hlt x (by simp [hx]),jO hl hb hr.2 (λx hx=>hlt x (by simp [hx])) h2,rfl⟩
theorem aV {W:World}:∀ {ts:List TypeId} {vs:List Value} {ds:List (DataW H)} {ps:List MemPlace},DataW.TrodAll enc P W 0 sp held ts vs ds ps->∀ x ∈ ps,x.block<W.heap.size
 | [],vs,ds,ps,h=>by obtain⟨rfl,rfl,rfl⟩:=trodAll_nil h;intro x hx; simp at hx
 | t :: ts,vs,ds,ps,h=>by
  obtain⟨v,vs',d,ds',p,q,rfl,rfl,rfl,⟨m,hm⟩,h2⟩:=trodAll_cons h;intro x hx
  rcases List.mem_append.1 hx with hx | hx
  ·exact DataW.trod_lt m _ _ _ hm x hx
  ·exact aV h2 x hx
end
section
variable [rL]
theorem zX.calls {P:Program} {g:FuncId} {args:List D} {b:Bool} (h:zX P g args (.bool b)) {w:World} {vals:Array Value} (ht:u0 w λ_=>False) (hl:vals.size=args.length)
  (hv:∀ j,j<args.length->RP (λ_=>False) w (vals.getD j undef) (args.getD j .top)):Calls P g vals w λe w'=>e = .returned (.bool b)/\ Below w.heap.size w w':=by
 have hM:∀ b,Mof (λ_=>False) (λ_=>0) St0 b->False:=by
  rintro b (h | ⟨k,o,hk,_⟩)
  ·exact h
  ·cases hk
 have hS:vL (λ_=>False) w St0 (λ_=>0):=⟨λb hb=>hb.elim,(λk o hk=>by cases hk),(λk k' o o' hk=>by cases hk),(λk o hk=>by cases hk),ht.zA (Ai _) (λ_ _ _=>rfl) λb _ hb=>hM b hb⟩;refine(h.run _ w _ vals hS hl λj hj=>.pure ((hv j hj).zA (λ_ _ _=>rfl) λb _ hb=>hM b hb)).mono λe w' hh=>?_;obtain⟨v,ι',rfl,k1,k2,k3,k4,k5,k6⟩:=hh;have K0:Kept w w' λ_=>False:=k1.mono λb _ ⟨k,o,hk,_⟩=>by cases hk
 rw [k6.pQ];exact⟨rfl,K0.below⟩
end
theorem jx (a:Array Value) (j:Nat) (d:Value):a.getD j d=a.toList.getD j d:=by simp [List.getD,Array.getD];by_cases h:j<a.size <;> simp [h]
theorem Tf {H:Type} {enc:TypeId × Value->H} {P:Program} {f:Func} {s:ChangeSpec} {W W':World} {args:Array Value} {ds gs:List (DataW H)} {before:List MemPlace} {tb:TypeId}
  (hl:laidOutB P=true) (hr:(f.params.toList.all λt=>P.readableRec t&&decide (t<P.types.size))= true) (hb:f.resultTypes = #[tb]) (htb:P.underlying tb=some .bool) (hsv:s.vars = [])
  (hW:DataW.Whole enc P f.params.toList s.vars false W args.toList ds gs before) (hs:s.fn H (ds++gs)= { results:=[.lit (.bool true)],args:=ds }) (bel:Below W.heap.size W W') :
  s.post enc P f false true false false W args (.bool true) W':=by
 have hW':=hW;obtain⟨p,q,hA,hV,rfl,hfz,hnd⟩:=hW;rw [hsv] at hV;obtain⟨rfl,rfl⟩:=trodVars_none hV;have hA2:=jO hl bel hr (aV hA) hA
 refine⟨_,_,_,[],p,[],hW',?_,?_,?_,bel.frame _,λh=>by cases h⟩
 ·rw [hs,hb];exact trodAll_mk1 (shut_bool htb _)
 ·rw [hs];exact hA2
 ·rw [hs,hsv];rfl
abbrev dO (i:Nat) (k:DK):DOp:=⟨some i,none,k⟩
abbrev dF (i j:Nat) (k:DK):DOp:=⟨some i,some (j,false),k⟩
abbrev dT (i j:Nat) (k:DK):DOp:=⟨some i,some (j,true),k⟩
abbrev Opd.i (n:Int):Opd:=.c (.int .i64 n)
abbrev dM (i j:Nat):DOp:=⟨some i,none,.mv (.t j)⟩
abbrev dL (i j:Nat):DOp:=⟨some i,none,.load 1 false (.t j)⟩
abbrev dG (i n j:Nat):DOp:=⟨some i,none,.fld n (.t j)⟩
abbrev DC.r (l:List DOp) (c:DC):DC:=.seq (.reg [] l) c
abbrev DK.cf (f:FuncId) (l:List Opd):DK:=.call (.c (.fn f [])) l
abbrev bT (i:Nat) (o:BinOp) (a b:Nat):DOp:=⟨some i,none,.bin o (.t a) (.t b)⟩
abbrev bI (i:Nat) (o:BinOp) (a:Nat) (n:Int):DOp:=⟨some i,none,.bin o (.t a) (.i n)⟩
abbrev dI (i n a b:Nat):DOp:=⟨some i,none,.idx n (.t a) (.t b)⟩
abbrev dN (i a:Nat):DOp:=⟨some i,none,.len (.t a)⟩
abbrev fG (i j n a:Nat):DOp:=⟨some i,some (j,false),.fld n (.t a)⟩
abbrev fL (i j a:Nat):DOp:=⟨some i,some (j,false),.load 1 false (.t a)⟩
abbrev fN (i j a:Nat):DOp:=⟨some i,some (j,false),.len (.t a)⟩
abbrev fM (i j a:Nat):DOp:=⟨some i,some (j,false),.mv (.t a)⟩
abbrev dP (i a b:Nat):DOp:=⟨some i,none,.pick (.t a) (.c (.bool true)) (.t b)⟩
abbrev dE (i a n:Nat):DOp:=⟨some i,none,.PF (.t a) n⟩
abbrev sQ (n a b:Nat):DOp:=⟨none,none,.store n (.t a) (.t b)⟩
abbrev dV (i:Nat) (b:Bool):DOp:=⟨some i,none,.mv (.c (.bool b))⟩
abbrev dJ (i:Nat) (n:Int):DOp:=⟨some i,none,.mv (.i n)⟩
abbrev dA (i n a:Nat):DOp:=⟨some i,none,.load n true (.t a)⟩
abbrev DC.w (a b:Nat) (c:DC):DC:=.seq (.cond (.t a) .skip (.exit b)) c
abbrev DC.g (l:List DOp):DC:=.reg [] l
abbrev dX (i a:Nat):DOp:=⟨some i,none,.box (.t a)⟩
abbrev tL (i j a:Nat):DOp:=⟨some i,some (j,true),.load 1 false (.t a)⟩
abbrev tG (i j n a:Nat):DOp:=⟨some i,some (j,true),.fld n (.t a)⟩
abbrev tM (i j a:Nat):DOp:=⟨some i,some (j,true),.mv (.t a)⟩
abbrev dK (i a:Nat):DOp:=⟨some i,none,.nck (.t a)⟩
abbrev dH (i a:Nat):DOp:=⟨some i,none,.nt (.t a)⟩
abbrev dQ (i a b:Nat):DOp:=⟨some i,none,.pick (.t a) (.t b) (.c (.bool false))⟩
abbrev dZ (i:Nat):DOp:=⟨some i,none,.mv (.c .xK)⟩
abbrev dB (i f a:Nat):DOp:=⟨some i,none,.cf f [.t a]⟩
abbrev dD (i f a b:Nat):DOp:=⟨some i,none,.cf f [.t a,.t b]⟩
abbrev fB (i j:Nat) (o:BinOp) (a:Nat) (n:Int):DOp:=⟨some i,some (j,false),.bin o (.t a) (.i n)⟩
abbrev CT :=Nat × DC × List aa
def zS :=γ @D.int.injEq (γ @D.bool.injEq (γ @D.sl.injEq (γ @and_true (γ @true_and @and_self))))
def zW.{u} :=γ @ne_eq.{u} (γ @forall_const.{u} (γ @implies_true.{u} @forall_eq.{u}))
section
variable [rL]
def zU :=γ @lX.eq_1 (γ @Nc.eq_1 (γ @unZ.eq_1 (γ @mC.eq_1 (γ @mC.eq_2 (γ @sZ.eq_1 (γ @sZ.eq_2 (γ @opX.eq_1 (γ @opX.eq_2 (γ @opX.eq_3 (γ @opX.eq_4 (γ @opX.eq_5 (γ @opX.eq_6 (γ @opX.eq_7 (γ @opX.eq_8 (γ @opX.eq_9 (γ @opX.eq_10 (γ @opX.eq_11 (γ @opX.eq_12 (γ @opX.eq_13 (γ @opX.eq_14 (γ @opX.eq_15 (γ @opV.eq_1 (γ @opV.eq_2 (γ @opV.eq_3 (γ @opV.eq_4 (γ @opV.eq_5 (γ @opV.eq_6 (γ @opV.eq_7 (γ @opV.eq_8 (γ @opV.eq_9 (γ @opV.eq_10 (γ @opV.eq_11 (γ @opV.eq_12 (γ @opV.eq_13 (γ @opV.eq_14 (γ @opV.eq_15 (γ @pX.eq_1 (γ @pX.eq_2 (γ @pX.eq_3 (γ @pX.eq_4 (γ @pX.eq_5 (γ @pX.eq_6 (γ @pX.eq_7 (γ @pX.eq_8 (γ @pW.eq_1 (γ @pW.eq_2 (γ @pW.eq_3 (γ @pW.eq_4 (γ @pW.eq_5 (γ @pW.eq_6 (γ @pW.eq_7 (γ @pW.eq_8 (γ @pW.eq_9 (γ @pW.eq_10 (γ @pW.eq_11 (γ @pW.eq_12 (γ @pW.eq_13 (γ @pW.eq_14 (γ @pW.eq_15 (γ @pW.eq_16 (γ @pW.eq_17 (γ @pW.eq_18 (γ @pW.eq_19 (γ @pW.eq_20 (γ @pW.eq_21 (γ @pW.eq_22 (γ @pW.eq_23 (γ @pW.eq_24 (γ @pW.eq_25 (γ @pW.eq_26 (γ @pW.eq_27 (γ @pW.eq_28 (γ @NP.eq_1 (γ @NQ.eq_1 (γ @atK.eq_1 (γ @jH.eq_1 @z7.eq_1))))))))))))))))))))))))))))))))))))))))))))))))))))))))))))))))))))))))))))
def zQ :=γ @vwL.eq_1 (γ @vwL.eq_2 (γ @vwL.eq_3 (γ @vw.eq_1 (γ @vw.eq_2 (γ @vw.eq_3 (γ @vw.eq_4 (γ @vw.eq_5 (γ @vw.eq_6 (γ @vw.eq_7 (γ @vw.eq_8 (γ @vw.eq_9 (γ @vw.eq_10 (γ @vw.eq_11 (γ @vw.eq_12 (γ @vw.eq_13 (γ @vw.eq_14 (γ @vw.eq_15 (γ @vw.eq_16 (γ @vw.eq_17 (γ @vw.eq_18 (γ @vwF.eq_1 (γ @vwF.eq_2 (γ @sw.eq_1 (γ @sw.eq_2 (γ @St.get.eq_1 (γ @St.look.eq_1 (γ @St.look.eq_2 (γ @Fr.get.eq_1 @Fr.get.eq_2))))))))))))))))))))))))))))
def zV :=γ @St0.eq_1 (γ @bO.eq_1 (γ @bO.eq_2 (γ @iF.eq_1 (γ @iF.eq_2 (γ @iF.eq_3 (γ @iF.eq_4 (γ @iF.eq_5 (γ @iF.eq_6 (γ @iF.eq_7 (γ @iF.eq_8 (γ @iF.eq_9 (γ @iF.eq_10 (γ @iF.eq_11 (γ @iF.eq_12 (γ @iF.eq_13 (γ @iF.eq_14 (γ @iF.eq_15 (γ @iF.eq_16 (γ @iF.eq_17 (γ @VT.eq_1 (γ @bS.eq_1 (γ @bS.eq_2 (γ @bS.eq_3 (γ @bS.eq_4 (γ @bS.eq_5 (γ @bS.eq_6 (γ @ir.eq_1 (γ @ir.eq_2 (γ @Pm.eq_1 (γ @wG.eq_1 (γ @bH.eq_1 (γ @bH.eq_2 (γ @MK.eq_1 (γ @um.eq_1 (γ @um.eq_2 (γ @ns.eq_1 (γ @ns.eq_2 (γ @List.replicate.eq_1.{0} (γ @List.replicate.eq_2.{0} (γ @rowsOf.eq_1 (γ @rowsOf.eq_2 (γ @rowsOf.eq_3 (γ @rowsOf.eq_4 @rowsOf.eq_5)))))))))))))))))))))))))))))))))))))))))))
end
theorem sd {p q:Prop} (b:q) (a:p:=by first | omega | exact ZT _ | exact Am _ | rfl | exact ZC _ _ | exact Ym _ | (intro _ h; cases h; done)):p/\q:=⟨a,b⟩
theorem jM.dv {n0 n:Nat} {σ:St} {d d':D} (hn:n0<=n:=by simp) (h:vw σ ⟨n,[]⟩ (λk=>k) d d':=by simp [vw]):jM n0 σ d ⟨n,[]⟩ d':=.drop hn h
section
variable [rL]
theorem cr {P:Program} {g:FuncId} {args:List D} {d:D} {s:St} (hc:zX P g args d) (hp:D.xU args=true:=by simp [D.xU,D.xL]):xY P g args s d s:=xY.yO hc hp
theorem cq {P:Program} {g:FuncId} {args:List D} {d:D} {s:St} (hc:zX P g args d) (hp:D.xU args=true:=by rfl):xY P g args s d s:=xY.yO hc hp
end
end Go.Pd
