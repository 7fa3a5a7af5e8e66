/- Part X6. -/
import Derived.Test.YtcniiejbcjijjaaDoorZmX5
import Derived.Carry
import Derived.ChangeArms
import Derived.Deep.Slices
import Derived.ProofKit
import Derived.OpenShut
set_option linter.unusedSectionVars false
set_option linter.unusedVariables false
set_option linter.unusedSimpArgs false
set_option linter.defProp false
open And renaming intro->γ
open List renaming append_nil->δ,mem_map->ε,nil_append->ζ,mem_cons->η,map_cons->θ,length_nil->κ,getD_cons_zero->μ,all_cons->ν,cons_append->ξ,getElem?_append_right->ο,getElem?_append_left->π,take_append_drop->τ,mem_singleton->υ,length_append->φ,length_cons->χ
open Bool renaming and_eq_true->ψ
open BitVec renaming eq_of_toNat_eq->ω,toNat_ushiftRight->Aa,ofInt_natCast->Ab,toNat_ofInt->Ac,ofInt_mul->Ad,ofInt_add->Ae
open Nat renaming le_refl->Af,shiftRight_eq_div_pow->Ag,zero_add->Ah
open Int renaming natCast_nonneg->Ai,toNat_natCast->Aj
namespace Go.Pd
open Go
def ui (s:BitVec 64):Int:=s.toNat
theorem gG (s:BitVec 64):0<=ui s:=by unfold ui; omega
theorem bl {s t:BitVec 64}:ui s=ui t ↔ s=t:=by
 unfold ui
 constructor
 ·intro h; exact ω (by omega)
 ·rintro rfl; rfl
theorem p9 {n:Int} (h0:0<=n) (h1:n<18446744073709551616):ui (BitVec.ofInt 64 n)= n:=by unfold ui;rw [Ac];have:n % 2 ^ 64=n:=Int.emod_eq_of_lt h0 (by omega);omega
theorem yA (s:BitVec 64):BitVec.ofInt 64 (ui s)= s:=by unfold ui;rw [Ab];simp
theorem rU (s:BitVec 64):IntKind.u64.wrap (s.toNat:Int)= ui s:=by unfold ui;have:=s.isLt;exact wrap_u64 ⟨by omega,by omega⟩
theorem bj (s t:BitVec 64):pF .and .u64 (ui s) (ui t)= ui (s &&& t):=by show IntKind.u64.wrap ((BitVec.ofInt 64 (ui s)&&& BitVec.ofInt 64 (ui t)).toNat:Int)= _;rw [yA,yA,rU]
theorem r6 (s t:BitVec 64):pF .or .u64 (ui s) (ui t)= ui (s ||| t):=by show IntKind.u64.wrap ((BitVec.ofInt 64 (ui s) ||| BitVec.ofInt 64 (ui t)).toNat:Int)= _;rw [yA,yA,rU]
theorem bt (s t:BitVec 64):pF .xor .u64 (ui s) (ui t)= ui (s ^^^ t):=by show IntKind.u64.wrap ((BitVec.ofInt 64 (ui s)^^^ BitVec.ofInt 64 (ui t)).toNat:Int)= _;rw [yA,yA,rU]
theorem tn (s t:BitVec 64):pF .andNot .u64 (ui s) (ui t)= ui (s &&& ~~~t):=by show IntKind.u64.wrap ((BitVec.ofInt 64 (ui s)&&& ~~~BitVec.ofInt 64 (ui t)).toNat:Int)= _;rw [yA,yA,rU]
theorem oA (n:Int):IntKind.u64.wrap n=ui (BitVec.ofInt 64 n):=by unfold ui;rw [Ac];simp [IntKind.wrap,IntKind.signed,IntKind.bits];omega
theorem bh (s t:BitVec 64):IntKind.u64.wrap (ui s+ui t)= ui (s+t):=by rw [oA,Ae,yA,yA]
theorem br (s t:BitVec 64):IntKind.u64.wrap (ui s-ui t)= ui (s-t):=by rw [oA];congr 1;rw [Int.sub_eq_add_neg,Ae,BitVec.ofInt_neg,yA,yA,BitVec.sub_eq_add_neg]
theorem bn (s t:BitVec 64):IntKind.u64.wrap (ui s*ui t)= ui (s*t):=by rw [oA,Ad,yA,yA]
theorem bp (s:BitVec 64) (k:Int):cL .u64 (ui s) k=ui (s <<< k.toNat):=by
 unfold cL;rw [oA];congr 1;rw [Ad,yA];show s*BitVec.ofInt 64 (2 ^ min k.toNat 64)= _;apply ω;rw [BitVec.toNat_mul,BitVec.toNat_shiftLeft,Nat.shiftLeft_eq]
 have e:(BitVec.ofInt 64 (2 ^ min k.toNat 64)).toNat=2 ^ min k.toNat 64 % 2 ^ 64:=by
  have:((2:Int)^ min k.toNat 64)= ((2 ^ min k.toNat 64:Nat):Int):=by norm_cast
  rw [this,Ab,BitVec.toNat_ofNat]
 rw [e,Nat.mul_mod_mod]
 rcases Nat.lt_or_ge k.toNat 64 with h | h
 ·rw [Nat.min_eq_left (by omega)]
 ·rw [Nat.min_eq_right h];obtain⟨m,hm⟩:=Nat.exists_eq_add_of_le h;rw [hm,Nat.pow_add,<- Nat.mul_assoc,Nat.mul_right_comm];simp
theorem bq (s:BitVec 64) (k:Int):ue .u64 (ui s) k=ui (s >>> k.toNat):=by
 unfold ue ui;rw [Aa,Ag];show (s.toNat:Int).fdiv (2 ^ min k.toNat 64)= _;have:((2:Int)^ min k.toNat 64)= ((2 ^ min k.toNat 64:Nat):Int):=by norm_cast
 rw [this,Int.fdiv_eq_ediv_of_nonneg _ (Ai _),<- Int.natCast_ediv];congr 1
 rcases Nat.lt_or_ge k.toNat 64 with h | h
 ·rw [Nat.min_eq_left (by omega)]
 ·rw [Nat.min_eq_right h];have h1:=s.isLt;rw [Nat.div_eq_of_lt h1,Nat.div_eq_of_lt (Nat.lt_of_lt_of_le h1 (Nat.pow_le_pow_right (by omega) h))]
theorem bo (s t:BitVec 64):(ui s).tmod (ui t)= ui (s % t):=by unfold ui;rw [BitVec.toNat_umod,Int.tmod_eq_emod_of_nonneg (by omega),Int.natCast_emod]
theorem og (s t:BitVec 64):(ui s==ui t)= (s==t):=by
 by_cases h:s=t
 ·subst h; simp
 ·have:ui s≠ui t:=λe=>h (bl.1 e);rw [beq_eq_false_iff_ne.2 this,beq_eq_false_iff_ne.2 h]
theorem bk (s t:BitVec 64):(ui s != ui t)= (s != t):=by simp only [bne,og]
theorem j6 : D.int .u64 0=D.int .u64 (ui 0#64):=rfl
theorem j7 : D.int .u64 1=D.int .u64 (ui 1#64):=rfl
theorem j8 : D.int .u64 2=D.int .u64 (ui 2#64):=rfl
theorem j9 : D.int .u64 18446744073709551615=D.int .u64 (ui 18446744073709551615#64):=rfl
theorem bg : ui 2#64≠0:=by decide
def us (l:List (BitVec 64)):List (List D):=l.map λs=>[.int .u64 (ui s)]
def jl (l:List (BitVec 64)):D:=.sl 1 (us l)
theorem yC (l:List (BitVec 64)):(us l).length=l.length:=by simp [us]
theorem oh : us [] = []:=rfl
theorem vq (s:BitVec 64) (l:List (BitVec 64)):us (s :: l)= [.int .u64 (ui s)] :: us l:=rfl
theorem kJ (l:List (BitVec 64)) {i:Nat} (h:i<l.length):(us l).getD i [] = [.int .u64 (ui (l.getD i 0))]:=by simp [us,List.getD,h]
theorem eJ (l:List (BitVec 64)):∀ e ∈ us l,D.xZ e=true:=by intro e he;simp only [us,ε] at he;obtain⟨n,_,rfl⟩:=he;rfl
theorem oi (l:List (BitVec 64)):∀ e ∈ us l,yS e=true:=by intro e he;simp only [us,ε] at he;obtain⟨n,_,rfl⟩:=he;rfl
theorem ix (l:List (BitVec 64)) (n:Nat):(us l).take n=us (l.take n):=by simp [us,List.map_take]
theorem vr (l:List (BitVec 64)) (s:BitVec 64):us l ++ [[.int .u64 (ui s)]]=us (l ++ [s]):=by simp [us]
theorem om (l:List (BitVec 64)) (i:Nat) (s:BitVec 64):(us l).set i [.int .u64 (ui s)]=us (l.set i s):=by simp [us,List.map_set]
theorem nP (n:Nat) (s:BitVec 64):List.replicate n [D.int .u64 (ui s)]=us (List.replicate n s):=by simp [us]
theorem eo : ∀ {xX:List (List D)},(∀ e ∈ xX,∃ n:Int,e = [.int .u64 n])->D.vy xX->∃ l,xX=us l
 | [],_,_=>⟨[],rfl⟩
 | e :: r,h,hf=>by obtain⟨n,rfl⟩:=h e (by simp);obtain⟨l,rfl⟩:=eo (λe he=>h e (by simp [he])) hf.2;have h1:=hf.1;simp only [D.tV,D.fact,and_true] at h1;obtain⟨h1,h2⟩:=h1;refine⟨BitVec.ofInt 64 n :: l,?_⟩;have:ui (BitVec.ofInt 64 n)= n:=p9 (by simpa [IntKind.min,IntKind.signed] using h1) (by have:IntKind.u64.max=18446744073709551615:=rfl; omega);simp [us,this]
theorem sj (d:D):wD false [d]=d:=rfl
theorem si (cs:List D):wD true cs = .agg cs:=rfl
def yW (key sz:Nat):List (List D)->D
 | []=>.xB
 | e :: r=>.yR key sz (e :: r).length
def xH (key sz:Nat):List (List D)->List (Nat × Ob)
 | []=>[]
 | e :: r=>[(key,⟨sz,e :: r⟩)]
end Go.Pd
namespace Go.Pd
open Go
variable [zF]
def wR (f:Fr):Fr->Prop
 | []=>True
 | (t,d) :: r=>f.get t=d/\wR f r
omit [zF] in
theorem gD {f:Fr}:∀ {f':Fr},wR f f'->∀ t,f'.get t = .top\/f'.get t=f.get t
 | [],_,t=>.inl rfl
 | (s,d) :: r,h,t=>by
  simp only [Fr.get]
  split
  ·rename_i e; subst e; exact .inr h.1.symm
  ·exact gD h.2 t
theorem zG.same {C:Cx} {f f':Fr} {σ:St} (h:wR f f'):zG C f σ f' σ:=zG.frame (gD h)
end Go.Pd
namespace Go.Pd
open Go
def rr (ll:List (List (BitVec 64))):List (List D):=ll.map λl=>[jl l]
def l5 (ll:List (List (BitVec 64))):D:=.sl 1 (rr ll)
theorem bd (l:List (List (BitVec 64))):(rr l).length=l.length:=by simp [rr]
theorem iv (l:List (List (BitVec 64))) (n:Nat):(rr l).take n=rr (l.take n):=by simp [rr,List.map_take]
theorem vm (l:List (List (BitVec 64))):∀ e ∈ rr l,D.xZ e=true:=by intro e he;simp only [rr,ε] at he;obtain⟨n,_,rfl⟩:=he;simp [D.xZ,D.xS,jl]
end Go.Pd
namespace Go.Pd
open Go
theorem oN.same {n0:Nat} {σ:St} {d:D}:oN n0 σ d σ d:=.inl ⟨rfl,rfl⟩
theorem oN.drop {n0 n:Nat} {σ:St} {d d':D} (hn:n0<=n) (h:vw σ ⟨n,[]⟩ (λk=>k) d d'):oN n0 σ d ⟨n,[]⟩ d':= .inr ⟨λk=>k,hn,λ_ _=>rfl,h,by simp [stays],by simp [tH]⟩
end Go.Pd
namespace Go.Pd
open Go
universe u
variable [zF]
def Xt (σ:St) (K:D->St->Prop) (d:D):Prop:=K d σ
def ct (f:Fr) (dst:Option Nat) (K:Fr->St->Prop) (d:D) (σ:St):Prop:=K (f.put dst d) σ
def cu (f:Fr) (dst:Option Nat) (K:Fr->Prop) (d:D):Prop:=K (f.put dst d)
def mI (Q:Exit->Fr->St->Prop) (f:Fr) (σ:St):Prop:=Q .normal f σ
def y4 (d:D) (want:Bool) (yes no:Prop):Prop:=
 match d with
 | .bool b=>if b=want then yes else no
 | .vT=>no
 | _=>False
theorem ke (b want:Bool) (yes no:Prop):y4 (.bool b) want yes no=if b=want then yes else no:=rfl
theorem fy (want:Bool) (yes no:Prop):y4 .vT want yes no=no:=rfl
@[congr] theorem z8 {d d' : D} {want : Bool} {yes no : Prop} (h : d = d') : y4 d want yes no = y4 d' want yes no := by rw [h]
def gd (g:Option (Nat × Bool)) (f:Fr) (yes no:Prop):Prop:=
 match g with
 | none=>yes
 | some (j,want)=>y4 (f.get j) want yes no
theorem fx (f:Fr) (yes no:Prop):gd none f yes no=yes:=rfl
theorem gf (j:Nat) (want:Bool) (f:Fr) (yes no:Prop):gd (some (j,want)) f yes no=y4 (f.get j) want yes no:=rfl
theorem ea (o:xR) (f:Fr) (yes no:Prop):xI o f yes no=gd o.guard f yes no:=by
 unfold xI gd
 split
 ·rename_i h; rw [h]
 ·rename_i h; rw [h]; rfl
def nH (q:Bool) (σ:St) (sz bytes:Nat) (x:D) (y:Option (List (List D))) (K:D->St->Prop):Prop:=
 match y with
 | none=>False
 | some rows=>(∀ r ∈ rows,yS r=true)/\ match x with
  | .xB=>rows.length*bytes<=140737488355328/\rows.length<=8000000000000/\(rows = []->K .xB σ)/\ (rows ≠ []->K (.yR σ.nx sz rows.length) (σ.new ⟨sz,rows⟩))
  | .yR key sz' n=>match σ.get key with
   | some ob=>sz=sz'/\ob.sz=sz/\n<=ob.xX.length/\(n+rows.length)* bytes<=140737488355328/\n+rows.length<=8000000000000 /\
    K (.yR σ.nx sz (n+rows.length)) ((σ.erase key).new ⟨sz,ob.xX.take n++rows⟩)
   | none=>False
  | .sub key sz' lo n=>match σ.get key with
   | some ob=>q=true/\sz=sz'/\ob.sz=sz/\lo+n<=ob.xX.length/\(n+rows.length)* bytes<=140737488355328/\n+rows.length<=8000000000000 /\
    ∀ pre:List (List D),(pre = []\/pre=ob.xX.take lo)->K (.sub σ.nx sz pre.length (n+rows.length)) ((σ.erase key).new ⟨sz,pre++((ob.xX.drop lo).take n++rows)⟩)
   | none=>False
  | _=>False
def pj (σ:St) (n:Nat) (a:D) (x:Option (List D)) (K:D->St->Prop):Prop:=
 match a,x with
 | .ref key sz i off,some ds=>match σ.get key with
  | some ob=>ob.sz=sz/\i<ob.xX.length/\ds.length=n/\off+n<=sz/\yS ds=true/\K .vT (σ.set key ⟨sz,ob.xX.set i (sP (ob.xX.getD i []) off ds)⟩)
  | none=>False
 | _,_=>False
def hE (x:D) (K:D->Prop):Prop:=
 match x with
 | .sl _ xX=>K (.int .i64 xX.length)
 | .yR _ _ n=>K (.int .i64 n)
 | .sub _ _ _ n=>K (.int .i64 n)
 | .xB=>K (.int .i64 0)
 | .emp=>K (.int .i64 0)
 | _=>False
def eX (sz:Nat) (x i:D) (K:D->Prop):Prop:=
 match x,i with
 | .sl sz' xX,.int _ n=>sz=sz'/\0<=n/\n<xX.length/\K (.ptr (xX.getD n.toNat []))
 | .yR key sz' len,.int _ n=>sz=sz'/\0<=n/\n<len/\K (.ref key sz n.toNat 0)
 | .sub key sz' lo len,.int _ n=>sz=sz'/\0<=n/\n<len/\K (.ref key sz (lo+n.toNat) 0)
 | _,_=>False
def tT (neg:Bool) (x y:D) (K:D->Prop):Prop:=
 match x,y with
 | .xB,.xB=>K (.bool (!neg))
 | .yR ..,.xB | .xB,.yR ..=>K (.bool neg)
 | .emp,.xB | .xB,.emp=>K (.bool neg)
 | .sl _ (_ :: _),.xB=>K (.bool neg)
 | _,_=>False
def kP (σ:St) (n:Nat) (ag:Bool) (x:D) (K:D->Prop):Prop:=
 match x with
 | .ref key sz i off=>match σ.get key with
  | some o=>o.sz=sz/\i<o.xX.length/\off+n<=sz/\(ag=true\/n=1)/\ K (wD ag (((o.xX.getD i []).drop off).take n))
  | none=>False
 | .ptr cs=>n<=cs.length/\(ag=true\/n=1)/\ K (wD ag (cs.take n))
 | .lO b=>∃ ds,bY b ds/\n<=ds.length/\(ag=true\/n=1)/\ K (wD ag (ds.take n))
 | _=>False
def uc (x:D) (K:D->Prop):Prop:=
 match x with
 | .ref key sz i off=>K (.ref key sz i off)
 | .ptr cs=>K (.ptr cs)
 | .fn f cs=>K (.fn f cs)
 | _=>False
@[congr] theorem x8 {x x' : D} {K : D -> Prop} (h : x = x') : uc x K = uc x' K := by rw [h]
theorem qA {σ:St} {n:Nat} {ag:Bool} {b:Nat} {K:D->Prop}:kP σ n ag (.lO b) K=∃ ds,bY b ds/\n<=ds.length/\(ag=true\/n=1)/\ K (wD ag (ds.take n)):=rfl
theorem kx {key sz i off:Nat} {K:D->Prop}:uc (.ref key sz i off) K=K (.ref key sz i off):=rfl
theorem ky {cs:List D} {K:D->Prop}:uc (.ptr cs) K=K (.ptr cs):=rfl
theorem gz {f:FuncId} {cs:List D} {K:D->Prop}:uc (.fn f cs) K=K (.fn f cs):=rfl
def gK (σ:St) (zero:D) (ok:Bool) (m k:D) (K:D->Prop):Prop:=
 match m,k with
 | .yH key,.int kk x=>match σ.get key with
  | some o=>o.sz=0/\rI kk o.xX/\K (rY ok zero (uR x o.xX 0))
  | none=>False
 | .tC,.int _ _=>K (rY ok zero none)
 | _,_=>False
def cD (σ:St) (m k x:D) (K:D->St->Prop):Prop:=
 match m,k with
 | .yH key,.int kk y=>match σ.get key with
  | some o=>o.sz=0/\rI kk o.xX/\K .vT (σ.set key ⟨0,kR kk o.xX y x⟩)
  | none=>False
 | _,_=>False
def xe (σ:St) (n:Nat) (zero:D) (ok:Bool) (m k:D) (K:D->Prop):Prop:=
 match m,k with
 | .yH key,.agg cs=>match σ.get key with
  | some o=>o.sz=0/\∃ (x:List Int) (l:List (List Int × D)),(cs=x.map (D.int .i64)/\ o.xX=lI l/\x.length=n/\∀ p ∈ l,p.1.length=n)/\ K (rY ok zero (pC x l 0))
  | none=>False
 | _,_=>False
def xh (σ:St) (n:Nat) (m k x:D) (K:D->St->Prop):Prop:=
 match m,k with
 | .yH key,.agg cs=>match σ.get key with
  | some o=>o.sz=0/\∃ (y:List Int) (l:List (List Int × D)),(cs=y.map (D.int .i64)/\ o.xX=lI l/\(y.length=n/\∀ p ∈ l,p.1.length=n))/\ K .vT (σ.set key ⟨0,lI (gI y x l)⟩)
  | none=>False
 | _,_=>False
def oy (σ:St) (zero m k:D) (K:D->St->Prop):Prop:=
 match m,k with
 | .yH key,.int kk y=>match σ.get key with
  | some o=>o.sz=0/\rI kk o.xX/\o.xX.length<=1000000000/\(match uR y o.xX 0 with
   | some (i,d)=>K (.yK [d,.int .i64 i]) (σ.set key ⟨0,o.xX⟩)
   | none=>K (.yK [zero,.int .i64 o.xX.length]) (σ.set key ⟨0,o.xX ++ [[.int kk y,zero]]⟩))
  | none=>False
 | _,_=>False
def oz (σ:St) (m s x:D) (K:D->St->Prop):Prop:=
 match m,s with
 | .yH key,.int _ i=>match σ.get key with
  | some o=>o.sz=0/\0<=i/\i<o.xX.length/\(∃ kk y d,o.xX.getD i.toNat [] = [.int kk y,d]/\K .vT (σ.set key ⟨0,o.xX.set i.toNat [.int kk y,x]⟩))
  | none=>False
 | _,_=>False
@[congr] theorem dt {σ : St} {zero : D} {ok : Bool} {m m' k k' : D} {K : D -> Prop} (h : m = m') (h' : k = k') : gK σ zero ok m k K = gK σ zero ok m' k' K := by rw [h, h']
@[congr] theorem dw {σ : St} {m m' k k' x x' : D} {K : D -> St -> Prop} (h : m = m') (h' : k = k') (h2 : x = x') : cD σ m k x K = cD σ m' k' x' K := by rw [h, h', h2]
@[congr] theorem fg {σ : St} {n : Nat} {zero : D} {ok : Bool} {m m' k k' : D} {K : D -> Prop} (h : m = m') (h' : k = k') : xe σ n zero ok m k K = xe σ n zero ok m' k' K := by rw [h, h']
@[congr] theorem fi {σ : St} {n : Nat} {m m' k k' x x' : D} {K : D -> St -> Prop} (h : m = m') (h' : k = k') (h2 : x = x') : xh σ n m k x K = xh σ n m' k' x' K := by rw [h, h', h2]
@[congr] theorem dp {σ : St} {zero m m' k k' : D} {K : D -> St -> Prop} (h : m = m') (h' : k = k') : oy σ zero m k K = oy σ zero m' k' K := by rw [h, h']
@[congr] theorem dh {σ : St} {m m' k k' x x' : D} {K : D -> St -> Prop} (h : m = m') (h' : k = k') (h2 : x = x') : oz σ m k x K = oz σ m' k' x' K := by rw [h, h', h2]
@[congr] theorem y8 {q : Bool} {σ : St} {sz bytes : Nat} {x x' : D} {y y' : Option (List (List D))} {K : D -> St -> Prop} (h : x = x') (h' : y = y') : nH q σ sz bytes x y K = nH q σ sz bytes x' y' K := by rw [h, h']
@[congr] theorem aa {σ : St} {n : Nat} {x x' : D} {y y' : Option (List D)} {K : D -> St -> Prop} (h : x = x') (h' : y = y') : pj σ n x y K = pj σ n x' y' K := by rw [h, h']
@[congr] theorem x7 {x x' : D} {K : D -> Prop} (h : x = x') : hE x K = hE x' K := by rw [h]
@[congr] theorem y9 {sz : Nat} {x x' i i' : D} {K : D -> Prop} (h : x = x') (h' : i = i') : eX sz x i K = eX sz x' i' K := by rw [h, h']
@[congr] theorem fj {neg : Bool} {x x' i i' : D} {K : D -> Prop} (h : x = x') (h' : i = i') : tT neg x i K = tT neg x' i' K := by rw [h, h']
@[congr] theorem dn {σ : St} {n : Nat} {ag : Bool} {x x' : D} {K : D -> Prop} (h : x = x') : kP σ n ag x K = kP σ n ag x' K := by rw [h]
def pX (C:Cx) (σ:St) (ev:zZ->D) (k:DK) (K:D->Prop):Prop:=
 match k with
 | .len x=>hE (ev x) K
 | .idx sz x i=>eX sz (ev x) (ev i) K
 | .mH neg x y=>tT neg (ev x) (ev y) K
 | .load n ag x=>kP σ n ag (ev x) K
 | .xk zero ok m k=>gK σ zero ok (ev m) (ev k) K
 | .kQ n zero ok m k=>xe σ n zero ok (ev m) (ev k) K
 | .y6 x=>uc (ev x) K
 | k=>pW C σ ev k K
theorem en (C:Cx) (σ:St) (ev:zZ->D) (k:DK) (K:D->Prop):pX C σ ev k K=pW C σ ev k K:=by cases k <;> rfl
def gQ (C:Cx) (σ:St) (ev:zZ->D) (k:DK) (K:D->St->Prop):Prop:=
 match k with
 | .box x=>vM C σ ev (.box x) K
 | .alloc z=>vM C σ ev (.alloc z) K
 | .store n a x=>pj σ n (ev a) (ev x).cells K
 | .app sz bytes x y=>nH (C.own.contains 77777) σ sz bytes (ev x) (rowsOf σ sz (ev y)) K
 | .pH sz bytes zero len cap=>vM C σ ev (.pH sz bytes zero len cap) K
 | .pT sz len zero parts=>vM C σ ev (.pT sz len zero parts) K
 | .uh zero x=>vM C σ ev (.uh zero x) K
 | .wi x y=>vM C σ ev (.wi x y) K
 | .call fn args=>vM C σ ev (.call fn args) K
 | .xp=>vM C σ ev .xp K
 | .oO m k x=>cD σ (ev m) (ev k) (ev x) K
 | .rJ n m k x=>xh σ n (ev m) (ev k) (ev x) K
 | .lK zero m k=>oy σ zero (ev m) (ev k) K
 | .lJ m s x=>oz σ (ev m) (ev s) (ev x) K
 | k=>pX C σ ev k (Xt σ K)
theorem oc (C:Cx) (σ:St) (ev:zZ->D) (k:DK) (K:D->St->Prop):gQ C σ ev k K=vM C σ ev k K:=by cases k <;> first | rfl | (show pX _ _ _ _ _=_; rw [en]; rfl)
def lM (C:Cx):List xR->(Fr->St->Prop)->Fr->St->Prop
 | [],K,f,σ=>K f σ
 | ⟨dst,g,k⟩ :: rest,K,f,σ=>gd g f (gQ C σ (uI f) k (ct f dst (lM C rest K))) (lM C rest K (f.put dst .vT) σ)
theorem kX (C:Cx) (K:Fr->St->Prop):∀ (ops:List xR) (f:Fr) (σ:St),lM C ops K f σ=vZ C ops f σ K
 | [],f,σ=>rfl
 | o :: rest,f,σ=>by
  have ih:lM C rest K=λf σ=>vZ C rest f σ K:=by funext f σ; exact kX C K rest f σ
  unfold lM vZ;rw [ea,oc,ih];rfl
def lN (C:Cx) (σ:St):List xR->(Fr->Prop)->Fr->Prop
 | [],K,f=>K f
 | ⟨dst,g,k⟩ :: rest,K,f=>gd g f (pX C σ (uI f) k (cu f dst (lN C σ rest K))) (lN C σ rest K (f.put dst .vT))
theorem qJ (C:Cx) (σ:St) (K:Fr->Prop):∀ (ops:List xR) (f:Fr),lN C σ ops K f=tD C σ ops f K
 | [],f=>rfl
 | o :: rest,f=>by
  have ih:lN C σ rest K=λf=>tD C σ rest f K:=by funext f; exact qJ C σ K rest f
  unfold lN tD;rw [ea,en,ih];rfl
def cE (C:Cx) (post:List xR) (Q:Exit->Fr->St->Prop) (σ:St) (f:Fr):Prop:=lM C post (mI Q) f σ
def w8 (d:D) (p q:Prop):Prop:=
 match d with
 | .bool t=>if t=true then p else q
 | _=>False
theorem ju (t:Bool) (p q:Prop):w8 (.bool t) p q=if t=true then p else q:=rfl
@[congr] theorem z7 {d d' : D} {p q : Prop} (h : d = d') : w8 d p q = w8 d' p q := by rw [h]
def eT (C:Cx) (it:Nat) (m:zZ) (out nx more next pair:Nat) (rest:List xR) (code:DC) (Q:Exit->Fr->St->Prop) (f:Fr) (σ:St):Prop:=kH C it m out nx more next pair rest code f σ Q
@[congr] theorem fh {C : Cx} {it : Nat} {m : zZ} {out nx more next pair : Nat} {rest : List xR} {code : DC} {Q : Exit -> Fr -> St -> Prop} {f f' : Fr} {σ : St} (h : f = f') : eT C it m out nx more next pair rest code Q f σ = eT C it m out nx more next pair rest code Q f' σ := by rw [h]
def vf (C:Cx) (code:DC) (out next:Nat) (J:Fr->St->Prop) (Q:Exit->Fr->St->Prop) (f:Fr) (σ:St):Prop:=wpS C code f σ (tS next (pQ J (tS out Q)))
@[congr] theorem jm {C : Cx} {code : DC} {out next : Nat} {J : Fr -> St -> Prop} {Q : Exit -> Fr -> St -> Prop} {f f' : Fr} {σ : St} (h : f = f') : vf C code out next J Q f σ = vf C code out next J Q f' σ := by rw [h]
def cA (C:Cx) (k:DK) (K:Fr->D->St->Prop) (σ:St) (f1:Fr):Prop:=gQ C σ (uI f1) k (K f1)
def w9 (f:Fr) (g:Fr):Prop:=g=f
def z6 (C:Cx) (un:Bool) (mid:List xR) (f1:Fr) (σ:St) (K:Fr->St->Prop) (σ1:St) (f2:Fr):Prop:=(if un=true then lN C σ mid (w9 f2) f1 else True)/\ K f2 σ1
def ub (C:Cx) (pre:List xR) (dst:Option Nat) (mid:List xR) (un:Bool) (post:List xR) (Q:Exit->Fr->St->Prop) (f:Fr) (σ:St) (f1:Fr) (d:D) (σ1:St):Prop:= lN C σ1 pre (w9 f1) f/\lN C σ1 mid (z6 C un mid (f1.put dst d) σ (lM C post (mI Q)) σ1) (f1.put dst d)
theorem gr {C:Cx} {pre:List xR} {dst:Option Nat} {mid:List xR} {un:Bool} {post:List xR} {Q:Exit->Fr->St->Prop} {f:Fr} {σ:St} {f1:Fr} {d:D} {σ1:St} :
  ub C pre dst mid un post Q f σ f1 d σ1=pf C pre dst mid un f σ (λf σ=>vZ C post f σ λf σ=>Q .normal f σ) f1 d σ1:=by
 unfold ub pf;rw [qJ,qJ]
 have:z6 C un mid (f1.put dst d) σ (lM C post (mI Q)) σ1=λf2=>(if un=true then tD C σ mid (f1.put dst d) (λg=>g=f2) else True)/\ vZ C post f2 σ1 λf σ=>Q .normal f σ:=by funext f2;unfold z6;rw [qJ,kX];rfl
 rw [this];rfl
def xq (C:Cx):DC->(Exit->Fr->St->Prop)->Fr->St->Prop
 | .skip,Q,f,σ=>Q .normal f σ
 | .cM pre post,Q,f,σ=>lN C σ pre (cE C post Q σ) f
 | .xl pre m mid un post,Q,f,σ=>lN C σ pre (cA C m.k (ub C pre m.dst mid un post Q f σ) σ) f
 | .cI pre m1 mid1 m2 mid2 post,Q,f,σ=>nK C (.cI pre m1 mid1 m2 mid2 post) f σ Q
 | .seq a b,Q,f,σ=>xq C a (pQ (xq C b Q) Q) f σ
 | .cond c a b,Q,f,σ=>w8 (uI f c) (xq C a Q f σ) (xq C b Q f σ)
 | .block id c,Q,f,σ=>xq C c (tS id Q) f σ
 | .loop c,Q,f,σ=>wpS C (.loop c) f σ Q
 | .cK g ps a c,Q,f,σ=>wpS C (.cK g ps a c) f σ Q
 | .cH pre m1 mid1 m2 mid2 post free,Q,f,σ=>wpS C (.cH pre m1 mid1 m2 mid2 post free) f σ Q
 | .cJ pre m mid un post fl,Q,f,σ=>wpS C (.cJ pre m mid un post fl) f σ Q
 | .exit id,Q,f,σ=>Q (.exit id) f σ
 | .ret,Q,f,σ=>Q .ret f σ
 | .pw ..,_,_,_=>False
 | .po ..,_,_,_=>False
 | .pn ..,_,_,_=>False
 | .mG pre it m out nx more next pair rest code,Q,f,σ=>lM C pre (eT C it m out nx more next pair rest code Q) f σ
theorem pE (C:Cx):∀ (dc:DC) (Q:Exit->Fr->St->Prop) (f:Fr) (σ:St),xq C dc Q f σ=nK C dc f σ Q
 | .skip,Q,f,σ=>rfl
 | .cM pre post,Q,f,σ=>by
  unfold xq nK;rw [qJ]
  have:cE C post Q σ=λf=>vZ C post f σ λf σ=>Q .normal f σ:=by funext f;unfold cE;rw [kX];rfl
  rw [this]
 | .xl pre m mid un post,Q,f,σ=>by
  unfold xq nK;rw [qJ]
  have:cA C m.k (ub C pre m.dst mid un post Q f σ) σ=λf1=>vM C σ (uI f1) m.k λd σ1=>pf C pre m.dst mid un f σ (λf σ=>vZ C post f σ λf σ=>Q .normal f σ) f1 d σ1:=by funext f1;unfold cA;rw [oc];congr 1;funext d σ1;exact gr
  rw [this]
 | .cI ..,Q,f,σ=>rfl
 | .seq a b,Q,f,σ=>by
  have ih:xq C b Q=λf σ=>nK C b f σ Q:=by funext f σ; exact pE C b Q f σ
  unfold xq;rw [pE C a,ih];rfl
 | .cond c a b,Q,f,σ=>by unfold xq;rw [pE C a,pE C b];rfl
 | .block id c,Q,f,σ=>by unfold xq; rw [pE C c]; rfl
 | .loop c,Q,f,σ=>rfl
 | .cK g ps a c,Q,f,σ=>rfl
 | .cH ..,Q,f,σ=>rfl
 | .cJ ..,Q,f,σ=>rfl
 | .exit id,Q,f,σ=>rfl
 | .ret,Q,f,σ=>rfl
 | .pw ..,_,_,_=>rfl
 | .po ..,_,_,_=>rfl
 | .pn ..,_,_,_=>rfl
 | .mG pre it m out nx more next pair rest code,Q,f,σ=>by unfold xq nK; rw [kX]; rfl
noncomputable def eU {α:Sort u} (a:α):α:=Classical.choose (⟨a,rfl⟩:∃ b:α,b=a)
theorem mX {α:Sort u} (a:α):eU a=a:=Classical.choose_spec (⟨a,rfl⟩:∃ b:α,b=a)
noncomputable def fC (C:Cx):List xR->(Fr->St->Prop)->Fr->St->Prop:=eU (lM C)
noncomputable def hJ (C:Cx) (σ:St):List xR->(Fr->Prop)->Fr->Prop:=eU (lN C σ)
noncomputable def gR (C:Cx):DC->(Exit->Fr->St->Prop)->Fr->St->Prop:=eU (xq C)
theorem oH (C:Cx):fC C=lM C:=mX _
theorem qK (C:Cx) (σ:St):hJ C σ=lN C σ:=mX _
theorem vB (C:Cx):gR C=xq C:=mX _
section
variable (C : Cx) (σ : St) (f : Fr) (Q : Exit -> Fr -> St -> Prop) (K : Fr -> St -> Prop) (K1 : Fr -> Prop) (a b c : DC) (dst : Option Nat) (g : Option (Nat × Bool)) (k : DK) (rest pre post : List xR) (x : zZ) (id : Nat)
theorem mc : fC C [] K f σ=K f σ:=by rw [oH]; rfl
theorem sg : fC C (⟨dst,g,k⟩ :: rest) K f σ=gd g f (gQ C σ (uI f) k (ct f dst (fC C rest K))) (fC C rest K (f.put dst .vT) σ):=by rw [oH]; rfl
theorem mh : hJ C σ [] K1 f=K1 f:=by rw [qK]; rfl
theorem sk : hJ C σ (⟨dst,g,k⟩ :: rest) K1 f=gd g f (pX C σ (uI f) k (cu f dst (hJ C σ rest K1))) (hJ C σ rest K1 (f.put dst .vT)):=by rw [qK]; rfl
def wb (C:Cx) (post:List xR) (Q:Exit->Fr->St->Prop) (σ:St) (f:Fr):Prop:=fC C post (mI Q) f σ
theorem nm : gR C .skip Q f σ=Q .normal f σ:=by rw [vB]; rfl
theorem jd : gR C (.cM pre post) Q f σ=hJ C σ pre (wb C post Q σ) f:=by
 have e:wb C post Q σ=cE C post Q σ:=by funext f; unfold wb cE; rw [oH]
 rw [vB,qK,e]; rfl
def vz (C:Cx) (k:DK) (K:Fr->D->St->Prop) (σ:St) (f1:Fr):Prop:=gQ C σ (uI f1) k (K f1)
def o7 (C:Cx) (un:Bool) (mid:List xR) (f1:Fr) (σ:St) (K:Fr->St->Prop) (σ1:St) (f2:Fr):Prop:=(if un=true then hJ C σ mid (w9 f2) f1 else True)/\ K f2 σ1
def jj (C:Cx) (pre:List xR) (dst:Option Nat) (mid:List xR) (un:Bool) (post:List xR) (Q:Exit->Fr->St->Prop) (f:Fr) (σ:St) (f1:Fr) (d:D) (σ1:St):Prop:= hJ C σ1 pre (w9 f1) f/\hJ C σ1 mid (o7 C un mid (f1.put dst d) σ (fC C post (mI Q)) σ1) (f1.put dst d)
theorem nj {mid:List xR} {un:Bool}:gR C (.xl pre ⟨dst,g,k⟩ mid un post) Q f σ=hJ C σ pre (vz C k (jj C pre dst mid un post Q f σ) σ) f:=by
 have e:vz C k (jj C pre dst mid un post Q f σ) σ=cA C k (ub C pre dst mid un post Q f σ) σ:=by
  funext f1;unfold vz cA;congr 1;funext d σ1;unfold jj ub
  have e2:o7 C un mid (f1.put dst d) σ (fC C post (mI Q)) σ1=z6 C un mid (f1.put dst d) σ (lM C post (mI Q)) σ1:=by funext f2; unfold o7 z6; rw [oH,qK]
  rw [e2,qK]
 rw [vB,qK,e]; rfl
theorem kb (f:Fr):w9 f f=True:=eq_true rfl
theorem jf : gR C (.seq a b) Q f σ=gR C a (pQ (gR C b Q) Q) f σ:=by rw [vB]; rfl
theorem ng : gR C (.cond x a b) Q f σ=w8 (uI f x) (gR C a Q f σ) (gR C b Q f σ):=by rw [vB]; rfl
theorem tt : gR C (.block id c) Q f σ=gR C c (tS id Q) f σ:=by rw [vB]; rfl
theorem ni : gR C (.loop c) Q f σ=wpS C (.loop c) f σ Q:=by rw [vB]; rfl
theorem nk {g:zZ} {ps:List Nat}:gR C (.cK g ps a c) Q f σ=wpS C (.cK g ps a c) f σ Q:=by rw [vB]; rfl
theorem nh : gR C (.exit id) Q f σ=Q (.exit id) f σ:=by rw [vB]; rfl
theorem je : gR C .ret Q f σ=Q .ret f σ:=by rw [vB]; rfl
theorem tu {it:Nat} {m:zZ} {out nx more next pair:Nat} {rst:List xR} {code:DC}:gR C (.mG pre it m out nx more next pair rst code) Q f σ=fC C pre (eT C it m out nx more next pair rst code Q) f σ:=by rw [vB,oH]; rfl
end
theorem yQ {C:Cx} (hm:C.P.follows .mixedOrders=true) {dc:DC} {f:Fr} {σ:St} {Q:Exit->Fr->St->Prop} (h:gR C dc Q f σ):wpS C dc f σ Q:= oo hm (by rw [<- pE,<- vB]; exact h)
theorem xU.p3 {P:Program} {g:FuncId} {fn:Func} {own:List Nat} {N:Nat} {dc:DC} {rs:List oM} {args:List D} {σ:St} {d:D} {σ':St} (hm:P.follows .mixedOrders=true) (hf:P.funcs[g]?=some fn)
  (hc:xV P own fn=some (N,dc,rs)) (hla:args.length<=N)
  (h:D.tV args->gR ⟨P,N,σ.nx,own,none⟩ dc (bX ⟨P,N,σ.nx,own,none⟩ rs d σ') (qX 0 args) σ):xU P g args σ d σ':=
 xU.p6 hm hf hc hla λhfa=>by rw [<- pE,<- vB]; exact h hfa
end Go.Pd
namespace Go.Pd
open Go
theorem wN (s:BitVec 64) (w:Nat):s >>> w &&& 1#64=if s.getLsbD w then 1#64 else 0#64:=by
 apply ω;rw [BitVec.toNat_and,Aa];have:(1#64).toNat=1:=rfl;rw [this,Nat.and_one_is_mod];unfold BitVec.getLsbD;rw [Nat.testBit_eq_decide_div_mod_eq,Ag]
 by_cases h:s.toNat / 2 ^ w % 2=1
 ·simp [h]
 ·simp [h]; omega
theorem wH (s:BitVec 64) (w:Nat):(s >>> w &&& 1#64==1#64)= s.getLsbD w:=by rw [wN];cases s.getLsbD w <;> rfl
theorem iw {k:Nat} (hk:k<62):cL .i64 1 k=((2 ^ k:Nat):Int):=by
 have hp:2 ^ k<2 ^ 62:=Nat.pow_lt_pow_right (by omega) hk;unfold cL
 have e:min (k:Int).toNat IntKind.i64.bits=k:=by have:IntKind.i64.bits=64:=rfl;rw [this,Aj]; omega
 rw [e,Int.one_mul,wrap_i64]
 ·simp
 ·have:((2:Int)^ k)= ((2 ^ k:Nat):Int):=by simp
  rw [this];exact⟨Int.le_trans (by decide) (Ai _),Int.le_trans (Int.ofNat_le.2 (Nat.le_of_lt hp)) (by decide)⟩
end Go.Pd
namespace Go.Pd
open Go
theorem qy (key sz:Nat):yW key sz [] = .xB:=rfl
theorem zl (key sz:Nat) (e:List D) (r:List (List D)):yW key sz (e :: r)= .yR key sz (r.length+1):=rfl
theorem qx (key sz:Nat):xH key sz [] = []:=rfl
theorem zm (key sz:Nat) (e:List D) (r:List (List D)):xH key sz (e :: r)= [(key,⟨sz,e :: r⟩)]:=rfl
theorem bP (k:IntKind):rows k [] = []:=rfl
theorem gA (k:IntKind) (n:Int) (l:List Int):rows k (n :: l)= [.int k n] :: rows k l:=rfl
theorem gB (k:IntKind) (l:List Int) (n:Int):rows k l ++ [[.int k n]]=rows k (l ++ [n]):=by simp [rows]
theorem eH (l:List (List (BitVec 64))) (r:List (BitVec 64)):rr l ++ [[.sl 1 (us r)]]=rr (l ++ [r]):=by simp [rr,jl]
theorem od : rr [] = []:=rfl
theorem vl (l:List (BitVec 64)) (r:List (List (BitVec 64))):rr (l :: r)= [.sl 1 (us l)] :: rr r:=rfl
variable [zF]
def up (n:Nat) (k:Nat):Nat:=if k=n then n+1 else k
end Go.Pd
namespace Go.Pd
open Go
def vL (sz:Nat):List (List D)->Option Ob
 | []=>none
 | e :: r=>some ⟨sz,e :: r⟩
theorem oZ {k s:Nat} {xX:List (List D)} {r:List (Nat × Ob)} {k':Nat}:St.look (xH k s xX++r) k'=if k=k' then(vL s xX).or (St.look r k') else St.look r k':=by
 cases xX with
 | nil=>simp [xH,vL]
 | cons e l=>simp [xH,vL,St.look]
theorem lV {k s:Nat} {xX:List (List D)} {k':Nat}:St.look (xH k s xX) k'=if k=k' then vL s xX else none:=by have:=oZ (k:=k) (s:=s) (xX:=xX) (r:=[]) (k':=k');simp only [δ,St.look,Option.or_none] at this;exact this
theorem lT {k s:Nat} {xX:List (List D)} {r:List (Nat × Ob)} {k':Nat}:yO (xH k s xX++r) k'=if k=k' then yO r k' else xH k s xX++yO r k':=by
 cases xX with
 | nil=>simp [xH]
 | cons e l=>simp [xH,yO]
theorem cR {k s:Nat} {xX:List (List D)} {k':Nat}:yO (xH k s xX) k'=if k=k' then [] else xH k s xX:=by have:=lT (k:=k) (s:=s) (xX:=xX) (r:=[]) (k':=k');simp only [δ,yO] at this;exact this
theorem bS : ∀ {r:List (Nat × Ob)} {k:Nat} {o:Ob},St.look r k=none->vY r k o=r
 | [],_,_,_=>rfl
 | (j,o') :: r,k,o,h=>by
  simp only [St.look] at h
  split at h
  ·cases h
  ·rename_i hn;simp only [vY,if_neg hn,bS h]
theorem iN : ∀ {r:List (Nat × Ob)} {k:Nat},St.look r k=none->yO r k=r
 | [],_,_=>rfl
 | (j,o') :: r,k,h=>by
  simp only [St.look] at h
  split at h
  ·cases h
  ·rename_i hn;simp only [yO,if_neg hn,iN h]
theorem gE {k s:Nat} {xX els':List (List D)} {r:List (Nat × Ob)} (hl:els'.length=xX.length) (h:St.look r k=none):vY (xH k s xX++r) k ⟨s,els'⟩= xH k s els'++r:=by
 cases xX with
 | nil=> have:els' = []:=List.eq_nil_of_length_eq_zero (by simpa using hl);subst this;simp only [xH,ζ];exact bS h
 | cons e l=>
  cases els' with
  | nil=>simp at hl
  | cons e' l'=>simp [xH,vY]
theorem yt {k s:Nat} {xX els':List (List D)} (hl:els'.length=xX.length):vY (xH k s xX) k ⟨s,els'⟩= xH k s els':=by have:=gE (k:=k) (s:=s) (r:=[]) hl rfl;simp only [δ] at this;exact this
theorem cY {k s:Nat} {xX:List (List D)} {r:List (Nat × Ob)} {k':Nat} {o:Ob} (h:k≠k'):vY (xH k s xX++r) k' o=xH k s xX++vY r k' o:=by
 cases xX with
 | nil=>simp [xH]
 | cons e l=>simp [xH,vY,h]
theorem xw (k s:Nat) (xX:List (List D)):(yW k s xX).cells=some [yW k s xX]:=by cases xX <;> rfl
theorem se (k s:Nat) (xX:List (List D)):(yW k s xX).one=true:=by cases xX <;> rfl
theorem qj (k s n:Nat):(D.yR k s n).cells=some [.yR k s n]:=rfl
theorem qn (k s l n:Nat):(D.sub k s l n).cells=some [.sub k s l n]:=rfl
theorem qi (k:IntKind) (n:Int):(D.int k n).cells=some [.int k n]:=rfl
theorem wz (b:Bool):(D.bool b).cells=some [.bool b]:=rfl
theorem qm (s:ByteArray):(D.str s).cells=some [.str s]:=rfl
theorem jw (sz:Nat) (xX:List (List D)):(D.sl sz xX).cells=some [.sl sz xX]:=rfl
theorem zc : D.xB.cells=some [.xB]:=rfl
theorem qh : D.emp.cells=some [.emp]:=rfl
theorem qg (cs:List D):(D.agg cs).cells=some cs:=rfl
theorem jv (f:FuncId) (cs:List D):(D.fn f cs).cells=some [.fn f cs]:=rfl
theorem ql (a b c d:Nat):(D.ref a b c d).cells=some [.ref a b c d]:=rfl
theorem qk (cs:List D):(D.ptr cs).cells=some [.ptr cs]:=rfl
theorem wy (k:Nat):(D.yH k).cells=some [.yH k]:=rfl
theorem zb : D.rG.cells=some [.rG]:=rfl
theorem za : D.tC.cells=some [.tC]:=rfl
theorem wx : D.rF.cells=some [.rF]:=rfl
theorem ia (k:IntKind) (n:Int):(D.int k n).one=true:=rfl
theorem lq (b:Bool):(D.bool b).one=true:=rfl
theorem ij (s:ByteArray):(D.str s).one=true:=rfl
theorem au (sz:Nat) (xX:List (List D)):(D.sl sz xX).one=true:=rfl
theorem mb : D.xB.one=true:=rfl
theorem gx : D.emp.one=true:=rfl
theorem ar (f:FuncId) (cs:List D):(D.fn f cs).one=true:=rfl
theorem ig (a b c d:Nat):(D.ref a b c d).one=true:=rfl
theorem ib (a b c:Nat):(D.yR a b c).one=true:=rfl
theorem ic (cs:List D):(D.ptr cs).one=true:=rfl
theorem lr (k:Nat):(D.yH k).one=true:=rfl
theorem ma : D.rG.one=true:=rfl
theorem lz : D.tC.one=true:=rfl
theorem lu : D.rF.one=true:=rfl
section
variable [zF]
theorem px {q:Bool} {σ:St} {sz bytes key:Nat} {xX:List (List D)} {rw:List (List D)} {K:D->St->Prop} (h:σ.get key=vL sz xX) (h0:rw ≠ []) :
  nH q σ sz bytes (yW key sz xX) (some rw) K=((∀ r ∈ rw,yS r=true)/\ (xX.length+rw.length)* bytes<=140737488355328/\xX.length+rw.length<=8000000000000 /\
   K (yW σ.nx sz (xX++rw)) ⟨σ.nx+1,xH σ.nx sz (xX++rw)++ yO σ.xW key⟩):=by
 cases xX with
 | nil=>
  obtain⟨r,rs,rfl⟩:∃ r rs,rw=r :: rs:=by cases rw with | nil=>exact absurd rfl h0 | cons r rs=>exact⟨r,rs,rfl⟩
  have he:yO σ.xW key=σ.xW:=iN h;simp only [nH,yW,xH,St.new,he,ζ,κ,Ah];simp
 | cons e l=>
  have e1:l.length+1+rw.length=l.length+rw.length+1:=by omega
  simp only [nH,yW,h,vL,St.erase,St.new,xH];simp [yW,xH,e1]
theorem wo {q:Bool} {nx:Nat} {xW:List (Nat × Ob)} {sz bytes key:Nat} {xX:List (List D)} {r:List D} {rs:List (List D)} {K:D->St->Prop} (h:St.look xW key=vL sz xX) :
  nH q ⟨nx,xW⟩ sz bytes (yW key sz xX) (some (r :: rs)) K=((∀ x ∈ r :: rs,yS x=true)/\ (xX.length+(r :: rs).length)* bytes<=140737488355328/\xX.length+(r :: rs).length<=8000000000000 /\
   K (yW nx sz (xX++r :: rs)) ⟨nx+1,xH nx sz (xX++r :: rs)++ yO xW key⟩):=px h (by simp)
theorem jr {q:Bool} {σ:St} {sz bytes:Nat} {r:List D} {rs:List (List D)} {K:D->St->Prop} :
  nH q σ sz bytes .xB (some (r :: rs)) K=((∀ x ∈ r :: rs,yS x=true)/\ (r :: rs).length*bytes<=140737488355328/\(r :: rs).length<=8000000000000/\K (.yR σ.nx sz (r :: rs).length) (σ.new ⟨sz,r :: rs⟩)):=by
 simp [nH]
theorem js {q:Bool} {σ:St} {sz sz' bytes key n:Nat} {rows:List (List D)} {K:D->St->Prop} :
  nH q σ sz bytes (.yR key sz' n) (some rows) K=((∀ x ∈ rows,yS x=true)/\ match σ.get key with
   | some ob=>sz=sz'/\ob.sz=sz/\n<=ob.xX.length/\(n+rows.length)* bytes<=140737488355328/\n+rows.length<=8000000000000/\K (.yR σ.nx sz (n+rows.length)) ((σ.erase key).new ⟨sz,ob.xX.take n++rows⟩)
   | none=>False):=rfl
def xn (nx:Nat) (xW:List (Nat × Ob)) (n key sz i off:Nat) (ds:List D) (K:D->St->Prop):Option Ob->Prop
 | some ob=>ob.sz=sz/\i<ob.xX.length/\ds.length=n/\off+n<=sz/\yS ds=true/\K .vT ⟨nx,vY xW key ⟨sz,ob.xX.set i (sP (ob.xX.getD i []) off ds)⟩⟩
 | none=>False
@[congr] theorem x9 {nx : Nat} {xW : List (Nat × Ob)} {n key sz i off : Nat} {ds : List D} {K : D -> St -> Prop} {o o' : Option Ob} (h : o = o') : xn nx xW n key sz i off ds K o = xn nx xW n key sz i off ds K o' := by rw [h]
theorem nc {nx:Nat} {xW:List (Nat × Ob)} {n key sz i off:Nat} {ds:List D} {K:D->St->Prop}:pj ⟨nx,xW⟩ n (.ref key sz i off) (some ds) K=xn nx xW n key sz i off ds K (St.look xW key):=by simp only [pj,St.get];cases St.look xW key <;> rfl
theorem tj {nx:Nat} {xW:List (Nat × Ob)} {n key sz i off:Nat} {ds:List D} {K:D->St->Prop} {sz':Nat} {xX:List (List D)} :
  xn nx xW n key sz i off ds K (some ⟨sz',xX⟩)= (sz'=sz/\i<xX.length/\ds.length=n/\off+n<=sz/\yS ds=true/\K .vT ⟨nx,vY xW key ⟨sz,xX.set i (sP (xX.getD i []) off ds)⟩⟩):=rfl
theorem ti {nx:Nat} {xW:List (Nat × Ob)} {n key sz i off:Nat} {ds:List D} {K:D->St->Prop} {xX:List (List D)} :
  xn nx xW n key sz i off ds K (vL sz xX)= (i<xX.length/\ds.length=n/\off+n<=sz/\yS ds=true/\K .vT ⟨nx,vY xW key ⟨sz,xX.set i (sP (xX.getD i []) off ds)⟩⟩):=by
 cases xX with
 | nil=>simp [xn,vL]
 | cons e l=>simp [xn,vL]
def kO (n:Nat) (ag:Bool) (sz i off:Nat) (K:D->Prop):Option Ob->Prop
 | some o=>o.sz=sz/\i<o.xX.length/\off+n<=sz/\(ag=true\/n=1)/\ K (wD ag (((o.xX.getD i []).drop off).take n))
 | none=>False
@[congr] theorem dm {n sz i off : Nat} {ag : Bool} {K : D -> Prop} {o o' : Option Ob} (h : o = o') : kO n ag sz i off K o = kO n ag sz i off K o' := by rw [h]
theorem rp {nx:Nat} {xW:List (Nat × Ob)} {n key sz i off:Nat} {ag:Bool} {K:D->Prop}:kP ⟨nx,xW⟩ n ag (.ref key sz i off) K=kO n ag sz i off K (St.look xW key):=by simp only [kP,St.get];cases St.look xW key <;> rfl
theorem zt {n sz i off:Nat} {ag:Bool} {K:D->Prop} {sz':Nat} {xX:List (List D)}:kO n ag sz i off K (some ⟨sz',xX⟩)= (sz'=sz/\i<xX.length/\off+n<=sz/\(ag=true\/n=1)/\ K (wD ag (((xX.getD i []).drop off).take n))):=rfl
theorem zr {n sz i off:Nat} {ag:Bool} {K:D->Prop} {xX:List (List D)}:kO n ag sz i off K (vL sz xX)= (i<xX.length/\off+n<=sz/\(ag=true\/n=1)/\ K (wD ag (((xX.getD i []).drop off).take n))):=by
 cases xX with
 | nil=>simp [kO,vL]
 | cons e l=>simp [kO,vL]
theorem rn {σ:St} {n:Nat} {ag:Bool} {cs:List D} {K:D->Prop}:kP σ n ag (.ptr cs) K=(n<=cs.length/\(ag=true\/n=1)/\ K (wD ag (cs.take n))):=rfl
def lL (kk:IntKind) (l:List (Int × D)):List (List D):=l.map λp=>[.int kk p.1,p.2]
def gH (x:Int):List (Int × D)->Nat->Option (Nat × D)
 | [],_=>none
 | (m,d) :: r,i=>if x=m then some (i,d) else gH x r (i+1)
def ck (l:List (Int × D)) (x:Int) (d:D):List (Int × D):=
 match gH x l 0 with
 | some (i,_)=>l.set i (x,d)
 | none=>l ++ [(x,d)]
theorem iP (kk:IntKind) (l:List (Int × D)):rI kk (lL kk l):=by intro row h;simp only [lL,ε] at h;obtain⟨p,_,rfl⟩:=h;exact⟨_,_,rfl⟩
theorem oY (kk:IntKind) (x:Int):∀ (l:List (Int × D)) (i:Nat),uR x (lL kk l) i=gH x l i
 | [],_=>rfl
 | (m,d) :: r,i=>by show uR x ([.int kk m,d] :: lL kk r) i=_;rw [uR,gH,oY kk x r (i+1)]
theorem zx (kk:IntKind) (l:List (Int × D)) (x:Int) (d:D):kR kk (lL kk l) x d=lL kk (ck l x d):=by
 unfold kR ck;rw [oY]
 cases gH x l 0 with
 | none=>simp [lL]
 | some p=>simp [lL,List.map_set]
def gJ (kk:IntKind) (x:Int) (zero:D) (ok:Bool) (K:D->Prop):Option Ob->Prop
 | some o=>o.sz=0/\rI kk o.xX/\K (rY ok zero (uR x o.xX 0))
 | none=>False
@[congr] theorem dq {kk : IntKind} {x : Int} {zero : D} {ok : Bool} {K : D -> Prop} {o o' : Option Ob} (h : o = o') : gJ kk x zero ok K o = gJ kk x zero ok K o' := by rw [h]
theorem zw {nx:Nat} {xW:List (Nat × Ob)} {zero:D} {ok:Bool} {key:Nat} {kk:IntKind} {x:Int} {K:D->Prop}:gK ⟨nx,xW⟩ zero ok (.yH key) (.int kk x) K=gJ kk x zero ok K (St.look xW key):=by simp only [gK,St.get];cases St.look xW key <;> rfl
theorem zz {σ:St} {zero:D} {ok:Bool} {kk:IntKind} {x:Int} {K:D->Prop}:gK σ zero ok .tC (.int kk x) K=K (rY ok zero none):=rfl
theorem iW {kk:IntKind} {x:Int} {zero:D} {ok:Bool} {K:D->Prop} {l:List (Int × D)}:gJ kk x zero ok K (some ⟨0,lL kk l⟩)= K (rY ok zero (gH x l 0)):=by simp only [gJ,oY];exact propext ⟨λh=>h.2.2,λh=>⟨trivial,iP kk l,h⟩⟩
theorem ry {kk:IntKind} {x:Int} {zero:D} {ok:Bool} {K:D->Prop}:gJ kk x zero ok K (some ⟨0,[]⟩)= K (rY ok zero none):=iW (l:=[])
def gN (nx:Nat) (xW:List (Nat × Ob)) (key:Nat) (kk:IntKind) (y:Int) (x:D) (K:D->St->Prop):Option Ob->Prop
 | some o=>o.sz=0/\rI kk o.xX/\K .vT ⟨nx,vY xW key ⟨0,kR kk o.xX y x⟩⟩
 | none=>False
@[congr] theorem du {nx : Nat} {xW : List (Nat × Ob)} {key : Nat} {kk : IntKind} {y : Int} {x : D} {K : D -> St -> Prop} {o o' : Option Ob} (h : o = o') : gN nx xW key kk y x K o = gN nx xW key kk y x K o' := by rw [h]
theorem ye {nx:Nat} {xW:List (Nat × Ob)} {key:Nat} {kk:IntKind} {y:Int} {x:D} {K:D->St->Prop}:cD ⟨nx,xW⟩ (.yH key) (.int kk y) x K=gN nx xW key kk y x K (St.look xW key):=by simp only [cD,St.get];cases St.look xW key <;> rfl
theorem jC {nx:Nat} {xW:List (Nat × Ob)} {key:Nat} {kk:IntKind} {y:Int} {x:D} {K:D->St->Prop} {l:List (Int × D)}:gN nx xW key kk y x K (some ⟨0,lL kk l⟩)= K .vT ⟨nx,vY xW key ⟨0,lL kk (ck l y x)⟩⟩:=by simp only [gN,zx];exact propext ⟨λh=>h.2.2,λh=>⟨trivial,iP kk l,h⟩⟩
theorem sa {nx:Nat} {xW:List (Nat × Ob)} {key:Nat} {kk:IntKind} {y:Int} {x:D} {K:D->St->Prop}:gN nx xW key kk y x K (some ⟨0,[]⟩)= K .vT ⟨nx,vY xW key ⟨0,lL kk [(y,x)]⟩⟩:=jC (l:=[])
theorem sb (zero:D):rY true zero none = .yK [zero,.bool false]:=rfl
theorem sc (zero:D) (i:Nat) (d:D):rY true zero (some (i,d))= .yK [d,.bool true]:=rfl
theorem yf (zero:D):rY false zero none=zero:=rfl
theorem yg (zero:D) (i:Nat) (d:D):rY false zero (some (i,d))= d:=rfl
theorem gl {sz:Nat} {xX:List (List D)} {K:D->Prop}:hE (.sl sz xX) K=K (.int .i64 xX.length):=rfl
theorem kn {k sz n:Nat} {K:D->Prop}:hE (.yR k sz n) K=K (.int .i64 n):=rfl
theorem ko {k sz lo n:Nat} {K:D->Prop}:hE (.sub k sz lo n) K=K (.int .i64 n):=rfl
theorem kl {sz key sz' lo len:Nat} {k:IntKind} {n:Int} {K:D->Prop}:eX sz (.sub key sz' lo len) (.int k n) K=(sz=sz'/\0<=n/\n<len/\K (.ref key sz (lo+n.toNat) 0)):=rfl
theorem rj {K:D->Prop}:hE .xB K=K (.int .i64 0):=rfl
theorem km {K:D->Prop}:hE .emp K=K (.int .i64 0):=rfl
theorem gg {sz sz':Nat} {xX:List (List D)} {k:IntKind} {n:Int} {K:D->Prop}:eX sz (.sl sz' xX) (.int k n) K=(sz=sz'/\0<=n/\n<xX.length/\K (.ptr (xX.getD n.toNat []))):=rfl
theorem kj {sz key sz' len:Nat} {k:IntKind} {n:Int} {K:D->Prop}:eX sz (.yR key sz' len) (.int k n) K=(sz=sz'/\0<=n/\n<len/\K (.ref key sz n.toNat 0)):=rfl
theorem la {neg:Bool} {K:D->Prop}:tT neg .xB .xB K=K (.bool (!neg)):=rfl
theorem lb {neg:Bool} {K:D->Prop} {a b c:Nat}:tT neg (.yR a b c) .xB K=K (.bool neg):=rfl
theorem lf {neg:Bool} {K:D->Prop} {a b c:Nat}:tT neg .xB (.yR a b c) K=K (.bool neg):=rfl
theorem lg {neg:Bool} {K:D->Prop}:tT neg .emp .xB K=K (.bool neg):=rfl
theorem lh {neg:Bool} {K:D->Prop}:tT neg .xB .emp K=K (.bool neg):=rfl
theorem lj {neg:Bool} {K:D->Prop} {sz:Nat} {e:List D} {r:List (List D)}:tT neg (.sl sz (e :: r)) .xB K=K (.bool neg):=rfl
def jh (nx:Nat) (xW:List (Nat × Ob)) (sz sz' bytes key n:Nat) (rows:List (List D)) (K:D->St->Prop):Option Ob->Prop
 | some ob=>sz=sz'/\ob.sz=sz/\n<=ob.xX.length/\(n+rows.length)* bytes<=140737488355328/\n+rows.length<=8000000000000/\K (.yR nx sz (n+rows.length)) ⟨nx+1,(nx,⟨sz,ob.xX.take n++rows⟩) :: yO xW key⟩
 | none=>False
@[congr] theorem y7 {nx : Nat} {xW : List (Nat × Ob)} {sz sz' bytes key n : Nat} {rows : List (List D)} {K : D -> St -> Prop} {o o' : Option Ob} (h : o = o') : jh nx xW sz sz' bytes key n rows K o = jh nx xW sz sz' bytes key n rows K o' := by rw [h]
theorem qa {q:Bool} {nx:Nat} {xW:List (Nat × Ob)} {sz sz' bytes key n:Nat} {rows:List (List D)} {K:D->St->Prop} :
  nH q ⟨nx,xW⟩ sz bytes (.yR key sz' n) (some rows) K=((∀ x ∈ rows,yS x=true)/\ jh nx xW sz sz' bytes key n rows K (St.look xW key)):=by
 rw [js];simp only [St.get];cases St.look xW key <;> rfl
theorem py {nx:Nat} {xW:List (Nat × Ob)} {sz sz' bytes key n:Nat} {rows:List (List D)} {K:D->St->Prop} {sz0:Nat} {xX:List (List D)} :
  jh nx xW sz sz' bytes key n rows K (some ⟨sz0,xX⟩)= (sz=sz'/\sz0=sz/\n<=xX.length/\(n+rows.length)* bytes<=140737488355328/\n+rows.length<=8000000000000/\K (.yR nx sz (n+rows.length)) ⟨nx+1,(nx,⟨sz,xX.take n++rows⟩) :: yO xW key⟩):=rfl
def vv (q:Bool) (nx:Nat) (xW:List (Nat × Ob)) (sz sz' bytes key lo n:Nat) (rows:List (List D)) (K:D->St->Prop):Option Ob->Prop
 | some ob=>q=true/\sz=sz'/\ob.sz=sz/\lo+n<=ob.xX.length/\(n+rows.length)* bytes<=140737488355328/\n+rows.length<=8000000000000 /\
  ∀ pre:List (List D),(pre = []\/pre=ob.xX.take lo)->K (.sub nx sz pre.length (n+rows.length)) ⟨nx+1,(nx,⟨sz,pre++((ob.xX.drop lo).take n++rows)⟩) :: yO xW key⟩
 | none=>False
@[congr] theorem de {q : Bool} {nx : Nat} {xW : List (Nat × Ob)} {sz sz' bytes key lo n : Nat} {rows : List (List D)} {K : D -> St -> Prop} {o o' : Option Ob} (h : o = o') : vv q nx xW sz sz' bytes key lo n rows K o = vv q nx xW sz sz' bytes key lo n rows K o' := by rw [h]
theorem qb {q:Bool} {nx:Nat} {xW:List (Nat × Ob)} {sz sz' bytes key lo n:Nat} {rows:List (List D)} {K:D->St->Prop} :
  nH q ⟨nx,xW⟩ sz bytes (.sub key sz' lo n) (some rows) K=((∀ x ∈ rows,yS x=true)/\ vv q nx xW sz sz' bytes key lo n rows K (St.look xW key)):=by
 simp only [nH,St.get];cases St.look xW key <;> rfl
theorem wm {q:Bool} {nx:Nat} {xW:List (Nat × Ob)} {sz sz' bytes key lo n:Nat} {rows:List (List D)} {K:D->St->Prop} {sz0:Nat} {xX:List (List D)} :
  vv q nx xW sz sz' bytes key lo n rows K (some ⟨sz0,xX⟩)= (q=true/\sz=sz'/\sz0=sz/\lo+n<=xX.length/\(n+rows.length)* bytes<=140737488355328/\n+rows.length<=8000000000000 /\
   ∀ pre:List (List D),(pre = []\/pre=xX.take lo)->K (.sub nx sz pre.length (n+rows.length)) ⟨nx+1,(nx,⟨sz,pre++((xX.drop lo).take n++rows)⟩) :: yO xW key⟩):=rfl
theorem ri {key sz:Nat} {xX:List (List D)} {K:D->Prop}:hE (yW key sz xX) K=K (.int .i64 xX.length):=by cases xX <;> simp [hE,yW]
theorem ra {key sz sz':Nat} {xX:List (List D)} {k:IntKind} {n:Int} {K:D->Prop}:eX sz' (yW key sz xX) (.int k n) K=(sz'=sz/\0<=n/\n<xX.length/\K (.ref key sz n.toNat 0)):=by
 cases xX with
 | nil=>simp only [eX,yW,κ]; simp; intro _ h1 h2; omega
 | cons e l=>simp [eX,yW]; rintro rfl _ _; rfl
theorem aL {key sz:Nat} {neg:Bool} {xX:List (List D)} {K:D->Prop}:tT neg (yW key sz xX) .xB K=K (.bool (if neg then !xX.isEmpty else xX.isEmpty)):=by cases xX <;> cases neg <;> simp [tT,yW]
def sw : List (Nat × Nat)->Nat->Nat
 | [],k=>k
 | (a,b) :: r,k=>if k=a then b else sw r k
def vD (xX:List (List D)):Prop:=∀ e ∈ xX,D.xZ e=true
theorem jT (l:List (BitVec 64)):vD (us l)= True:=eq_true (eJ l)
theorem mi (l:List (List (BitVec 64))):vD (rr l)= True:=eq_true (vm l)
theorem yh (k:IntKind) (l:List Int):vD (rows k l)= True:=eq_true (wV k l)
theorem sm : vD []=True:=by simp [vD]
theorem cV (a b:List (List D)):vD (a++b)= (vD a/\vD b):=by simp only [vD,List.mem_append];exact propext ⟨λh=>⟨λe he=>h e (.inl he),λe he=>h e (.inr he)⟩,λh e he=>he.elim (h.1 e) (h.2 e)⟩
theorem sn (l:List (BitVec 64)) (i:Nat) (s:BitVec 64):vD ((us l).set i [.int .u64 (ui s)])= True:=by rw [om,jT]
theorem jc {σ σ':St} {ρ:Nat->Nat} {a b sz:Nat} {xX:List (List D)}:vw σ σ' ρ (yW a sz xX) (yW b sz xX)= (xX = []\/(b<σ'.nx/\a=ρ b)):=by
 cases xX with
 | nil=>simp [yW,vw]
 | cons e l=>simp [yW,vw]
def cm (σ':St) (ρ:Nat->Nat) (k0:Nat):Prop:=∀ p ∈ σ'.xW,ρ p.1≠k0
theorem yx {σ σ':St} {ρ:Nat->Nat} {k0 sz:Nat} {xX:List (List D)} (hs:0<sz) (h:cm σ' ρ k0) (hg:σ.get k0=vL sz xX) (hp:vD xX):vw σ σ' ρ (yW k0 sz xX) (.sl sz xX)= True:=by
 cases xX with
 | nil=>simp [yW,vw]
 | cons e l=> refine eq_true ?_;simp only [yW,vw];exact⟨trivial,hs,h,⟨sz,e :: l⟩,hg,rfl,Af _,by simp,hp⟩
def ff (σ σ':St) (ρ:Nat->Nat) (as bs:List (List D)):Prop:=jo σ σ' ρ as bs
theorem nf {σ σ':St} {ρ:Nat->Nat} {xX:List (List D)} (h:vD xX):ff σ σ' ρ xX xX=True:=eq_true (.same h)
end
section
variable [zF]
theorem bW {σ σ':St} {ρ:Nat->Nat}:∀ {a:List D},D.xZ a=true->sB σ σ' ρ a a:=by
 intro a h
 have key:∀ d:D,d.xS=true->vw σ σ' ρ d d:=by
  intro d
  refine D.rec (motive_1:=λd=>d.xS=true->vw σ σ' ρ d d) (motive_2:=λ_=>True) (motive_3:=λcs=>D.xZ cs=true->sB σ σ' ρ cs cs)
   ?top ?vT ?int ?bool ?str ?sl ?xB ?emp ?agg ?yK ?fn ?ref ?yR ?sub ?ptr ?yH ?rG ?tC ?rF ?lO trivial (λ_ _ _ _=>trivial) ?nil ?cons d
  case agg=>intro cs ih h; simp only [D.xS] at h; simp only [vw]; exact⟨trivial,ih h⟩
  case yK=>intro cs ih h; simp only [D.xS] at h; simp only [vw]; exact⟨trivial,ih h⟩
  case fn=>intro f cs ih h; simp only [D.xS] at h; simp only [vw]; exact⟨trivial,trivial,ih h⟩
  case ref=>intro k sz i off h; simp [D.xS] at h
  case yR=>intro k sz n h; simp [D.xS] at h
  case sub=>intro k sz lo n h; simp [D.xS] at h
  case yH=>intro k h; simp [D.xS] at h
  case nil=>intro _; simp [sB]
  case cons=> intro d r h1 h2 h;simp only [D.xZ,ψ] at h;simp only [sB];exact⟨h1 h.1,h2 h.2⟩
  case ptr=>intro cs _ _; simp [vw]
  all_goals intros; simp [vw]
 induction a with
 | nil=>simp [sB]
 | cons d r ih=> simp only [D.xZ,ψ] at h;simp only [sB];exact⟨key d h.1,ih h.2⟩
theorem bV {σ σ':St} {ρ:Nat->Nat}:∀ {xX:List (List D)} {a b:List D},vD xX->a.length=b.length->sB σ σ' ρ a b->jo σ σ' ρ (xX ++ [a]) (xX ++ [b])
 | [],a,b,_,hl,h=>.cons hl h .nil
 | e :: r,a,b,hp,hl,h=>.cons rfl (bW (hp e (by simp))) (bV (λx hx=>hp x (by simp [hx])) hl h)
theorem bz {σ σ':St} {ρ:Nat->Nat} {xX:List (List D)} {a b:List D} (h:ff σ σ' ρ (xX ++ [a]) (xX ++ [b])):a.length=b.length/\sB σ σ' ρ a b:=by
 have:=(lD (show jo σ σ' ρ (xX ++ [a]) (xX ++ [b]) from h)).2 xX.length (by simp);have e1:∀ x:List D,(xX ++ [x]).getD xX.length []=x:=by intro x; simp [List.getD]
 rw [e1,e1] at this;refine⟨this.1,?_⟩
 rcases this.2 with h | ⟨h1,h2⟩
 ·exact h
 ·rw [h1]; exact bW h2
theorem sJ {σ σ':St} {ρ:Nat->Nat} {xX:List (List D)} {a b:List D} (hp:vD xX):ff σ σ' ρ (xX ++ [a]) (xX ++ [b])= (a.length=b.length/\sB σ σ' ρ a b):= propext ⟨λh=>bz h,λh=>bV hp h.1 h.2⟩
theorem jb {σ σ':St} {ρ:Nat->Nat} {a b:List D}:ff σ σ' ρ [a] [b]=(a.length=b.length/\sB σ σ' ρ a b):=sJ (xX:=[]) (by simp [vD])
theorem bx {σ σ':St} {ρ:Nat->Nat} {l:List (List (BitVec 64))} {r:List (BitVec 64)} {x:D}:ff σ σ' ρ (rr l ++ [[x]]) (rr (l ++ [r]))= sB σ σ' ρ [x] [.sl 1 (us r)]:=by rw [<- eH,sJ (vm l)];simp
def zP (σ σ':St) (ρ:Nat->Nat) (p:Nat × Ob):Prop:=p.1<σ'.nx/\∃ ob,σ.get (ρ p.1)= some ob/\ob.sz=p.2.sz/\ff σ σ' ρ ob.xX p.2.xX
def tZ (σ σ':St) (ρ:Nat->Nat) (l:List (Nat × Ob)):Prop:=∀ p ∈ l,zP σ σ' ρ p
theorem nB {σ σ':St} {ρ:Nat->Nat}:tZ σ σ' ρ []=True:=by simp [tZ]
theorem pB {σ σ':St} {ρ:Nat->Nat} {p:Nat × Ob} {l:List (Nat × Ob)}:tZ σ σ' ρ (p :: l)= (zP σ σ' ρ p/\tZ σ σ' ρ l):=by simp [tZ]
theorem jH {σ σ':St} {ρ:Nat->Nat} {k sz:Nat} {xX:List (List D)} {l:List (Nat × Ob)} (hk:k<σ'.nx) (hg:σ.get (ρ k)= vL sz xX) (hp:vD xX):tZ σ σ' ρ (xH k sz xX++l)= tZ σ σ' ρ l:=by
 cases xX with
 | nil=>rfl
 | cons e r=> simp only [xH,ξ,ζ,pB];refine propext ⟨λh=>h.2,λh=>⟨⟨hk,⟨sz,e :: r⟩,hg,rfl,.same hp⟩,h⟩⟩
theorem tA {σ σ':St} {ρ:Nat->Nat} {k sz:Nat} {xX:List (List D)} (hk:k<σ'.nx) (hg:σ.get (ρ k)= vL sz xX) (hp:vD xX):tZ σ σ' ρ (xH k sz xX)= True:=by have:=jH (l:=[]) hk hg hp;rw [δ,nB] at this;exact this
theorem kh {sz:Nat} {xX:List (List D)} (h:xX ≠ []):vL sz xX=some ⟨sz,xX⟩:=by
 cases xX with
 | nil=>exact absurd rfl h
 | cons e r=>rfl
theorem uO {σ σ':St} {ρ:Nat->Nat} {k sz:Nat} {xX els':List (List D)} {l:List (Nat × Ob)} (hk:k<σ'.nx) (hg:σ.get (ρ k)= vL sz els') (hq:ff σ σ' ρ els' xX):tZ σ σ' ρ (xH k sz xX++l)= tZ σ σ' ρ l:=by
 cases xX with
 | nil=>rfl
 | cons e r=>
  have hne:els' ≠ []:=by rintro rfl;have:=(lD (show jo σ σ' ρ [] (e :: r) from hq)).1;simp at this
  simp only [xH,ξ,ζ,pB];refine propext ⟨λh=>h.2,λh=>⟨⟨hk,⟨sz,els'⟩,?_,rfl,hq⟩,h⟩⟩;rw [hg,kh hne]
theorem dC {σ σ':St} {ρ:Nat->Nat} {k sz:Nat} {xX els':List (List D)} (hk:k<σ'.nx) (hg:σ.get (ρ k)= vL sz els') (hq:ff σ σ' ρ els' xX):tZ σ σ' ρ (xH k sz xX)= True:=by have:=uO (l:=[]) hk hg hq;rw [δ,nB] at this;exact this
def pv (ks:List Nat) (l:List (Nat × Ob)):Prop:=∀ p ∈ l,p.1 ∈ ks
theorem ux {ks:List Nat}:pv ks []=True:=by simp [pv]
theorem bD {ks:List Nat} {p:Nat × Ob} {l:List (Nat × Ob)}:pv ks (p :: l)= (p.1 ∈ ks/\pv ks l):=by simp [pv]
theorem bE {ks:List Nat} {k sz:Nat} {xX:List (List D)} {l:List (Nat × Ob)} (h:k ∈ ks):pv ks (xH k sz xX++l)= pv ks l:=by
 cases xX with
 | nil=>rfl
 | cons e r=>simp [xH,bD,h]
theorem rb {ks:List Nat} {k sz:Nat} {xX:List (List D)} (h:k ∈ ks):pv ks (xH k sz xX)= True:=by have:=bE (sz:=sz) (xX:=xX) (l:=[]) h;rw [δ,ux] at this;exact this
def oI (ρ:Nat->Nat) (k0:Nat) (l:List (Nat × Ob)):Prop:=∀ p ∈ l,ρ p.1≠k0
theorem fp {σ':St} {ρ:Nat->Nat} {k0:Nat}:cm σ' ρ k0=oI ρ k0 σ'.xW:=propext Iff.rfl
theorem fI {ρ:Nat->Nat} {k0:Nat}:oI ρ k0 []=True:=by simp [oI]
theorem iI {ρ:Nat->Nat} {k0:Nat} {p:Nat × Ob} {l:List (Nat × Ob)}:oI ρ k0 (p :: l)= (ρ p.1≠k0/\oI ρ k0 l):=by simp [oI]
theorem iJ {ρ:Nat->Nat} {k0 k sz:Nat} {xX:List (List D)} {l:List (Nat × Ob)}:oI ρ k0 (xH k sz xX++l)= ((xX = []\/ρ k≠k0)/\ oI ρ k0 l):=by
 cases xX with
 | nil=>simp [xH]
 | cons e r=>simp [xH,iI]
theorem xv {ρ:Nat->Nat} {k0 k sz:Nat} {xX:List (List D)}:oI ρ k0 (xH k sz xX)= (xX = []\/ρ k≠k0):=by have:=iJ (ρ:=ρ) (k0:=k0) (k:=k) (sz:=sz) (xX:=xX) (l:=[]);rw [δ,fI,and_true] at this;exact this
theorem zG.pq {C:Cx} {f f':Fr} {σ σ':St} (l:List (Nat × Nat)) (ks:List Nat) (hn:C.n0<=σ'.nx) (h0:∀ p ∈ l,C.n0<=p.1) (hd:(ks.map (sw l)).Nodup)
  (h:pv ks σ'.xW/\tZ σ σ' (sw l) σ'.xW/\pz σ σ' (sw l) f f'):zG C f σ f' σ':=by
 obtain⟨hk,hs,hf⟩:=h
 refine zG.view (sw l) hn ?_ hf ?_ ?_
 ·intro k hk
  induction l with
  | nil=>rfl
  | cons p l ih=>
   obtain⟨a,b⟩:=p;have:C.n0<=a:=h0 (a,b) (by simp);simp only [sw];rw [if_neg (by omega)];have hm:∀ p ∈ l,C.n0<=p.1:=λp hp=>h0 p (by simp [hp]);clear ih hd hs hf h0
   induction l with
   | nil=>rfl
   | cons q l ih=> obtain⟨c,d⟩:=q;have:C.n0<=c:=hm (c,d) (by simp);simp only [sw];rw [if_neg (by omega)];exact ih λp hp=>hm p (by simp [hp])
 ·intro p hp;obtain⟨h1,ob,h2,h3,h4⟩:=hs p hp;exact⟨h1,ob,h2,h3,h4⟩
 ·intro p hp q hq e;have h1:=hk p hp;have h2:=hk q hq
  have inj:∀ (ks:List Nat),(ks.map (sw l)).Nodup->∀ a ∈ ks,∀ b ∈ ks,sw l a=sw l b->a=b:=by
   intro ks
   induction ks with
   | nil=>intro _ a ha; simp at ha
   | cons x ks ih=>
    intro hd a ha b hb e;simp only [θ,List.nodup_cons,ε,not_exists,not_and] at hd
    rcases η.1 ha with h1 | h1 <;> rcases η.1 hb with h2 | h2
    ·rw [h1,h2]
    ·rw [h1] at e; exact absurd e.symm (hd.1 b h2)
    ·rw [h2] at e; exact absurd e (hd.1 a h1)
    ·exact ih hd.2 a h1 b h2 e
  exact inj ks hd _ h1 _ h2 e
theorem oN.pq {n0:Nat} {σ σ':St} {d d':D} (l:List (Nat × Nat)) (ks:List Nat) (hn:n0<=σ'.nx) (h0:∀ p ∈ l,n0<=p.1) (hd:(ks.map (sw l)).Nodup)
  (h:pv ks σ'.xW/\tZ σ σ' (sw l) σ'.xW/\vw σ σ' (sw l) d d'):oN n0 σ d σ' d':=by
 obtain⟨hk,hs,hf⟩:=h
 refine .inr ⟨sw l,hn,?_,hf,?_,?_⟩
 ·intro k hk;have hm:∀ p ∈ l,n0<=p.1:=h0;clear hd hs hf h0
  induction l with
  | nil=>rfl
  | cons q l ih=> obtain⟨c,d⟩:=q;have:n0<=c:=hm (c,d) (by simp);simp only [sw];rw [if_neg (by omega)];exact ih λp hp=>hm p (by simp [hp])
 ·intro p hp;obtain⟨h1,ob,h2,h3,h4⟩:=hs p hp;exact⟨h1,ob,h2,h3,h4⟩
 ·intro p hp q hq e;have h1:=hk p hp;have h2:=hk q hq
  have inj:∀ (ks:List Nat),(ks.map (sw l)).Nodup->∀ a ∈ ks,∀ b ∈ ks,sw l a=sw l b->a=b:=by
   intro ks
   induction ks with
   | nil=>intro _ a ha; simp at ha
   | cons x ks ih=>
    intro hd a ha b hb e;simp only [θ,List.nodup_cons,ε,not_exists,not_and] at hd
    rcases η.1 ha with h1 | h1 <;> rcases η.1 hb with h2 | h2
    ·rw [h1,h2]
    ·rw [h1] at e; exact absurd e.symm (hd.1 b h2)
    ·rw [h2] at e; exact absurd e (hd.1 a h1)
    ·exact ih hd.2 a h1 b h2 e
  exact inj ks hd _ h1 _ h2 e
def wg (C:Cx) (Q:Exit->Fr->St->Prop) (e:Exit) (f:Fr) (σ:St):Prop:=∃ f' σ',zG C f σ f' σ'/\Q e f' σ'
theorem wg.go {C:Cx} {Q:Exit->Fr->St->Prop} {e:Exit} {f:Fr} {σ:St} (f':Fr) (σ':St) (hw:zG C f σ f' σ') (h:Q e f' σ'):wg C Q e f σ:=⟨f',σ',hw,h⟩
theorem tq {C:Cx} {dc:DC} {f:Fr} {σ:St} {Q:Exit->Fr->St->Prop} (h:wpS C dc f σ (wg C Q)):wpS C dc f σ Q:=by intro code hc E a w G;refine wpIn_mono (h code hc E a w G) λe a' w' hh=>?_;obtain⟨f1,σ1,G1,f2,σ2,hw,hq⟩:=hh;exact⟨f2,σ2,hw E a' w' G1,hq⟩
theorem tp {C:Cx} {dc:DC} {f:Fr} {σ:St} {Q:Exit->Fr->St->Prop} {α:Type} (g:α->Fr) (s:α->St) (I:α->Prop) (m:α->Nat) (a0:α) (h0:I a0) (hw:zG C f σ (g a0) (s a0))
  (round:∀ a,I a->wpS C dc (g a) (s a) (pQ (λf' σ'=>∃ a',I a'/\zG C f' σ' (g a') (s a')/\ m a'<m a) (wg C Q))):wpS C (.loop dc) f σ Q:=
 tq (xO g s I m a0 h0 hw round)
end
theorem ow : ((0:Nat):Int)= 0:=rfl
theorem vt {k:Nat} (h:k<9223372036854775807):IntKind.i64.wrap ((k:Int)+ 1)= ((k+1:Nat):Int):=by rw [wrap_i64 (by omega)]; omega
section
variable [zF]
theorem p0 (f:Fr) (n:Nat):uI f (.t n)= Fr.get f n:=rfl
theorem o9 (f:Fr) (d:D):uI f (.c d)= d:=rfl
theorem ml (f:Fr) (t:Nat) (d:D):Fr.put f (some t) d=(t,d) :: f:=rfl
theorem mj (f:Fr) (d:D):Fr.put f none d=f:=rfl
theorem get_nil (n:Nat):Fr.get [] n = .top:=rfl
theorem kf (t:Nat) (d:D) (r:Fr) (n:Nat):Fr.get ((t,d) :: r) n=if t=n then d else Fr.get r n:=rfl
theorem kq (k:Nat):St.look [] k=none:=rfl
theorem sF (j:Nat) (o:Ob) (r:List (Nat × Ob)) (k:Nat):St.look ((j,o) :: r) k=if j=k then some o else St.look r k:=rfl
theorem mz (k:Nat) (o:Ob):vY [] k o = []:=rfl
theorem vA (j:Nat) (o:Ob) (r:List (Nat × Ob)) (k:Nat) (o':Ob):vY ((j,o) :: r) k o'=if j=k then(j,o') :: r else(j,o) :: vY r k o':=rfl
theorem zh (k:Nat):yO [] k = []:=rfl
theorem aC (j:Nat) (o:Ob) (r:List (Nat × Ob)) (k:Nat):yO ((j,o) :: r) k=if j=k then yO r k else(j,o) :: yO r k:=rfl
theorem ah (n:Nat) (l:List (Nat × Ob)) (k:Nat):St.get ⟨n,l⟩ k=St.look l k:=rfl
theorem set_mk (n:Nat) (l:List (Nat × Ob)) (k:Nat) (o:Ob):St.set ⟨n,l⟩ k o=⟨n,vY l k o⟩:=rfl
theorem aq (n:Nat) (l:List (Nat × Ob)) (o:Ob):St.new ⟨n,l⟩ o=⟨n+1,(n,o) :: l⟩:=rfl
theorem kc (n:Nat) (l:List (Nat × Ob)) (k:Nat):St.erase ⟨n,l⟩ k=⟨n,yO l k⟩:=rfl
theorem ss (σ:St) (sz sz':Nat) (xX:List (List D)):rowsOf σ sz (.sl sz' xX)= if sz=sz' then some xX else none:=rfl
theorem aO (σ:St) (sz:Nat):rowsOf σ sz .xB=some []:=rfl
theorem yq (σ:St) (sz:Nat):rowsOf σ sz .emp=some []:=rfl
def zD :=γ @nm (γ @jd (γ @nj (γ @jf (γ @ng (γ @tt (γ @ni (γ @nk (γ @nh (γ @je (γ @tu (γ @mh (γ @sk (γ @mc (γ @sg (γ @fx @gf)))))))))))))))
def zT :=γ @p0 (γ @o9 (γ @ml (γ @mj (γ @get_nil (γ @kf (γ @kq (γ @sF (γ @mz (γ @vA (γ @zh (γ @aC (γ @ah (γ @set_mk (γ @aq (γ @kc (γ @ss (γ @aO (γ @yq (γ @Int.cast_ofNat_Int (γ @ow (γ @Int.toNat_zero (γ @Int.toNat_one (γ @beq_self_eq_true.{0} (γ @bne_self_eq_false.{0} (γ @Bool.false_eq_true (γ @kb (γ @ke (γ @fy (γ @ju (γ @wo (γ @jr (γ @qa (γ @py (γ @qb (γ @wm (γ @nc (γ @tj (γ @ti (γ @ri (γ @gl (γ @kn (γ @ko (γ @rj (γ @km (γ @ra (γ @gg (γ @kj (γ @kl (γ @aL (γ @la (γ @lb (γ @lf (γ @lg (γ @lh (γ @lj (γ @rp (γ @zt (γ @zr (γ @rn (γ @kx (γ @ky (γ @gz (γ @zw (γ @zz (γ @iW (γ @ry (γ @ye (γ @jC (γ @sa (γ @sb (γ @sc (γ @yf (γ @yg (γ @oZ (γ @lV (γ @lT (γ @cR (γ @gE (γ @yt (γ @cY (γ @Option.or_none.{0} (γ @List.length_set.{0} (γ @xw (γ @se (γ @Nat.lt_irrefl (γ @zE (γ @yC (γ @ix (γ @true_and (γ @and_true (γ @μ.{0} (γ @List.getD_cons_succ.{0} (γ @χ.{0} (γ @κ.{0} (γ @Bool.not_true (γ @Bool.not_false (γ @θ.{0,0} (γ @List.map_nil.{0,0} (γ @ζ.{0} (γ @ξ.{0} (γ @δ.{0} (γ @sj (γ @si (γ @List.take_succ_cons.{0} (γ @List.take_zero.{0} (γ @List.drop_succ_cons.{0} (γ @List.drop_zero.{0} (γ @false_implies (γ @or_true (γ @true_or (γ @Af (γ @Aj (γ @and_self (γ @j6 (γ @j7 (γ @j8 (γ @j9 (γ @bj (γ @r6 (γ @bt (γ @tn (γ @bh (γ @br (γ @bn (γ @bp (γ @bq (γ @bo (γ @og (γ @bk (γ @bg (γ @not_false_eq_true (γ @qj (γ @qn (γ @qi (γ @wz (γ @qm (γ @jw (γ @zc (γ @qh (γ @qg (γ @jv (γ @ql (γ @qk (γ @wy (γ @zb (γ @za (γ @wx (γ @ia (γ @lq (γ @ij (γ @au (γ @mb (γ @gx (γ @ar (γ @ig (γ @ib (γ @ic (γ @lr (γ @ma (γ @lz (γ @lu (γ @ν.{0} (γ @List.all_nil.{0} (γ @Bool.and_true (γ @Bool.and_self (γ @List.set_cons_zero.{0} (γ @List.set_cons_succ.{0} (γ @Ah (γ @Nat.add_zero (γ @Nat.zero_lt_succ (γ @Nat.lt_add_one (γ @decide_true (γ @decide_false (γ @gt_iff_lt.{0} (γ @ge_iff_le.{0} (γ @bd (γ @iv (γ @Bool.true_and (γ @decide_eq_true_eq (γ @decide_eq_false_iff_not (γ @qy (γ @zl (γ @qx (γ @zm (γ @sy (γ @gB (γ @vr (γ @eH (γ @bP (γ @gA (γ @oh (γ @vq (γ @υ.{0} (γ @List.cons_ne_nil.{0} (γ @List.take_length.{0} (γ @Option.map_some.{0,0} (γ @Option.map_none.{0,0} (γ @φ.{0} (γ @od @vl)))))))))))))))))))))))))))))))))))))))))))))))))))))))))))))))))))))))))))))))))))))))))))))))))))))))))))))))))))))))))))))))))))))))))))))))))))))))))))))))))))))))))))))))))))))))))))))))))))))))
def zR :=γ @ow (γ @bE (γ @rb (γ @bD (γ @ux (γ @jH (γ @tA (γ @uO (γ @dC (γ @pB (γ @nB (γ @bx (γ @sJ (γ @nf (γ @jb (γ @jc (γ @yx (γ @fp (γ @iJ (γ @xv (γ @iI (γ @fI (γ @jT (γ @mi (γ @yh (γ @sm (γ @cV (γ @sn (γ @oZ (γ @lV (γ @Option.or_none.{0} (γ @Nat.zero_lt_succ (γ @Nat.lt_add_one (γ @Option.some.injEq.{0} (γ @and_true (γ @true_and (γ @and_self (γ @or_true (γ @true_or (γ @not_false_eq_true (γ @η.{0} (γ @υ.{0} (γ @List.not_mem_nil.{0} (γ @D.int.injEq (γ @D.bool.injEq (γ @D.sl.injEq (γ @D.ref.injEq (γ @χ.{0} (γ @κ.{0} (γ @vr (γ @gB (γ @eH (γ @Ah (γ @vq (γ @oh (γ @od (γ @vl (γ @bP @gA)))))))))))))))))))))))))))))))))))))))))))))))))))))))))
end
end Go.Pd
namespace Go.Pd
open Go Go.ChangeShapes Go.WideShapes Go.RowKit
def kD : List (Nat × Nat)->Nat->Nat->Bool
 | [],o,n=>o==n
 | (a,s) :: r,o,n=>(a==o)&& kD r (o+s) n
def vQ (P:Program):Nat->TypeId->Bool
 | 0,_=>false
 | n+1,t=>match P.underlying t with
  | some .bool=>true
  | some (.int _)=>true
  | some .string=>true
  | some (.slice e)=>vQ P n e&&decide (0<P.cellsOf e)
  | some (.struct fs)=>(fs.toList.all λf=>vQ P n f.type)&& kD (fs.toList.map λf=>(f.offset,P.cellsOf f.type)) 0 (P.cellsOf t)
  | some (.array k e)=>vQ P n e&&(P.cellsOf t==k*P.cellsOf e)
  | _=>false
mutual
def wA (P:Program):Nat->TypeId->List D->Prop
 | 0,_,_=>False
 | n+1,t,ds=>match P.underlying t with
  | some .bool=>∃ b,ds = [.bool b]
  | some (.int k)=>∃ i,ds = [.int k i]
  | some .string=>∃ s,ds = [.str s]
  | some (.slice e)=>∃ xX,ds = [.sl (P.cellsOf e) xX]/\∀ row ∈ xX,wA P n e row
  | some (.struct fs)=>sW P n (fs.toList.map λf=>f.type) ds
  | some (.array k e)=>sW P n (List.replicate k e) ds
  | _=>False
def sW (P:Program):Nat->List TypeId->List D->Prop
 | _,[],ds=>ds = []
 | n,f :: fs,ds=>∃ a b,ds=a++b/\wA P n f a/\sW P n fs b
end
def tU (P:Program) (n:Nat) (t:TypeId) (d:D):Prop:=
 match P.underlying t with
 | some (.struct _)=>∃ ds,d = .agg ds/\wA P n t ds
 | some (.array _ _)=>∃ ds,d = .agg ds/\wA P n t ds
 | _=>wA P n t [d]
def lA (P:Program) (n:Nat):List TypeId->List D->Prop
 | [],as=>as = []
 | t :: ts,as=>∃ a r,as=a :: r/\tU P n t a/\lA P n ts r
def kU (w:World) (cs:List Value) (ds:List D):Prop:=ds.length=cs.length/\∀ j,j<ds.length->RP (λ_=>False) w (cs.getD j undef) (ds.getD j .top)
theorem mA {w:World} {a b:List Value} {x y:List D} (h:kU w a x) (h':kU w b y):kU w (a++b) (x++y):=by
 refine⟨by simp [h.1,h'.1],λj hj=>?_⟩;simp only [List.getD]
 by_cases hx:j<x.length
 ·rw [π hx,π (by rw [<- h.1]; exact hx)];exact h.2 j hx
 ·have h1:=h.1;rw [ο (by omega),ο (by omega),<- h.1];rw [φ] at hj;exact h'.2 (j-x.length) (by omega)
section
variable {H : Type} {enc : TypeId × Value -> H} {P : Program} {w : World} {sp : Nat -> Bool} {held : Bool}
theorem fK {n:Nat} (key:∀ (t:TypeId) (cs:List Value) (fuel:Nat) (x:DataW H × List MemPlace),vQ P n t=true->DataW.trod enc P w 0 sp held fuel t cs=some x->∃ ds,kU w cs ds/\wA P n t ds) {cs:List Value} {fuel:Nat} :
  ∀ (fl:List Field) (o:Nat),(fl.all λf=>vQ P n f.type)= true->kD (fl.map λf=>(f.offset,P.cellsOf f.type)) o cs.length=true ->
   (∀ f ∈ fl,∃ x,DataW.trod enc P w 0 sp held fuel f.type ((cs.drop f.offset).take (P.cellsOf f.type))= some x)->∃ ds,kU w (cs.drop o) ds/\sW P n (fl.map λf=>f.type) ds
 | [],o,_,hc,_=>by simp only [List.map_nil,kD,beq_iff_eq] at hc;subst hc;exact⟨[],by simp [kU],by simp [sW]⟩
 | f :: fl,o,hp,hc,hx=>by
  simp only [ν,ψ] at hp;simp only [θ,kD,ψ,beq_iff_eq] at hc;obtain⟨x,h1⟩:=hx f (by simp);obtain⟨a,ha,hsa⟩:=key _ _ _ _ hp.1 h1;obtain⟨b,hb,hsb⟩:=fK key fl (o+P.cellsOf f.type) hp.2 hc.2 λg hg=>hx g (by simp [hg]);refine⟨a++b,?_,by simp only [θ,sW]; exact⟨a,b,rfl,hsa,hsb⟩⟩;rw [hc.1] at ha
  have e:cs.drop o=(cs.drop o).take (P.cellsOf f.type)++ cs.drop (o+P.cellsOf f.type):=by rw [<- List.drop_drop,τ]
  rw [e];exact mA ha hb
theorem nu {n:Nat} (key:∀ (t:TypeId) (cs:List Value) (fuel:Nat) (x:DataW H × List MemPlace),vQ P n t=true->DataW.trod enc P w 0 sp held fuel t cs=some x->∃ ds,kU w cs ds/\wA P n t ds) {cs:List Value} {fuel:Nat} {e:TypeId} (hp:vQ P n e=true) :
  ∀ (k o:Nat),cs.length=(o+k)* P.cellsOf e ->
   (∀ i,o<=i->i<o+k->∃ x,DataW.trod enc P w 0 sp held fuel e ((cs.drop (i*P.cellsOf e)).take (P.cellsOf e))= some x)->∃ ds,kU w (cs.drop (o*P.cellsOf e)) ds/\sW P n (List.replicate k e) ds
 | 0,o,hl,_=>⟨[],by rw [List.drop_eq_nil_of_le (by rw [hl]; simp)]; simp [kU],by simp [sW]⟩
 | k+1,o,hl,hx=>by
  obtain⟨x,h1⟩:=hx o (Af _) (by omega);obtain⟨a,ha,hsa⟩:=key _ _ _ _ hp h1;obtain⟨b,hb,hsb⟩:=nu key hp k (o+1) (by rw [hl]; congr 1; omega) λi h1 h2=>hx i (by omega) (by omega);refine⟨a++b,?_,by simp only [List.replicate_succ,sW]; exact⟨a,b,rfl,hsa,hsb⟩⟩
  have e1:cs.drop (o*P.cellsOf e)= (cs.drop (o*P.cellsOf e)).take (P.cellsOf e)++ cs.drop ((o+1)* P.cellsOf e):=by rw [Nat.succ_mul,<- List.drop_drop,τ]
  rw [e1];exact mA ha hb
theorem lC : ∀ (n:Nat) (t:TypeId) (cs:List Value) (fuel:Nat) (x:DataW H × List MemPlace),vQ P n t=true->DataW.trod enc P w 0 sp held fuel t cs=some x->∃ ds,kU w cs ds/\wA P n t ds
 | 0,t,cs,fuel,x,hp,_=>by simp [vQ] at hp
 | n + 1,t,cs,fuel,x,hp,h=>by
  unfold vQ at hp;unfold wA
  split at hp
  ·rename_i hu;obtain⟨b,rfl,_⟩:=DataW.trod_bool hu h;exact⟨[.bool b],⟨rfl,λj hj=>by simp at hj; subst hj; exact .bool b⟩,⟨b,rfl⟩⟩
  ·rename_i k hu;obtain⟨i,rfl,_,hw⟩:=DataW.trod_int hu h;refine⟨[.int k i],⟨rfl,λj hj=>?_⟩,⟨i,rfl⟩⟩;simp at hj; subst hj;simp only [Lit.wf,ψ,decide_eq_true_eq] at hw;exact .int hw
  ·rename_i hu;obtain⟨s,rfl,_,hs⟩:=DataW.trod_string hu h;exact⟨[.str s],⟨rfl,λj hj=>by simp at hj; subst hj; exact .str hs⟩,⟨s,rfl⟩⟩
  ·rename_i e hu;simp only [ψ,decide_eq_true_eq] at hp
   rcases Deep.open_slice hu h with ⟨rfl,_⟩ | ⟨a,len,cap,m,fu,Dd,Pl,rfl,_,hl,hm,hmm,_,hx⟩
   ·exact⟨[.sl (P.cellsOf e) []],⟨rfl,λj hj=>by simp at hj; subst hj; exact .cN none 0 _ (λ_=>rfl)⟩,⟨[],rfl,by simp⟩⟩
   ·have hle:len<=m:=by rw [hmm]; split <;> omega
    by_cases h0:len=0
    ·subst h0;exact⟨[.sl (P.cellsOf e) []],⟨rfl,λj hj=>by simp at hj; subst hj; exact .cN (some a) cap _ (λh=>by cases h)⟩,⟨[],rfl,by simp⟩⟩
    ·obtain⟨f,hf⟩:=Deep.choose_lt (α:=List Value × List D) (n:=len) (p:=λi y=>w.cells? 0 (a.add (i*P.cellsOf e)) (P.cellsOf e)= some y.1/\kU w y.1 y.2/\wA P n e y.2) λi hi=>by obtain⟨cs',h1,h2⟩:=hx i (by omega);obtain⟨ds,h3,h4⟩:=lC n e cs' fu _ hp.1 h2;exact⟨(cs',ds),h1,h3,h4⟩
     have hcells:∀ i,i<len->∀ j,j<P.cellsOf e->w.cell? ((a.add (i*P.cellsOf e)).add j)= some ((f i).1.getD j undef):=by intro i hi j hj;obtain⟨_,h2,h3⟩:=World.cells?_some (hf i hi).1;rw [h3 j hj];simp [List.getD,show j<(f i).1.length by omega]
     have hlen:∀ i,i<len->(f i).1.length=P.cellsOf e:=λi hi=>(World.cells?_some (hf i hi).1).2.1
     have hspot:a.spot=none:=by have:=World.cell?_spot (hcells 0 (by omega) 0 hp.2);simpa [Addr.add] using this
     obtain⟨b,off,spot⟩:=a;simp only at hspot;subst hspot
     have hadd:∀ i j,((⟨b,off,none⟩:Addr).add i).add j=⟨b,off+i+j,none⟩:=by
      intro i j;rw [Deep.add_add];unfold Addr.add
      by_cases h:i+j=0
      ·have h1:i=0:=by omega
       have h2:j=0:=by omega
       subst h1; subst h2; rfl
      ·rw [if_neg h]; simp [Nat.add_assoc]
     have xX:∀ i,i<len->((List.range len).map λi=>(f i).2).getD i []=(f i).2:=by intro i hi;simp [List.getD,hi]
     refine⟨[.sl (P.cellsOf e) ((List.range len).map λi=>(f i).2)],⟨rfl,λj hj=>?_⟩,⟨_,rfl,?_⟩⟩
     ·simp at hj; subst hj;simp only [μ]
      have:=RP.sl (M:=λ_=>False) (w:=w) (b:=b) (off:=off) (cap:=cap) (sz:=P.cellsOf e) (xX:=(List.range len).map λi=>(f i).2) (λi j=>(f i).1.getD j undef) hp.2 (λh=>h) (by simpa using hl) hm ?_ ?_ ?_
      ·simpa using this
      ·intro x hx';simp only [ε,List.mem_range] at hx';obtain⟨i,hi,rfl⟩:=hx';rw [(hf i hi).2.1.1,hlen i hi]
      ·intro i hi j hj;have hi':i<len:=by simpa using hi
       have:=hcells i hi' j hj;rw [hadd] at this;exact this
      ·intro i hi j hj;have hi':i<len:=by simpa using hi
       rw [xX i hi'];exact(hf i hi').2.1.2 j (by rw [(hf i hi').2.1.1,hlen i hi']; exact hj)
     ·intro row hrow;simp only [ε,List.mem_range] at hrow;obtain⟨i,hi,rfl⟩:=hrow;exact(hf i hi).2.2
  ·rename_i fs hu;simp only [ψ] at hp;obtain⟨xs,n',_,_,hlen,hsz,hf⟩:=DataW.trod_struct hu h;rw [<- hlen] at hp
   obtain⟨ds,h1,h2⟩:=fK (λt cs fuel x=>lC n t cs fuel x) (fuel:=n') fs.toList 0 hp.1 hp.2 λg hg=>by
    obtain⟨i,hi,rfl⟩:=List.getElem_of_mem hg;have hi':i<fs.size:=by simpa using hi
    have:=hf i fs[i] (by simp [hi']);refine⟨xs[i]'(by omega),?_⟩;simp only [Array.getElem_toList];rw [this];simp [show i<xs.length by omega]
   exact⟨ds,by simpa using h1,h2⟩
  ·rename_i k e hu;simp only [ψ,beq_iff_eq] at hp;obtain⟨xs,m,_,_,hlen,hxs,hf⟩:=DataW.trod_array hu h
   obtain⟨ds,h1,h2⟩:=nu (λt cs fuel x=>lC n t cs fuel x) (fuel:=m) hp.1 k 0 (by rw [hlen,hp.2]; simp) λi _ hi=>by have:=hf i (by omega);rw [this];simp [show i<xs.length by omega]
   exact⟨ds,by simpa using h1,h2⟩
  ·cases hp
end
section
variable {H : Type} {enc : TypeId × Value -> H} {P : Program} {w : World} {sp : Nat -> Bool} {held : Bool}
theorem cU {r:Reach} {b:Nat} {t:TypeId} {v:Value} {k:Nat} {e:TypeId} (ht:P.underlying t=some (.array k e)) (h:Value.okWide P w r b t v):∃ cs,v = .agg cs/\cs.size=P.cellsOf t:=by simp only [Value.okWide,ht] at h;obtain⟨cs,h1,h2,_⟩:=h;exact⟨cs,h1,h2⟩
theorem ab {n:Nat} {b:Nat} {t:TypeId} {v:Value} {d:DataW H} {ps:List MemPlace} (hp:vQ P n t=true) (hv:Value.okWide P w .any b t v) (h:DataW.Trod enc P w 0 sp held t v d ps):∃ a,RP (λ_=>False) w v a/\tU P n t a:=by
 obtain⟨fuel,h⟩:=h;obtain⟨ds,h1,h2⟩:=lC n t _ fuel _ hp h;unfold tU
 split
 ·rename_i fs hu;obtain⟨cs,rfl,_⟩:=okWide_struct hu hv;refine⟨.agg ds,.agg (by rw [h1.1]; rfl) λj hj=>?_,ds,rfl,h2⟩;have:=h1.2 j hj
  have e:(Value.agg cs).cells.toList.getD j undef=cs.getD j undef:=by simp [Value.cells,List.getD,Array.getD];by_cases hj:j<cs.size <;> simp [hj]
  rw [e] at this;exact this
 ·rename_i k e hu;obtain⟨cs,rfl,_⟩:=cU hu hv;refine⟨.agg ds,.agg (by rw [h1.1]; rfl) λj hj=>?_,ds,rfl,h2⟩;have:=h1.2 j hj
  have e:(Value.agg cs).cells.toList.getD j undef=cs.getD j undef:=by simp [Value.cells,List.getD,Array.getD];by_cases hj:j<cs.size <;> simp [hj]
  rw [e] at this;exact this
 ·rename_i hns hna
  have one:∃ x,ds = [x]:=by
   cases n with
   | zero=>simp [vQ] at hp
   | succ n=>
    unfold wA at h2
    split at h2
    ·obtain⟨b,rfl⟩:=h2; exact⟨_,rfl⟩
    ·obtain⟨b,rfl⟩:=h2; exact⟨_,rfl⟩
    ·obtain⟨b,rfl⟩:=h2; exact⟨_,rfl⟩
    ·obtain⟨b,rfl,_⟩:=h2; exact⟨_,rfl⟩
    ·rename_i fs hu; exact absurd hu (hns fs)
    ·rename_i k e hu; exact absurd hu (hna k e)
    ·cases h2
  obtain⟨x,rfl⟩:=one;refine⟨x,?_,h2⟩;have hx:=h1.2 0 (by simp);simp only [μ] at hx;have hlen:=h1.1
  cases v with
  | agg cs=>
   exfalso;unfold Value.okWide at hv
   split at hv
   ·rename_i fs hu; exact absurd hu (hns fs)
   ·rename_i k e hu; exact absurd hu (hna k e)
   ·rename_i h3 h4
    cases n with
    | zero=>simp [vQ] at hp
    | succ n=>
     unfold vQ at hp;unfold Cell.okWide at hv;split at hp <;> rename_i hu <;> simp [hu,Cell.ok] at hv
     all_goals first | exact absurd hu (hns _) | exact absurd hu (hna _ _) | cases hp
  | _=>simpa [Value.cells] using hx
theorem dY {n:Nat} {b:Nat}:∀ {ts:List TypeId} {vs:List Value} {ds:List (DataW H)} {ps:List MemPlace},(ts.all λt=>vQ P n t)= true->(∀ (j:Nat) t v,ts[j]?=some t->vs[j]?=some v->Value.okWide P w .any b t v) ->
  DataW.TrodAll enc P w 0 sp held ts vs ds ps->∃ as,as.length=vs.length/\vs.length=ts.length/\ds.length=ts.length/\(∀ j,j<as.length->RP (λ_=>False) w (vs.getD j undef) (as.getD j .top))/\ lA P n ts as
 | [],vs,ds,ps,_,_,h=>by obtain⟨rfl,rfl,rfl⟩:=trodAll_nil h;exact⟨[],rfl,rfl,rfl,λj hj=>by simp at hj,rfl⟩
 | t :: ts,vs,ds,ps,hp,hv,h=>by
  obtain⟨v,vs',d,ds',p,q,rfl,rfl,rfl,h1,h2⟩:=trodAll_cons h;simp only [ν,ψ] at hp;obtain⟨a,r1,s1⟩:=ab hp.1 (hv 0 t v rfl rfl) h1;obtain⟨as,l1,l2,l3,r2,s2⟩:=dY hp.2 (λj t v h1 h2=>hv (j+1) t v h1 h2) h2;refine⟨a :: as,by simp [l1],by simp [l2],by simp [l3],λj hj=>?_,a,as,rfl,s1,s2⟩
  cases j with
  | zero=>exact r1
  | succ j=>exact r2 j (by simpa using hj)
theorem pK (hl:laidOutB P=true) {W W':World} (hb:Below W.heap.size W W'):∀ {ts:List TypeId} {vs:List Value} {ds:List (DataW H)} {ps:List MemPlace},(ts.all λt=>P.readableRec t&&decide (t<P.types.size))= true ->
  (∀ x ∈ ps,x.block<W.heap.size)->DataW.TrodAll enc P W 0 (λ_=>true) true ts vs ds ps->DataW.TrodAll enc P W' 0 (λb=>decide (b<W.heap.size)) true ts vs ds ps
 | [],vs,ds,ps,_,_,h=>by obtain⟨rfl,rfl,rfl⟩:=trodAll_nil h;exact rfl
 | t :: ts,vs,ds,ps,hr,hlt,h=>by obtain⟨v,vs',d,ds',p,q,rfl,rfl,rfl,h1,h2⟩:=trodAll_cons h;simp only [ν,ψ,decide_eq_true_eq] at hr;exact⟨p,q,Below.trod hl hr.1.1 hr.1.2 h1 hb λx hx=>hlt x (by simp [hx]),pK hl hb hr.2 (λx hx=>hlt x (by simp [hx])) h2,rfl⟩
theorem jI {W:World}:∀ {ts:List TypeId} {vs:List Value} {ds:List (DataW H)} {ps:List MemPlace},DataW.TrodAll enc P W 0 sp held ts vs ds ps->∀ x ∈ ps,x.block<W.heap.size
 | [],vs,ds,ps,h=>by obtain⟨rfl,rfl,rfl⟩:=trodAll_nil h;intro x hx; simp at hx
 | t :: ts,vs,ds,ps,h=>by
  obtain⟨v,vs',d,ds',p,q,rfl,rfl,rfl,⟨m,hm⟩,h2⟩:=trodAll_cons h;intro x hx
  rcases List.mem_append.1 hx with hx | hx
  ·exact DataW.trod_lt m _ _ _ hm x hx
  ·exact jI h2 x hx
end
section
variable [zF]
theorem yY.calls {P:Program} {g:FuncId} {args:List D} {b:Bool} (h:yY P g args (.bool b)) {w:World} {vals:Array Value} (ht:kK w λ_=>False) (hl:vals.size=args.length)
  (hv:∀ j,j<args.length->RP (λ_=>False) w (vals.getD j undef) (args.getD j .top)):Calls P g vals w λe w'=>e = .returned (.bool b)/\ Below w.heap.size w w':=by
 have hM:∀ b,xJ (λ_=>False) (λ_=>0) hZ b->False:=by
  rintro b (h | ⟨k,o,hk,_⟩)
  ·exact h
  ·cases hk
 have hS:yZ (λ_=>False) w hZ (λ_=>0):=⟨λb hb=>hb.elim,(λk o hk=>by cases hk),(λk k' o o' hk=>by cases hk),(λk o hk=>by cases hk),ht.yX (Af _) (λ_ _ _=>rfl) λb _ hb=>hM b hb⟩;refine(h.run _ w _ vals hS hl λj hj=>.pure ((hv j hj).yX (λ_ _ _=>rfl) λb _ hb=>hM b hb)).mono λe w' hh=>?_;obtain⟨v,ι',rfl,k1,k2,k3,k4,k5,k6⟩:=hh;have K0:Kept w w' λ_=>False:=k1.mono λb _ ⟨k,o,hk,_⟩=>by cases hk
 rw [k6.tO];exact⟨rfl,K0.below⟩
end
theorem mC (a:Array Value) (j:Nat) (d:Value):a.getD j d=a.toList.getD j d:=by simp [List.getD,Array.getD];by_cases h:j<a.size <;> simp [h]
theorem bF {H:Type} {enc:TypeId × Value->H} {P:Program} {f:Func} {s:ChangeSpec} {W W':World} {args:Array Value} {ds gs:List (DataW H)} {before:List MemPlace} {tb:TypeId}
  (hl:laidOutB P=true) (hr:(f.params.toList.all λt=>P.readableRec t&&decide (t<P.types.size))= true) (hb:f.resultTypes = #[tb]) (htb:P.underlying tb=some .bool) (hsv:s.vars = [])
  (hW:DataW.Whole enc P f.params.toList s.vars false W args.toList ds gs before) (hs:s.fn H (ds++gs)= { results:=[.lit (.bool true)],args:=ds }) (bel:Below W.heap.size W W') :
  s.post enc P f false true false false W args (.bool true) W':=by
 have hW':=hW;obtain⟨p,q,hA,hV,rfl,hfz,hnd⟩:=hW;rw [hsv] at hV;obtain⟨rfl,rfl⟩:=trodVars_none hV;have hA2:=pK hl bel hr (jI hA) hA
 refine⟨_,_,_,[],p,[],hW',?_,?_,?_,bel.frame _,λh=>by cases h⟩
 ·rw [hs,hb];exact trodAll_mk1 (shut_bool htb _)
 ·rw [hs];exact hA2
 ·rw [hs,hsv];rfl
abbrev dO (i:Nat) (k:DK):xR:=⟨some i,none,k⟩
abbrev dF (i j:Nat) (k:DK):xR:=⟨some i,some (j,false),k⟩
abbrev dT (i j:Nat) (k:DK):xR:=⟨some i,some (j,true),k⟩
abbrev zZ.i (n:Int):zZ:=.c (.int .i64 n)
abbrev dM (i j:Nat):xR:=⟨some i,none,.mv (.t j)⟩
abbrev dL (i j:Nat):xR:=⟨some i,none,.load 1 false (.t j)⟩
abbrev dG (i n j:Nat):xR:=⟨some i,none,.fc n (.t j)⟩
abbrev DC.r (l:List xR) (c:DC):DC:=.seq (.cM [] l) c
abbrev DK.cf (f:FuncId) (l:List zZ):DK:=.call (.c (.fn f [])) l
abbrev bT (i:Nat) (o:BinOp) (a b:Nat):xR:=⟨some i,none,.bin o (.t a) (.t b)⟩
abbrev bI (i:Nat) (o:BinOp) (a:Nat) (n:Int):xR:=⟨some i,none,.bin o (.t a) (.i n)⟩
abbrev dI (i n a b:Nat):xR:=⟨some i,none,.idx n (.t a) (.t b)⟩
abbrev dN (i a:Nat):xR:=⟨some i,none,.len (.t a)⟩
abbrev fG (i j n a:Nat):xR:=⟨some i,some (j,false),.fc n (.t a)⟩
abbrev fL (i j a:Nat):xR:=⟨some i,some (j,false),.load 1 false (.t a)⟩
abbrev fN (i j a:Nat):xR:=⟨some i,some (j,false),.len (.t a)⟩
abbrev fM (i j a:Nat):xR:=⟨some i,some (j,false),.mv (.t a)⟩
abbrev dP (i a b:Nat):xR:=⟨some i,none,.pick (.t a) (.c (.bool true)) (.t b)⟩
abbrev dE (i a n:Nat):xR:=⟨some i,none,.pe (.t a) n⟩
abbrev sQ (n a b:Nat):xR:=⟨none,none,.store n (.t a) (.t b)⟩
abbrev dV (i:Nat) (b:Bool):xR:=⟨some i,none,.mv (.c (.bool b))⟩
abbrev dJ (i:Nat) (n:Int):xR:=⟨some i,none,.mv (.i n)⟩
abbrev dA (i n a:Nat):xR:=⟨some i,none,.load n true (.t a)⟩
abbrev DC.w (a b:Nat) (c:DC):DC:=.seq (.cond (.t a) .skip (.exit b)) c
abbrev DC.g (l:List xR):DC:=.cM [] l
abbrev dX (i a:Nat):xR:=⟨some i,none,.box (.t a)⟩
abbrev tL (i j a:Nat):xR:=⟨some i,some (j,true),.load 1 false (.t a)⟩
abbrev tG (i j n a:Nat):xR:=⟨some i,some (j,true),.fc n (.t a)⟩
abbrev tM (i j a:Nat):xR:=⟨some i,some (j,true),.mv (.t a)⟩
abbrev dK (i a:Nat):xR:=⟨some i,none,.y6 (.t a)⟩
abbrev dH (i a:Nat):xR:=⟨some i,none,.nt (.t a)⟩
abbrev dQ (i a b:Nat):xR:=⟨some i,none,.pick (.t a) (.t b) (.c (.bool false))⟩
abbrev dZ (i:Nat):xR:=⟨some i,none,.mv (.c .xB)⟩
abbrev dB (i f a:Nat):xR:=⟨some i,none,.cf f [.t a]⟩
abbrev dD (i f a b:Nat):xR:=⟨some i,none,.cf f [.t a,.t b]⟩
abbrev fB (i j:Nat) (o:BinOp) (a:Nat) (n:Int):xR:=⟨some i,some (j,false),.bin o (.t a) (.i n)⟩
abbrev CT :=Nat × DC × List oM
abbrev DC.x (a b:Nat):DC:=.cond (.t a) .skip (.exit b)
abbrev DC.n (a b c:Nat):DC:=.g [dM a b,bI c .add a 1,dM b c]
abbrev DC.q (a:Nat) (c d:DC):DC:=.cond (.t a) c d
abbrev DC.u (i:Nat) (n:Int):DC:=.r [dJ i n] .ret
abbrev DC.v (i:Nat) (b:Bool):DC:=.r [dV i b] .ret
abbrev DC.l (n:Nat) (c:DC):DC:=.block n (.loop c)
abbrev zZ.u (n:Int):zZ:=.c (.int .u64 n)
abbrev iZ : D:=.int .i64 0
def zS :=γ @D.int.injEq (γ @D.bool.injEq (γ @D.sl.injEq (γ @and_true (γ @true_and @and_self))))
def zW.{u} :=γ @ne_eq.{u} (γ @forall_const.{u} (γ @implies_true.{u} @forall_eq.{u}))
section
variable [zF]
def zU :=γ @vz.eq_1 (γ @jj.eq_1 (γ @o7.eq_1 (γ @pQ.eq_1 (γ @pQ.eq_2 (γ @tS.eq_1 (γ @tS.eq_2 (γ @gQ.eq_1 (γ @gQ.eq_2 (γ @gQ.eq_3 (γ @gQ.eq_4 (γ @gQ.eq_5 (γ @gQ.eq_6 (γ @gQ.eq_7 (γ @gQ.eq_8 (γ @gQ.eq_9 (γ @gQ.eq_10 (γ @gQ.eq_11 (γ @gQ.eq_12 (γ @gQ.eq_13 (γ @gQ.eq_14 (γ @gQ.eq_15 (γ @vM.eq_1 (γ @vM.eq_2 (γ @vM.eq_3 (γ @vM.eq_4 (γ @vM.eq_5 (γ @vM.eq_6 (γ @vM.eq_7 (γ @vM.eq_8 (γ @vM.eq_9 (γ @vM.eq_10 (γ @vM.eq_11 (γ @vM.eq_12 (γ @vM.eq_13 (γ @vM.eq_14 (γ @vM.eq_15 (γ @pX.eq_1 (γ @pX.eq_2 (γ @pX.eq_3 (γ @pX.eq_4 (γ @pX.eq_5 (γ @pX.eq_6 (γ @pX.eq_7 (γ @pX.eq_8 (γ @pW.eq_1 (γ @pW.eq_2 (γ @pW.eq_3 (γ @pW.eq_4 (γ @pW.eq_5 (γ @pW.eq_6 (γ @pW.eq_7 (γ @pW.eq_8 (γ @pW.eq_9 (γ @pW.eq_10 (γ @pW.eq_11 (γ @pW.eq_12 (γ @pW.eq_13 (γ @pW.eq_14 (γ @pW.eq_15 (γ @pW.eq_16 (γ @pW.eq_17 (γ @pW.eq_18 (γ @pW.eq_19 (γ @pW.eq_20 (γ @pW.eq_21 (γ @pW.eq_22 (γ @pW.eq_23 (γ @pW.eq_24 (γ @pW.eq_25 (γ @pW.eq_26 (γ @pW.eq_27 (γ @pW.eq_28 (γ @ct.eq_1 (γ @cu.eq_1 (γ @Xt.eq_1 (γ @mI.eq_1 @wb.eq_1))))))))))))))))))))))))))))))))))))))))))))))))))))))))))))))))))))))))))))
def zQ :=γ @sB.eq_1 (γ @sB.eq_2 (γ @sB.eq_3 (γ @vw.eq_1 (γ @vw.eq_2 (γ @vw.eq_3 (γ @vw.eq_4 (γ @vw.eq_5 (γ @vw.eq_6 (γ @vw.eq_7 (γ @vw.eq_8 (γ @vw.eq_9 (γ @vw.eq_10 (γ @vw.eq_11 (γ @vw.eq_12 (γ @vw.eq_13 (γ @vw.eq_14 (γ @vw.eq_15 (γ @vw.eq_16 (γ @vw.eq_17 (γ @vw.eq_18 (γ @pz.eq_1 (γ @pz.eq_2 (γ @sw.eq_1 (γ @sw.eq_2 (γ @St.get.eq_1 (γ @St.look.eq_1 (γ @St.look.eq_2 (γ @Fr.get.eq_1 @Fr.get.eq_2))))))))))))))))))))))))))))
def zV :=γ @hZ.eq_1 (γ @qX.eq_1 (γ @qX.eq_2 (γ @uS.eq_1 (γ @uS.eq_2 (γ @uS.eq_3 (γ @uS.eq_4 (γ @uS.eq_5 (γ @uS.eq_6 (γ @uS.eq_7 (γ @uS.eq_8 (γ @uS.eq_9 (γ @uS.eq_10 (γ @uS.eq_11 (γ @uS.eq_12 (γ @uS.eq_13 (γ @uS.eq_14 (γ @uS.eq_15 (γ @uS.eq_16 (γ @uS.eq_17 (γ @bX.eq_1 (γ @pP.eq_1 (γ @pP.eq_2 (γ @pP.eq_3 (γ @pP.eq_4 (γ @pP.eq_5 (γ @pP.eq_6 (γ @oQ.eq_1 (γ @oQ.eq_2 (γ @jl.eq_1 (γ @yS.eq_1 (γ @sP.eq_1 (γ @sP.eq_2 (γ @l5.eq_1 (γ @mD.eq_1 (γ @mD.eq_2 (γ @kM.eq_1 (γ @kM.eq_2 (γ @List.replicate.eq_1.{0} (γ @List.replicate.eq_2.{0} (γ @rowsOf.eq_1 (γ @rowsOf.eq_2 (γ @rowsOf.eq_3 (γ @rowsOf.eq_4 @rowsOf.eq_5)))))))))))))))))))))))))))))))))))))))))))
end
theorem sd {p q:Prop} (b:q) (a:p:=by first | omega | exact gG _ | exact Int.natCast_nonneg _ | rfl | exact sv _ _ | exact oi _ | (intro _ h; cases h; done)):p/\q:=⟨a,b⟩
theorem oN.dv {n0 n:Nat} {σ:St} {d d':D} (hn:n0<=n:=by simp) (h:vw σ ⟨n,[]⟩ (λk=>k) d d':=by simp [vw]):oN n0 σ d ⟨n,[]⟩ d':=.drop hn h
section
variable [zF]
theorem cr {P:Program} {g:FuncId} {args:List D} {d:D} {s:St} (hc:yY P g args d) (hp:D.xZ args=true:=by simp [D.xZ,D.xS]):xU P g args s d s:=xU.zI hc hp
theorem cq {P:Program} {g:FuncId} {args:List D} {d:D} {s:St} (hc:yY P g args d) (hp:D.xZ args=true:=by rfl):xU P g args s d s:=xU.zI hc hp
end
end Go.Pd
