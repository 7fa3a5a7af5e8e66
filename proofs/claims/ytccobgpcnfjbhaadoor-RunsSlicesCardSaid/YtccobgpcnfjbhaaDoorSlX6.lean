/- Part X6. -/
import Derived.Test.YtccobgpcnfjbhaaDoorSlX5
import Derived.Carry
import Derived.ChangeArms
import Derived.Deep.Slices
import Derived.ProofKit
import Derived.OpenShut
set_option linter.unusedSectionVars false
set_option linter.unusedVariables false
set_option linter.unusedSimpArgs false
set_option linter.defProp false
open And renaming intro->γ
open List renaming append_nil->δ,mem_singleton->ε,mem_map->ζ,nil_append->η,mem_cons->θ,map_cons->κ,length_nil->μ,getD_cons_zero->ν,all_cons->ξ,cons_append->ο,getElem?_append_right->π,getElem?_append_left->τ,take_append_drop->υ,length_append->χ,length_cons->ψ
open BitVec renaming eq_of_toNat_eq->ω,ofInt_natCast->Aa,toNat_ushiftRight->Ab,toNat_ofNat->Ac,toNat_ofInt->Ad,ofInt_mul->Ae,ofInt_add->Af
open Bool renaming and_eq_true->Ag
open Nat renaming le_refl->Ah,shiftRight_eq_div_pow->Ai,zero_add->Aj
namespace Go.Pd
open Go
def ui (s:BitVec 64):Int:=s.toNat
theorem tu (s:BitVec 64):0<=ui s:=by unfold ui; omega
theorem bn {s t:BitVec 64}:ui s=ui t ↔ s=t:=by
 unfold ui
 constructor
 ·intro h; exact ω (by omega)
 ·rintro rfl; rfl
theorem n7 {n:Int} (h0:0<=n) (h1:n<18446744073709551616):ui (BitVec.ofInt 64 n)= n:=by unfold ui;rw [Ad];have:n % 2 ^ 64=n:=Int.emod_eq_of_lt h0 (by omega);omega
theorem zM (s:BitVec 64):BitVec.ofInt 64 (ui s)= s:=by unfold ui;rw [Aa];simp
theorem qP (s:BitVec 64):IntKind.u64.wrap (s.toNat:Int)= ui s:=by unfold ui;have:=s.isLt;exact wrap_u64 ⟨by omega,by omega⟩
theorem bj (s t:BitVec 64):pS .and .u64 (ui s) (ui t)= ui (s &&& t):=by show IntKind.u64.wrap ((BitVec.ofInt 64 (ui s)&&& BitVec.ofInt 64 (ui t)).toNat:Int)= _;rw [zM,zM,qP]
theorem n8 (s t:BitVec 64):pS .or .u64 (ui s) (ui t)= ui (s ||| t):=by show IntKind.u64.wrap ((BitVec.ofInt 64 (ui s) ||| BitVec.ofInt 64 (ui t)).toNat:Int)= _;rw [zM,zM,qP]
theorem bu (s t:BitVec 64):pS .xor .u64 (ui s) (ui t)= ui (s ^^^ t):=by show IntKind.u64.wrap ((BitVec.ofInt 64 (ui s)^^^ BitVec.ofInt 64 (ui t)).toNat:Int)= _;rw [zM,zM,qP]
theorem tt (s t:BitVec 64):pS .andNot .u64 (ui s) (ui t)= ui (s &&& ~~~t):=by show IntKind.u64.wrap ((BitVec.ofInt 64 (ui s)&&& ~~~BitVec.ofInt 64 (ui t)).toNat:Int)= _;rw [zM,zM,qP]
theorem mS (n:Int):IntKind.u64.wrap n=ui (BitVec.ofInt 64 n):=by unfold ui;rw [Ad];simp [IntKind.wrap,IntKind.signed,IntKind.bits];omega
theorem bh (s t:BitVec 64):IntKind.u64.wrap (ui s+ui t)= ui (s+t):=by rw [mS,Af,zM,zM]
theorem bt (s t:BitVec 64):IntKind.u64.wrap (ui s-ui t)= ui (s-t):=by rw [mS];congr 1;rw [Int.sub_eq_add_neg,Af,BitVec.ofInt_neg,zM,zM,BitVec.sub_eq_add_neg]
theorem bo (s t:BitVec 64):IntKind.u64.wrap (ui s*ui t)= ui (s*t):=by rw [mS,Ae,zM,zM]
theorem bq (s:BitVec 64) (k:Int):cO .u64 (ui s) k=ui (s <<< k.toNat):=by
 unfold cO;rw [mS];congr 1;rw [Ae,zM];show s*BitVec.ofInt 64 (2 ^ min k.toNat 64)= _;apply ω;rw [BitVec.toNat_mul,BitVec.toNat_shiftLeft,Nat.shiftLeft_eq]
 have e:(BitVec.ofInt 64 (2 ^ min k.toNat 64)).toNat=2 ^ min k.toNat 64 % 2 ^ 64:=by
  have:((2:Int)^ min k.toNat 64)= ((2 ^ min k.toNat 64:Nat):Int):=by norm_cast
  rw [this,Aa,Ac]
 rw [e,Nat.mul_mod_mod]
 rcases Nat.lt_or_ge k.toNat 64 with h | h
 ·rw [Nat.min_eq_left (by omega)]
 ·rw [Nat.min_eq_right h];obtain⟨m,hm⟩:=Nat.exists_eq_add_of_le h;rw [hm,Nat.pow_add,<- Nat.mul_assoc,Nat.mul_right_comm];simp
theorem br (s:BitVec 64) (k:Int):qg .u64 (ui s) k=ui (s >>> k.toNat):=by
 unfold qg ui;rw [Ab,Ai];show (s.toNat:Int).fdiv (2 ^ min k.toNat 64)= _;have:((2:Int)^ min k.toNat 64)= ((2 ^ min k.toNat 64:Nat):Int):=by norm_cast
 rw [this,Int.fdiv_eq_ediv_of_nonneg _ (Int.natCast_nonneg _),<- Int.natCast_ediv];congr 1
 rcases Nat.lt_or_ge k.toNat 64 with h | h
 ·rw [Nat.min_eq_left (by omega)]
 ·rw [Nat.min_eq_right h];have h1:=s.isLt;rw [Nat.div_eq_of_lt h1,Nat.div_eq_of_lt (Nat.lt_of_lt_of_le h1 (Nat.pow_le_pow_right (by omega) h))]
theorem bp (s t:BitVec 64):(ui s).tmod (ui t)= ui (s % t):=by unfold ui;rw [BitVec.toNat_umod,Int.tmod_eq_emod_of_nonneg (by omega),Int.natCast_emod]
theorem pa (s t:BitVec 64):(ui s==ui t)= (s==t):=by
 by_cases h:s=t
 ·subst h; simp
 ·have:ui s≠ui t:=λe=>h (bn.1 e);rw [beq_eq_false_iff_ne.2 this,beq_eq_false_iff_ne.2 h]
theorem bl (s t:BitVec 64):(ui s != ui t)= (s != t):=by simp only [bne,pa]
theorem Yg : D.int .u64 0=D.int .u64 (ui 0#64):=rfl
theorem Yh : D.int .u64 1=D.int .u64 (ui 1#64):=rfl
theorem Yi : D.int .u64 2=D.int .u64 (ui 2#64):=rfl
theorem Yj : D.int .u64 18446744073709551615=D.int .u64 (ui 18446744073709551615#64):=rfl
theorem bg : ui 2#64≠0:=by decide
def us (l:List (BitVec 64)):List (List D):=l.map λs=>[.int .u64 (ui s)]
def ug (l:List (BitVec 64)):D:=.sl 1 (us l)
theorem yB (l:List (BitVec 64)):(us l).length=l.length:=by simp [us]
theorem xd : us [] = []:=rfl
theorem vt (s:BitVec 64) (l:List (BitVec 64)):us (s :: l)= [.int .u64 (ui s)] :: us l:=rfl
theorem pL (l:List (BitVec 64)) {i:Nat} (h:i<l.length):(us l).getD i [] = [.int .u64 (ui (l.getD i 0))]:=by simp [us,List.getD,h]
theorem eL (l:List (BitVec 64)):∀ e ∈ us l,D.xR e=true:=by intro e he;simp only [us,ζ] at he;obtain⟨n,_,rfl⟩:=he;rfl
theorem pc (l:List (BitVec 64)):∀ e ∈ us l,yX e=true:=by intro e he;simp only [us,ζ] at he;obtain⟨n,_,rfl⟩:=he;rfl
theorem je (l:List (BitVec 64)) (n:Nat):(us l).take n=us (l.take n):=by simp [us,List.map_take]
theorem vu (l:List (BitVec 64)) (s:BitVec 64):us l ++ [[.int .u64 (ui s)]]=us (l ++ [s]):=by simp [us]
theorem pd (l:List (BitVec 64)) (i:Nat) (s:BitVec 64):(us l).set i [.int .u64 (ui s)]=us (l.set i s):=by simp [us,List.map_set]
theorem eu : ∀ {xX:List (List D)},(∀ e ∈ xX,∃ n:Int,e = [.int .u64 n])->D.gD xX->∃ l,xX=us l
 | [],_,_=>⟨[],rfl⟩
 | e :: r,h,hf=>by obtain⟨n,rfl⟩:=h e (by simp);obtain⟨l,rfl⟩:=eu (λe he=>h e (by simp [he])) hf.2;have h1:=hf.1;simp only [D.vU,D.fact,and_true] at h1;obtain⟨h1,h2⟩:=h1;refine⟨BitVec.ofInt 64 n :: l,?_⟩;have:ui (BitVec.ofInt 64 n)= n:=n7 (by simpa [IntKind.min,IntKind.signed] using h1) (by have:IntKind.u64.max=18446744073709551615:=rfl; omega);simp [us,this]
theorem sr (d:D):vV false [d]=d:=rfl
theorem sq (cs:List D):vV true cs = .agg cs:=rfl
def xI (key sz:Nat):List (List D)->D
 | []=>.xY
 | e :: r=>.zZ key sz (e :: r).length
def xN (key sz:Nat):List (List D)->List (Nat × Ob)
 | []=>[]
 | e :: r=>[(key,⟨sz,e :: r⟩)]
end Go.Pd
namespace Go.Pd
open Go
variable [zJ]
def nD (f:Fr):Fr->Prop
 | []=>True
 | (t,d) :: r=>f.get t=d/\nD f r
omit [zJ] in
theorem fX {f:Fr}:∀ {f':Fr},nD f f'->∀ t,f'.get t = .top\/f'.get t=f.get t
 | [],_,t=>.inl rfl
 | (s,d) :: r,h,t=>by
  simp only [Fr.get]
  split
  ·rename_i e; subst e; exact .inr h.1.symm
  ·exact fX h.2 t
theorem zA.same {C:Cx} {f f':Fr} {σ:St} (h:nD f f'):zA C f σ f' σ:=zA.frame (fX h)
end Go.Pd
namespace Go.Pd
open Go
def rr (ll:List (List (BitVec 64))):List (List D):=ll.map λl=>[ug l]
def u5 (ll:List (List (BitVec 64))):D:=.sl 1 (rr ll)
theorem tB (l:List (List (BitVec 64))):(rr l).length=l.length:=by simp [rr]
theorem jV (l:List (List (BitVec 64))) {i:Nat} (h:i<l.length):(rr l).getD i [] = [.sl 1 (us (l.getD i []))]:=by simp [rr,ug,List.getD,h]
theorem iy (l:List (List (BitVec 64))) (n:Nat):(rr l).take n=rr (l.take n):=by simp [rr,List.map_take]
theorem vn (l:List (List (BitVec 64))):∀ e ∈ rr l,D.xR e=true:=by intro e he;simp only [rr,ζ] at he;obtain⟨n,_,rfl⟩:=he;simp [D.xR,D.xQ,ug]
end Go.Pd
namespace Go.Pd
open Go
theorem nW.same {n0:Nat} {σ:St} {d:D}:nW n0 σ d σ d:=.inl ⟨rfl,rfl⟩
theorem nW.drop {n0 n:Nat} {σ:St} {d d':D} (hn:n0<=n) (h:vw σ ⟨n,[]⟩ (λk=>k) d d'):nW n0 σ d ⟨n,[]⟩ d':= .inr ⟨λk=>k,hn,λ_ _=>rfl,h,by simp [stays],by simp [sO]⟩
end Go.Pd
namespace Go.Pd
open Go
universe u
variable [zJ]
def YC (σ:St) (K:D->St->Prop) (d:D):Prop:=K d σ
def cl (f:Fr) (dst:Option Nat) (K:Fr->St->Prop) (d:D) (σ:St):Prop:=K (f.put dst d) σ
def cm (f:Fr) (dst:Option Nat) (K:Fr->Prop) (d:D):Prop:=K (f.put dst d)
def nC (Q:Exit->Fr->St->Prop) (f:Fr) (σ:St):Prop:=Q .normal f σ
def z8 (d:D) (want:Bool) (yes no:Prop):Prop:=
 match d with
 | .bool b=>if b=want then yes else no
 | .wG=>no
 | _=>False
theorem kj (b want:Bool) (yes no:Prop):z8 (.bool b) want yes no=if b=want then yes else no:=rfl
theorem gg (want:Bool) (yes no:Prop):z8 .wG want yes no=no:=rfl
@[congr] theorem z6 {d d' : D} {want : Bool} {yes no : Prop} (h : d = d') : z8 d want yes no = z8 d' want yes no := by rw [h]
def gd (g:Option (Nat × Bool)) (f:Fr) (yes no:Prop):Prop:=
 match g with
 | none=>yes
 | some (j,want)=>z8 (f.get j) want yes no
theorem gh (f:Fr) (yes no:Prop):gd none f yes no=yes:=rfl
theorem gj (j:Nat) (want:Bool) (f:Fr) (yes no:Prop):gd (some (j,want)) f yes no=z8 (f.get j) want yes no:=rfl
theorem ea (o:xT) (f:Fr) (yes no:Prop):xM o f yes no=gd o.guard f yes no:=by
 unfold xM gd
 split
 ·rename_i h; rw [h]
 ·rename_i h; rw [h]; rfl
def lV (q:Bool) (σ:St) (sz bytes:Nat) (x:D) (y:Option (List (List D))) (K:D->St->Prop):Prop:=
 match y with
 | none=>False
 | some rows=>(∀ r ∈ rows,yX r=true)/\ match x with
  | .xY=>rows.length*bytes<=140737488355328/\rows.length<=8000000000000/\(rows = []->K .xY σ)/\ (rows ≠ []->K (.zZ σ.nx sz rows.length) (σ.new ⟨sz,rows⟩))
  | .zZ key sz' n=>match σ.get key with
   | some ob=>sz=sz'/\ob.sz=sz/\n<=ob.xX.length/\(n+rows.length)* bytes<=140737488355328/\n+rows.length<=8000000000000 /\
    K (.zZ σ.nx sz (n+rows.length)) ((σ.erase key).new ⟨sz,ob.xX.take n++rows⟩)
   | none=>False
  | .sub key sz' lo n=>match σ.get key with
   | some ob=>q=true/\sz=sz'/\ob.sz=sz/\lo+n<=ob.xX.length/\(n+rows.length)* bytes<=140737488355328/\n+rows.length<=8000000000000 /\
    ∀ pre:List (List D),(pre = []\/pre=ob.xX.take lo)->K (.sub σ.nx sz pre.length (n+rows.length)) ((σ.erase key).new ⟨sz,pre++((ob.xX.drop lo).take n++rows)⟩)
   | none=>False
  | _=>False
def qh (σ:St) (n:Nat) (a:D) (x:Option (List D)) (K:D->St->Prop):Prop:=
 match a,x with
 | .ref key sz i off,some ds=>match σ.get key with
  | some ob=>ob.sz=sz/\i<ob.xX.length/\ds.length=n/\off+n<=sz/\yX ds=true/\K .wG (σ.set key ⟨sz,ob.xX.set i (rV (ob.xX.getD i []) off ds)⟩)
  | none=>False
 | _,_=>False
def gW (x:D) (K:D->Prop):Prop:=
 match x with
 | .sl _ xX=>K (.int .i64 xX.length)
 | .zZ _ _ n=>K (.int .i64 n)
 | .sub _ _ _ n=>K (.int .i64 n)
 | .xY=>K (.int .i64 0)
 | .emp=>K (.int .i64 0)
 | _=>False
def fC (sz:Nat) (x i:D) (K:D->Prop):Prop:=
 match x,i with
 | .sl sz' xX,.int _ n=>sz=sz'/\0<=n/\n<xX.length/\K (.ptr (xX.getD n.toNat []))
 | .zZ key sz' len,.int _ n=>sz=sz'/\0<=n/\n<len/\K (.ref key sz n.toNat 0)
 | .sub key sz' lo len,.int _ n=>sz=sz'/\0<=n/\n<len/\K (.ref key sz (lo+n.toNat) 0)
 | _,_=>False
def sX (neg:Bool) (x y:D) (K:D->Prop):Prop:=
 match x,y with
 | .xY,.xY=>K (.bool (!neg))
 | .zZ ..,.xY | .xY,.zZ ..=>K (.bool neg)
 | .emp,.xY | .xY,.emp=>K (.bool neg)
 | .sl _ (_ :: _),.xY=>K (.bool neg)
 | _,_=>False
def gE (σ:St) (n:Nat) (ag:Bool) (x:D) (K:D->Prop):Prop:=
 match x with
 | .ref key sz i off=>match σ.get key with
  | some o=>o.sz=sz/\i<o.xX.length/\off+n<=sz/\(ag=true\/n=1)/\ K (vV ag (((o.xX.getD i []).drop off).take n))
  | none=>False
 | .ptr cs=>n<=cs.length/\(ag=true\/n=1)/\ K (vV ag (cs.take n))
 | _=>False
def uf (x:D) (K:D->Prop):Prop:=
 match x with
 | .ref key sz i off=>K (.ref key sz i off)
 | .ptr cs=>K (.ptr cs)
 | .fn f cs=>K (.fn f cs)
 | _=>False
@[congr] theorem y7 {x x' : D} {K : D -> Prop} (h : x = x') : uf x K = uf x' K := by rw [h]
theorem ma {key sz i off:Nat} {K:D->Prop}:uf (.ref key sz i off) K=K (.ref key sz i off):=rfl
theorem lz {cs:List D} {K:D->Prop}:uf (.ptr cs) K=K (.ptr cs):=rfl
theorem gy {f:FuncId} {cs:List D} {K:D->Prop}:uf (.fn f cs) K=K (.fn f cs):=rfl
def gH (σ:St) (zero:D) (ok:Bool) (m k:D) (K:D->Prop):Prop:=
 match m,k with
 | .yU key,.int kk x=>match σ.get key with
  | some o=>o.sz=0/\rM kk o.xX/\K (tR ok zero (vB x o.xX 0))
  | none=>False
 | .tS,.int _ _=>K (tR ok zero none)
 | _,_=>False
def cH (σ:St) (m k x:D) (K:D->St->Prop):Prop:=
 match m,k with
 | .yU key,.int kk y=>match σ.get key with
  | some o=>o.sz=0/\rM kk o.xX/\K .wG (σ.set key ⟨0,lB kk o.xX y x⟩)
  | none=>False
 | _,_=>False
def yz (σ:St) (n:Nat) (zero:D) (ok:Bool) (m k:D) (K:D->Prop):Prop:=
 match m,k with
 | .yU key,.agg cs=>match σ.get key with
  | some o=>o.sz=0/\∃ (x:List Int) (l:List (List Int × D)),(cs=x.map (D.int .i64)/\ o.xX=nG l/\x.length=n/\∀ p ∈ l,p.1.length=n)/\ K (tR ok zero (pH x l 0))
  | none=>False
 | _,_=>False
def xa (σ:St) (n:Nat) (m k x:D) (K:D->St->Prop):Prop:=
 match m,k with
 | .yU key,.agg cs=>match σ.get key with
  | some o=>o.sz=0/\∃ (y:List Int) (l:List (List Int × D)),(cs=y.map (D.int .i64)/\ o.xX=nG l/\(y.length=n/\∀ p ∈ l,p.1.length=n))/\ K .wG (σ.set key ⟨0,nG (jZ y x l)⟩)
  | none=>False
 | _,_=>False
def pr (σ:St) (zero m k:D) (K:D->St->Prop):Prop:=
 match m,k with
 | .yU key,.int kk y=>match σ.get key with
  | some o=>o.sz=0/\rM kk o.xX/\o.xX.length<=1000000000/\(match vB y o.xX 0 with
   | some (i,d)=>K (.yN [d,.int .i64 i]) (σ.set key ⟨0,o.xX⟩)
   | none=>K (.yN [zero,.int .i64 o.xX.length]) (σ.set key ⟨0,o.xX ++ [[.int kk y,zero]]⟩))
  | none=>False
 | _,_=>False
def pj (σ:St) (m s x:D) (K:D->St->Prop):Prop:=
 match m,s with
 | .yU key,.int _ i=>match σ.get key with
  | some o=>o.sz=0/\0<=i/\i<o.xX.length/\(∃ kk y d,o.xX.getD i.toNat [] = [.int kk y,d]/\K .wG (σ.set key ⟨0,o.xX.set i.toNat [.int kk y,x]⟩))
  | none=>False
 | _,_=>False
@[congr] theorem dn {σ : St} {zero : D} {ok : Bool} {m m' k k' : D} {K : D -> Prop} (h : m = m') (h' : k = k') : gH σ zero ok m k K = gH σ zero ok m' k' K := by rw [h, h']
@[congr] theorem dt {σ : St} {m m' k k' x x' : D} {K : D -> St -> Prop} (h : m = m') (h' : k = k') (h2 : x = x') : cH σ m k x K = cH σ m' k' x' K := by rw [h, h', h2]
@[congr] theorem ff {σ : St} {n : Nat} {zero : D} {ok : Bool} {m m' k k' : D} {K : D -> Prop} (h : m = m') (h' : k = k') : yz σ n zero ok m k K = yz σ n zero ok m' k' K := by rw [h, h']
@[congr] theorem fh {σ : St} {n : Nat} {m m' k k' x x' : D} {K : D -> St -> Prop} (h : m = m') (h' : k = k') (h2 : x = x') : xa σ n m k x K = xa σ n m' k' x' K := by rw [h, h', h2]
@[congr] theorem dk {σ : St} {zero m m' k k' : D} {K : D -> St -> Prop} (h : m = m') (h' : k = k') : pr σ zero m k K = pr σ zero m' k' K := by rw [h, h']
@[congr] theorem df {σ : St} {m m' k k' x x' : D} {K : D -> St -> Prop} (h : m = m') (h' : k = k') (h2 : x = x') : pj σ m k x K = pj σ m' k' x' K := by rw [h, h', h2]
@[congr] theorem y4 {q : Bool} {σ : St} {sz bytes : Nat} {x x' : D} {y y' : Option (List (List D))} {K : D -> St -> Prop} (h : x = x') (h' : y = y') : lV q σ sz bytes x y K = lV q σ sz bytes x' y' K := by rw [h, h']
@[congr] theorem y9 {σ : St} {n : Nat} {x x' : D} {y y' : Option (List D)} {K : D -> St -> Prop} (h : x = x') (h' : y = y') : qh σ n x y K = qh σ n x' y' K := by rw [h, h']
@[congr] theorem y6 {x x' : D} {K : D -> Prop} (h : x = x') : gW x K = gW x' K := by rw [h]
@[congr] theorem y5 {sz : Nat} {x x' i i' : D} {K : D -> Prop} (h : x = x') (h' : i = i') : fC sz x i K = fC sz x' i' K := by rw [h, h']
@[congr] theorem fi {neg : Bool} {x x' i i' : D} {K : D -> Prop} (h : x = x') (h' : i = i') : sX neg x i K = sX neg x' i' K := by rw [h, h']
@[congr] theorem dh {σ : St} {n : Nat} {ag : Bool} {x x' : D} {K : D -> Prop} (h : x = x') : gE σ n ag x K = gE σ n ag x' K := by rw [h]
def pX (C:Cx) (σ:St) (ev:yG->D) (k:DK) (K:D->Prop):Prop:=
 match k with
 | .len x=>gW (ev x) K
 | .idx sz x i=>fC sz (ev x) (ev i) K
 | .qC neg x y=>sX neg (ev x) (ev y) K
 | .load n ag x=>gE σ n ag (ev x) K
 | .nH zero ok m k=>gH σ zero ok (ev m) (ev k) K
 | .oG n zero ok m k=>yz σ n zero ok (ev m) (ev k) K
 | .jv x=>uf (ev x) K
 | k=>pW C σ ev k K
theorem ee (C:Cx) (σ:St) (ev:yG->D) (k:DK) (K:D->Prop):pX C σ ev k K=pW C σ ev k K:=by cases k <;> rfl
def gQ (C:Cx) (σ:St) (ev:yG->D) (k:DK) (K:D->St->Prop):Prop:=
 match k with
 | .box x=>wX C σ ev (.box x) K
 | .alloc z=>wX C σ ev (.alloc z) K
 | .store n a x=>qh σ n (ev a) (ev x).cells K
 | .app sz bytes x y=>lV (C.own.contains 77777) σ sz bytes (ev x) (rowsOf σ sz (ev y)) K
 | .pP sz bytes zero len cap=>wX C σ ev (.pP sz bytes zero len cap) K
 | .tT sz len zero parts=>wX C σ ev (.tT sz len zero parts) K
 | .cQ zero x=>wX C σ ev (.cQ zero x) K
 | .xm x y=>wX C σ ev (.xm x y) K
 | .call fn args=>wX C σ ev (.call fn args) K
 | .gP=>wX C σ ev .gP K
 | .qU m k x=>cH σ (ev m) (ev k) (ev x) K
 | .tD n m k x=>xa σ n (ev m) (ev k) (ev x) K
 | .nY zero m k=>pr σ zero (ev m) (ev k) K
 | .nZ m s x=>pj σ (ev m) (ev s) (ev x) K
 | k=>pX C σ ev k (YC σ K)
theorem eT (C:Cx) (σ:St) (ev:yG->D) (k:DK) (K:D->St->Prop):gQ C σ ev k K=wX C σ ev k K:=by cases k <;> first | rfl | (show pX _ _ _ _ _=_; rw [ee]; rfl)
def lY (C:Cx):List xT->(Fr->St->Prop)->Fr->St->Prop
 | [],K,f,σ=>K f σ
 | ⟨dst,g,k⟩ :: rest,K,f,σ=>gd g f (gQ C σ (wJ f) k (cl f dst (lY C rest K))) (lY C rest K (f.put dst .wG) σ)
theorem mY (C:Cx) (K:Fr->St->Prop):∀ (ops:List xT) (f:Fr) (σ:St),lY C ops K f σ=wU C ops f σ K
 | [],f,σ=>rfl
 | o :: rest,f,σ=>by
  have ih:lY C rest K=λf σ=>wU C rest f σ K:=by funext f σ; exact mY C K rest f σ
  unfold lY wU;rw [ea,eT,ih];rfl
def kP (C:Cx) (σ:St):List xT->(Fr->Prop)->Fr->Prop
 | [],K,f=>K f
 | ⟨dst,g,k⟩ :: rest,K,f=>gd g f (pX C σ (wJ f) k (cm f dst (kP C σ rest K))) (kP C σ rest K (f.put dst .wG))
theorem vO (C:Cx) (σ:St) (K:Fr->Prop):∀ (ops:List xT) (f:Fr),kP C σ ops K f=yC C σ ops f K
 | [],f=>rfl
 | o :: rest,f=>by
  have ih:kP C σ rest K=λf=>yC C σ rest f K:=by funext f; exact vO C σ K rest f
  unfold kP yC;rw [ea,ee,ih];rfl
def cI (C:Cx) (post:List xT) (Q:Exit->Fr->St->Prop) (σ:St) (f:Fr):Prop:=lY C post (nC Q) f σ
def w5 (d:D) (p q:Prop):Prop:=
 match d with
 | .bool t=>if t=true then p else q
 | _=>False
theorem kc (t:Bool) (p q:Prop):w5 (.bool t) p q=if t=true then p else q:=rfl
@[congr] theorem w9 {d d' : D} {p q : Prop} (h : d = d') : w5 d p q = w5 d' p q := by rw [h]
def eS (C:Cx) (it:Nat) (m:yG) (out nx more next pair:Nat) (rest:List xT) (code:DC) (Q:Exit->Fr->St->Prop) (f:Fr) (σ:St):Prop:=jT C it m out nx more next pair rest code f σ Q
@[congr] theorem fg {C : Cx} {it : Nat} {m : yG} {out nx more next pair : Nat} {rest : List xT} {code : DC} {Q : Exit -> Fr -> St -> Prop} {f f' : Fr} {σ : St} (h : f = f') : eS C it m out nx more next pair rest code Q f σ = eS C it m out nx more next pair rest code Q f' σ := by rw [h]
def vg (C:Cx) (code:DC) (out next:Nat) (J:Fr->St->Prop) (Q:Exit->Fr->St->Prop) (f:Fr) (σ:St):Prop:=wpS C code f σ (sW next (pN J (sW out Q)))
@[congr] theorem jw {C : Cx} {code : DC} {out next : Nat} {J : Fr -> St -> Prop} {Q : Exit -> Fr -> St -> Prop} {f f' : Fr} {σ : St} (h : f = f') : vg C code out next J Q f σ = vg C code out next J Q f' σ := by rw [h]
def bX (C:Cx) (k:DK) (K:Fr->D->St->Prop) (σ:St) (f1:Fr):Prop:=gQ C σ (wJ f1) k (K f1)
def ez (f:Fr) (g:Fr):Prop:=g=f
def w8 (C:Cx) (un:Bool) (mid:List xT) (f1:Fr) (σ:St) (K:Fr->St->Prop) (σ1:St) (f2:Fr):Prop:=(if un=true then kP C σ mid (ez f2) f1 else True)/\ K f2 σ1
def ue (C:Cx) (pre:List xT) (dst:Option Nat) (mid:List xT) (un:Bool) (post:List xT) (Q:Exit->Fr->St->Prop) (f:Fr) (σ:St) (f1:Fr) (d:D) (σ1:St):Prop:= kP C σ1 pre (ez f1) f/\kP C σ1 mid (w8 C un mid (f1.put dst d) σ (lY C post (nC Q)) σ1) (f1.put dst d)
theorem gu {C:Cx} {pre:List xT} {dst:Option Nat} {mid:List xT} {un:Bool} {post:List xT} {Q:Exit->Fr->St->Prop} {f:Fr} {σ:St} {f1:Fr} {d:D} {σ1:St} :
  ue C pre dst mid un post Q f σ f1 d σ1=qd C pre dst mid un f σ (λf σ=>wU C post f σ λf σ=>Q .normal f σ) f1 d σ1:=by
 unfold ue qd;rw [vO,vO]
 have:w8 C un mid (f1.put dst d) σ (lY C post (nC Q)) σ1=λf2=>(if un=true then yC C σ mid (f1.put dst d) (λg=>g=f2) else True)/\ wU C post f2 σ1 λf σ=>Q .normal f σ:=by funext f2;unfold w8;rw [vO,mY];rfl
 rw [this];rfl
def xr (C:Cx):DC->(Exit->Fr->St->Prop)->Fr->St->Prop
 | .skip,Q,f,σ=>Q .normal f σ
 | .vF pre post,Q,f,σ=>kP C σ pre (cI C post Q σ) f
 | .kB pre m mid un post,Q,f,σ=>kP C σ pre (bX C m.k (ue C pre m.dst mid un post Q f σ) σ) f
 | .mB pre m1 mid1 m2 mid2 post,Q,f,σ=>rR C (.mB pre m1 mid1 m2 mid2 post) f σ Q
 | .seq a b,Q,f,σ=>xr C a (pN (xr C b Q) Q) f σ
 | .cond c a b,Q,f,σ=>w5 (wJ f c) (xr C a Q f σ) (xr C b Q f σ)
 | .block id c,Q,f,σ=>xr C c (sW id Q) f σ
 | .loop c,Q,f,σ=>wpS C (.loop c) f σ Q
 | .nK g ps a c,Q,f,σ=>wpS C (.nK g ps a c) f σ Q
 | .mA pre m1 mid1 m2 mid2 post free,Q,f,σ=>wpS C (.mA pre m1 mid1 m2 mid2 post free) f σ Q
 | .mC pre m mid un post fl,Q,f,σ=>wpS C (.mC pre m mid un post fl) f σ Q
 | .exit id,Q,f,σ=>Q (.exit id) f σ
 | .ret,Q,f,σ=>Q .ret f σ
 | .uj ..,_,_,_=>False
 | .qo ..,_,_,_=>False
 | .qm ..,_,_,_=>False
 | .nB pre it m out nx more next pair rest code,Q,f,σ=>lY C pre (eS C it m out nx more next pair rest code Q) f σ
theorem nV (C:Cx):∀ (dc:DC) (Q:Exit->Fr->St->Prop) (f:Fr) (σ:St),xr C dc Q f σ=rR C dc f σ Q
 | .skip,Q,f,σ=>rfl
 | .vF pre post,Q,f,σ=>by
  unfold xr rR;rw [vO]
  have:cI C post Q σ=λf=>wU C post f σ λf σ=>Q .normal f σ:=by funext f;unfold cI;rw [mY];rfl
  rw [this]
 | .kB pre m mid un post,Q,f,σ=>by
  unfold xr rR;rw [vO]
  have:bX C m.k (ue C pre m.dst mid un post Q f σ) σ=λf1=>wX C σ (wJ f1) m.k λd σ1=>qd C pre m.dst mid un f σ (λf σ=>wU C post f σ λf σ=>Q .normal f σ) f1 d σ1:=by funext f1;unfold bX;rw [eT];congr 1;funext d σ1;exact gu
  rw [this]
 | .mB ..,Q,f,σ=>rfl
 | .seq a b,Q,f,σ=>by
  have ih:xr C b Q=λf σ=>rR C b f σ Q:=by funext f σ; exact nV C b Q f σ
  unfold xr;rw [nV C a,ih];rfl
 | .cond c a b,Q,f,σ=>by unfold xr;rw [nV C a,nV C b];rfl
 | .block id c,Q,f,σ=>by unfold xr; rw [nV C c]; rfl
 | .loop c,Q,f,σ=>rfl
 | .nK g ps a c,Q,f,σ=>rfl
 | .mA ..,Q,f,σ=>rfl
 | .mC ..,Q,f,σ=>rfl
 | .exit id,Q,f,σ=>rfl
 | .ret,Q,f,σ=>rfl
 | .uj ..,_,_,_=>rfl
 | .qo ..,_,_,_=>rfl
 | .qm ..,_,_,_=>rfl
 | .nB pre it m out nx more next pair rest code,Q,f,σ=>by unfold xr rR; rw [mY]; rfl
noncomputable def eV {α:Sort u} (a:α):α:=Classical.choose (⟨a,rfl⟩:∃ b:α,b=a)
theorem lN {α:Sort u} (a:α):eV a=a:=Classical.choose_spec (⟨a,rfl⟩:∃ b:α,b=a)
noncomputable def fD (C:Cx):List xT->(Fr->St->Prop)->Fr->St->Prop:=eV (lY C)
noncomputable def oJ (C:Cx) (σ:St):List xT->(Fr->Prop)->Fr->Prop:=eV (kP C σ)
noncomputable def gX (C:Cx):DC->(Exit->Fr->St->Prop)->Fr->St->Prop:=eV (xr C)
theorem oZ (C:Cx):fD C=lY C:=lN _
theorem tQ (C:Cx) (σ:St):oJ C σ=kP C σ:=lN _
theorem vA (C:Cx):gX C=xr C:=lN _
section
variable (C : Cx) (σ : St) (f : Fr) (Q : Exit -> Fr -> St -> Prop) (K : Fr -> St -> Prop) (K1 : Fr -> Prop) (a b c : DC) (dst : Option Nat) (g : Option (Nat × Bool)) (k : DK) (rest pre post : List xT) (x : yG) (id : Nat)
theorem nb : fD C [] K f σ=K f σ:=by rw [oZ]; rfl
theorem sn : fD C (⟨dst,g,k⟩ :: rest) K f σ=gd g f (gQ C σ (wJ f) k (cl f dst (fD C rest K))) (fD C rest K (f.put dst .wG) σ):=by rw [oZ]; rfl
theorem nd : oJ C σ [] K1 f=K1 f:=by rw [tQ]; rfl
theorem ss : oJ C σ (⟨dst,g,k⟩ :: rest) K1 f=gd g f (pX C σ (wJ f) k (cm f dst (oJ C σ rest K1))) (oJ C σ rest K1 (f.put dst .wG)):=by rw [tQ]; rfl
def gL (C:Cx) (post:List xT) (Q:Exit->Fr->St->Prop) (σ:St) (f:Fr):Prop:=fD C post (nC Q) f σ
theorem oo : gX C .skip Q f σ=Q .normal f σ:=by rw [vA]; rfl
theorem jh : gX C (.vF pre post) Q f σ=oJ C σ pre (gL C post Q σ) f:=by
 have e:gL C post Q σ=cI C post Q σ:=by funext f; unfold gL cI; rw [oZ]
 rw [vA,tQ,e]; rfl
def oE (C:Cx) (k:DK) (K:Fr->D->St->Prop) (σ:St) (f1:Fr):Prop:=gQ C σ (wJ f1) k (K f1)
def j0 (C:Cx) (un:Bool) (mid:List xT) (f1:Fr) (σ:St) (K:Fr->St->Prop) (σ1:St) (f2:Fr):Prop:=(if un=true then oJ C σ mid (ez f2) f1 else True)/\ K f2 σ1
def jq (C:Cx) (pre:List xT) (dst:Option Nat) (mid:List xT) (un:Bool) (post:List xT) (Q:Exit->Fr->St->Prop) (f:Fr) (σ:St) (f1:Fr) (d:D) (σ1:St):Prop:= oJ C σ1 pre (ez f1) f/\oJ C σ1 mid (j0 C un mid (f1.put dst d) σ (fD C post (nC Q)) σ1) (f1.put dst d)
theorem oi {mid:List xT} {un:Bool}:gX C (.kB pre ⟨dst,g,k⟩ mid un post) Q f σ=oJ C σ pre (oE C k (jq C pre dst mid un post Q f σ) σ) f:=by
 have e:oE C k (jq C pre dst mid un post Q f σ) σ=bX C k (ue C pre dst mid un post Q f σ) σ:=by
  funext f1;unfold oE bX;congr 1;funext d σ1;unfold jq ue
  have e2:j0 C un mid (f1.put dst d) σ (fD C post (nC Q)) σ1=w8 C un mid (f1.put dst d) σ (lY C post (nC Q)) σ1:=by funext f2; unfold j0 w8; rw [oZ,tQ]
  rw [e2,tQ]
 rw [vA,tQ,e]; rfl
theorem kg (f:Fr):ez f f=True:=eq_true rfl
theorem jj : gX C (.seq a b) Q f σ=gX C a (pN (gX C b Q) Q) f σ:=by rw [vA]; rfl
theorem oe : gX C (.cond x a b) Q f σ=w5 (wJ f x) (gX C a Q f σ) (gX C b Q f σ):=by rw [vA]; rfl
theorem tw : gX C (.block id c) Q f σ=gX C c (sW id Q) f σ:=by rw [vA]; rfl
theorem oh : gX C (.loop c) Q f σ=wpS C (.loop c) f σ Q:=by rw [vA]; rfl
theorem om {g:yG} {ps:List Nat}:gX C (.nK g ps a c) Q f σ=wpS C (.nK g ps a c) f σ Q:=by rw [vA]; rfl
theorem og : gX C (.exit id) Q f σ=Q (.exit id) f σ:=by rw [vA]; rfl
theorem ji : gX C .ret Q f σ=Q .ret f σ:=by rw [vA]; rfl
theorem tx {it:Nat} {m:yG} {out nx more next pair:Nat} {rst:List xT} {code:DC}:gX C (.nB pre it m out nx more next pair rst code) Q f σ=fD C pre (eS C it m out nx more next pair rst code Q) f σ:=by rw [vA,oZ]; rfl
end
theorem yW {C:Cx} (hm:C.P.follows .mixedOrders=true) {dc:DC} {f:Fr} {σ:St} {Q:Exit->Fr->St->Prop} (h:gX C dc Q f σ):wpS C dc f σ Q:= jW hm (by rw [<- nV,<- vA]; exact h)
theorem xS.l6 {P:Program} {g:FuncId} {fn:Func} {own:List Nat} {N:Nat} {dc:DC} {rs:List rO} {args:List D} {σ:St} {d:D} {σ':St} (hm:P.follows .mixedOrders=true) (hf:P.funcs[g]?=some fn)
  (hc:xW P own fn=some (N,dc,rs)) (hla:args.length<=N)
  (h:D.vU args->gX ⟨P,N,σ.nx,own,none⟩ dc (bY ⟨P,N,σ.nx,own,none⟩ rs d σ') (rL 0 args) σ):xS P g args σ d σ':=
 xS.ec hm hf hc hla λhfa=>by rw [<- nV,<- vA]; exact h hfa
end Go.Pd
namespace Go.Pd
open Go
theorem aT (s:BitVec 64) (w:Nat):s >>> w &&& 1#64=if s.getLsbD w then 1#64 else 0#64:=by
 apply ω;rw [BitVec.toNat_and,Ab];have:(1#64).toNat=1:=rfl;rw [this,Nat.and_one_is_mod];unfold BitVec.getLsbD;rw [Nat.testBit_eq_decide_div_mod_eq,Ai]
 by_cases h:s.toNat / 2 ^ w % 2=1
 ·simp [h]
 ·simp [h]; omega
def fA (s:BitVec 64) (w:Int):Bool:=decide (0<=w)&& s.getLsbD w.toNat
theorem or_zero {a k:Nat} (h:a<2 ^ k) (hk:k<62):pS .or .i64 (a:Int) (cO .i64 0 k)= (a:Int):=by
 have hp:2 ^ k<2 ^ 62:=Nat.pow_lt_pow_right (by omega) hk
 have e1:cO .i64 0 k=0:=by unfold cO;rw [Int.zero_mul]; rfl
 rw [e1];show IntKind.i64.wrap ((BitVec.ofInt 64 (a:Int) ||| BitVec.ofInt 64 0).toNat:Int)= _;rw [Aa,BitVec.toNat_or,Ac,Nat.mod_eq_of_lt (by omega)];have:(BitVec.ofInt 64 0).toNat=0:=rfl;rw [this,Nat.or_zero];exact wrap_i64 (by omega)
end Go.Pd
namespace Go.Pd
open Go
theorem wM (key sz:Nat):xI key sz [] = .xY:=rfl
theorem nN (key sz:Nat) (e:List D) (r:List (List D)):xI key sz (e :: r)= .zZ key sz (r.length+1):=rfl
theorem wN (key sz:Nat):xN key sz [] = []:=rfl
theorem zf (key sz:Nat) (e:List D) (r:List (List D)):xN key sz (e :: r)= [(key,⟨sz,e :: r⟩)]:=rfl
theorem mP (k:IntKind):rows k [] = []:=rfl
theorem oO (k:IntKind) (n:Int) (l:List Int):rows k (n :: l)= [.int k n] :: rows k l:=rfl
theorem fZ (k:IntKind) (l:List Int) (n:Int):rows k l ++ [[.int k n]]=rows k (l ++ [n]):=by simp [rows]
theorem eJ (l:List (List (BitVec 64))) (r:List (BitVec 64)):rr l ++ [[.sl 1 (us r)]]=rr (l ++ [r]):=by simp [rr,ug]
theorem oy : rr [] = []:=rfl
theorem vm (l:List (BitVec 64)) (r:List (List (BitVec 64))):rr (l :: r)= [.sl 1 (us l)] :: rr r:=rfl
variable [zJ]
theorem zA.grow {C:Cx} {f f':Fr} {n sz:Nat} {xX:List (List D)} (hn:C.n0<=n) (hp:∀ e ∈ xX,D.xR e=true)
  (hf:cS ⟨n+2,[(n+1,⟨sz,xX⟩)]⟩ ⟨n+1,[(n,⟨sz,xX⟩)]⟩ (λk=>if k=n then n+1 else k) f f'):zA C f ⟨n+2,[(n+1,⟨sz,xX⟩)]⟩ f' ⟨n+1,[(n,⟨sz,xX⟩)]⟩:=by
 refine zA.view (λk=>if k=n then n+1 else k) (by show C.n0<=n+1; omega) (λk hk=>if_neg (by omega)) hf ?_ ?_
 ·intro p hp';simp only [ε] at hp';subst hp';exact⟨Nat.lt_succ_self n,⟨sz,xX⟩,by simp [St.get,St.look],rfl,.same hp⟩
 ·intro p hp' q hq' _;simp only [ε] at hp' hq';rw [hp',hq']
theorem ri {key m n sz:Nat} {xX:List (List D)} (hs:0<sz) (hp:∀ e ∈ xX,D.xR e=true) {ρ:Nat->Nat}:vw ⟨m,xN key sz xX⟩ ⟨n,[]⟩ ρ (xI key sz xX) (.sl sz xX):=by
 cases xX with
 | nil=>simp [xI,vw]
 | cons e r=> simp only [xI,xN,vw];refine⟨trivial,hs,by simp,⟨sz,e :: r⟩,by simp [St.get,St.look],rfl,Ah _,by simp,hp⟩
theorem nW.name {n0 n m sz j:Nat} {xX:List (List D)} {d d':D} (hn:n0<=n) (hp:∀ e ∈ xX,D.xR e=true) (hv:vw ⟨m,[(j,⟨sz,xX⟩)]⟩ ⟨n+1,[(n,⟨sz,xX⟩)]⟩ (λk=>if k=n then j else k) d d'):nW n0 ⟨m,[(j,⟨sz,xX⟩)]⟩ d ⟨n+1,[(n,⟨sz,xX⟩)]⟩ d':=by
 refine .inr ⟨λk=>if k=n then j else k,by show n0<=n+1; omega,λk hk=>if_neg (by omega),hv,?_,?_⟩
 ·intro p hp';simp only [ε] at hp';subst hp';exact⟨Nat.lt_succ_self n,⟨sz,xX⟩,by simp [St.get,St.look],rfl,.same hp⟩
 ·intro p hp' q hq' _;simp only [ε] at hp' hq';rw [hp',hq']
end Go.Pd
namespace Go.Pd
open Go
def vR (sz:Nat):List (List D)->Option Ob
 | []=>none
 | e :: r=>some ⟨sz,e :: r⟩
theorem qL {k s:Nat} {xX:List (List D)} {r:List (Nat × Ob)} {k':Nat}:St.look (xN k s xX++r) k'=if k=k' then(vR s xX).or (St.look r k') else St.look r k':=by
 cases xX with
 | nil=>simp [xN,vR]
 | cons e l=>simp [xN,vR,St.look]
theorem pC {k s:Nat} {xX:List (List D)} {k':Nat}:St.look (xN k s xX) k'=if k=k' then vR s xX else none:=by have:=qL (k:=k) (s:=s) (xX:=xX) (r:=[]) (k':=k');simp only [δ,St.look,Option.or_none] at this;exact this
theorem kU {k s:Nat} {xX:List (List D)} {r:List (Nat × Ob)} {k':Nat}:yK (xN k s xX++r) k'=if k=k' then yK r k' else xN k s xX++yK r k':=by
 cases xX with
 | nil=>simp [xN]
 | cons e l=>simp [xN,yK]
theorem cV {k s:Nat} {xX:List (List D)} {k':Nat}:yK (xN k s xX) k'=if k=k' then [] else xN k s xX:=by have:=kU (k:=k) (s:=s) (xX:=xX) (r:=[]) (k':=k');simp only [δ,yK] at this;exact this
theorem bR : ∀ {r:List (Nat × Ob)} {k:Nat} {o:Ob},St.look r k=none->tF r k o=r
 | [],_,_,_=>rfl
 | (j,o') :: r,k,o,h=>by
  simp only [St.look] at h
  split at h
  ·cases h
  ·rename_i hn;simp only [tF,if_neg hn,bR h]
theorem iI : ∀ {r:List (Nat × Ob)} {k:Nat},St.look r k=none->yK r k=r
 | [],_,_=>rfl
 | (j,o') :: r,k,h=>by
  simp only [St.look] at h
  split at h
  ·cases h
  ·rename_i hn;simp only [yK,if_neg hn,iI h]
theorem gA {k s:Nat} {xX els':List (List D)} {r:List (Nat × Ob)} (hl:els'.length=xX.length) (h:St.look r k=none):tF (xN k s xX++r) k ⟨s,els'⟩= xN k s els'++r:=by
 cases xX with
 | nil=> have:els' = []:=List.eq_nil_of_length_eq_zero (by simpa using hl);subst this;simp only [xN,η];exact bR h
 | cons e l=>
  cases els' with
  | nil=>simp at hl
  | cons e' l'=>simp [xN,tF]
theorem yf {k s:Nat} {xX els':List (List D)} (hl:els'.length=xX.length):tF (xN k s xX) k ⟨s,els'⟩= xN k s els':=by have:=gA (k:=k) (s:=s) (r:=[]) hl rfl;simp only [δ] at this;exact this
theorem dS {k s:Nat} {xX:List (List D)} {r:List (Nat × Ob)} {k':Nat} {o:Ob} (h:k≠k'):tF (xN k s xX++r) k' o=xN k s xX++tF r k' o:=by
 cases xX with
 | nil=>simp [xN]
 | cons e l=>simp [xN,tF,h]
theorem aC (k s:Nat) (xX:List (List D)):(xI k s xX).cells=some [xI k s xX]:=by cases xX <;> rfl
theorem sk (k s:Nat) (xX:List (List D)):(xI k s xX).one=true:=by cases xX <;> rfl
theorem qx (k s n:Nat):(D.zZ k s n).cells=some [.zZ k s n]:=rfl
theorem rf (k s l n:Nat):(D.sub k s l n).cells=some [.sub k s l n]:=rfl
theorem qy (k:IntKind) (n:Int):(D.int k n).cells=some [.int k n]:=rfl
theorem wo (b:Bool):(D.bool b).cells=some [.bool b]:=rfl
theorem re (s:ByteArray):(D.str s).cells=some [.str s]:=rfl
theorem kf (sz:Nat) (xX:List (List D)):(D.sl sz xX).cells=some [.sl sz xX]:=rfl
theorem wz : D.xY.cells=some [.xY]:=rfl
theorem qz : D.emp.cells=some [.emp]:=rfl
theorem qw (cs:List D):(D.agg cs).cells=some cs:=rfl
theorem ke (f:FuncId) (cs:List D):(D.fn f cs).cells=some [.fn f cs]:=rfl
theorem rb (a b c d:Nat):(D.ref a b c d).cells=some [.ref a b c d]:=rfl
theorem ra (cs:List D):(D.ptr cs).cells=some [.ptr cs]:=rfl
theorem wq (k:Nat):(D.yU k).cells=some [.yU k]:=rfl
theorem wv : D.qW.cells=some [.qW]:=rfl
theorem wu : D.tS.cells=some [.tS]:=rfl
theorem wt : D.qV.cells=some [.qV]:=rfl
theorem ib (k:IntKind) (n:Int):(D.int k n).one=true:=rfl
theorem ml (b:Bool):(D.bool b).one=true:=rfl
theorem ik (s:ByteArray):(D.str s).one=true:=rfl
theorem az (sz:Nat) (xX:List (List D)):(D.sl sz xX).one=true:=rfl
theorem na : D.xY.one=true:=rfl
theorem ia : D.emp.one=true:=rfl
theorem aw (f:FuncId) (cs:List D):(D.fn f cs).one=true:=rfl
theorem ij (a b c d:Nat):(D.ref a b c d).one=true:=rfl
theorem ic (a b c:Nat):(D.zZ a b c).one=true:=rfl
theorem ig (cs:List D):(D.ptr cs).one=true:=rfl
theorem mq (k:Nat):(D.yU k).one=true:=rfl
theorem mz : D.qW.one=true:=rfl
theorem mw : D.tS.one=true:=rfl
theorem mr : D.qV.one=true:=rfl
section
variable [zJ]
theorem qq {q:Bool} {σ:St} {sz bytes key:Nat} {xX:List (List D)} {rw:List (List D)} {K:D->St->Prop} (h:σ.get key=vR sz xX) (h0:rw ≠ []) :
  lV q σ sz bytes (xI key sz xX) (some rw) K=((∀ r ∈ rw,yX r=true)/\ (xX.length+rw.length)* bytes<=140737488355328/\xX.length+rw.length<=8000000000000 /\
   K (xI σ.nx sz (xX++rw)) ⟨σ.nx+1,xN σ.nx sz (xX++rw)++ yK σ.xZ key⟩):=by
 cases xX with
 | nil=>
  obtain⟨r,rs,rfl⟩:∃ r rs,rw=r :: rs:=by cases rw with | nil=>exact absurd rfl h0 | cons r rs=>exact⟨r,rs,rfl⟩
  have he:yK σ.xZ key=σ.xZ:=iI h;simp only [lV,xI,xN,St.new,he,η,μ,Aj];simp
 | cons e l=>
  have e1:l.length+1+rw.length=l.length+rw.length+1:=by omega
  simp only [lV,xI,h,vR,St.erase,St.new,xN];simp [xI,xN,e1]
theorem wm {q:Bool} {nx:Nat} {xZ:List (Nat × Ob)} {sz bytes key:Nat} {xX:List (List D)} {r:List D} {rs:List (List D)} {K:D->St->Prop} (h:St.look xZ key=vR sz xX) :
  lV q ⟨nx,xZ⟩ sz bytes (xI key sz xX) (some (r :: rs)) K=((∀ x ∈ r :: rs,yX x=true)/\ (xX.length+(r :: rs).length)* bytes<=140737488355328/\xX.length+(r :: rs).length<=8000000000000 /\
   K (xI nx sz (xX++r :: rs)) ⟨nx+1,xN nx sz (xX++r :: rs)++ yK xZ key⟩):=qq h (by simp)
theorem ka {q:Bool} {σ:St} {sz bytes:Nat} {r:List D} {rs:List (List D)} {K:D->St->Prop} :
  lV q σ sz bytes .xY (some (r :: rs)) K=((∀ x ∈ r :: rs,yX x=true)/\ (r :: rs).length*bytes<=140737488355328/\(r :: rs).length<=8000000000000/\K (.zZ σ.nx sz (r :: rs).length) (σ.new ⟨sz,r :: rs⟩)):=by
 simp [lV]
theorem kb {q:Bool} {σ:St} {sz sz' bytes key n:Nat} {rows:List (List D)} {K:D->St->Prop} :
  lV q σ sz bytes (.zZ key sz' n) (some rows) K=((∀ x ∈ rows,yX x=true)/\ match σ.get key with
   | some ob=>sz=sz'/\ob.sz=sz/\n<=ob.xX.length/\(n+rows.length)* bytes<=140737488355328/\n+rows.length<=8000000000000/\K (.zZ σ.nx sz (n+rows.length)) ((σ.erase key).new ⟨sz,ob.xX.take n++rows⟩)
   | none=>False):=rfl
def xk (nx:Nat) (xZ:List (Nat × Ob)) (n key sz i off:Nat) (ds:List D) (K:D->St->Prop):Option Ob->Prop
 | some ob=>ob.sz=sz/\i<ob.xX.length/\ds.length=n/\off+n<=sz/\yX ds=true/\K .wG ⟨nx,tF xZ key ⟨sz,ob.xX.set i (rV (ob.xX.getD i []) off ds)⟩⟩
 | none=>False
@[congr] theorem y8 {nx : Nat} {xZ : List (Nat × Ob)} {n key sz i off : Nat} {ds : List D} {K : D -> St -> Prop} {o o' : Option Ob} (h : o = o') : xk nx xZ n key sz i off ds K o = xk nx xZ n key sz i off ds K o' := by rw [h]
theorem ns {nx:Nat} {xZ:List (Nat × Ob)} {n key sz i off:Nat} {ds:List D} {K:D->St->Prop}:qh ⟨nx,xZ⟩ n (.ref key sz i off) (some ds) K=xk nx xZ n key sz i off ds K (St.look xZ key):=by simp only [qh,St.get];cases St.look xZ key <;> rfl
theorem tq {nx:Nat} {xZ:List (Nat × Ob)} {n key sz i off:Nat} {ds:List D} {K:D->St->Prop} {sz':Nat} {xX:List (List D)} :
  xk nx xZ n key sz i off ds K (some ⟨sz',xX⟩)= (sz'=sz/\i<xX.length/\ds.length=n/\off+n<=sz/\yX ds=true/\K .wG ⟨nx,tF xZ key ⟨sz,xX.set i (rV (xX.getD i []) off ds)⟩⟩):=rfl
theorem tp {nx:Nat} {xZ:List (Nat × Ob)} {n key sz i off:Nat} {ds:List D} {K:D->St->Prop} {xX:List (List D)} :
  xk nx xZ n key sz i off ds K (vR sz xX)= (i<xX.length/\ds.length=n/\off+n<=sz/\yX ds=true/\K .wG ⟨nx,tF xZ key ⟨sz,xX.set i (rV (xX.getD i []) off ds)⟩⟩):=by
 cases xX with
 | nil=>simp [xk,vR]
 | cons e l=>simp [xk,vR]
def jX (n:Nat) (ag:Bool) (sz i off:Nat) (K:D->Prop):Option Ob->Prop
 | some o=>o.sz=sz/\i<o.xX.length/\off+n<=sz/\(ag=true\/n=1)/\ K (vV ag (((o.xX.getD i []).drop off).take n))
 | none=>False
@[congr] theorem dg {n sz i off : Nat} {ag : Bool} {K : D -> Prop} {o o' : Option Ob} (h : o = o') : jX n ag sz i off K o = jX n ag sz i off K o' := by rw [h]
theorem rv {nx:Nat} {xZ:List (Nat × Ob)} {n key sz i off:Nat} {ag:Bool} {K:D->Prop}:gE ⟨nx,xZ⟩ n ag (.ref key sz i off) K=jX n ag sz i off K (St.look xZ key):=by simp only [gE,St.get];cases St.look xZ key <;> rfl
theorem zi {n sz i off:Nat} {ag:Bool} {K:D->Prop} {sz':Nat} {xX:List (List D)}:jX n ag sz i off K (some ⟨sz',xX⟩)= (sz'=sz/\i<xX.length/\off+n<=sz/\(ag=true\/n=1)/\ K (vV ag (((xX.getD i []).drop off).take n))):=rfl
theorem zh {n sz i off:Nat} {ag:Bool} {K:D->Prop} {xX:List (List D)}:jX n ag sz i off K (vR sz xX)= (i<xX.length/\off+n<=sz/\(ag=true\/n=1)/\ K (vV ag (((xX.getD i []).drop off).take n))):=by
 cases xX with
 | nil=>simp [jX,vR]
 | cons e l=>simp [jX,vR]
theorem rq {σ:St} {n:Nat} {ag:Bool} {cs:List D} {K:D->Prop}:gE σ n ag (.ptr cs) K=(n<=cs.length/\(ag=true\/n=1)/\ K (vV ag (cs.take n))):=rfl
def pU (kk:IntKind) (l:List (Int × D)):List (List D):=l.map λp=>[.int kk p.1,p.2]
def tZ (x:Int):List (Int × D)->Nat->Option (Nat × D)
 | [],_=>none
 | (m,d) :: r,i=>if x=m then some (i,d) else tZ x r (i+1)
def uc (l:List (Int × D)) (x:Int) (d:D):List (Int × D):=
 match tZ x l 0 with
 | some (i,_)=>l.set i (x,d)
 | none=>l ++ [(x,d)]
theorem lu (kk:IntKind):pU kk [] = []:=rfl
theorem iK (kk:IntKind) (l:List (Int × D)):rM kk (pU kk l):=by intro row h;simp only [pU,ζ] at h;obtain⟨p,_,rfl⟩:=h;exact⟨_,_,rfl⟩
theorem nP (kk:IntKind) (x:Int):∀ (l:List (Int × D)) (i:Nat),vB x (pU kk l) i=tZ x l i
 | [],_=>rfl
 | (m,d) :: r,i=>by show vB x ([.int kk m,d] :: pU kk r) i=_;rw [vB,tZ,nP kk x r (i+1)]
theorem zm (kk:IntKind) (l:List (Int × D)) (x:Int) (d:D):lB kk (pU kk l) x d=pU kk (uc l x d):=by
 unfold lB uc;rw [nP]
 cases tZ x l 0 with
 | none=>simp [pU]
 | some p=>simp [pU,List.map_set]
def gG (kk:IntKind) (x:Int) (zero:D) (ok:Bool) (K:D->Prop):Option Ob->Prop
 | some o=>o.sz=0/\rM kk o.xX/\K (tR ok zero (vB x o.xX 0))
 | none=>False
@[congr] theorem dm {kk : IntKind} {x : Int} {zero : D} {ok : Bool} {K : D -> Prop} {o o' : Option Ob} (h : o = o') : gG kk x zero ok K o = gG kk x zero ok K o' := by rw [h]
theorem zj {nx:Nat} {xZ:List (Nat × Ob)} {zero:D} {ok:Bool} {key:Nat} {kk:IntKind} {x:Int} {K:D->Prop}:gH ⟨nx,xZ⟩ zero ok (.yU key) (.int kk x) K=gG kk x zero ok K (St.look xZ key):=by simp only [gH,St.get];cases St.look xZ key <;> rfl
theorem zk {σ:St} {zero:D} {ok:Bool} {kk:IntKind} {x:Int} {K:D->Prop}:gH σ zero ok .tS (.int kk x) K=K (tR ok zero none):=rfl
theorem iN {kk:IntKind} {x:Int} {zero:D} {ok:Bool} {K:D->Prop} {l:List (Int × D)}:gG kk x zero ok K (some ⟨0,pU kk l⟩)= K (tR ok zero (tZ x l 0)):=by simp only [gG,nP];exact propext ⟨λh=>h.2.2,λh=>⟨trivial,iK kk l,h⟩⟩
theorem se {kk:IntKind} {x:Int} {zero:D} {ok:Bool} {K:D->Prop}:gG kk x zero ok K (some ⟨0,[]⟩)= K (tR ok zero none):=iN (l:=[])
def gK (nx:Nat) (xZ:List (Nat × Ob)) (key:Nat) (kk:IntKind) (y:Int) (x:D) (K:D->St->Prop):Option Ob->Prop
 | some o=>o.sz=0/\rM kk o.xX/\K .wG ⟨nx,tF xZ key ⟨0,lB kk o.xX y x⟩⟩
 | none=>False
@[congr] theorem dp {nx : Nat} {xZ : List (Nat × Ob)} {key : Nat} {kk : IntKind} {y : Int} {x : D} {K : D -> St -> Prop} {o o' : Option Ob} (h : o = o') : gK nx xZ key kk y x K o = gK nx xZ key kk y x K o' := by rw [h]
theorem zn {nx:Nat} {xZ:List (Nat × Ob)} {key:Nat} {kk:IntKind} {y:Int} {x:D} {K:D->St->Prop}:cH ⟨nx,xZ⟩ (.yU key) (.int kk y) x K=gK nx xZ key kk y x K (St.look xZ key):=by simp only [cH,St.get];cases St.look xZ key <;> rfl
theorem iQ {nx:Nat} {xZ:List (Nat × Ob)} {key:Nat} {kk:IntKind} {y:Int} {x:D} {K:D->St->Prop} {l:List (Int × D)}:gK nx xZ key kk y x K (some ⟨0,pU kk l⟩)= K .wG ⟨nx,tF xZ key ⟨0,pU kk (uc l y x)⟩⟩:=by simp only [gK,zm];exact propext ⟨λh=>h.2.2,λh=>⟨trivial,iK kk l,h⟩⟩
theorem sg {nx:Nat} {xZ:List (Nat × Ob)} {key:Nat} {kk:IntKind} {y:Int} {x:D} {K:D->St->Prop}:gK nx xZ key kk y x K (some ⟨0,[]⟩)= K .wG ⟨nx,tF xZ key ⟨0,pU kk [(y,x)]⟩⟩:=iQ (l:=[])
theorem si (zero:D):tR true zero none = .yN [zero,.bool false]:=rfl
theorem sj (zero:D) (i:Nat) (d:D):tR true zero (some (i,d))= .yN [d,.bool true]:=rfl
theorem zo (zero:D):tR false zero none=zero:=rfl
theorem zp (zero:D) (i:Nat) (d:D):tR false zero (some (i,d))= d:=rfl
theorem gq {sz:Nat} {xX:List (List D)} {K:D->Prop}:gW (.sl sz xX) K=K (.int .i64 xX.length):=rfl
theorem kr {k sz n:Nat} {K:D->Prop}:gW (.zZ k sz n) K=K (.int .i64 n):=rfl
theorem ku {k sz lo n:Nat} {K:D->Prop}:gW (.sub k sz lo n) K=K (.int .i64 n):=rfl
theorem ko {sz key sz' lo len:Nat} {k:IntKind} {n:Int} {K:D->Prop}:fC sz (.sub key sz' lo len) (.int k n) K=(sz=sz'/\0<=n/\n<len/\K (.ref key sz (lo+n.toNat) 0)):=rfl
theorem rp {K:D->Prop}:gW .xY K=K (.int .i64 0):=rfl
theorem kq {K:D->Prop}:gW .emp K=K (.int .i64 0):=rfl
theorem gk {sz sz':Nat} {xX:List (List D)} {k:IntKind} {n:Int} {K:D->Prop}:fC sz (.sl sz' xX) (.int k n) K=(sz=sz'/\0<=n/\n<xX.length/\K (.ptr (xX.getD n.toNat []))):=rfl
theorem kn {sz key sz' len:Nat} {k:IntKind} {n:Int} {K:D->Prop}:fC sz (.zZ key sz' len) (.int k n) K=(sz=sz'/\0<=n/\n<len/\K (.ref key sz n.toNat 0)):=rfl
theorem mb {neg:Bool} {K:D->Prop}:sX neg .xY .xY K=K (.bool (!neg)):=rfl
theorem mc {neg:Bool} {K:D->Prop} {a b c:Nat}:sX neg (.zZ a b c) .xY K=K (.bool neg):=rfl
theorem mf {neg:Bool} {K:D->Prop} {a b c:Nat}:sX neg .xY (.zZ a b c) K=K (.bool neg):=rfl
theorem mg {neg:Bool} {K:D->Prop}:sX neg .emp .xY K=K (.bool neg):=rfl
theorem mh {neg:Bool} {K:D->Prop}:sX neg .xY .emp K=K (.bool neg):=rfl
theorem mi {neg:Bool} {K:D->Prop} {sz:Nat} {e:List D} {r:List (List D)}:sX neg (.sl sz (e :: r)) .xY K=K (.bool neg):=rfl
def jl (nx:Nat) (xZ:List (Nat × Ob)) (sz sz' bytes key n:Nat) (rows:List (List D)) (K:D->St->Prop):Option Ob->Prop
 | some ob=>sz=sz'/\ob.sz=sz/\n<=ob.xX.length/\(n+rows.length)* bytes<=140737488355328/\n+rows.length<=8000000000000/\K (.zZ nx sz (n+rows.length)) ⟨nx+1,(nx,⟨sz,ob.xX.take n++rows⟩) :: yK xZ key⟩
 | none=>False
@[congr] theorem y3 {nx : Nat} {xZ : List (Nat × Ob)} {sz sz' bytes key n : Nat} {rows : List (List D)} {K : D -> St -> Prop} {o o' : Option Ob} (h : o = o') : jl nx xZ sz sz' bytes key n rows K o = jl nx xZ sz sz' bytes key n rows K o' := by rw [h]
theorem qt {q:Bool} {nx:Nat} {xZ:List (Nat × Ob)} {sz sz' bytes key n:Nat} {rows:List (List D)} {K:D->St->Prop} :
  lV q ⟨nx,xZ⟩ sz bytes (.zZ key sz' n) (some rows) K=((∀ x ∈ rows,yX x=true)/\ jl nx xZ sz sz' bytes key n rows K (St.look xZ key)):=by
 rw [kb];simp only [St.get];cases St.look xZ key <;> rfl
theorem qp {nx:Nat} {xZ:List (Nat × Ob)} {sz sz' bytes key n:Nat} {rows:List (List D)} {K:D->St->Prop} {sz0:Nat} {xX:List (List D)} :
  jl nx xZ sz sz' bytes key n rows K (some ⟨sz0,xX⟩)= (sz=sz'/\sz0=sz/\n<=xX.length/\(n+rows.length)* bytes<=140737488355328/\n+rows.length<=8000000000000/\K (.zZ nx sz (n+rows.length)) ⟨nx+1,(nx,⟨sz,xX.take n++rows⟩) :: yK xZ key⟩):=rfl
def vz (q:Bool) (nx:Nat) (xZ:List (Nat × Ob)) (sz sz' bytes key lo n:Nat) (rows:List (List D)) (K:D->St->Prop):Option Ob->Prop
 | some ob=>q=true/\sz=sz'/\ob.sz=sz/\lo+n<=ob.xX.length/\(n+rows.length)* bytes<=140737488355328/\n+rows.length<=8000000000000 /\
  ∀ pre:List (List D),(pre = []\/pre=ob.xX.take lo)->K (.sub nx sz pre.length (n+rows.length)) ⟨nx+1,(nx,⟨sz,pre++((ob.xX.drop lo).take n++rows)⟩) :: yK xZ key⟩
 | none=>False
@[congr] theorem cw {q : Bool} {nx : Nat} {xZ : List (Nat × Ob)} {sz sz' bytes key lo n : Nat} {rows : List (List D)} {K : D -> St -> Prop} {o o' : Option Ob} (h : o = o') : vz q nx xZ sz sz' bytes key lo n rows K o = vz q nx xZ sz sz' bytes key lo n rows K o' := by rw [h]
theorem qu {q:Bool} {nx:Nat} {xZ:List (Nat × Ob)} {sz sz' bytes key lo n:Nat} {rows:List (List D)} {K:D->St->Prop} :
  lV q ⟨nx,xZ⟩ sz bytes (.sub key sz' lo n) (some rows) K=((∀ x ∈ rows,yX x=true)/\ vz q nx xZ sz sz' bytes key lo n rows K (St.look xZ key)):=by
 simp only [lV,St.get];cases St.look xZ key <;> rfl
theorem wk {q:Bool} {nx:Nat} {xZ:List (Nat × Ob)} {sz sz' bytes key lo n:Nat} {rows:List (List D)} {K:D->St->Prop} {sz0:Nat} {xX:List (List D)} :
  vz q nx xZ sz sz' bytes key lo n rows K (some ⟨sz0,xX⟩)= (q=true/\sz=sz'/\sz0=sz/\lo+n<=xX.length/\(n+rows.length)* bytes<=140737488355328/\n+rows.length<=8000000000000 /\
   ∀ pre:List (List D),(pre = []\/pre=xX.take lo)->K (.sub nx sz pre.length (n+rows.length)) ⟨nx+1,(nx,⟨sz,pre++((xX.drop lo).take n++rows)⟩) :: yK xZ key⟩):=rfl
theorem rn {key sz:Nat} {xX:List (List D)} {K:D->Prop}:gW (xI key sz xX) K=K (.int .i64 xX.length):=by cases xX <;> simp [gW,xI]
theorem rj {key sz sz':Nat} {xX:List (List D)} {k:IntKind} {n:Int} {K:D->Prop}:fC sz' (xI key sz xX) (.int k n) K=(sz'=sz/\0<=n/\n<xX.length/\K (.ref key sz n.toNat 0)):=by
 cases xX with
 | nil=>simp only [fC,xI,μ]; simp; intro _ h1 h2; omega
 | cons e l=>simp [fC,xI]; rintro rfl _ _; rfl
theorem aK {key sz:Nat} {neg:Bool} {xX:List (List D)} {K:D->Prop}:sX neg (xI key sz xX) .xY K=K (.bool (if neg then !xX.isEmpty else xX.isEmpty)):=by cases xX <;> cases neg <;> simp [sX,xI]
def sw : List (Nat × Nat)->Nat->Nat
 | [],k=>k
 | (a,b) :: r,k=>if k=a then b else sw r k
def vZ (xX:List (List D)):Prop:=∀ e ∈ xX,D.xR e=true
theorem wE (l:List (BitVec 64)):vZ (us l)= True:=eq_true (eL l)
theorem uC (l:List (List (BitVec 64))):vZ (rr l)= True:=eq_true (vn l)
theorem zr (k:IntKind) (l:List Int):vZ (rows k l)= True:=eq_true (uL k l)
theorem su : vZ []=True:=by simp [vZ]
theorem zq {kk:IntKind} {l:List (Int × D)} (h:∀ p ∈ l,p.2.xQ=true):vZ (pU kk l):=by intro e he;simp only [pU,ζ] at he;obtain⟨p,hp,rfl⟩:=he;simp [D.xR,D.xQ,h p hp]
theorem cX (a b:List (List D)):vZ (a++b)= (vZ a/\vZ b):=by simp only [vZ,List.mem_append];exact propext ⟨λh=>⟨λe he=>h e (.inl he),λe he=>h e (.inr he)⟩,λh e he=>he.elim (h.1 e) (h.2 e)⟩
theorem sy (l:List (BitVec 64)) (i:Nat) (s:BitVec 64):vZ ((us l).set i [.int .u64 (ui s)])= True:=by rw [pd,wE]
theorem jg {σ σ':St} {ρ:Nat->Nat} {a b sz:Nat} {xX:List (List D)}:vw σ σ' ρ (xI a sz xX) (xI b sz xX)= (xX = []\/(b<σ'.nx/\a=ρ b)):=by
 cases xX with
 | nil=>simp [xI,vw]
 | cons e l=>simp [xI,vw]
def r8 (σ':St) (ρ:Nat->Nat) (k0:Nat):Prop:=∀ p ∈ σ'.xZ,ρ p.1≠k0
theorem ym {σ σ':St} {ρ:Nat->Nat} {k0 sz:Nat} {xX:List (List D)} (hs:0<sz) (h:r8 σ' ρ k0) (hg:σ.get k0=vR sz xX) (hp:vZ xX):vw σ σ' ρ (xI k0 sz xX) (.sl sz xX)= True:=by
 cases xX with
 | nil=>simp [xI,vw]
 | cons e l=> refine eq_true ?_;simp only [xI,vw];exact⟨trivial,hs,h,⟨sz,e :: l⟩,hg,rfl,Ah _,by simp,hp⟩
def fe (σ σ':St) (ρ:Nat->Nat) (as bs:List (List D)):Prop:=qk σ σ' ρ as bs
theorem ny {σ σ':St} {ρ:Nat->Nat} {xX:List (List D)} (h:vZ xX):fe σ σ' ρ xX xX=True:=eq_true (.same h)
end
section
variable [zJ]
theorem jK {σ σ':St} {ρ:Nat->Nat}:∀ {a:List D},D.xR a=true->pY σ σ' ρ a a:=by
 intro a h
 have key:∀ d:D,d.xQ=true->vw σ σ' ρ d d:=by
  intro d
  refine D.rec (motive_1:=λd=>d.xQ=true->vw σ σ' ρ d d) (motive_2:=λ_=>True) (motive_3:=λcs=>D.xR cs=true->pY σ σ' ρ cs cs)
   ?top ?wG ?int ?bool ?str ?sl ?xY ?emp ?agg ?yN ?fn ?ref ?zZ ?sub ?ptr ?yU ?qW ?tS ?qV ?xu trivial (λ_ _ _ _=>trivial) ?nil ?cons d
  case agg=>intro cs ih h; simp only [D.xQ] at h; simp only [vw]; exact⟨trivial,ih h⟩
  case yN=>intro cs ih h; simp only [D.xQ] at h; simp only [vw]; exact⟨trivial,ih h⟩
  case fn=>intro f cs ih h; simp only [D.xQ] at h; simp only [vw]; exact⟨trivial,trivial,ih h⟩
  case ref=>intro k sz i off h; simp [D.xQ] at h
  case zZ=>intro k sz n h; simp [D.xQ] at h
  case sub=>intro k sz lo n h; simp [D.xQ] at h
  case yU=>intro k h; simp [D.xQ] at h
  case nil=>intro _; simp [pY]
  case cons=> intro d r h1 h2 h;simp only [D.xR,Ag] at h;simp only [pY];exact⟨h1 h.1,h2 h.2⟩
  case ptr=>intro cs _ _; simp [vw]
  all_goals intros; simp [vw]
 induction a with
 | nil=>simp [pY]
 | cons d r ih=> simp only [D.xR,Ag] at h;simp only [pY];exact⟨key d h.1,ih h.2⟩
theorem bU {σ σ':St} {ρ:Nat->Nat}:∀ {xX:List (List D)} {a b:List D},vZ xX->a.length=b.length->pY σ σ' ρ a b->qk σ σ' ρ (xX ++ [a]) (xX ++ [b])
 | [],a,b,_,hl,h=>.cons hl h .nil
 | e :: r,a,b,hp,hl,h=>.cons rfl (jK (hp e (by simp))) (bU (λx hx=>hp x (by simp [hx])) hl h)
theorem bw {σ σ':St} {ρ:Nat->Nat} {xX:List (List D)} {a b:List D} (h:fe σ σ' ρ (xX ++ [a]) (xX ++ [b])):a.length=b.length/\pY σ σ' ρ a b:=by
 have:=(kL (show qk σ σ' ρ (xX ++ [a]) (xX ++ [b]) from h)).2 xX.length (by simp);have e1:∀ x:List D,(xX ++ [x]).getD xX.length []=x:=by intro x; simp [List.getD]
 rw [e1,e1] at this;refine⟨this.1,?_⟩
 rcases this.2 with h | ⟨h1,h2⟩
 ·exact h
 ·rw [h1]; exact jK h2
theorem jL {σ σ':St} {ρ:Nat->Nat} {xX:List (List D)} {a b:List D} (hp:vZ xX):fe σ σ' ρ (xX ++ [a]) (xX ++ [b])= (a.length=b.length/\pY σ σ' ρ a b):= propext ⟨λh=>bw h,λh=>bU hp h.1 h.2⟩
theorem jf {σ σ':St} {ρ:Nat->Nat} {a b:List D}:fe σ σ' ρ [a] [b]=(a.length=b.length/\pY σ σ' ρ a b):=jL (xX:=[]) (by simp [vZ])
theorem bz {σ σ':St} {ρ:Nat->Nat} {l:List (List (BitVec 64))} {r:List (BitVec 64)} {x:D}:fe σ σ' ρ (rr l ++ [[x]]) (rr (l ++ [r]))= pY σ σ' ρ [x] [.sl 1 (us r)]:=by rw [<- eJ,jL (vn l)];simp
def vS (σ σ':St) (ρ:Nat->Nat) (p:Nat × Ob):Prop:=p.1<σ'.nx/\∃ ob,σ.get (ρ p.1)= some ob/\ob.sz=p.2.sz/\fe σ σ' ρ ob.xX p.2.xX
def uN (σ σ':St) (ρ:Nat->Nat) (l:List (Nat × Ob)):Prop:=∀ p ∈ l,vS σ σ' ρ p
theorem lO {σ σ':St} {ρ:Nat->Nat}:uN σ σ' ρ []=True:=by simp [uN]
theorem nR {σ σ':St} {ρ:Nat->Nat} {p:Nat × Ob} {l:List (Nat × Ob)}:uN σ σ' ρ (p :: l)= (vS σ σ' ρ p/\uN σ σ' ρ l):=by simp [uN]
theorem iS {σ σ':St} {ρ:Nat->Nat} {k sz:Nat} {xX:List (List D)} {l:List (Nat × Ob)} (hk:k<σ'.nx) (hg:σ.get (ρ k)= vR sz xX) (hp:vZ xX):uN σ σ' ρ (xN k sz xX++l)= uN σ σ' ρ l:=by
 cases xX with
 | nil=>rfl
 | cons e r=> simp only [xN,ο,η,nR];refine propext ⟨λh=>h.2,λh=>⟨⟨hk,⟨sz,e :: r⟩,hg,rfl,.same hp⟩,h⟩⟩
theorem aO {σ σ':St} {ρ:Nat->Nat} {k sz:Nat} {xX:List (List D)} (hk:k<σ'.nx) (hg:σ.get (ρ k)= vR sz xX) (hp:vZ xX):uN σ σ' ρ (xN k sz xX)= True:=by have:=iS (l:=[]) hk hg hp;rw [δ,lO] at this;exact this
theorem km {sz:Nat} {xX:List (List D)} (h:xX ≠ []):vR sz xX=some ⟨sz,xX⟩:=by
 cases xX with
 | nil=>exact absurd rfl h
 | cons e r=>rfl
theorem kZ {σ σ':St} {ρ:Nat->Nat} {k sz:Nat} {xX els':List (List D)} {l:List (Nat × Ob)} (hk:k<σ'.nx) (hg:σ.get (ρ k)= vR sz els') (hq:fe σ σ' ρ els' xX):uN σ σ' ρ (xN k sz xX++l)= uN σ σ' ρ l:=by
 cases xX with
 | nil=>rfl
 | cons e r=>
  have hne:els' ≠ []:=by rintro rfl;have:=(kL (show qk σ σ' ρ [] (e :: r) from hq)).1;simp at this
  simp only [xN,ο,η,nR];refine propext ⟨λh=>h.2,λh=>⟨⟨hk,⟨sz,els'⟩,?_,rfl,hq⟩,h⟩⟩;rw [hg,km hne]
theorem dU {σ σ':St} {ρ:Nat->Nat} {k sz:Nat} {xX els':List (List D)} (hk:k<σ'.nx) (hg:σ.get (ρ k)= vR sz els') (hq:fe σ σ' ρ els' xX):uN σ σ' ρ (xN k sz xX)= True:=by have:=kZ (l:=[]) hk hg hq;rw [δ,lO] at this;exact this
def xn (ks:List Nat) (l:List (Nat × Ob)):Prop:=∀ p ∈ l,p.1 ∈ ks
theorem vd {ks:List Nat}:xn ks []=True:=by simp [xn]
theorem bA {ks:List Nat} {p:Nat × Ob} {l:List (Nat × Ob)}:xn ks (p :: l)= (p.1 ∈ ks/\xn ks l):=by simp [xn]
theorem bB {ks:List Nat} {k sz:Nat} {xX:List (List D)} {l:List (Nat × Ob)} (h:k ∈ ks):xn ks (xN k sz xX++l)= xn ks l:=by
 cases xX with
 | nil=>rfl
 | cons e r=>simp [xN,bA,h]
theorem rk {ks:List Nat} {k sz:Nat} {xX:List (List D)} (h:k ∈ ks):xn ks (xN k sz xX)= True:=by have:=bB (sz:=sz) (xX:=xX) (l:=[]) h;rw [δ,vd] at this;exact this
def mX (ρ:Nat->Nat) (k0:Nat) (l:List (Nat × Ob)):Prop:=∀ p ∈ l,ρ p.1≠k0
theorem fk {σ':St} {ρ:Nat->Nat} {k0:Nat}:r8 σ' ρ k0=mX ρ k0 σ'.xZ:=propext Iff.rfl
theorem fK {ρ:Nat->Nat} {k0:Nat}:mX ρ k0 []=True:=by simp [mX]
theorem iC {ρ:Nat->Nat} {k0:Nat} {p:Nat × Ob} {l:List (Nat × Ob)}:mX ρ k0 (p :: l)= (ρ p.1≠k0/\mX ρ k0 l):=by simp [mX]
theorem iD {ρ:Nat->Nat} {k0 k sz:Nat} {xX:List (List D)} {l:List (Nat × Ob)}:mX ρ k0 (xN k sz xX++l)= ((xX = []\/ρ k≠k0)/\ mX ρ k0 l):=by
 cases xX with
 | nil=>simp [xN]
 | cons e r=>simp [xN,iC]
theorem aB {ρ:Nat->Nat} {k0 k sz:Nat} {xX:List (List D)}:mX ρ k0 (xN k sz xX)= (xX = []\/ρ k≠k0):=by have:=iD (ρ:=ρ) (k0:=k0) (k:=k) (sz:=sz) (xX:=xX) (l:=[]);rw [δ,fK,and_true] at this;exact this
theorem zA.fc {C:Cx} {f f':Fr} {σ σ':St} (l:List (Nat × Nat)) (ks:List Nat) (hn:C.n0<=σ'.nx) (h0:∀ p ∈ l,C.n0<=p.1) (hd:(ks.map (sw l)).Nodup)
  (h:xn ks σ'.xZ/\uN σ σ' (sw l) σ'.xZ/\cS σ σ' (sw l) f f'):zA C f σ f' σ':=by
 obtain⟨hk,hs,hf⟩:=h
 refine zA.view (sw l) hn ?_ hf ?_ ?_
 ·intro k hk
  induction l with
  | nil=>rfl
  | cons p l ih=>
   obtain⟨a,b⟩:=p;have:C.n0<=a:=h0 (a,b) (by simp);simp only [sw];rw [if_neg (by omega)];have hm:∀ p ∈ l,C.n0<=p.1:=λp hp=>h0 p (by simp [hp]);clear ih hd hs hf h0
   induction l with
   | nil=>rfl
   | cons q l ih=> obtain⟨c,d⟩:=q;have:C.n0<=c:=hm (c,d) (by simp);simp only [sw];rw [if_neg (by omega)];exact ih λp hp=>hm p (by simp [hp])
 ·intro p hp;obtain⟨h1,ob,h2,h3,h4⟩:=hs p hp;exact⟨h1,ob,h2,h3,h4⟩
 ·intro p hp q hq e;have h1:=hk p hp;have h2:=hk q hq
  have inj:∀ (ks:List Nat),(ks.map (sw l)).Nodup->∀ a ∈ ks,∀ b ∈ ks,sw l a=sw l b->a=b:=by
   intro ks
   induction ks with
   | nil=>intro _ a ha; simp at ha
   | cons x ks ih=>
    intro hd a ha b hb e;simp only [κ,List.nodup_cons,ζ,not_exists,not_and] at hd
    rcases θ.1 ha with h1 | h1 <;> rcases θ.1 hb with h2 | h2
    ·rw [h1,h2]
    ·rw [h1] at e; exact absurd e.symm (hd.1 b h2)
    ·rw [h2] at e; exact absurd e (hd.1 a h1)
    ·exact ih hd.2 a h1 b h2 e
  exact inj ks hd _ h1 _ h2 e
theorem nW.fc {n0:Nat} {σ σ':St} {d d':D} (l:List (Nat × Nat)) (ks:List Nat) (hn:n0<=σ'.nx) (h0:∀ p ∈ l,n0<=p.1) (hd:(ks.map (sw l)).Nodup)
  (h:xn ks σ'.xZ/\uN σ σ' (sw l) σ'.xZ/\vw σ σ' (sw l) d d'):nW n0 σ d σ' d':=by
 obtain⟨hk,hs,hf⟩:=h
 refine .inr ⟨sw l,hn,?_,hf,?_,?_⟩
 ·intro k hk;have hm:∀ p ∈ l,n0<=p.1:=h0;clear hd hs hf h0
  induction l with
  | nil=>rfl
  | cons q l ih=> obtain⟨c,d⟩:=q;have:n0<=c:=hm (c,d) (by simp);simp only [sw];rw [if_neg (by omega)];exact ih λp hp=>hm p (by simp [hp])
 ·intro p hp;obtain⟨h1,ob,h2,h3,h4⟩:=hs p hp;exact⟨h1,ob,h2,h3,h4⟩
 ·intro p hp q hq e;have h1:=hk p hp;have h2:=hk q hq
  have inj:∀ (ks:List Nat),(ks.map (sw l)).Nodup->∀ a ∈ ks,∀ b ∈ ks,sw l a=sw l b->a=b:=by
   intro ks
   induction ks with
   | nil=>intro _ a ha; simp at ha
   | cons x ks ih=>
    intro hd a ha b hb e;simp only [κ,List.nodup_cons,ζ,not_exists,not_and] at hd
    rcases θ.1 ha with h1 | h1 <;> rcases θ.1 hb with h2 | h2
    ·rw [h1,h2]
    ·rw [h1] at e; exact absurd e.symm (hd.1 b h2)
    ·rw [h2] at e; exact absurd e (hd.1 a h1)
    ·exact ih hd.2 a h1 b h2 e
  exact inj ks hd _ h1 _ h2 e
def wh (C:Cx) (Q:Exit->Fr->St->Prop) (e:Exit) (f:Fr) (σ:St):Prop:=∃ f' σ',zA C f σ f' σ'/\Q e f' σ'
theorem wh.go {C:Cx} {Q:Exit->Fr->St->Prop} {e:Exit} {f:Fr} {σ:St} (f':Fr) (σ':St) (hw:zA C f σ f' σ') (h:Q e f' σ'):wh C Q e f σ:=⟨f',σ',hw,h⟩
theorem tv {C:Cx} {dc:DC} {f:Fr} {σ:St} {Q:Exit->Fr->St->Prop} (h:wpS C dc f σ (wh C Q)):wpS C dc f σ Q:=by intro code hc E a w G;refine wpIn_mono (h code hc E a w G) λe a' w' hh=>?_;obtain⟨f1,σ1,G1,f2,σ2,hw,hq⟩:=hh;exact⟨f2,σ2,hw E a' w' G1,hq⟩
theorem oP {C:Cx} {dc:DC} {f:Fr} {σ:St} {Q:Exit->Fr->St->Prop} {α:Type} (g:α->Fr) (s:α->St) (I:α->Prop) (m:α->Nat) (a0:α) (h0:I a0) (hw:zA C f σ (g a0) (s a0))
  (round:∀ a,I a->wpS C dc (g a) (s a) (pN (λf' σ'=>∃ a',I a'/\zA C f' σ' (g a') (s a')/\ m a'<m a) (wh C Q))):wpS C (.loop dc) f σ Q:=
 tv (xL g s I m a0 h0 hw round)
end
theorem dw : ((0:Nat):Int)= 0:=rfl
theorem sH {k:Nat} (h:k<9223372036854775807):IntKind.i64.wrap ((k:Int)+ 1)= ((k+1:Nat):Int):=by rw [wrap_i64 (by omega)]; omega
section
variable [zJ]
theorem l4 (f:Fr) (n:Nat):wJ f (.t n)= Fr.get f n:=rfl
theorem j9 (f:Fr) (d:D):wJ f (.c d)= d:=rfl
theorem nh (f:Fr) (t:Nat) (d:D):Fr.put f (some t) d=(t,d) :: f:=rfl
theorem ng (f:Fr) (d:D):Fr.put f none d=f:=rfl
theorem get_nil (n:Nat):Fr.get [] n = .top:=rfl
theorem kl (t:Nat) (d:D) (r:Fr) (n:Nat):Fr.get ((t,d) :: r) n=if t=n then d else Fr.get r n:=rfl
theorem look_nil (k:Nat):St.look [] k=none:=rfl
theorem oM (j:Nat) (o:Ob) (r:List (Nat × Ob)) (k:Nat):St.look ((j,o) :: r) k=if j=k then some o else St.look r k:=rfl
theorem nr (k:Nat) (o:Ob):tF [] k o = []:=rfl
theorem tl (j:Nat) (o:Ob) (r:List (Nat × Ob)) (k:Nat) (o':Ob):tF ((j,o) :: r) k o'=if j=k then(j,o') :: r else(j,o) :: tF r k o':=rfl
theorem zd (k:Nat):yK [] k = []:=rfl
theorem aE (j:Nat) (o:Ob) (r:List (Nat × Ob)) (k:Nat):yK ((j,o) :: r) k=if j=k then yK r k else(j,o) :: yK r k:=rfl
theorem ak (n:Nat) (l:List (Nat × Ob)) (k:Nat):St.get ⟨n,l⟩ k=St.look l k:=rfl
theorem set_mk (n:Nat) (l:List (Nat × Ob)) (k:Nat) (o:Ob):St.set ⟨n,l⟩ k o=⟨n,tF l k o⟩:=rfl
theorem au (n:Nat) (l:List (Nat × Ob)) (o:Ob):St.new ⟨n,l⟩ o=⟨n+1,(n,o) :: l⟩:=rfl
theorem kh (n:Nat) (l:List (Nat × Ob)) (k:Nat):St.erase ⟨n,l⟩ k=⟨n,yK l k⟩:=rfl
theorem sx (σ:St) (sz sz':Nat) (xX:List (List D)):rowsOf σ sz (.sl sz' xX)= if sz=sz' then some xX else none:=rfl
theorem aM (σ:St) (sz:Nat):rowsOf σ sz .xY=some []:=rfl
theorem zx (σ:St) (sz:Nat):rowsOf σ sz .emp=some []:=rfl
def zD :=γ @oo (γ @jh (γ @oi (γ @jj (γ @oe (γ @tw (γ @oh (γ @om (γ @og (γ @ji (γ @tx (γ @nd (γ @ss (γ @nb (γ @sn (γ @gh @gj)))))))))))))))
def zT :=γ @l4 (γ @j9 (γ @nh (γ @ng (γ @get_nil (γ @kl (γ @look_nil (γ @oM (γ @nr (γ @tl (γ @zd (γ @aE (γ @ak (γ @set_mk (γ @au (γ @kh (γ @sx (γ @aM (γ @zx (γ @Int.cast_ofNat_Int (γ @dw (γ @Int.toNat_zero (γ @Int.toNat_one (γ @beq_self_eq_true.{0} (γ @bne_self_eq_false.{0} (γ @Bool.false_eq_true (γ @kg (γ @kj (γ @gg (γ @kc (γ @wm (γ @ka (γ @qt (γ @qp (γ @qu (γ @wk (γ @ns (γ @tq (γ @tp (γ @rn (γ @gq (γ @kr (γ @ku (γ @rp (γ @kq (γ @rj (γ @gk (γ @kn (γ @ko (γ @aK (γ @mb (γ @mc (γ @mf (γ @mg (γ @mh (γ @mi (γ @rv (γ @zi (γ @zh (γ @rq (γ @ma (γ @lz (γ @gy (γ @zj (γ @zk (γ @iN (γ @se (γ @zn (γ @iQ (γ @sg (γ @si (γ @sj (γ @zo (γ @zp (γ @qL (γ @pC (γ @kU (γ @cV (γ @gA (γ @yf (γ @dS (γ @Option.or_none.{0} (γ @List.length_set.{0} (γ @aC (γ @sk (γ @Nat.lt_irrefl (γ @wF (γ @yB (γ @je (γ @true_and (γ @and_true (γ @ν.{0} (γ @List.getD_cons_succ.{0} (γ @ψ.{0} (γ @μ.{0} (γ @Bool.not_true (γ @Bool.not_false (γ @κ.{0,0} (γ @List.map_nil.{0,0} (γ @η.{0} (γ @ο.{0} (γ @δ.{0} (γ @sr (γ @sq (γ @List.take_succ_cons.{0} (γ @List.take_zero.{0} (γ @List.drop_succ_cons.{0} (γ @List.drop_zero.{0} (γ @false_implies (γ @or_true (γ @true_or (γ @Ah (γ @Int.toNat_natCast (γ @and_self (γ @Yg (γ @Yh (γ @Yi (γ @Yj (γ @bj (γ @n8 (γ @bu (γ @tt (γ @bh (γ @bt (γ @bo (γ @bq (γ @br (γ @bp (γ @pa (γ @bl (γ @bg (γ @not_false_eq_true (γ @qx (γ @rf (γ @qy (γ @wo (γ @re (γ @kf (γ @wz (γ @qz (γ @qw (γ @ke (γ @rb (γ @ra (γ @wq (γ @wv (γ @wu (γ @wt (γ @ib (γ @ml (γ @ik (γ @az (γ @na (γ @ia (γ @aw (γ @ij (γ @ic (γ @ig (γ @mq (γ @mz (γ @mw (γ @mr (γ @ξ.{0} (γ @List.all_nil.{0} (γ @Bool.and_true (γ @Bool.and_self (γ @List.set_cons_zero.{0} (γ @List.set_cons_succ.{0} (γ @Aj (γ @Nat.add_zero (γ @Nat.zero_lt_succ (γ @Nat.lt_add_one (γ @decide_true (γ @decide_false (γ @gt_iff_lt.{0} (γ @ge_iff_le.{0} (γ @tB (γ @iy (γ @Bool.true_and (γ @decide_eq_true_eq (γ @decide_eq_false_iff_not (γ @wM (γ @nN (γ @wN (γ @zf (γ @tf (γ @fZ (γ @vu (γ @eJ (γ @mP (γ @oO (γ @xd (γ @vt (γ @ε.{0} (γ @List.cons_ne_nil.{0} (γ @List.take_length.{0} (γ @Option.map_some.{0,0} (γ @Option.map_none.{0,0} (γ @χ.{0} (γ @oy @vm)))))))))))))))))))))))))))))))))))))))))))))))))))))))))))))))))))))))))))))))))))))))))))))))))))))))))))))))))))))))))))))))))))))))))))))))))))))))))))))))))))))))))))))))))))))))))))))))))))))))
def zR :=γ @dw (γ @bB (γ @rk (γ @bA (γ @vd (γ @iS (γ @aO (γ @kZ (γ @dU (γ @nR (γ @lO (γ @bz (γ @jL (γ @ny (γ @jf (γ @jg (γ @ym (γ @fk (γ @iD (γ @aB (γ @iC (γ @fK (γ @wE (γ @uC (γ @zr (γ @su (γ @cX (γ @sy (γ @qL (γ @pC (γ @Option.or_none.{0} (γ @Nat.zero_lt_succ (γ @Nat.lt_add_one (γ @Option.some.injEq.{0} (γ @and_true (γ @true_and (γ @and_self (γ @or_true (γ @true_or (γ @not_false_eq_true (γ @θ.{0} (γ @ε.{0} (γ @List.not_mem_nil.{0} (γ @D.int.injEq (γ @D.bool.injEq (γ @D.sl.injEq (γ @D.ref.injEq (γ @ψ.{0} (γ @μ.{0} (γ @vu (γ @fZ (γ @eJ (γ @Aj (γ @vt (γ @xd (γ @oy (γ @vm (γ @mP @oO)))))))))))))))))))))))))))))))))))))))))))))))))))))))))
end
end Go.Pd
namespace Go.Pd
open Go Go.ChangeShapes Go.WideShapes Go.RowKit
def jP : List (Nat × Nat)->Nat->Nat->Bool
 | [],o,n=>o==n
 | (a,s) :: r,o,n=>(a==o)&& jP r (o+s) n
def vN (P:Program):Nat->TypeId->Bool
 | 0,_=>false
 | n+1,t=>match P.underlying t with
  | some .bool=>true
  | some (.int _)=>true
  | some .string=>true
  | some (.slice e)=>vN P n e&&decide (0<P.cellsOf e)
  | some (.struct fs)=>(fs.toList.all λf=>vN P n f.type)&& jP (fs.toList.map λf=>(f.offset,P.cellsOf f.type)) 0 (P.cellsOf t)
  | some (.array k e)=>vN P n e&&(P.cellsOf t==k*P.cellsOf e)
  | _=>false
mutual
def yA (P:Program):Nat->TypeId->List D->Prop
 | 0,_,_=>False
 | n+1,t,ds=>match P.underlying t with
  | some .bool=>∃ b,ds = [.bool b]
  | some (.int k)=>∃ i,ds = [.int k i]
  | some .string=>∃ s,ds = [.str s]
  | some (.slice e)=>∃ xX,ds = [.sl (P.cellsOf e) xX]/\∀ row ∈ xX,yA P n e row
  | some (.struct fs)=>tC P n (fs.toList.map λf=>f.type) ds
  | some (.array k e)=>tC P n (List.replicate k e) ds
  | _=>False
def tC (P:Program):Nat->List TypeId->List D->Prop
 | _,[],ds=>ds = []
 | n,f :: fs,ds=>∃ a b,ds=a++b/\yA P n f a/\tC P n fs b
end
def nU (P:Program) (n:Nat) (t:TypeId) (d:D):Prop:=
 match P.underlying t with
 | some (.struct _)=>∃ ds,d = .agg ds/\yA P n t ds
 | some (.array _ _)=>∃ ds,d = .agg ds/\yA P n t ds
 | _=>yA P n t [d]
def eK (P:Program) (n:Nat):List TypeId->List D->Prop
 | [],as=>as = []
 | t :: ts,as=>∃ a r,as=a :: r/\nU P n t a/\eK P n ts r
def kC (w:World) (cs:List Value) (ds:List D):Prop:=ds.length=cs.length/\∀ j,j<ds.length->RP (λ_=>False) w (cs.getD j undef) (ds.getD j .top)
theorem kW {w:World} {a b:List Value} {x y:List D} (h:kC w a x) (h':kC w b y):kC w (a++b) (x++y):=by
 refine⟨by simp [h.1,h'.1],λj hj=>?_⟩;simp only [List.getD]
 by_cases hx:j<x.length
 ·rw [τ hx,τ (by rw [<- h.1]; exact hx)];exact h.2 j hx
 ·have h1:=h.1;rw [π (by omega),π (by omega),<- h.1];rw [χ] at hj;exact h'.2 (j-x.length) (by omega)
section
variable {H : Type} {enc : TypeId × Value -> H} {P : Program} {w : World} {sp : Nat -> Bool} {held : Bool}
theorem fP {n:Nat} (key:∀ (t:TypeId) (cs:List Value) (fuel:Nat) (x:DataW H × List MemPlace),vN P n t=true->DataW.trod enc P w 0 sp held fuel t cs=some x->∃ ds,kC w cs ds/\yA P n t ds) {cs:List Value} {fuel:Nat} :
  ∀ (fl:List Field) (o:Nat),(fl.all λf=>vN P n f.type)= true->jP (fl.map λf=>(f.offset,P.cellsOf f.type)) o cs.length=true ->
   (∀ f ∈ fl,∃ x,DataW.trod enc P w 0 sp held fuel f.type ((cs.drop f.offset).take (P.cellsOf f.type))= some x)->∃ ds,kC w (cs.drop o) ds/\tC P n (fl.map λf=>f.type) ds
 | [],o,_,hc,_=>by simp only [List.map_nil,jP,beq_iff_eq] at hc;subst hc;exact⟨[],by simp [kC],by simp [tC]⟩
 | f :: fl,o,hp,hc,hx=>by
  simp only [ξ,Ag] at hp;simp only [κ,jP,Ag,beq_iff_eq] at hc;obtain⟨x,h1⟩:=hx f (by simp);obtain⟨a,ha,hsa⟩:=key _ _ _ _ hp.1 h1;obtain⟨b,hb,hsb⟩:=fP key fl (o+P.cellsOf f.type) hp.2 hc.2 λg hg=>hx g (by simp [hg]);refine⟨a++b,?_,by simp only [κ,tC]; exact⟨a,b,rfl,hsa,hsb⟩⟩;rw [hc.1] at ha
  have e:cs.drop o=(cs.drop o).take (P.cellsOf f.type)++ cs.drop (o+P.cellsOf f.type):=by rw [<- List.drop_drop,υ]
  rw [e];exact kW ha hb
theorem oq {n:Nat} (key:∀ (t:TypeId) (cs:List Value) (fuel:Nat) (x:DataW H × List MemPlace),vN P n t=true->DataW.trod enc P w 0 sp held fuel t cs=some x->∃ ds,kC w cs ds/\yA P n t ds) {cs:List Value} {fuel:Nat} {e:TypeId} (hp:vN P n e=true) :
  ∀ (k o:Nat),cs.length=(o+k)* P.cellsOf e ->
   (∀ i,o<=i->i<o+k->∃ x,DataW.trod enc P w 0 sp held fuel e ((cs.drop (i*P.cellsOf e)).take (P.cellsOf e))= some x)->∃ ds,kC w (cs.drop (o*P.cellsOf e)) ds/\tC P n (List.replicate k e) ds
 | 0,o,hl,_=>⟨[],by rw [List.drop_eq_nil_of_le (by rw [hl]; simp)]; simp [kC],by simp [tC]⟩
 | k+1,o,hl,hx=>by
  obtain⟨x,h1⟩:=hx o (Ah _) (by omega);obtain⟨a,ha,hsa⟩:=key _ _ _ _ hp h1;obtain⟨b,hb,hsb⟩:=oq key hp k (o+1) (by rw [hl]; congr 1; omega) λi h1 h2=>hx i (by omega) (by omega);refine⟨a++b,?_,by simp only [List.replicate_succ,tC]; exact⟨a,b,rfl,hsa,hsb⟩⟩
  have e1:cs.drop (o*P.cellsOf e)= (cs.drop (o*P.cellsOf e)).take (P.cellsOf e)++ cs.drop ((o+1)* P.cellsOf e):=by rw [Nat.succ_mul,<- List.drop_drop,υ]
  rw [e1];exact kW ha hb
theorem kK : ∀ (n:Nat) (t:TypeId) (cs:List Value) (fuel:Nat) (x:DataW H × List MemPlace),vN P n t=true->DataW.trod enc P w 0 sp held fuel t cs=some x->∃ ds,kC w cs ds/\yA P n t ds
 | 0,t,cs,fuel,x,hp,_=>by simp [vN] at hp
 | n + 1,t,cs,fuel,x,hp,h=>by
  unfold vN at hp;unfold yA
  split at hp
  ·rename_i hu;obtain⟨b,rfl,_⟩:=DataW.trod_bool hu h;exact⟨[.bool b],⟨rfl,λj hj=>by simp at hj; subst hj; exact .bool b⟩,⟨b,rfl⟩⟩
  ·rename_i k hu;obtain⟨i,rfl,_,hw⟩:=DataW.trod_int hu h;refine⟨[.int k i],⟨rfl,λj hj=>?_⟩,⟨i,rfl⟩⟩;simp at hj; subst hj;simp only [Lit.wf,Ag,decide_eq_true_eq] at hw;exact .int hw
  ·rename_i hu;obtain⟨s,rfl,_,hs⟩:=DataW.trod_string hu h;exact⟨[.str s],⟨rfl,λj hj=>by simp at hj; subst hj; exact .str hs⟩,⟨s,rfl⟩⟩
  ·rename_i e hu;simp only [Ag,decide_eq_true_eq] at hp
   rcases Deep.open_slice hu h with ⟨rfl,_⟩ | ⟨a,len,cap,m,fu,Dd,Pl,rfl,_,hl,hm,hmm,_,hx⟩
   ·exact⟨[.sl (P.cellsOf e) []],⟨rfl,λj hj=>by simp at hj; subst hj; exact .xw none 0 _ (λ_=>rfl)⟩,⟨[],rfl,by simp⟩⟩
   ·have hle:len<=m:=by rw [hmm]; split <;> omega
    by_cases h0:len=0
    ·subst h0;exact⟨[.sl (P.cellsOf e) []],⟨rfl,λj hj=>by simp at hj; subst hj; exact .xw (some a) cap _ (λh=>by cases h)⟩,⟨[],rfl,by simp⟩⟩
    ·obtain⟨f,hf⟩:=Deep.choose_lt (α:=List Value × List D) (n:=len) (p:=λi y=>w.cells? 0 (a.add (i*P.cellsOf e)) (P.cellsOf e)= some y.1/\kC w y.1 y.2/\yA P n e y.2) λi hi=>by obtain⟨cs',h1,h2⟩:=hx i (by omega);obtain⟨ds,h3,h4⟩:=kK n e cs' fu _ hp.1 h2;exact⟨(cs',ds),h1,h3,h4⟩
     have hcells:∀ i,i<len->∀ j,j<P.cellsOf e->w.cell? ((a.add (i*P.cellsOf e)).add j)= some ((f i).1.getD j undef):=by intro i hi j hj;obtain⟨_,h2,h3⟩:=World.cells?_some (hf i hi).1;rw [h3 j hj];simp [List.getD,show j<(f i).1.length by omega]
     have hlen:∀ i,i<len->(f i).1.length=P.cellsOf e:=λi hi=>(World.cells?_some (hf i hi).1).2.1
     have hspot:a.spot=none:=by have:=World.cell?_spot (hcells 0 (by omega) 0 hp.2);simpa [Addr.add] using this
     obtain⟨b,off,spot⟩:=a;simp only at hspot;subst hspot
     have hadd:∀ i j,((⟨b,off,none⟩:Addr).add i).add j=⟨b,off+i+j,none⟩:=by
      intro i j;rw [Deep.add_add];unfold Addr.add
      by_cases h:i+j=0
      ·have h1:i=0:=by omega
       have h2:j=0:=by omega
       subst h1; subst h2; rfl
      ·rw [if_neg h]; simp [Nat.add_assoc]
     have xX:∀ i,i<len->((List.range len).map λi=>(f i).2).getD i []=(f i).2:=by intro i hi;simp [List.getD,hi]
     refine⟨[.sl (P.cellsOf e) ((List.range len).map λi=>(f i).2)],⟨rfl,λj hj=>?_⟩,⟨_,rfl,?_⟩⟩
     ·simp at hj; subst hj;simp only [ν]
      have:=RP.sl (M:=λ_=>False) (w:=w) (b:=b) (off:=off) (cap:=cap) (sz:=P.cellsOf e) (xX:=(List.range len).map λi=>(f i).2) (λi j=>(f i).1.getD j undef) hp.2 (λh=>h) (by simpa using hl) hm ?_ ?_ ?_
      ·simpa using this
      ·intro x hx';simp only [ζ,List.mem_range] at hx';obtain⟨i,hi,rfl⟩:=hx';rw [(hf i hi).2.1.1,hlen i hi]
      ·intro i hi j hj;have hi':i<len:=by simpa using hi
       have:=hcells i hi' j hj;rw [hadd] at this;exact this
      ·intro i hi j hj;have hi':i<len:=by simpa using hi
       rw [xX i hi'];exact(hf i hi').2.1.2 j (by rw [(hf i hi').2.1.1,hlen i hi']; exact hj)
     ·intro row hrow;simp only [ζ,List.mem_range] at hrow;obtain⟨i,hi,rfl⟩:=hrow;exact(hf i hi).2.2
  ·rename_i fs hu;simp only [Ag] at hp;obtain⟨xs,n',_,_,hlen,hsz,hf⟩:=DataW.trod_struct hu h;rw [<- hlen] at hp
   obtain⟨ds,h1,h2⟩:=fP (λt cs fuel x=>kK n t cs fuel x) (fuel:=n') fs.toList 0 hp.1 hp.2 λg hg=>by
    obtain⟨i,hi,rfl⟩:=List.getElem_of_mem hg;have hi':i<fs.size:=by simpa using hi
    have:=hf i fs[i] (by simp [hi']);refine⟨xs[i]'(by omega),?_⟩;simp only [Array.getElem_toList];rw [this];simp [show i<xs.length by omega]
   exact⟨ds,by simpa using h1,h2⟩
  ·rename_i k e hu;simp only [Ag,beq_iff_eq] at hp;obtain⟨xs,m,_,_,hlen,hxs,hf⟩:=DataW.trod_array hu h
   obtain⟨ds,h1,h2⟩:=oq (λt cs fuel x=>kK n t cs fuel x) (fuel:=m) hp.1 k 0 (by rw [hlen,hp.2]; simp) λi _ hi=>by have:=hf i (by omega);rw [this];simp [show i<xs.length by omega]
   exact⟨ds,by simpa using h1,h2⟩
  ·cases hp
end
section
variable {H : Type} {enc : TypeId × Value -> H} {P : Program} {w : World} {sp : Nat -> Bool} {held : Bool}
theorem cY {r:Reach} {b:Nat} {t:TypeId} {v:Value} {k:Nat} {e:TypeId} (ht:P.underlying t=some (.array k e)) (h:Value.okWide P w r b t v):∃ cs,v = .agg cs/\cs.size=P.cellsOf t:=by simp only [Value.okWide,ht] at h;obtain⟨cs,h1,h2,_⟩:=h;exact⟨cs,h1,h2⟩
theorem x9 {n:Nat} {b:Nat} {t:TypeId} {v:Value} {d:DataW H} {ps:List MemPlace} (hp:vN P n t=true) (hv:Value.okWide P w .any b t v) (h:DataW.Trod enc P w 0 sp held t v d ps):∃ a,RP (λ_=>False) w v a/\nU P n t a:=by
 obtain⟨fuel,h⟩:=h;obtain⟨ds,h1,h2⟩:=kK n t _ fuel _ hp h;unfold nU
 split
 ·rename_i fs hu;obtain⟨cs,rfl,_⟩:=okWide_struct hu hv;refine⟨.agg ds,.agg (by rw [h1.1]; rfl) λj hj=>?_,ds,rfl,h2⟩;have:=h1.2 j hj
  have e:(Value.agg cs).cells.toList.getD j undef=cs.getD j undef:=by simp [Value.cells,List.getD,Array.getD];by_cases hj:j<cs.size <;> simp [hj]
  rw [e] at this;exact this
 ·rename_i k e hu;obtain⟨cs,rfl,_⟩:=cY hu hv;refine⟨.agg ds,.agg (by rw [h1.1]; rfl) λj hj=>?_,ds,rfl,h2⟩;have:=h1.2 j hj
  have e:(Value.agg cs).cells.toList.getD j undef=cs.getD j undef:=by simp [Value.cells,List.getD,Array.getD];by_cases hj:j<cs.size <;> simp [hj]
  rw [e] at this;exact this
 ·rename_i hns hna
  have one:∃ x,ds = [x]:=by
   cases n with
   | zero=>simp [vN] at hp
   | succ n=>
    unfold yA at h2
    split at h2
    ·obtain⟨b,rfl⟩:=h2; exact⟨_,rfl⟩
    ·obtain⟨b,rfl⟩:=h2; exact⟨_,rfl⟩
    ·obtain⟨b,rfl⟩:=h2; exact⟨_,rfl⟩
    ·obtain⟨b,rfl,_⟩:=h2; exact⟨_,rfl⟩
    ·rename_i fs hu; exact absurd hu (hns fs)
    ·rename_i k e hu; exact absurd hu (hna k e)
    ·cases h2
  obtain⟨x,rfl⟩:=one;refine⟨x,?_,h2⟩;have hx:=h1.2 0 (by simp);simp only [ν] at hx;have hlen:=h1.1
  cases v with
  | agg cs=>
   exfalso;unfold Value.okWide at hv
   split at hv
   ·rename_i fs hu; exact absurd hu (hns fs)
   ·rename_i k e hu; exact absurd hu (hna k e)
   ·rename_i h3 h4
    cases n with
    | zero=>simp [vN] at hp
    | succ n=>
     unfold vN at hp;unfold Cell.okWide at hv;split at hp <;> rename_i hu <;> simp [hu,Cell.ok] at hv
     all_goals first | exact absurd hu (hns _) | exact absurd hu (hna _ _) | cases hp
  | _=>simpa [Value.cells] using hx
theorem uz {n:Nat} {b:Nat}:∀ {ts:List TypeId} {vs:List Value} {ds:List (DataW H)} {ps:List MemPlace},(ts.all λt=>vN P n t)= true->(∀ (j:Nat) t v,ts[j]?=some t->vs[j]?=some v->Value.okWide P w .any b t v) ->
  DataW.TrodAll enc P w 0 sp held ts vs ds ps->∃ as,as.length=vs.length/\vs.length=ts.length/\ds.length=ts.length/\(∀ j,j<as.length->RP (λ_=>False) w (vs.getD j undef) (as.getD j .top))/\ eK P n ts as
 | [],vs,ds,ps,_,_,h=>by obtain⟨rfl,rfl,rfl⟩:=trodAll_nil h;exact⟨[],rfl,rfl,rfl,λj hj=>by simp at hj,rfl⟩
 | t :: ts,vs,ds,ps,hp,hv,h=>by
  obtain⟨v,vs',d,ds',p,q,rfl,rfl,rfl,h1,h2⟩:=trodAll_cons h;simp only [ξ,Ag] at hp;obtain⟨a,r1,s1⟩:=x9 hp.1 (hv 0 t v rfl rfl) h1;obtain⟨as,l1,l2,l3,r2,s2⟩:=uz hp.2 (λj t v h1 h2=>hv (j+1) t v h1 h2) h2;refine⟨a :: as,by simp [l1],by simp [l2],by simp [l3],λj hj=>?_,a,as,rfl,s1,s2⟩
  cases j with
  | zero=>exact r1
  | succ j=>exact r2 j (by simpa using hj)
theorem oB (hl:laidOutB P=true) {W W':World} (hb:Below W.heap.size W W'):∀ {ts:List TypeId} {vs:List Value} {ds:List (DataW H)} {ps:List MemPlace},(ts.all λt=>P.readableRec t&&decide (t<P.types.size))= true ->
  (∀ x ∈ ps,x.block<W.heap.size)->DataW.TrodAll enc P W 0 (λ_=>true) true ts vs ds ps->DataW.TrodAll enc P W' 0 (λb=>decide (b<W.heap.size)) true ts vs ds ps
 | [],vs,ds,ps,_,_,h=>by obtain⟨rfl,rfl,rfl⟩:=trodAll_nil h;exact rfl
 | t :: ts,vs,ds,ps,hr,hlt,h=>by obtain⟨v,vs',d,ds',p,q,rfl,rfl,rfl,h1,h2⟩:=trodAll_cons h;simp only [ξ,Ag,decide_eq_true_eq] at hr;exact⟨p,q,Below.trod hl hr.1.1 hr.1.2 h1 hb λx hx=>hlt x (by simp [hx]),oB hl hb hr.2 (λx hx=>hlt x (by simp [hx])) h2,rfl⟩
theorem iT {W:World}:∀ {ts:List TypeId} {vs:List Value} {ds:List (DataW H)} {ps:List MemPlace},DataW.TrodAll enc P W 0 sp held ts vs ds ps->∀ x ∈ ps,x.block<W.heap.size
 | [],vs,ds,ps,h=>by obtain⟨rfl,rfl,rfl⟩:=trodAll_nil h;intro x hx; simp at hx
 | t :: ts,vs,ds,ps,h=>by
  obtain⟨v,vs',d,ds',p,q,rfl,rfl,rfl,⟨m,hm⟩,h2⟩:=trodAll_cons h;intro x hx
  rcases List.mem_append.1 hx with hx | hx
  ·exact DataW.trod_lt m _ _ _ hm x hx
  ·exact iT h2 x hx
end
section
variable [zJ]
theorem wP.calls {P:Program} {g:FuncId} {args:List D} {b:Bool} (h:wP P g args (.bool b)) {w:World} {vals:Array Value} (ht:gC w λ_=>False) (hl:vals.size=args.length)
  (hv:∀ j,j<args.length->RP (λ_=>False) w (vals.getD j undef) (args.getD j .top)):Calls P g vals w λe w'=>e = .returned (.bool b)/\ Below w.heap.size w w':=by
 have hM:∀ b,xD (λ_=>False) (λ_=>0) hU b->False:=by
  rintro b (h | ⟨k,o,hk,_⟩)
  ·exact h
  ·cases hk
 have hS:yY (λ_=>False) w hU (λ_=>0):=⟨λb hb=>hb.elim,(λk o hk=>by cases hk),(λk k' o o' hk=>by cases hk),(λk o hk=>by cases hk),ht.xE (Ah _) (λ_ _ _=>rfl) λb _ hb=>hM b hb⟩;refine(h.run _ w _ vals hS hl λj hj=>.pure ((hv j hj).xE (λ_ _ _=>rfl) λb _ hb=>hM b hb)).mono λe w' hh=>?_;obtain⟨v,ι',rfl,k1,k2,k3,k4,k5,k6⟩:=hh;have K0:Kept w w' λ_=>False:=k1.mono λb _ ⟨k,o,hk,_⟩=>by cases hk
 rw [k6.sU];exact⟨rfl,K0.below⟩
end
theorem aP (a:Array Value) (j:Nat) (d:Value):a.getD j d=a.toList.getD j d:=by simp [List.getD,Array.getD];by_cases h:j<a.size <;> simp [h]
theorem kp {H:Type} {enc:TypeId × Value->H} {P:Program} {f:Func} {s:ChangeSpec} {W W':World} {args:Array Value} {ds gs:List (DataW H)} {before:List MemPlace} {tb:TypeId}
  (hl:laidOutB P=true) (hr:(f.params.toList.all λt=>P.readableRec t&&decide (t<P.types.size))= true) (hb:f.resultTypes = #[tb]) (htb:P.underlying tb=some .bool) (hsv:s.vars = [])
  (hW:DataW.Whole enc P f.params.toList s.vars false W args.toList ds gs before) (hs:s.fn H (ds++gs)= { results:=[.lit (.bool true)],args:=ds }) (bel:Below W.heap.size W W') :
  s.post enc P f false true false false W args (.bool true) W':=by
 have hW':=hW;obtain⟨p,q,hA,hV,rfl,hfz,hnd⟩:=hW;rw [hsv] at hV;obtain⟨rfl,rfl⟩:=trodVars_none hV;have hA2:=oB hl bel hr (iT hA) hA
 refine⟨_,_,_,[],p,[],hW',?_,?_,?_,bel.frame _,λh=>by cases h⟩
 ·rw [hs,hb];exact trodAll_mk1 (shut_bool htb _)
 ·rw [hs];exact hA2
 ·rw [hs,hsv];rfl
abbrev dO (i:Nat) (k:DK):xT:=⟨some i,none,k⟩
abbrev dF (i j:Nat) (k:DK):xT:=⟨some i,some (j,false),k⟩
abbrev dT (i j:Nat) (k:DK):xT:=⟨some i,some (j,true),k⟩
abbrev yG.i (n:Int):yG:=.c (.int .i64 n)
abbrev dM (i j:Nat):xT:=⟨some i,none,.mv (.t j)⟩
abbrev dL (i j:Nat):xT:=⟨some i,none,.load 1 false (.t j)⟩
abbrev dG (i n j:Nat):xT:=⟨some i,none,.qj n (.t j)⟩
abbrev DC.r (l:List xT) (c:DC):DC:=.seq (.vF [] l) c
abbrev DK.cf (f:FuncId) (l:List yG):DK:=.call (.c (.fn f [])) l
abbrev bT (i:Nat) (o:BinOp) (a b:Nat):xT:=⟨some i,none,.bin o (.t a) (.t b)⟩
abbrev bI (i:Nat) (o:BinOp) (a:Nat) (n:Int):xT:=⟨some i,none,.bin o (.t a) (.i n)⟩
abbrev dI (i n a b:Nat):xT:=⟨some i,none,.idx n (.t a) (.t b)⟩
abbrev dN (i a:Nat):xT:=⟨some i,none,.len (.t a)⟩
abbrev fG (i j n a:Nat):xT:=⟨some i,some (j,false),.qj n (.t a)⟩
abbrev fL (i j a:Nat):xT:=⟨some i,some (j,false),.load 1 false (.t a)⟩
abbrev fN (i j a:Nat):xT:=⟨some i,some (j,false),.len (.t a)⟩
abbrev fM (i j a:Nat):xT:=⟨some i,some (j,false),.mv (.t a)⟩
abbrev dP (i a b:Nat):xT:=⟨some i,none,.pick (.t a) (.c (.bool true)) (.t b)⟩
abbrev dE (i a n:Nat):xT:=⟨some i,none,.cK (.t a) n⟩
abbrev sQ (n a b:Nat):xT:=⟨none,none,.store n (.t a) (.t b)⟩
abbrev dV (i:Nat) (b:Bool):xT:=⟨some i,none,.mv (.c (.bool b))⟩
abbrev dJ (i:Nat) (n:Int):xT:=⟨some i,none,.mv (.i n)⟩
abbrev dA (i n a:Nat):xT:=⟨some i,none,.load n true (.t a)⟩
abbrev DC.w (a b:Nat) (c:DC):DC:=.seq (.cond (.t a) .skip (.exit b)) c
abbrev DC.g (l:List xT):DC:=.vF [] l
abbrev dX (i a:Nat):xT:=⟨some i,none,.box (.t a)⟩
abbrev tL (i j a:Nat):xT:=⟨some i,some (j,true),.load 1 false (.t a)⟩
abbrev tG (i j n a:Nat):xT:=⟨some i,some (j,true),.qj n (.t a)⟩
abbrev tM (i j a:Nat):xT:=⟨some i,some (j,true),.mv (.t a)⟩
abbrev dK (i a:Nat):xT:=⟨some i,none,.jv (.t a)⟩
abbrev dH (i a:Nat):xT:=⟨some i,none,.nt (.t a)⟩
abbrev dQ (i a b:Nat):xT:=⟨some i,none,.pick (.t a) (.t b) (.c (.bool false))⟩
abbrev dZ (i:Nat):xT:=⟨some i,none,.mv (.c .xY)⟩
abbrev dB (i f a:Nat):xT:=⟨some i,none,.cf f [.t a]⟩
abbrev dD (i f a b:Nat):xT:=⟨some i,none,.cf f [.t a,.t b]⟩
abbrev fB (i j:Nat) (o:BinOp) (a:Nat) (n:Int):xT:=⟨some i,some (j,false),.bin o (.t a) (.i n)⟩
abbrev CT :=Nat × DC × List rO
abbrev DC.x (a b:Nat):DC:=.cond (.t a) .skip (.exit b)
abbrev DC.n (a b c:Nat):DC:=.g [dM a b,bI c .add a 1,dM b c]
abbrev DC.q (a:Nat) (c d:DC):DC:=.cond (.t a) c d
abbrev DC.u (i:Nat) (n:Int):DC:=.r [dJ i n] .ret
abbrev DC.v (i:Nat) (b:Bool):DC:=.r [dV i b] .ret
abbrev DC.l (n:Nat) (c:DC):DC:=.block n (.loop c)
abbrev yG.u (n:Int):yG:=.c (.int .u64 n)
abbrev iZ : D:=.int .i64 0
def zS :=γ @D.int.injEq (γ @D.bool.injEq (γ @D.sl.injEq (γ @and_true (γ @true_and @and_self))))
def zW.{u} :=γ @ne_eq.{u} (γ @forall_const.{u} (γ @implies_true.{u} @forall_eq.{u}))
section
variable [zJ]
def zU :=γ @oE.eq_1 (γ @jq.eq_1 (γ @j0.eq_1 (γ @pN.eq_1 (γ @pN.eq_2 (γ @sW.eq_1 (γ @sW.eq_2 (γ @gQ.eq_1 (γ @gQ.eq_2 (γ @gQ.eq_3 (γ @gQ.eq_4 (γ @gQ.eq_5 (γ @gQ.eq_6 (γ @gQ.eq_7 (γ @gQ.eq_8 (γ @gQ.eq_9 (γ @gQ.eq_10 (γ @gQ.eq_11 (γ @gQ.eq_12 (γ @gQ.eq_13 (γ @gQ.eq_14 (γ @gQ.eq_15 (γ @wX.eq_1 (γ @wX.eq_2 (γ @wX.eq_3 (γ @wX.eq_4 (γ @wX.eq_5 (γ @wX.eq_6 (γ @wX.eq_7 (γ @wX.eq_8 (γ @wX.eq_9 (γ @wX.eq_10 (γ @wX.eq_11 (γ @wX.eq_12 (γ @wX.eq_13 (γ @wX.eq_14 (γ @wX.eq_15 (γ @pX.eq_1 (γ @pX.eq_2 (γ @pX.eq_3 (γ @pX.eq_4 (γ @pX.eq_5 (γ @pX.eq_6 (γ @pX.eq_7 (γ @pX.eq_8 (γ @pW.eq_1 (γ @pW.eq_2 (γ @pW.eq_3 (γ @pW.eq_4 (γ @pW.eq_5 (γ @pW.eq_6 (γ @pW.eq_7 (γ @pW.eq_8 (γ @pW.eq_9 (γ @pW.eq_10 (γ @pW.eq_11 (γ @pW.eq_12 (γ @pW.eq_13 (γ @pW.eq_14 (γ @pW.eq_15 (γ @pW.eq_16 (γ @pW.eq_17 (γ @pW.eq_18 (γ @pW.eq_19 (γ @pW.eq_20 (γ @pW.eq_21 (γ @pW.eq_22 (γ @pW.eq_23 (γ @pW.eq_24 (γ @pW.eq_25 (γ @pW.eq_26 (γ @pW.eq_27 (γ @pW.eq_28 (γ @cl.eq_1 (γ @cm.eq_1 (γ @YC.eq_1 (γ @nC.eq_1 @gL.eq_1))))))))))))))))))))))))))))))))))))))))))))))))))))))))))))))))))))))))))))
def zQ :=γ @pY.eq_1 (γ @pY.eq_2 (γ @pY.eq_3 (γ @vw.eq_1 (γ @vw.eq_2 (γ @vw.eq_3 (γ @vw.eq_4 (γ @vw.eq_5 (γ @vw.eq_6 (γ @vw.eq_7 (γ @vw.eq_8 (γ @vw.eq_9 (γ @vw.eq_10 (γ @vw.eq_11 (γ @vw.eq_12 (γ @vw.eq_13 (γ @vw.eq_14 (γ @vw.eq_15 (γ @vw.eq_16 (γ @vw.eq_17 (γ @vw.eq_18 (γ @cS.eq_1 (γ @cS.eq_2 (γ @sw.eq_1 (γ @sw.eq_2 (γ @St.get.eq_1 (γ @St.look.eq_1 (γ @St.look.eq_2 (γ @Fr.get.eq_1 @Fr.get.eq_2))))))))))))))))))))))))))))
def zV :=γ @hU.eq_1 (γ @rL.eq_1 (γ @rL.eq_2 (γ @uR.eq_1 (γ @uR.eq_2 (γ @uR.eq_3 (γ @uR.eq_4 (γ @uR.eq_5 (γ @uR.eq_6 (γ @uR.eq_7 (γ @uR.eq_8 (γ @uR.eq_9 (γ @uR.eq_10 (γ @uR.eq_11 (γ @uR.eq_12 (γ @uR.eq_13 (γ @uR.eq_14 (γ @uR.eq_15 (γ @uR.eq_16 (γ @uR.eq_17 (γ @bY.eq_1 (γ @sJ.eq_1 (γ @sJ.eq_2 (γ @sJ.eq_3 (γ @sJ.eq_4 (γ @sJ.eq_5 (γ @sJ.eq_6 (γ @tX.eq_1 (γ @tX.eq_2 (γ @ug.eq_1 (γ @yX.eq_1 (γ @rV.eq_1 (γ @rV.eq_2 (γ @u5.eq_1 (γ @oF.eq_1 (γ @oF.eq_2 (γ @kY.eq_1 (γ @kY.eq_2 (γ @List.replicate.eq_1.{0} (γ @List.replicate.eq_2.{0} (γ @rowsOf.eq_1 (γ @rowsOf.eq_2 (γ @rowsOf.eq_3 (γ @rowsOf.eq_4 @rowsOf.eq_5)))))))))))))))))))))))))))))))))))))))))))
end
theorem sd {p q:Prop} (b:q) (a:p:=by first | omega | exact tu _ | exact Int.natCast_nonneg _ | rfl | exact fW _ _ | exact pc _ | (intro _ h; cases h; done)):p/\q:=⟨a,b⟩
theorem nW.dv {n0 n:Nat} {σ:St} {d d':D} (hn:n0<=n:=by simp) (h:vw σ ⟨n,[]⟩ (λk=>k) d d':=by simp [vw]):nW n0 σ d ⟨n,[]⟩ d':=.drop hn h
section
variable [zJ]
theorem cr {P:Program} {g:FuncId} {args:List D} {d:D} {s:St} (hc:wP P g args d) (hp:D.xR args=true:=by simp [D.xR,D.xQ]):xS P g args s d s:=xS.tP hc hp
theorem cq {P:Program} {g:FuncId} {args:List D} {d:D} {s:St} (hc:wP P g args d) (hp:D.xR args=true:=by rfl):xS P g args s d s:=xS.tP hc hp
end
end Go.Pd
