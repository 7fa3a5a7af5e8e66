/- Part X6. -/
import Derived.Test.YtndfaefmmcoapaaGreatGeX5
import Derived.Carry
import Derived.ChangeArms
import Derived.Deep.Slices
import Derived.ProofKit
import Derived.OpenShut
set_option linter.unusedSectionVars false
set_option linter.unusedVariables false
set_option linter.unusedSimpArgs false
set_option linter.defProp false
open And renaming intro->γ
open List renaming append_nil->δ,mem_map->ε,map_cons->ζ,nil_append->η,mem_singleton->θ,mem_cons->κ,length_nil->μ,getD_cons_zero->ν,all_cons->ξ,cons_append->ο,getElem?_append_right->π,getElem?_append_left->τ,take_append_drop->υ,length_append->χ,length_cons->ψ
open BitVec renaming eq_of_toNat_eq->ω,ofInt_natCast->Aa,toNat_ushiftRight->Ab,toNat_ofNat->Ac,toNat_ofInt->Ad,toNat_umod->Ae,toNat_and->Af,ofInt_mul->Ag,ofInt_add->Ah
open Bool renaming and_eq_true->Ai
open Nat renaming le_refl->Aj,shiftRight_eq_div_pow->Ak,zero_add->Al,pow_lt_pow_right->Am,and_one_is_mod->An
open Int renaming natCast_nonneg->Ao,toNat_natCast->Ap
namespace Go.Pd
open Go
def ui (s:BitVec 64):Int:=s.toNat
theorem Um (s:BitVec 64):0<=ui s:=by unfold ui; omega
theorem ZR {s t:BitVec 64}:ui s=ui t ↔ s=t:=by
 unfold ui
 constructor
 ·intro h; exact ω (by omega)
 ·rintro rfl; rfl
theorem Kf {n:Int} (h0:0<=n) (h1:n<18446744073709551616):ui (BitVec.ofInt 64 n)= n:=by unfold ui;rw [Ad];have:n % 2 ^ 64=n:=Int.emod_eq_of_lt h0 (by omega);omega
theorem uM (s:BitVec 64):BitVec.ofInt 64 (ui s)= s:=by unfold ui;rw [Aa];simp
theorem gZ (s:BitVec 64):IntKind.u64.wrap (s.toNat:Int)= ui s:=by unfold ui;have:=s.isLt;exact wrap_u64 ⟨by omega,by omega⟩
theorem Mb (s t:BitVec 64):sW .and .u64 (ui s) (ui t)= ui (s &&& t):=by show IntKind.u64.wrap ((BitVec.ofInt 64 (ui s)&&& BitVec.ofInt 64 (ui t)).toNat:Int)= _;rw [uM,uM,gZ]
theorem Kg (s t:BitVec 64):sW .or .u64 (ui s) (ui t)= ui (s ||| t):=by show IntKind.u64.wrap ((BitVec.ofInt 64 (ui s) ||| BitVec.ofInt 64 (ui t)).toNat:Int)= _;rw [uM,uM,gZ]
theorem Sh (s t:BitVec 64):sW .xor .u64 (ui s) (ui t)= ui (s ^^^ t):=by show IntKind.u64.wrap ((BitVec.ofInt 64 (ui s)^^^ BitVec.ofInt 64 (ui t)).toNat:Int)= _;rw [uM,uM,gZ]
theorem Ul (s t:BitVec 64):sW .andNot .u64 (ui s) (ui t)= ui (s &&& ~~~t):=by show IntKind.u64.wrap ((BitVec.ofInt 64 (ui s)&&& ~~~BitVec.ofInt 64 (ui t)).toNat:Int)= _;rw [uM,uM,gZ]
theorem xi (n:Int):IntKind.u64.wrap n=ui (BitVec.ofInt 64 n):=by unfold ui;rw [Ad];simp [IntKind.wrap,IntKind.signed,IntKind.bits];omega
theorem Ma (s t:BitVec 64):IntKind.u64.wrap (ui s+ui t)= ui (s+t):=by rw [xi,Ah,uM,uM]
theorem Mh (s t:BitVec 64):IntKind.u64.wrap (ui s-ui t)= ui (s-t):=by rw [xi];congr 1;rw [Int.sub_eq_add_neg,Ah,BitVec.ofInt_neg,uM,uM,BitVec.sub_eq_add_neg]
theorem Md (s t:BitVec 64):IntKind.u64.wrap (ui s*ui t)= ui (s*t):=by rw [xi,Ag,uM,uM]
theorem Mf (s:BitVec 64) (k:Int):kg .u64 (ui s) k=ui (s <<< k.toNat):=by
 unfold kg;rw [xi];congr 1;rw [Ag,uM];show s*BitVec.ofInt 64 (2 ^ min k.toNat 64)= _;apply ω;rw [BitVec.toNat_mul,BitVec.toNat_shiftLeft,Nat.shiftLeft_eq]
 have e:(BitVec.ofInt 64 (2 ^ min k.toNat 64)).toNat=2 ^ min k.toNat 64 % 2 ^ 64:=by
  have:((2:Int)^ min k.toNat 64)= ((2 ^ min k.toNat 64:Nat):Int):=by norm_cast
  rw [this,Aa,Ac]
 rw [e,Nat.mul_mod_mod]
 rcases Nat.lt_or_ge k.toNat 64 with h | h
 ·rw [Nat.min_eq_left (by omega)]
 ·rw [Nat.min_eq_right h];obtain⟨m,hm⟩:=Nat.exists_eq_add_of_le h;rw [hm,Nat.pow_add,<- Nat.mul_assoc,Nat.mul_right_comm];simp
theorem Mg (s:BitVec 64) (k:Int):bl .u64 (ui s) k=ui (s >>> k.toNat):=by
 unfold bl ui;rw [Ab,Ak];show (s.toNat:Int).fdiv (2 ^ min k.toNat 64)= _;have:((2:Int)^ min k.toNat 64)= ((2 ^ min k.toNat 64:Nat):Int):=by norm_cast
 rw [this,Int.fdiv_eq_ediv_of_nonneg _ (Ao _),<- Int.natCast_ediv];congr 1
 rcases Nat.lt_or_ge k.toNat 64 with h | h
 ·rw [Nat.min_eq_left (by omega)]
 ·rw [Nat.min_eq_right h];have h1:=s.isLt;rw [Nat.div_eq_of_lt h1,Nat.div_eq_of_lt (Nat.lt_of_lt_of_le h1 (Nat.pow_le_pow_right (by omega) h))]
theorem Me (s t:BitVec 64):(ui s).tmod (ui t)= ui (s % t):=by unfold ui;rw [Ae,Int.tmod_eq_emod_of_nonneg (by omega),Int.natCast_emod]
theorem Sg (s t:BitVec 64):(ui s==ui t)= (s==t):=by
 by_cases h:s=t
 ·subst h; simp
 ·have:ui s≠ui t:=λe=>h (ZR.1 e);rw [beq_eq_false_iff_ne.2 this,beq_eq_false_iff_ne.2 h]
theorem Mc (s t:BitVec 64):(ui s != ui t)= (s != t):=by simp only [bne,Sg]
theorem PY : D.int .u64 0=D.int .u64 (ui 0#64):=rfl
theorem PX : D.int .u64 1=D.int .u64 (ui 1#64):=rfl
theorem Jn : D.int .u64 2=D.int .u64 (ui 2#64):=rfl
theorem Jo : D.int .u64 18446744073709551615=D.int .u64 (ui 18446744073709551615#64):=rfl
theorem MX : ui 2#64≠0:=by decide
def us (l:List (BitVec 64)):List (List D):=l.map λs=>[.int .u64 (ui s)]
def V5 (l:List (BitVec 64)):D:=.sl 1 (us l)
theorem xT (l:List (BitVec 64)):(us l).length=l.length:=by simp [us]
theorem iN : us [] = []:=rfl
theorem x9 (s:BitVec 64) (l:List (BitVec 64)):us (s :: l)= [.int .u64 (ui s)] :: us l:=rfl
theorem yF (l:List (BitVec 64)) {i:Nat} (h:i<l.length):(us l).getD i [] = [.int .u64 (ui (l.getD i 0))]:=by simp [us,List.getD,h]
theorem vT (l:List (BitVec 64)):∀ e ∈ us l,D.xR e=true:=by intro e he;simp only [us,ε] at he;obtain⟨n,_,rfl⟩:=he;rfl
theorem ZS (l:List (BitVec 64)):∀ e ∈ us l,uX e=true:=by intro e he;simp only [us,ε] at he;obtain⟨n,_,rfl⟩:=he;rfl
theorem Vr (l:List (BitVec 64)) (n:Nat):(us l).take n=us (l.take n):=by simp [us,List.map_take]
theorem tm (l:List (BitVec 64)) (s:BitVec 64):us l ++ [[.int .u64 (ui s)]]=us (l ++ [s]):=by simp [us]
theorem iO (l:List (BitVec 64)) (i:Nat) (s:BitVec 64):(us l).set i [.int .u64 (ui s)]=us (l.set i s):=by simp [us,List.map_set]
theorem yo (n:Nat) (s:BitVec 64):List.replicate n [D.int .u64 (ui s)]=us (List.replicate n s):=by simp [us]
theorem NV : ∀ {xW:List (List D)},(∀ e ∈ xW,∃ n:Int,e = [.int .u64 n])->D.ja xW->∃ l,xW=us l
 | [],_,_=>⟨[],rfl⟩
 | e :: r,h,hf=>by obtain⟨n,rfl⟩:=h e (by simp);obtain⟨l,rfl⟩:=NV (λe he=>h e (by simp [he])) hf.2;have h1:=hf.1;simp only [D.sR,D.fact,and_true] at h1;obtain⟨h1,h2⟩:=h1;refine⟨BitVec.ofInt 64 n :: l,?_⟩;have:ui (BitVec.ofInt 64 n)= n:=Kf (by simpa [IntKind.min,IntKind.signed] using h1) (by have:IntKind.u64.max=18446744073709551615:=rfl; omega);simp [us,this]
theorem UH (d:D):pA false [d]=d:=rfl
theorem UG (cs:List D):pA true cs = .agg cs:=rfl
def xB (key sz:Nat):List (List D)->D
 | []=>.xL
 | e :: r=>.yD key sz (e :: r).length
def yX (key sz:Nat):List (List D)->List (Nat × Ob)
 | []=>[]
 | e :: r=>[(key,⟨sz,e :: r⟩)]
end Go.Pd
namespace Go.Pd
open Go
variable [tP]
def yS (f:Fr):Fr->Prop
 | []=>True
 | (t,d) :: r=>f.get t=d/\yS f r
omit [tP] in
theorem ij {f:Fr}:∀ {f':Fr},yS f f'->∀ t,f'.get t = .top\/f'.get t=f.get t
 | [],_,t=>.inl rfl
 | (s,d) :: r,h,t=>by
  simp only [Fr.get]
  split
  ·rename_i e; subst e; exact .inr h.1.symm
  ·exact ij h.2 t
theorem yR.same {C:Cx} {f f':Fr} {σ:St} (h:yS f f'):yR C f σ f' σ:=yR.frame (ij h)
end Go.Pd
namespace Go.Pd
open Go
def rr (ll:List (List (BitVec 64))):List (List D):=ll.map λl=>[V5 l]
def Jr (ll:List (List (BitVec 64))):D:=.sl 1 (rr ll)
theorem yZ (l:List (List (BitVec 64))):(rr l).length=l.length:=by simp [rr]
theorem tZ (l:List (List (BitVec 64))) {i:Nat} (h:i<l.length):(rr l).getD i [] = [.sl 1 (us (l.getD i []))]:=by simp [rr,V5,List.getD,h]
theorem P4 (l:List (List (BitVec 64))) (n:Nat):(rr l).take n=rr (l.take n):=by simp [rr,List.map_take]
theorem y7 (l:List (List (BitVec 64))):∀ e ∈ rr l,D.xR e=true:=by intro e he;simp only [rr,ε] at he;obtain⟨n,_,rfl⟩:=he;simp [D.xR,D.xF,V5]
end Go.Pd
namespace Go.Pd
open Go
theorem sH.same {n0:Nat} {σ:St} {d:D}:sH n0 σ d σ d:=.inl ⟨rfl,rfl⟩
theorem sH.drop {n0 n:Nat} {σ:St} {d d':D} (hn:n0<=n) (h:vw σ ⟨n,[]⟩ (λk=>k) d d'):sH n0 σ d ⟨n,[]⟩ d':= .inr ⟨λk=>k,hn,λ_ _=>rfl,h,by simp [stays],by simp [qY]⟩
end Go.Pd
namespace Go.Pd
open Go
universe u
variable [tP]
def Fv (σ:St) (K:D->St->Prop) (d:D):Prop:=K d σ
def Mz (f:Fr) (dst:Option Nat) (K:Fr->St->Prop) (d:D) (σ:St):Prop:=K (f.put dst d) σ
def My (f:Fr) (dst:Option Nat) (K:Fr->Prop) (d:D):Prop:=K (f.put dst d)
def gC (Q:Exit->Fr->St->Prop) (f:Fr) (σ:St):Prop:=Q .normal f σ
def LS (d:D) (want:Bool) (yes no:Prop):Prop:=
 match d with
 | .bool b=>if b=want then yes else no
 | .rJ=>no
 | _=>False
theorem QJ (b want:Bool) (yes no:Prop):LS (.bool b) want yes no=if b=want then yes else no:=rfl
theorem O8 (want:Bool) (yes no:Prop):LS .rJ want yes no=no:=rfl
@[congr] theorem LO {d d' : D} {want : Bool} {yes no : Prop} (h : d = d') : LS d want yes no = LS d' want yes no := by rw [h]
def gd (g:Option (Nat × Bool)) (f:Fr) (yes no:Prop):Prop:=
 match g with
 | none=>yes
 | some (j,want)=>LS (f.get j) want yes no
theorem O9 (f:Fr) (yes no:Prop):gd none f yes no=yes:=rfl
theorem OA (j:Nat) (want:Bool) (f:Fr) (yes no:Prop):gd (some (j,want)) f yes no=LS (f.get j) want yes no:=rfl
theorem NN (o:yY) (f:Fr) (yes no:Prop):yB o f yes no=gd o.guard f yes no:=by
 unfold yB gd
 split
 ·rename_i h; rw [h]
 ·rename_i h; rw [h]; rfl
def zo (q:Bool) (σ:St) (sz bytes:Nat) (x:D) (y:Option (List (List D))) (K:D->St->Prop):Prop:=
 match y with
 | none=>False
 | some rows=>(∀ r ∈ rows,uX r=true)/\ match x with
  | .xL=>rows.length*bytes<=140737488355328/\rows.length<=8000000000000/\(rows = []->K .xL σ)/\ (rows ≠ []->K (.yD σ.nx sz rows.length) (σ.new ⟨sz,rows⟩))
  | .yD key sz' n=>match σ.get key with
   | some ob=>sz=sz'/\ob.sz=sz/\n<=ob.xW.length/\(n+rows.length)* bytes<=140737488355328/\n+rows.length<=8000000000000 /\
    K (.yD σ.nx sz (n+rows.length)) ((σ.erase key).new ⟨sz,ob.xW.take n++rows⟩)
   | none=>False
  | .sub key sz' lo n=>match σ.get key with
   | some ob=>q=true/\sz=sz'/\ob.sz=sz/\lo+n<=ob.xW.length/\(n+rows.length)* bytes<=140737488355328/\n+rows.length<=8000000000000 /\
    ∀ pre:List (List D),(pre = []\/pre=ob.xW.take lo)->K (.sub σ.nx sz pre.length (n+rows.length)) ((σ.erase key).new ⟨sz,pre++((ob.xW.drop lo).take n++rows)⟩)
   | none=>False
  | _=>False
def TD (σ:St) (n:Nat) (a:D) (x:Option (List D)) (K:D->St->Prop):Prop:=
 match a,x with
 | .ref key sz i off,some ds=>match σ.get key with
  | some ob=>ob.sz=sz/\i<ob.xW.length/\ds.length=n/\off+n<=sz/\uX ds=true/\K .rJ (σ.set key ⟨sz,ob.xW.set i (jQ (ob.xW.getD i []) off ds)⟩)
  | none=>False
 | _,_=>False
def jx (x:D) (K:D->Prop):Prop:=
 match x with
 | .sl _ xW=>K (.int .i64 xW.length)
 | .yD _ _ n=>K (.int .i64 n)
 | .sub _ _ _ n=>K (.int .i64 n)
 | .xL=>K (.int .i64 0)
 | .emp=>K (.int .i64 0)
 | _=>False
def bg (sz:Nat) (x i:D) (K:D->Prop):Prop:=
 match x,i with
 | .sl sz' xW,.int _ n=>sz=sz'/\0<=n/\n<xW.length/\K (.ptr (xW.getD n.toNat []))
 | .yD key sz' len,.int _ n=>sz=sz'/\0<=n/\n<len/\K (.ref key sz n.toNat 0)
 | .sub key sz' lo len,.int _ n=>sz=sz'/\0<=n/\n<len/\K (.ref key sz (lo+n.toNat) 0)
 | _,_=>False
def lW (neg:Bool) (x y:D) (K:D->Prop):Prop:=
 match x,y with
 | .xL,.xL=>K (.bool (!neg))
 | .yD ..,.xL | .xL,.yD ..=>K (.bool neg)
 | .emp,.xL | .xL,.emp=>K (.bool neg)
 | .sl _ (_ :: _),.xL=>K (.bool neg)
 | _,_=>False
def jb (σ:St) (n:Nat) (ag:Bool) (x:D) (K:D->Prop):Prop:=
 match x with
 | .ref key sz i off=>match σ.get key with
  | some o=>o.sz=sz/\i<o.xW.length/\off+n<=sz/\(ag=true\/n=1)/\ K (pA ag (((o.xW.getD i []).drop off).take n))
  | none=>False
 | .ptr cs=>n<=cs.length/\(ag=true\/n=1)/\ K (pA ag (cs.take n))
 | _=>False
def Ux (x:D) (K:D->Prop):Prop:=
 match x with
 | .ref key sz i off=>K (.ref key sz i off)
 | .ptr cs=>K (.ptr cs)
 | .fn f cs=>K (.fn f cs)
 | _=>False
@[congr] theorem Lj {x x' : D} {K : D -> Prop} (h : x = x') : Ux x K = Ux x' K := by rw [h]
theorem Qo {key sz i off:Nat} {K:D->Prop}:Ux (.ref key sz i off) K=K (.ref key sz i off):=rfl
theorem Qn {cs:List D} {K:D->Prop}:Ux (.ptr cs) K=K (.ptr cs):=rfl
theorem OV {f:FuncId} {cs:List D} {K:D->Prop}:Ux (.fn f cs) K=K (.fn f cs):=rfl
def jd (σ:St) (zero:D) (ok:Bool) (m k:D) (K:D->Prop):Prop:=
 match m,k with
 | .wA key,.int kk x=>match σ.get key with
  | some o=>o.sz=0/\gA kk o.xW/\K (mB ok zero (nN x o.xW 0))
  | none=>False
 | .oH,.int _ _=>K (mB ok zero none)
 | _,_=>False
def b8 (σ:St) (m k x:D) (K:D->St->Prop):Prop:=
 match m,k with
 | .wA key,.int kk y=>match σ.get key with
  | some o=>o.sz=0/\gA kk o.xW/\K .rJ (σ.set key ⟨0,rh kk o.xW y x⟩)
  | none=>False
 | _,_=>False
def fA (σ:St) (n:Nat) (zero:D) (ok:Bool) (m k:D) (K:D->Prop):Prop:=
 match m,k with
 | .wA key,.agg cs=>match σ.get key with
  | some o=>o.sz=0/\∃ (x:List Int) (l:List (List Int × D)),(cs=x.map (D.int .i64)/\ o.xW=rD l/\x.length=n/\∀ p ∈ l,p.1.length=n)/\ K (mB ok zero (lS x l 0))
  | none=>False
 | _,_=>False
def iK (σ:St) (n:Nat) (m k x:D) (K:D->St->Prop):Prop:=
 match m,k with
 | .wA key,.agg cs=>match σ.get key with
  | some o=>o.sz=0/\∃ (y:List Int) (l:List (List Int × D)),(cs=y.map (D.int .i64)/\ o.xW=rD l/\(y.length=n/\∀ p ∈ l,p.1.length=n))/\ K .rJ (σ.set key ⟨0,rD (aB y x l)⟩)
  | none=>False
 | _,_=>False
def Sr (σ:St) (zero m k:D) (K:D->St->Prop):Prop:=
 match m,k with
 | .wA key,.int kk y=>match σ.get key with
  | some o=>o.sz=0/\gA kk o.xW/\o.xW.length<=1000000000/\(match nN y o.xW 0 with
   | some (i,d)=>K (.wF [d,.int .i64 i]) (σ.set key ⟨0,o.xW⟩)
   | none=>K (.wF [zero,.int .i64 o.xW.length]) (σ.set key ⟨0,o.xW ++ [[.int kk y,zero]]⟩))
  | none=>False
 | _,_=>False
def So (σ:St) (m s x:D) (K:D->St->Prop):Prop:=
 match m,s with
 | .wA key,.int _ i=>match σ.get key with
  | some o=>o.sz=0/\0<=i/\i<o.xW.length/\(∃ kk y d,o.xW.getD i.toNat [] = [.int kk y,d]/\K .rJ (σ.set key ⟨0,o.xW.set i.toNat [.int kk y,x]⟩))
  | none=>False
 | _,_=>False
@[congr] theorem NF {σ : St} {zero : D} {ok : Bool} {m m' k k' : D} {K : D -> Prop} (h : m = m') (h' : k = k') : jd σ zero ok m k K = jd σ zero ok m' k' K := by rw [h, h']
@[congr] theorem NH {σ : St} {m m' k k' x x' : D} {K : D -> St -> Prop} (h : m = m') (h' : k = k') (h2 : x = x') : b8 σ m k x K = b8 σ m' k' x' K := by rw [h, h', h2]
@[congr] theorem Na {σ : St} {n : Nat} {zero : D} {ok : Bool} {m m' k k' : D} {K : D -> Prop} (h : m = m') (h' : k = k') : fA σ n zero ok m k K = fA σ n zero ok m' k' K := by rw [h, h']
@[congr] theorem Nc {σ : St} {n : Nat} {m m' k k' x x' : D} {K : D -> St -> Prop} (h : m = m') (h' : k = k') (h2 : x = x') : iK σ n m k x K = iK σ n m' k' x' K := by rw [h, h', h2]
@[congr] theorem NC {σ : St} {zero m m' k k' : D} {K : D -> St -> Prop} (h : m = m') (h' : k = k') : Sr σ zero m k K = Sr σ zero m' k' K := by rw [h, h']
@[congr] theorem N9 {σ : St} {m m' k k' x x' : D} {K : D -> St -> Prop} (h : m = m') (h' : k = k') (h2 : x = x') : So σ m k x K = So σ m' k' x' K := by rw [h, h', h2]
@[congr] theorem Lg {q : Bool} {σ : St} {sz bytes : Nat} {x x' : D} {y y' : Option (List (List D))} {K : D -> St -> Prop} (h : x = x') (h' : y = y') : zo q σ sz bytes x y K = zo q σ sz bytes x' y' K := by rw [h, h']
@[congr] theorem Ll {σ : St} {n : Nat} {x x' : D} {y y' : Option (List D)} {K : D -> St -> Prop} (h : x = x') (h' : y = y') : TD σ n x y K = TD σ n x' y' K := by rw [h, h']
@[congr] theorem Li {x x' : D} {K : D -> Prop} (h : x = x') : jx x K = jx x' K := by rw [h]
@[congr] theorem Lh {sz : Nat} {x x' i i' : D} {K : D -> Prop} (h : x = x') (h' : i = i') : bg sz x i K = bg sz x' i' K := by rw [h, h']
@[congr] theorem Nf {neg : Bool} {x x' i i' : D} {K : D -> Prop} (h : x = x') (h' : i = i') : lW neg x i K = lW neg x' i' K := by rw [h, h']
@[congr] theorem NB {σ : St} {n : Nat} {ag : Bool} {x x' : D} {K : D -> Prop} (h : x = x') : jb σ n ag x K = jb σ n ag x' K := by rw [h]
def pX (C:Cx) (σ:St) (ev:tR->D) (k:DK) (K:D->Prop):Prop:=
 match k with
 | .len x=>jx (ev x) K
 | .idx sz x i=>bg sz (ev x) (ev i) K
 | .aG neg x y=>lW neg (ev x) (ev y) K
 | .load n ag x=>jb σ n ag (ev x) K
 | .j6 zero ok m k=>jd σ zero ok (ev m) (ev k) K
 | .vn n zero ok m k=>fA σ n zero ok (ev m) (ev k) K
 | .LW x=>Ux (ev x) K
 | k=>pW C σ ev k K
theorem NQ (C:Cx) (σ:St) (ev:tR->D) (k:DK) (K:D->Prop):pX C σ ev k K=pW C σ ev k K:=by cases k <;> rfl
def ku (C:Cx) (σ:St) (ev:tR->D) (k:DK) (K:D->St->Prop):Prop:=
 match k with
 | .box x=>qW C σ ev (.box x) K
 | .alloc z=>qW C σ ev (.alloc z) K
 | .store n a x=>TD σ n (ev a) (ev x).cells K
 | .app sz bytes x y=>zo (C.own.contains 77777) σ sz bytes (ev x) (rowsOf σ sz (ev y)) K
 | .fV sz bytes zero len cap=>qW C σ ev (.fV sz bytes zero len cap) K
 | .kF sz len zero parts=>qW C σ ev (.kF sz len zero parts) K
 | .V7 zero x=>qW C σ ev (.V7 zero x) K
 | .Zm x y=>qW C σ ev (.Zm x y) K
 | .call fn args=>qW C σ ev (.call fn args) K
 | .l4=>qW C σ ev .l4 K
 | .bJ m k x=>b8 σ (ev m) (ev k) (ev x) K
 | .jK n m k x=>iK σ n (ev m) (ev k) (ev x) K
 | .tz zero m k=>Sr σ zero (ev m) (ev k) K
 | .tw m s x=>So σ (ev m) (ev s) (ev x) K
 | k=>pX C σ ev k (Fv σ K)
theorem ZP (C:Cx) (σ:St) (ev:tR->D) (k:DK) (K:D->St->Prop):ku C σ ev k K=qW C σ ev k K:=by cases k <;> first | rfl | (show pX _ _ _ _ _=_; rw [NQ]; rfl)
def ua (C:Cx):List yY->(Fr->St->Prop)->Fr->St->Prop
 | [],K,f,σ=>K f σ
 | ⟨dst,g,k⟩ :: rest,K,f,σ=>gd g f (ku C σ (pI f) k (Mz f dst (ua C rest K))) (ua C rest K (f.put dst .rJ) σ)
theorem xu (C:Cx) (K:Fr->St->Prop):∀ (ops:List yY) (f:Fr) (σ:St),ua C ops K f σ=rH C ops f σ K
 | [],f,σ=>rfl
 | o :: rest,f,σ=>by
  have ih:ua C rest K=λf σ=>rH C rest f σ K:=by funext f σ; exact xu C K rest f σ
  unfold ua rH;rw [NN,ZP,ih];rfl
def ub (C:Cx) (σ:St):List yY->(Fr->Prop)->Fr->Prop
 | [],K,f=>K f
 | ⟨dst,g,k⟩ :: rest,K,f=>gd g f (pX C σ (pI f) k (My f dst (ub C σ rest K))) (ub C σ rest K (f.put dst .rJ))
theorem iF (C:Cx) (σ:St) (K:Fr->Prop):∀ (ops:List yY) (f:Fr),ub C σ ops K f=uW C σ ops f K
 | [],f=>rfl
 | o :: rest,f=>by
  have ih:ub C σ rest K=λf=>uW C σ rest f K:=by funext f; exact iF C σ K rest f
  unfold ub uW;rw [NN,NQ,ih];rfl
def b9 (C:Cx) (post:List yY) (Q:Exit->Fr->St->Prop) (σ:St) (f:Fr):Prop:=ua C post (gC Q) f σ
def LH (d:D) (p q:Prop):Prop:=
 match d with
 | .bool t=>if t=true then p else q
 | _=>False
theorem Px (t:Bool) (p q:Prop):LH (.bool t) p q=if t=true then p else q:=rfl
@[congr] theorem LN {d d' : D} {p q : Prop} (h : d = d') : LH d p q = LH d' p q := by rw [h]
def ao (C:Cx) (it:Nat) (m:tR) (out nx more next pair:Nat) (rest:List yY) (code:DC) (Q:Exit->Fr->St->Prop) (f:Fr) (σ:St):Prop:=qq C it m out nx more next pair rest code f σ Q
@[congr] theorem Nb {C : Cx} {it : Nat} {m : tR} {out nx more next pair : Nat} {rest : List yY} {code : DC} {Q : Exit -> Fr -> St -> Prop} {f f' : Fr} {σ : St} (h : f = f') : ao C it m out nx more next pair rest code Q f σ = ao C it m out nx more next pair rest code Q f' σ := by rw [h]
def Ve (C:Cx) (code:DC) (out next:Nat) (J:Fr->St->Prop) (Q:Exit->Fr->St->Prop) (f:Fr) (σ:St):Prop:=wpS C code f σ (lT next (jM J (lT out Q)))
@[congr] theorem Ph {C : Cx} {code : DC} {out next : Nat} {J : Fr -> St -> Prop} {Q : Exit -> Fr -> St -> Prop} {f f' : Fr} {σ : St} (h : f = f') : Ve C code out next J Q f σ = Ve C code out next J Q f' σ := by rw [h]
def Xy (C:Cx) (k:DK) (K:Fr->D->St->Prop) (σ:St) (f1:Fr):Prop:=ku C σ (pI f1) k (K f1)
def N0 (f:Fr) (g:Fr):Prop:=g=f
def LM (C:Cx) (un:Bool) (mid:List yY) (f1:Fr) (σ:St) (K:Fr->St->Prop) (σ1:St) (f2:Fr):Prop:=(if un=true then ub C σ mid (N0 f2) f1 else True)/\ K f2 σ1
def Uy (C:Cx) (pre:List yY) (dst:Option Nat) (mid:List yY) (un:Bool) (post:List yY) (Q:Exit->Fr->St->Prop) (f:Fr) (σ:St) (f1:Fr) (d:D) (σ1:St):Prop:= ub C σ1 pre (N0 f1) f/\ub C σ1 mid (LM C un mid (f1.put dst d) σ (ua C post (gC Q)) σ1) (f1.put dst d)
theorem ON {C:Cx} {pre:List yY} {dst:Option Nat} {mid:List yY} {un:Bool} {post:List yY} {Q:Exit->Fr->St->Prop} {f:Fr} {σ:St} {f1:Fr} {d:D} {σ1:St} :
  Uy C pre dst mid un post Q f σ f1 d σ1=T9 C pre dst mid un f σ (λf σ=>rH C post f σ λf σ=>Q .normal f σ) f1 d σ1:=by
 unfold Uy T9;rw [iF,iF]
 have:LM C un mid (f1.put dst d) σ (ua C post (gC Q)) σ1=λf2=>(if un=true then uW C σ mid (f1.put dst d) (λg=>g=f2) else True)/\ rH C post f2 σ1 λf σ=>Q .normal f σ:=by funext f2;unfold LM;rw [iF,xu];rfl
 rw [this];rfl
def Zj (C:Cx):DC->(Exit->Fr->St->Prop)->Fr->St->Prop
 | .skip,Q,f,σ=>Q .normal f σ
 | .qD pre post,Q,f,σ=>ub C σ pre (b9 C post Q σ) f
 | .bh pre m mid un post,Q,f,σ=>ub C σ pre (Xy C m.k (Uy C pre m.dst mid un post Q f σ) σ) f
 | .j8 pre m1 mid1 m2 mid2 post,Q,f,σ=>zw C (.j8 pre m1 mid1 m2 mid2 post) f σ Q
 | .seq a b,Q,f,σ=>Zj C a (jM (Zj C b Q) Q) f σ
 | .cond c a b,Q,f,σ=>LH (pI f c) (Zj C a Q f σ) (Zj C b Q f σ)
 | .block id c,Q,f,σ=>Zj C c (lT id Q) f σ
 | .loop c,Q,f,σ=>wpS C (.loop c) f σ Q
 | .uc g ps a c,Q,f,σ=>wpS C (.uc g ps a c) f σ Q
 | .bK pre m1 mid1 m2 mid2 post free,Q,f,σ=>wpS C (.bK pre m1 mid1 m2 mid2 post free) f σ Q
 | .aJ pre m mid un post fl,Q,f,σ=>wpS C (.aJ pre m mid un post fl) f σ Q
 | .exit id,Q,f,σ=>Q (.exit id) f σ
 | .ret,Q,f,σ=>Q .ret f σ
 | .TJ ..,_,_,_=>False
 | .TH ..,_,_,_=>False
 | .TF ..,_,_,_=>False
 | .vp pre it m out nx more next pair rest code,Q,f,σ=>ua C pre (ao C it m out nx more next pair rest code Q) f σ
theorem bE (C:Cx):∀ (dc:DC) (Q:Exit->Fr->St->Prop) (f:Fr) (σ:St),Zj C dc Q f σ=zw C dc f σ Q
 | .skip,Q,f,σ=>rfl
 | .qD pre post,Q,f,σ=>by
  unfold Zj zw;rw [iF]
  have:b9 C post Q σ=λf=>rH C post f σ λf σ=>Q .normal f σ:=by funext f;unfold b9;rw [xu];rfl
  rw [this]
 | .bh pre m mid un post,Q,f,σ=>by
  unfold Zj zw;rw [iF]
  have:Xy C m.k (Uy C pre m.dst mid un post Q f σ) σ=λf1=>qW C σ (pI f1) m.k λd σ1=>T9 C pre m.dst mid un f σ (λf σ=>rH C post f σ λf σ=>Q .normal f σ) f1 d σ1:=by funext f1;unfold Xy;rw [ZP];congr 1;funext d σ1;exact ON
  rw [this]
 | .j8 ..,Q,f,σ=>rfl
 | .seq a b,Q,f,σ=>by
  have ih:Zj C b Q=λf σ=>zw C b f σ Q:=by funext f σ; exact bE C b Q f σ
  unfold Zj;rw [bE C a,ih];rfl
 | .cond c a b,Q,f,σ=>by unfold Zj;rw [bE C a,bE C b];rfl
 | .block id c,Q,f,σ=>by unfold Zj; rw [bE C c]; rfl
 | .loop c,Q,f,σ=>rfl
 | .uc g ps a c,Q,f,σ=>rfl
 | .bK ..,Q,f,σ=>rfl
 | .aJ ..,Q,f,σ=>rfl
 | .exit id,Q,f,σ=>rfl
 | .ret,Q,f,σ=>rfl
 | .TJ ..,_,_,_=>rfl
 | .TH ..,_,_,_=>rfl
 | .TF ..,_,_,_=>rfl
 | .vp pre it m out nx more next pair rest code,Q,f,σ=>by unfold Zj zw; rw [xu]; rfl
noncomputable def ar {α:Sort u} (a:α):α:=Classical.choose (⟨a,rfl⟩:∃ b:α,b=a)
theorem zc {α:Sort u} (a:α):ar a=a:=Classical.choose_spec (⟨a,rfl⟩:∃ b:α,b=a)
noncomputable def zt (C:Cx):List yY->(Fr->St->Prop)->Fr->St->Prop:=ar (ua C)
noncomputable def oM (C:Cx) (σ:St):List yY->(Fr->Prop)->Fr->Prop:=ar (ub C σ)
noncomputable def lf (C:Cx):DC->(Exit->Fr->St->Prop)->Fr->St->Prop:=ar (Zj C)
theorem dW (C:Cx):zt C=ua C:=zc _
theorem iG (C:Cx) (σ:St):oM C σ=ub C σ:=zc _
theorem pY (C:Cx):lf C=Zj C:=zc _
section
variable (C : Cx) (σ : St) (f : Fr) (Q : Exit -> Fr -> St -> Prop) (K : Fr -> St -> Prop) (K1 : Fr -> Prop) (a b c : DC) (dst : Option Nat) (g : Option (Nat × Bool)) (k : DK) (rest pre post : List yY) (x : tR) (id : Nat)
theorem R5 : zt C [] K f σ=K f σ:=by rw [dW]; rfl
theorem UF : zt C (⟨dst,g,k⟩ :: rest) K f σ=gd g f (ku C σ (pI f) k (Mz f dst (zt C rest K))) (zt C rest K (f.put dst .rJ) σ):=by rw [dW]; rfl
theorem XV : oM C σ [] K1 f=K1 f:=by rw [iG]; rfl
theorem UI : oM C σ (⟨dst,g,k⟩ :: rest) K1 f=gd g f (pX C σ (pI f) k (My f dst (oM C σ rest K1))) (oM C σ rest K1 (f.put dst .rJ)):=by rw [iG]; rfl
def Vz (C:Cx) (post:List yY) (Q:Exit->Fr->St->Prop) (σ:St) (f:Fr):Prop:=zt C post (gC Q) f σ
theorem S8 : lf C .skip Q f σ=Q .normal f σ:=by rw [pY]; rfl
theorem PN : lf C (.qD pre post) Q f σ=oM C σ pre (Vz C post Q σ) f:=by
 have e:Vz C post Q σ=b9 C post Q σ:=by funext f; unfold Vz b9; rw [dW]
 rw [pY,iG,e]; rfl
def aE (C:Cx) (k:DK) (K:Fr->D->St->Prop) (σ:St) (f1:Fr):Prop:=ku C σ (pI f1) k (K f1)
def Ld (C:Cx) (un:Bool) (mid:List yY) (f1:Fr) (σ:St) (K:Fr->St->Prop) (σ1:St) (f2:Fr):Prop:=(if un=true then oM C σ mid (N0 f2) f1 else True)/\ K f2 σ1
def Pa (C:Cx) (pre:List yY) (dst:Option Nat) (mid:List yY) (un:Bool) (post:List yY) (Q:Exit->Fr->St->Prop) (f:Fr) (σ:St) (f1:Fr) (d:D) (σ1:St):Prop:= oM C σ1 pre (N0 f1) f/\oM C σ1 mid (Ld C un mid (f1.put dst d) σ (zt C post (gC Q)) σ1) (f1.put dst d)
theorem S4 {mid:List yY} {un:Bool}:lf C (.bh pre ⟨dst,g,k⟩ mid un post) Q f σ=oM C σ pre (aE C k (Pa C pre dst mid un post Q f σ) σ) f:=by
 have e:aE C k (Pa C pre dst mid un post Q f σ) σ=Xy C k (Uy C pre dst mid un post Q f σ) σ:=by
  funext f1;unfold aE Xy;congr 1;funext d σ1;unfold Pa Uy
  have e2:Ld C un mid (f1.put dst d) σ (zt C post (gC Q)) σ1=LM C un mid (f1.put dst d) σ (ua C post (gC Q)) σ1:=by funext f2; unfold Ld LM; rw [dW,iG]
  rw [e2,iG]
 rw [pY,iG,e]; rfl
theorem QE (f:Fr):N0 f f=True:=eq_true rfl
theorem PQ : lf C (.seq a b) Q f σ=lf C a (jM (lf C b Q) Q) f σ:=by rw [pY]; rfl
theorem Ry : lf C (.cond x a b) Q f σ=LH (pI f x) (lf C a Q f σ) (lf C b Q f σ):=by rw [pY]; rfl
theorem Uq : lf C (.block id c) Q f σ=lf C c (lT id Q) f σ:=by rw [pY]; rfl
theorem S3 : lf C (.loop c) Q f σ=wpS C (.loop c) f σ Q:=by rw [pY]; rfl
theorem S6 {g:tR} {ps:List Nat}:lf C (.uc g ps a c) Q f σ=wpS C (.uc g ps a c) f σ Q:=by rw [pY]; rfl
theorem Rx : lf C (.exit id) Q f σ=Q (.exit id) f σ:=by rw [pY]; rfl
theorem PO : lf C .ret Q f σ=Q .ret f σ:=by rw [pY]; rfl
theorem Ur {it:Nat} {m:tR} {out nx more next pair:Nat} {rst:List yY} {code:DC}:lf C (.vp pre it m out nx more next pair rst code) Q f σ=zt C pre (ao C it m out nx more next pair rst code Q) f σ:=by rw [pY,dW]; rfl
end
theorem xN {C:Cx} (hm:C.P.follows .mixedOrders=true) {dc:DC} {f:Fr} {σ:St} {Q:Exit->Fr->St->Prop} (h:lf C dc Q f σ):wpS C dc f σ Q:= Sj hm (by rw [<- bE,<- pY]; exact h)
theorem xQ.KO {P:Program} {g:FuncId} {fn:Func} {own:List Nat} {N:Nat} {dc:DC} {rs:List bF} {args:List D} {σ:St} {d:D} {σ':St} (hm:P.follows .mixedOrders=true) (hf:P.funcs[g]?=some fn)
  (hc:xS P own fn=some (N,dc,rs)) (hla:args.length<=N)
  (h:D.sR args->lf ⟨P,N,σ.nx,own,none⟩ dc (iy ⟨P,N,σ.nx,own,none⟩ rs d σ') (fX 0 args) σ):xQ P g args σ d σ':=
 xQ.KY hm hf hc hla λhfa=>by rw [<- bE,<- pY]; exact h hfa
end Go.Pd
namespace Go.Pd
open Go
theorem yt (s:BitVec 64) (w:Nat):s >>> w &&& 1#64=if s.getLsbD w then 1#64 else 0#64:=by
 apply ω;rw [Af,Ab];have:(1#64).toNat=1:=rfl;rw [this,An];unfold BitVec.getLsbD;rw [Nat.testBit_eq_decide_div_mod_eq,Ak]
 by_cases h:s.toNat / 2 ^ w % 2=1
 ·simp [h]
 ·simp [h]; omega
theorem Pz (s:BitVec 64) (w:Nat):s >>> w % 2#64=if s.getLsbD w then 1#64 else 0#64:=by rw [<- yt];apply ω;rw [Af,Ae];have:(1#64).toNat=1:=rfl;rw [this,An];rfl
theorem ud (s:BitVec 64) (w:Nat):(s >>> w % 2#64==1#64)= s.getLsbD w:=by rw [Pz];cases s.getLsbD w <;> rfl
theorem Zt (s:BitVec 64) (w:Nat):(s >>> w &&& 1#64==1#64)= s.getLsbD w:=by rw [yt];cases s.getLsbD w <;> rfl
theorem tj {k:Nat} (hk:k<62):kg .i64 1 k=((2 ^ k:Nat):Int):=by
 have hp:2 ^ k<2 ^ 62:=Am (by omega) hk;unfold kg
 have e:min (k:Int).toNat IntKind.i64.bits=k:=by have:IntKind.i64.bits=64:=rfl;rw [this,Ap]; omega
 rw [e,Int.one_mul,wrap_i64]
 ·simp
 ·have:((2:Int)^ k)= ((2 ^ k:Nat):Int):=by simp
  rw [this];exact⟨Int.le_trans (by decide) (Ao _),Int.le_trans (Int.ofNat_le.2 (Nat.le_of_lt hp)) (by decide)⟩
theorem or_zero {a k:Nat} (h:a<2 ^ k) (hk:k<62):sW .or .i64 (a:Int) (kg .i64 0 k)= (a:Int):=by
 have hp:2 ^ k<2 ^ 62:=Am (by omega) hk
 have e1:kg .i64 0 k=0:=by unfold kg;rw [Int.zero_mul]; rfl
 rw [e1];show IntKind.i64.wrap ((BitVec.ofInt 64 (a:Int) ||| BitVec.ofInt 64 0).toNat:Int)= _;rw [Aa,BitVec.toNat_or,Ac,Nat.mod_eq_of_lt (by omega)];have:(BitVec.ofInt 64 0).toNat=0:=rfl;rw [this,Nat.or_zero];exact wrap_i64 (by omega)
end Go.Pd
namespace Go.Pd
open Go
theorem zK (key sz:Nat):xB key sz [] = .xL:=rfl
theorem mq (key sz:Nat) (e:List D) (r:List (List D)):xB key sz (e :: r)= .yD key sz (r.length+1):=rfl
theorem zL (key sz:Nat):yX key sz [] = []:=rfl
theorem mr (key sz:Nat) (e:List D) (r:List (List D)):yX key sz (e :: r)= [(key,⟨sz,e :: r⟩)]:=rfl
theorem lQ (k:IntKind):rows k [] = []:=rfl
theorem za (k:IntKind) (n:Int) (l:List Int):rows k (n :: l)= [.int k n] :: rows k l:=rfl
theorem zb (k:IntKind) (l:List Int) (n:Int):rows k l ++ [[.int k n]]=rows k (l ++ [n]):=by simp [rows]
theorem y8 (l:List (List (BitVec 64))) (r:List (BitVec 64)):rr l ++ [[.sl 1 (us r)]]=rr (l ++ [r]):=by simp [rr,V5]
theorem Sf : rr [] = []:=rfl
theorem Vp (l:List (BitVec 64)) (r:List (List (BitVec 64))):rr (l :: r)= [.sl 1 (us l)] :: rr r:=rfl
variable [tP]
theorem Ts {key m n sz:Nat} {xW:List (List D)} (hs:0<sz) (hp:∀ e ∈ xW,D.xR e=true) {ρ:Nat->Nat}:vw ⟨m,yX key sz xW⟩ ⟨n,[]⟩ ρ (xB key sz xW) (.sl sz xW):=by
 cases xW with
 | nil=>simp [xB,vw]
 | cons e r=> simp only [xB,yX,vw];refine⟨trivial,hs,by simp,⟨sz,e :: r⟩,by simp [St.get,St.look],rfl,Aj _,by simp,hp⟩
theorem sH.name {n0 n m sz j:Nat} {xW:List (List D)} {d d':D} (hn:n0<=n) (hp:∀ e ∈ xW,D.xR e=true) (hv:vw ⟨m,[(j,⟨sz,xW⟩)]⟩ ⟨n+1,[(n,⟨sz,xW⟩)]⟩ (λk=>if k=n then j else k) d d'):sH n0 ⟨m,[(j,⟨sz,xW⟩)]⟩ d ⟨n+1,[(n,⟨sz,xW⟩)]⟩ d':=by
 refine .inr ⟨λk=>if k=n then j else k,by show n0<=n+1; omega,λk hk=>if_neg (by omega),hv,?_,?_⟩
 ·intro p hp';simp only [θ] at hp';subst hp';exact⟨Nat.lt_succ_self n,⟨sz,xW⟩,by simp [St.get,St.look],rfl,.same hp⟩
 ·intro p hp' q hq' _;simp only [θ] at hp' hq';rw [hp',hq']
end Go.Pd
namespace Go.Pd
open Go
def vA (sz:Nat):List (List D)->Option Ob
 | []=>none
 | e :: r=>some ⟨sz,e :: r⟩
theorem wZ {k s:Nat} {xW:List (List D)} {r:List (Nat × Ob)} {k':Nat}:St.look (yX k s xW++r) k'=if k=k' then(vA s xW).or (St.look r k') else St.look r k':=by
 cases xW with
 | nil=>simp [yX,vA]
 | cons e l=>simp [yX,vA,St.look]
theorem uq {k s:Nat} {xW:List (List D)} {k':Nat}:St.look (yX k s xW) k'=if k=k' then vA s xW else none:=by have:=wZ (k:=k) (s:=s) (xW:=xW) (r:=[]) (k':=k');simp only [δ,St.look,Option.or_none] at this;exact this
theorem uj {k s:Nat} {xW:List (List D)} {r:List (Nat × Ob)} {k':Nat}:yN (yX k s xW++r) k'=if k=k' then yN r k' else yX k s xW++yN r k':=by
 cases xW with
 | nil=>simp [yX]
 | cons e l=>simp [yX,yN]
theorem o5 {k s:Nat} {xW:List (List D)} {k':Nat}:yN (yX k s xW) k'=if k=k' then [] else yX k s xW:=by have:=uj (k:=k) (s:=s) (xW:=xW) (r:=[]) (k':=k');simp only [δ,yN] at this;exact this
theorem Xk : ∀ {r:List (Nat × Ob)} {k:Nat} {o:Ob},St.look r k=none->zC r k o=r
 | [],_,_,_=>rfl
 | (j,o') :: r,k,o,h=>by
  simp only [St.look] at h
  split at h
  ·cases h
  ·rename_i hn;simp only [zC,if_neg hn,Xk h]
theorem mh : ∀ {r:List (Nat × Ob)} {k:Nat},St.look r k=none->yN r k=r
 | [],_,_=>rfl
 | (j,o') :: r,k,h=>by
  simp only [St.look] at h
  split at h
  ·cases h
  ·rename_i hn;simp only [yN,if_neg hn,mh h]
theorem il {k s:Nat} {xW els':List (List D)} {r:List (Nat × Ob)} (hl:els'.length=xW.length) (h:St.look r k=none):zC (yX k s xW++r) k ⟨s,els'⟩= yX k s els'++r:=by
 cases xW with
 | nil=> have:els' = []:=List.eq_nil_of_length_eq_zero (by simpa using hl);subst this;simp only [yX,η];exact Xk h
 | cons e l=>
  cases els' with
  | nil=>simp at hl
  | cons e' l'=>simp [yX,zC]
theorem nu {k s:Nat} {xW els':List (List D)} (hl:els'.length=xW.length):zC (yX k s xW) k ⟨s,els'⟩= yX k s els':=by have:=il (k:=k) (s:=s) (r:=[]) hl rfl;simp only [δ] at this;exact this
theorem p7 {k s:Nat} {xW:List (List D)} {r:List (Nat × Ob)} {k':Nat} {o:Ob} (h:k≠k'):zC (yX k s xW++r) k' o=yX k s xW++zC r k' o:=by
 cases xW with
 | nil=>simp [yX]
 | cons e l=>simp [yX,zC,h]
theorem Zu (k s:Nat) (xW:List (List D)):(xB k s xW).cells=some [xB k s xW]:=by cases xW <;> rfl
theorem UD (k s:Nat) (xW:List (List D)):(xB k s xW).one=true:=by cases xW <;> rfl
theorem TW (k s n:Nat):(D.yD k s n).cells=some [.yD k s n]:=rfl
theorem Ta (k s l n:Nat):(D.sub k s l n).cells=some [.sub k s l n]:=rfl
theorem TV (k:IntKind) (n:Int):(D.int k n).cells=some [.int k n]:=rfl
theorem WD (b:Bool):(D.bool b).cells=some [.bool b]:=rfl
theorem TX (s:ByteArray):(D.str s).cells=some [.str s]:=rfl
theorem Q2 (sz:Nat) (xW:List (List D)):(D.sl sz xW).cells=some [.sl sz xW]:=rfl
theorem WJ : D.xL.cells=some [.xL]:=rfl
theorem TU : D.emp.cells=some [.emp]:=rfl
theorem TT (cs:List D):(D.agg cs).cells=some cs:=rfl
theorem Q1 (f:FuncId) (cs:List D):(D.fn f cs).cells=some [.fn f cs]:=rfl
theorem TY (a b c d:Nat):(D.ref a b c d).cells=some [.ref a b c d]:=rfl
theorem TZ (cs:List D):(D.ptr cs).cells=some [.ptr cs]:=rfl
theorem WE (k:Nat):(D.wA k).cells=some [.wA k]:=rfl
theorem WI : D.qM.cells=some [.qM]:=rfl
theorem WH : D.oH.cells=some [.oH]:=rfl
theorem WG : D.mC.cells=some [.mC]:=rfl
theorem Of (k:IntKind) (n:Int):(D.int k n).one=true:=rfl
theorem Qy (b:Bool):(D.bool b).one=true:=rfl
theorem Om (s:ByteArray):(D.str s).one=true:=rfl
theorem MP (sz:Nat) (xW:List (List D)):(D.sl sz xW).one=true:=rfl
theorem R3 : D.xL.one=true:=rfl
theorem Od : D.emp.one=true:=rfl
theorem MO (f:FuncId) (cs:List D):(D.fn f cs).one=true:=rfl
theorem Oj (a b c d:Nat):(D.ref a b c d).one=true:=rfl
theorem Oh (a b c:Nat):(D.yD a b c).one=true:=rfl
theorem Oi (cs:List D):(D.ptr cs).one=true:=rfl
theorem Qx (k:Nat):(D.wA k).one=true:=rfl
theorem R2 : D.qM.one=true:=rfl
theorem R1 : D.oH.one=true:=rfl
theorem R0 : D.mC.one=true:=rfl
section
variable [tP]
theorem TO {q:Bool} {σ:St} {sz bytes key:Nat} {xW:List (List D)} {rw:List (List D)} {K:D->St->Prop} (h:σ.get key=vA sz xW) (h0:rw ≠ []) :
  zo q σ sz bytes (xB key sz xW) (some rw) K=((∀ r ∈ rw,uX r=true)/\ (xW.length+rw.length)* bytes<=140737488355328/\xW.length+rw.length<=8000000000000 /\
   K (xB σ.nx sz (xW++rw)) ⟨σ.nx+1,yX σ.nx sz (xW++rw)++ yN σ.xZ key⟩):=by
 cases xW with
 | nil=>
  obtain⟨r,rs,rfl⟩:∃ r rs,rw=r :: rs:=by cases rw with | nil=>exact absurd rfl h0 | cons r rs=>exact⟨r,rs,rfl⟩
  have he:yN σ.xZ key=σ.xZ:=mh h;simp only [zo,xB,yX,St.new,he,η,μ,Al];simp
 | cons e l=>
  have e1:l.length+1+rw.length=l.length+rw.length+1:=by omega
  simp only [zo,xB,h,vA,St.erase,St.new,yX];simp [xB,yX,e1]
theorem WA {q:Bool} {nx:Nat} {xZ:List (Nat × Ob)} {sz bytes key:Nat} {xW:List (List D)} {r:List D} {rs:List (List D)} {K:D->St->Prop} (h:St.look xZ key=vA sz xW) :
  zo q ⟨nx,xZ⟩ sz bytes (xB key sz xW) (some (r :: rs)) K=((∀ x ∈ r :: rs,uX x=true)/\ (xW.length+(r :: rs).length)* bytes<=140737488355328/\xW.length+(r :: rs).length<=8000000000000 /\
   K (xB nx sz (xW++r :: rs)) ⟨nx+1,yX nx sz (xW++r :: rs)++ yN xZ key⟩):=TO h (by simp)
theorem Ps {q:Bool} {σ:St} {sz bytes:Nat} {r:List D} {rs:List (List D)} {K:D->St->Prop} :
  zo q σ sz bytes .xL (some (r :: rs)) K=((∀ x ∈ r :: rs,uX x=true)/\ (r :: rs).length*bytes<=140737488355328/\(r :: rs).length<=8000000000000/\K (.yD σ.nx sz (r :: rs).length) (σ.new ⟨sz,r :: rs⟩)):=by
 simp [zo]
theorem Pt {q:Bool} {σ:St} {sz sz' bytes key n:Nat} {rows:List (List D)} {K:D->St->Prop} :
  zo q σ sz bytes (.yD key sz' n) (some rows) K=((∀ x ∈ rows,uX x=true)/\ match σ.get key with
   | some ob=>sz=sz'/\ob.sz=sz/\n<=ob.xW.length/\(n+rows.length)* bytes<=140737488355328/\n+rows.length<=8000000000000/\K (.yD σ.nx sz (n+rows.length)) ((σ.erase key).new ⟨sz,ob.xW.take n++rows⟩)
   | none=>False):=rfl
def Za (nx:Nat) (xZ:List (Nat × Ob)) (n key sz i off:Nat) (ds:List D) (K:D->St->Prop):Option Ob->Prop
 | some ob=>ob.sz=sz/\i<ob.xW.length/\ds.length=n/\off+n<=sz/\uX ds=true/\K .rJ ⟨nx,zC xZ key ⟨sz,ob.xW.set i (jQ (ob.xW.getD i []) off ds)⟩⟩
 | none=>False
@[congr] theorem Lk {nx : Nat} {xZ : List (Nat × Ob)} {n key sz i off : Nat} {ds : List D} {K : D -> St -> Prop} {o o' : Option Ob} (h : o = o') : Za nx xZ n key sz i off ds K o = Za nx xZ n key sz i off ds K o' := by rw [h]
theorem Ri {nx:Nat} {xZ:List (Nat × Ob)} {n key sz i off:Nat} {ds:List D} {K:D->St->Prop}:TD ⟨nx,xZ⟩ n (.ref key sz i off) (some ds) K=Za nx xZ n key sz i off ds K (St.look xZ key):=by simp only [TD,St.get];cases St.look xZ key <;> rfl
theorem Uj {nx:Nat} {xZ:List (Nat × Ob)} {n key sz i off:Nat} {ds:List D} {K:D->St->Prop} {sz':Nat} {xW:List (List D)} :
  Za nx xZ n key sz i off ds K (some ⟨sz',xW⟩)= (sz'=sz/\i<xW.length/\ds.length=n/\off+n<=sz/\uX ds=true/\K .rJ ⟨nx,zC xZ key ⟨sz,xW.set i (jQ (xW.getD i []) off ds)⟩⟩):=rfl
theorem Ui {nx:Nat} {xZ:List (Nat × Ob)} {n key sz i off:Nat} {ds:List D} {K:D->St->Prop} {xW:List (List D)} :
  Za nx xZ n key sz i off ds K (vA sz xW)= (i<xW.length/\ds.length=n/\off+n<=sz/\uX ds=true/\K .rJ ⟨nx,zC xZ key ⟨sz,xW.set i (jQ (xW.getD i []) off ds)⟩⟩):=by
 cases xW with
 | nil=>simp [Za,vA]
 | cons e l=>simp [Za,vA]
def rf (n:Nat) (ag:Bool) (sz i off:Nat) (K:D->Prop):Option Ob->Prop
 | some o=>o.sz=sz/\i<o.xW.length/\off+n<=sz/\(ag=true\/n=1)/\ K (pA ag (((o.xW.getD i []).drop off).take n))
 | none=>False
@[congr] theorem NA {n sz i off : Nat} {ag : Bool} {K : D -> Prop} {o o' : Option Ob} (h : o = o') : rf n ag sz i off K o = rf n ag sz i off K o' := by rw [h]
theorem U4 {nx:Nat} {xZ:List (Nat × Ob)} {n key sz i off:Nat} {ag:Bool} {K:D->Prop}:jb ⟨nx,xZ⟩ n ag (.ref key sz i off) K=rf n ag sz i off K (St.look xZ key):=by simp only [jb,St.get];cases St.look xZ key <;> rfl
theorem Wj {n sz i off:Nat} {ag:Bool} {K:D->Prop} {sz':Nat} {xW:List (List D)}:rf n ag sz i off K (some ⟨sz',xW⟩)= (sz'=sz/\i<xW.length/\off+n<=sz/\(ag=true\/n=1)/\ K (pA ag (((xW.getD i []).drop off).take n))):=rfl
theorem Wi {n sz i off:Nat} {ag:Bool} {K:D->Prop} {xW:List (List D)}:rf n ag sz i off K (vA sz xW)= (i<xW.length/\off+n<=sz/\(ag=true\/n=1)/\ K (pA ag (((xW.getD i []).drop off).take n))):=by
 cases xW with
 | nil=>simp [rf,vA]
 | cons e l=>simp [rf,vA]
theorem U3 {σ:St} {n:Nat} {ag:Bool} {cs:List D} {K:D->Prop}:jb σ n ag (.ptr cs) K=(n<=cs.length/\(ag=true\/n=1)/\ K (pA ag (cs.take n))):=rfl
def cC (kk:IntKind) (l:List (Int × D)):List (List D):=l.map λp=>[.int kk p.1,p.2]
def qH (x:Int):List (Int × D)->Nat->Option (Nat × D)
 | [],_=>none
 | (m,d) :: r,i=>if x=m then some (i,d) else qH x r (i+1)
def T6 (l:List (Int × D)) (x:Int) (d:D):List (Int × D):=
 match qH x l 0 with
 | some (i,_)=>l.set i (x,d)
 | none=>l ++ [(x,d)]
theorem mw (kk:IntKind) (l:List (Int × D)):gA kk (cC kk l):=by intro row h;simp only [cC,ε] at h;obtain⟨p,_,rfl⟩:=h;exact⟨_,_,rfl⟩
theorem aU (kk:IntKind) (x:Int):∀ (l:List (Int × D)) (i:Nat),nN x (cC kk l) i=qH x l i
 | [],_=>rfl
 | (m,d) :: r,i=>by show nN x ([.int kk m,d] :: cC kk r) i=_;rw [nN,qH,aU kk x r (i+1)]
theorem Wo (kk:IntKind) (l:List (Int × D)) (x:Int) (d:D):rh kk (cC kk l) x d=cC kk (T6 l x d):=by
 unfold rh T6;rw [aU]
 cases qH x l 0 with
 | none=>simp [cC]
 | some p=>simp [cC,List.map_set]
theorem yy : ∀ {a b:List Int},a.map (D.int .i64)= b.map (D.int .i64)->a=b
 | [],[],_=>rfl
 | [],_ :: _,h=>by simp at h
 | _ :: _,[],h=>by simp at h
 | x :: a,y :: b,h=>by simp only [ζ,List.cons.injEq,D.int.injEq,true_and] at h;rw [h.1,yy h.2]
theorem om : ∀ {a b:List (List Int × D)},rD a=rD b->a=b
 | [],[],_=>rfl
 | [],_ :: _,h=>by simp [rD] at h
 | _ :: _,[],h=>by simp [rD] at h
 | (x,d) :: a,(y,e) :: b,h=>by simp only [rD,ζ,List.cons.injEq,D.agg.injEq,and_true] at h;obtain⟨⟨h1,h2⟩,h3⟩:=h;rw [yy h1,h2,om (a:=a) (b:=b) h3]
theorem wh {nx:Nat} {xZ:List (Nat × Ob)} {n:Nat} {zero:D} {ok:Bool} {key:Nat} {x:List Int} {l:List (List Int × D)} {cs:List D} {K:D->Prop} (hg:St.look xZ key=some ⟨0,rD l⟩) (hc:cs=x.map (D.int .i64)) (hx:x.length=n) (hl:∀ p ∈ l,p.1.length=n) :
  fA ⟨nx,xZ⟩ n zero ok (.wA key) (.agg cs) K=K (mB ok zero (lS x l 0)):=by
 subst hc;simp only [fA,St.get,hg];refine propext ⟨λh=>?_,λh=>⟨trivial,x,l,⟨rfl,rfl,hx,hl⟩,h⟩⟩;obtain⟨_,x',l',⟨h1,h2,_,_⟩,h3⟩:=h;rw [yy h1,om h2]; exact h3
theorem Wq {nx:Nat} {xZ:List (Nat × Ob)} {n:Nat} {key:Nat} {y:List Int} {l:List (List Int × D)} {cs:List D} {x:D} {K:D->St->Prop} (hg:St.look xZ key=some ⟨0,rD l⟩) (hc:cs=y.map (D.int .i64)) (hx:y.length=n) (hl:∀ p ∈ l,p.1.length=n) :
  iK ⟨nx,xZ⟩ n (.wA key) (.agg cs) x K=K .rJ ⟨nx,zC xZ key ⟨0,rD (aB y x l)⟩⟩:=by
 subst hc;simp only [iK,St.get,hg,St.set];refine propext ⟨λh=>?_,λh=>⟨trivial,y,l,⟨rfl,rfl,hx,hl⟩,h⟩⟩;obtain⟨_,x',l',⟨h1,h2,_,_⟩,h3⟩:=h;rw [yy h1,om h2]; exact h3
theorem wj {nx:Nat} {xZ:List (Nat × Ob)} {n:Nat} {key:Nat} {y:List Int} {l:List (List Int × D)} {cs:List D} {x:D} {K:D->St->Prop} (hg:St.look xZ key=some ⟨0,rD l⟩) (hc:cs=y.map (D.int .i64)) (hx:y.length=n) (hl:∀ p ∈ l,p.1.length=n) (hno:lS y l 0=none) :
  iK ⟨nx,xZ⟩ n (.wA key) (.agg cs) x K=K .rJ ⟨nx,zC xZ key ⟨0,rD (l ++ [(y,x)])⟩⟩:=by
 rw [Wq hg hc hx hl,show aB y x l=l ++ [(y,x)] by unfold aB; rw [hno]]
def jc (kk:IntKind) (x:Int) (zero:D) (ok:Bool) (K:D->Prop):Option Ob->Prop
 | some o=>o.sz=0/\gA kk o.xW/\K (mB ok zero (nN x o.xW 0))
 | none=>False
@[congr] theorem ND {kk : IntKind} {x : Int} {zero : D} {ok : Bool} {K : D -> Prop} {o o' : Option Ob} (h : o = o') : jc kk x zero ok K o = jc kk x zero ok K o' := by rw [h]
theorem Wk {nx:Nat} {xZ:List (Nat × Ob)} {zero:D} {ok:Bool} {key:Nat} {kk:IntKind} {x:Int} {K:D->Prop}:jd ⟨nx,xZ⟩ zero ok (.wA key) (.int kk x) K=jc kk x zero ok K (St.look xZ key):=by simp only [jd,St.get];cases St.look xZ key <;> rfl
theorem Wl {σ:St} {zero:D} {ok:Bool} {kk:IntKind} {x:Int} {K:D->Prop}:jd σ zero ok .oH (.int kk x) K=K (mB ok zero none):=rfl
theorem nh {kk:IntKind} {x:Int} {zero:D} {ok:Bool} {K:D->Prop} {l:List (Int × D)}:jc kk x zero ok K (some ⟨0,cC kk l⟩)= K (mB ok zero (qH x l 0)):=by simp only [jc,aU];exact propext ⟨λh=>h.2.2,λh=>⟨trivial,mw kk l,h⟩⟩
theorem U5 {kk:IntKind} {x:Int} {zero:D} {ok:Bool} {K:D->Prop}:jc kk x zero ok K (some ⟨0,[]⟩)= K (mB ok zero none):=nh (l:=[])
def jg (nx:Nat) (xZ:List (Nat × Ob)) (key:Nat) (kk:IntKind) (y:Int) (x:D) (K:D->St->Prop):Option Ob->Prop
 | some o=>o.sz=0/\gA kk o.xW/\K .rJ ⟨nx,zC xZ key ⟨0,rh kk o.xW y x⟩⟩
 | none=>False
@[congr] theorem NG {nx : Nat} {xZ : List (Nat × Ob)} {key : Nat} {kk : IntKind} {y : Int} {x : D} {K : D -> St -> Prop} {o o' : Option Ob} (h : o = o') : jg nx xZ key kk y x K o = jg nx xZ key kk y x K o' := by rw [h]
theorem Wp {nx:Nat} {xZ:List (Nat × Ob)} {key:Nat} {kk:IntKind} {y:Int} {x:D} {K:D->St->Prop}:b8 ⟨nx,xZ⟩ (.wA key) (.int kk y) x K=jg nx xZ key kk y x K (St.look xZ key):=by simp only [b8,St.get];cases St.look xZ key <;> rfl
theorem nk {nx:Nat} {xZ:List (Nat × Ob)} {key:Nat} {kk:IntKind} {y:Int} {x:D} {K:D->St->Prop} {l:List (Int × D)}:jg nx xZ key kk y x K (some ⟨0,cC kk l⟩)= K .rJ ⟨nx,zC xZ key ⟨0,cC kk (T6 l y x)⟩⟩:=by simp only [jg,Wo];exact propext ⟨λh=>h.2.2,λh=>⟨trivial,mw kk l,h⟩⟩
theorem U9 {nx:Nat} {xZ:List (Nat × Ob)} {key:Nat} {kk:IntKind} {y:Int} {x:D} {K:D->St->Prop}:jg nx xZ key kk y x K (some ⟨0,[]⟩)= K .rJ ⟨nx,zC xZ key ⟨0,cC kk [(y,x)]⟩⟩:=nk (l:=[])
theorem UA (zero:D):mB true zero none = .wF [zero,.bool false]:=rfl
theorem UB (zero:D) (i:Nat) (d:D):mB true zero (some (i,d))= .wF [d,.bool true]:=rfl
theorem Wr (zero:D):mB false zero none=zero:=rfl
theorem Ws (zero:D) (i:Nat) (d:D):mB false zero (some (i,d))= d:=rfl
theorem OM {sz:Nat} {xW:List (List D)} {K:D->Prop}:jx (.sl sz xW) K=K (.int .i64 xW.length):=rfl
theorem QY {k sz n:Nat} {K:D->Prop}:jx (.yD k sz n) K=K (.int .i64 n):=rfl
theorem QX {k sz lo n:Nat} {K:D->Prop}:jx (.sub k sz lo n) K=K (.int .i64 n):=rfl
theorem QR {sz key sz' lo len:Nat} {k:IntKind} {n:Int} {K:D->Prop}:bg sz (.sub key sz' lo len) (.int k n) K=(sz=sz'/\0<=n/\n<len/\K (.ref key sz (lo+n.toNat) 0)):=rfl
theorem U1 {K:D->Prop}:jx .xL K=K (.int .i64 0):=rfl
theorem QZ {K:D->Prop}:jx .emp K=K (.int .i64 0):=rfl
theorem OE {sz sz':Nat} {xW:List (List D)} {k:IntKind} {n:Int} {K:D->Prop}:bg sz (.sl sz' xW) (.int k n) K=(sz=sz'/\0<=n/\n<xW.length/\K (.ptr (xW.getD n.toNat []))):=rfl
theorem QO {sz key sz' len:Nat} {k:IntKind} {n:Int} {K:D->Prop}:bg sz (.yD key sz' len) (.int k n) K=(sz=sz'/\0<=n/\n<len/\K (.ref key sz n.toNat 0)):=rfl
theorem Qp {neg:Bool} {K:D->Prop}:lW neg .xL .xL K=K (.bool (!neg)):=rfl
theorem Qq {neg:Bool} {K:D->Prop} {a b c:Nat}:lW neg (.yD a b c) .xL K=K (.bool neg):=rfl
theorem Qr {neg:Bool} {K:D->Prop} {a b c:Nat}:lW neg .xL (.yD a b c) K=K (.bool neg):=rfl
theorem Qs {neg:Bool} {K:D->Prop}:lW neg .emp .xL K=K (.bool neg):=rfl
theorem Qt {neg:Bool} {K:D->Prop}:lW neg .xL .emp K=K (.bool neg):=rfl
theorem Qu {neg:Bool} {K:D->Prop} {sz:Nat} {e:List D} {r:List (List D)}:lW neg (.sl sz (e :: r)) .xL K=K (.bool neg):=rfl
def PV (nx:Nat) (xZ:List (Nat × Ob)) (sz sz' bytes key n:Nat) (rows:List (List D)) (K:D->St->Prop):Option Ob->Prop
 | some ob=>sz=sz'/\ob.sz=sz/\n<=ob.xW.length/\(n+rows.length)* bytes<=140737488355328/\n+rows.length<=8000000000000/\K (.yD nx sz (n+rows.length)) ⟨nx+1,(nx,⟨sz,ob.xW.take n++rows⟩) :: yN xZ key⟩
 | none=>False
@[congr] theorem Lf {nx : Nat} {xZ : List (Nat × Ob)} {sz sz' bytes key n : Nat} {rows : List (List D)} {K : D -> St -> Prop} {o o' : Option Ob} (h : o = o') : PV nx xZ sz sz' bytes key n rows K o = PV nx xZ sz sz' bytes key n rows K o' := by rw [h]
theorem TP {q:Bool} {nx:Nat} {xZ:List (Nat × Ob)} {sz sz' bytes key n:Nat} {rows:List (List D)} {K:D->St->Prop} :
  zo q ⟨nx,xZ⟩ sz bytes (.yD key sz' n) (some rows) K=((∀ x ∈ rows,uX x=true)/\ PV nx xZ sz sz' bytes key n rows K (St.look xZ key)):=by
 rw [Pt];simp only [St.get];cases St.look xZ key <;> rfl
theorem TN {nx:Nat} {xZ:List (Nat × Ob)} {sz sz' bytes key n:Nat} {rows:List (List D)} {K:D->St->Prop} {sz0:Nat} {xW:List (List D)} :
  PV nx xZ sz sz' bytes key n rows K (some ⟨sz0,xW⟩)= (sz=sz'/\sz0=sz/\n<=xW.length/\(n+rows.length)* bytes<=140737488355328/\n+rows.length<=8000000000000/\K (.yD nx sz (n+rows.length)) ⟨nx+1,(nx,⟨sz,xW.take n++rows⟩) :: yN xZ key⟩):=rfl
def Vu (q:Bool) (nx:Nat) (xZ:List (Nat × Ob)) (sz sz' bytes key lo n:Nat) (rows:List (List D)) (K:D->St->Prop):Option Ob->Prop
 | some ob=>q=true/\sz=sz'/\ob.sz=sz/\lo+n<=ob.xW.length/\(n+rows.length)* bytes<=140737488355328/\n+rows.length<=8000000000000 /\
  ∀ pre:List (List D),(pre = []\/pre=ob.xW.take lo)->K (.sub nx sz pre.length (n+rows.length)) ⟨nx+1,(nx,⟨sz,pre++((ob.xW.drop lo).take n++rows)⟩) :: yN xZ key⟩
 | none=>False
@[congr] theorem N6 {q : Bool} {nx : Nat} {xZ : List (Nat × Ob)} {sz sz' bytes key lo n : Nat} {rows : List (List D)} {K : D -> St -> Prop} {o o' : Option Ob} (h : o = o') : Vu q nx xZ sz sz' bytes key lo n rows K o = Vu q nx xZ sz sz' bytes key lo n rows K o' := by rw [h]
theorem TQ {q:Bool} {nx:Nat} {xZ:List (Nat × Ob)} {sz sz' bytes key lo n:Nat} {rows:List (List D)} {K:D->St->Prop} :
  zo q ⟨nx,xZ⟩ sz bytes (.sub key sz' lo n) (some rows) K=((∀ x ∈ rows,uX x=true)/\ Vu q nx xZ sz sz' bytes key lo n rows K (St.look xZ key)):=by
 simp only [zo,St.get];cases St.look xZ key <;> rfl
theorem W9 {q:Bool} {nx:Nat} {xZ:List (Nat × Ob)} {sz sz' bytes key lo n:Nat} {rows:List (List D)} {K:D->St->Prop} {sz0:Nat} {xW:List (List D)} :
  Vu q nx xZ sz sz' bytes key lo n rows K (some ⟨sz0,xW⟩)= (q=true/\sz=sz'/\sz0=sz/\lo+n<=xW.length/\(n+rows.length)* bytes<=140737488355328/\n+rows.length<=8000000000000 /\
   ∀ pre:List (List D),(pre = []\/pre=xW.take lo)->K (.sub nx sz pre.length (n+rows.length)) ⟨nx+1,(nx,⟨sz,pre++((xW.drop lo).take n++rows)⟩) :: yN xZ key⟩):=rfl
theorem Tx {key sz:Nat} {xW:List (List D)} {K:D->Prop}:jx (xB key sz xW) K=K (.int .i64 xW.length):=by cases xW <;> simp [jx,xB]
theorem Tt {key sz sz':Nat} {xW:List (List D)} {k:IntKind} {n:Int} {K:D->Prop}:bg sz' (xB key sz xW) (.int k n) K=(sz'=sz/\0<=n/\n<xW.length/\K (.ref key sz n.toNat 0)):=by
 cases xW with
 | nil=>simp only [bg,xB,μ]; simp; intro _ h1 h2; omega
 | cons e l=>simp [bg,xB]; rintro rfl _ _; rfl
theorem YA {key sz:Nat} {neg:Bool} {xW:List (List D)} {K:D->Prop}:lW neg (xB key sz xW) .xL K=K (.bool (if neg then !xW.isEmpty else xW.isEmpty)):=by cases xW <;> cases neg <;> simp [lW,xB]
def sw : List (Nat × Nat)->Nat->Nat
 | [],k=>k
 | (a,b) :: r,k=>if k=a then b else sw r k
def rP (xW:List (List D)):Prop:=∀ e ∈ xW,D.xR e=true
theorem yC (l:List (BitVec 64)):rP (us l)= True:=eq_true (vT l)
theorem nK (l:List (List (BitVec 64))):rP (rr l)= True:=eq_true (y7 l)
theorem aV (k:IntKind) (l:List Int):rP (rows k l)= True:=eq_true (qS k l)
theorem UK : rP []=True:=by simp [rP]
theorem o8 (a b:List (List D)):rP (a++b)= (rP a/\rP b):=by simp only [rP,List.mem_append];exact propext ⟨λh=>⟨λe he=>h e (.inl he),λe he=>h e (.inr he)⟩,λh e he=>he.elim (h.1 e) (h.2 e)⟩
theorem UL (l:List (BitVec 64)) (i:Nat) (s:BitVec 64):rP ((us l).set i [.int .u64 (ui s)])= True:=by rw [iO,yC]
theorem Vt {σ σ':St} {ρ:Nat->Nat} {a b sz:Nat} {xW:List (List D)}:vw σ σ' ρ (xB a sz xW) (xB b sz xW)= (xW = []\/(b<σ'.nx/\a=ρ b)):=by
 cases xW with
 | nil=>simp [xB,vw]
 | cons e l=>simp [xB,vw]
def Kv (σ':St) (ρ:Nat->Nat) (k0:Nat):Prop:=∀ p ∈ σ'.xZ,ρ p.1≠k0
theorem ZC {σ σ':St} {ρ:Nat->Nat} {k0 sz:Nat} {xW:List (List D)} (hs:0<sz) (h:Kv σ' ρ k0) (hg:σ.get k0=vA sz xW) (hp:rP xW):vw σ σ' ρ (xB k0 sz xW) (.sl sz xW)= True:=by
 cases xW with
 | nil=>simp [xB,vw]
 | cons e l=> refine eq_true ?_;simp only [xB,vw];exact⟨trivial,hs,h,⟨sz,e :: l⟩,hg,rfl,Aj _,by simp,hp⟩
def NX (σ σ':St) (ρ:Nat->Nat) (as bs:List (List D)):Prop:=TK σ σ' ρ as bs
theorem Rn {σ σ':St} {ρ:Nat->Nat} {xW:List (List D)} (h:rP xW):NX σ σ' ρ xW xW=True:=eq_true (.same h)
end
section
variable [tP]
theorem Xv {σ σ':St} {ρ:Nat->Nat}:∀ {a:List D},D.xR a=true->vC σ σ' ρ a a:=by
 intro a h
 have key:∀ d:D,d.xF=true->vw σ σ' ρ d d:=by
  intro d
  refine D.rec (motive_1:=λd=>d.xF=true->vw σ σ' ρ d d) (motive_2:=λ_=>True) (motive_3:=λcs=>D.xR cs=true->vC σ σ' ρ cs cs)
   ?top ?rJ ?int ?bool ?str ?sl ?xL ?emp ?agg ?wF ?fn ?ref ?yD ?sub ?ptr ?wA ?qM ?oH ?mC ?l5 trivial (λ_ _ _ _=>trivial) ?nil ?cons d
  case agg=>intro cs ih h; simp only [D.xF] at h; simp only [vw]; exact⟨trivial,ih h⟩
  case wF=>intro cs ih h; simp only [D.xF] at h; simp only [vw]; exact⟨trivial,ih h⟩
  case fn=>intro f cs ih h; simp only [D.xF] at h; simp only [vw]; exact⟨trivial,trivial,ih h⟩
  case ref=>intro k sz i off h; simp [D.xF] at h
  case yD=>intro k sz n h; simp [D.xF] at h
  case sub=>intro k sz lo n h; simp [D.xF] at h
  case wA=>intro k h; simp [D.xF] at h
  case nil=>intro _; simp [vC]
  case cons=> intro d r h1 h2 h;simp only [D.xR,Ai] at h;simp only [vC];exact⟨h1 h.1,h2 h.2⟩
  case ptr=>intro cs _ _; simp [vw]
  all_goals intros; simp [vw]
 induction a with
 | nil=>simp [vC]
 | cons d r ih=> simp only [D.xR,Ai] at h;simp only [vC];exact⟨key d h.1,ih h.2⟩
theorem Xu {σ σ':St} {ρ:Nat->Nat}:∀ {xW:List (List D)} {a b:List D},rP xW->a.length=b.length->vC σ σ' ρ a b->TK σ σ' ρ (xW ++ [a]) (xW ++ [b])
 | [],a,b,_,hl,h=>.cons hl h .nil
 | e :: r,a,b,hp,hl,h=>.cons rfl (Xv (hp e (by simp))) (Xu (λx hx=>hp x (by simp [hx])) hl h)
theorem Ml {σ σ':St} {ρ:Nat->Nat} {xW:List (List D)} {a b:List D} (h:NX σ σ' ρ (xW ++ [a]) (xW ++ [b])):a.length=b.length/\vC σ σ' ρ a b:=by
 have:=(tn (show TK σ σ' ρ (xW ++ [a]) (xW ++ [b]) from h)).2 xW.length (by simp);have e1:∀ x:List D,(xW ++ [x]).getD xW.length []=x:=by intro x; simp [List.getD]
 rw [e1,e1] at this;refine⟨this.1,?_⟩
 rcases this.2 with h | ⟨h1,h2⟩
 ·exact h
 ·rw [h1]; exact Xv h2
theorem qf {σ σ':St} {ρ:Nat->Nat} {xW:List (List D)} {a b:List D} (hp:rP xW):NX σ σ' ρ (xW ++ [a]) (xW ++ [b])= (a.length=b.length/\vC σ σ' ρ a b):= propext ⟨λh=>Ml h,λh=>Xu hp h.1 h.2⟩
theorem PJ {σ σ':St} {ρ:Nat->Nat} {a b:List D}:NX σ σ' ρ [a] [b]=(a.length=b.length/\vC σ σ' ρ a b):=qf (xW:=[]) (by simp [rP])
theorem Mm {σ σ':St} {ρ:Nat->Nat} {l:List (List (BitVec 64))} {r:List (BitVec 64)} {x:D}:NX σ σ' ρ (rr l ++ [[x]]) (rr (l ++ [r]))= vC σ σ' ρ [x] [.sl 1 (us r)]:=by rw [<- y8,qf (y7 l)];simp
def wR (σ σ':St) (ρ:Nat->Nat) (p:Nat × Ob):Prop:=p.1<σ'.nx/\∃ ob,σ.get (ρ p.1)= some ob/\ob.sz=p.2.sz/\NX σ σ' ρ ob.xW p.2.xW
def oI (σ σ':St) (ρ:Nat->Nat) (l:List (Nat × Ob)):Prop:=∀ p ∈ l,wR σ σ' ρ p
theorem zf {σ σ':St} {ρ:Nat->Nat}:oI σ σ' ρ []=True:=by simp [oI]
theorem aY {σ σ':St} {ρ:Nat->Nat} {p:Nat × Ob} {l:List (Nat × Ob)}:oI σ σ' ρ (p :: l)= (wR σ σ' ρ p/\oI σ σ' ρ l):=by simp [oI]
theorem nw {σ σ':St} {ρ:Nat->Nat} {k sz:Nat} {xW:List (List D)} {l:List (Nat × Ob)} (hk:k<σ'.nx) (hg:σ.get (ρ k)= vA sz xW) (hp:rP xW):oI σ σ' ρ (yX k sz xW++l)= oI σ σ' ρ l:=by
 cases xW with
 | nil=>rfl
 | cons e r=> simp only [yX,ο,η,aY];refine propext ⟨λh=>h.2,λh=>⟨⟨hk,⟨sz,e :: r⟩,hg,rfl,.same hp⟩,h⟩⟩
theorem YL {σ σ':St} {ρ:Nat->Nat} {k sz:Nat} {xW:List (List D)} (hk:k<σ'.nx) (hg:σ.get (ρ k)= vA sz xW) (hp:rP xW):oI σ σ' ρ (yX k sz xW)= True:=by have:=nw (l:=[]) hk hg hp;rw [δ,zf] at this;exact this
theorem QL {sz:Nat} {xW:List (List D)} (h:xW ≠ []):vA sz xW=some ⟨sz,xW⟩:=by
 cases xW with
 | nil=>exact absurd rfl h
 | cons e r=>rfl
theorem ve {σ σ':St} {ρ:Nat->Nat} {k sz:Nat} {xW els':List (List D)} {l:List (Nat × Ob)} (hk:k<σ'.nx) (hg:σ.get (ρ k)= vA sz els') (hq:NX σ σ' ρ els' xW):oI σ σ' ρ (yX k sz xW++l)= oI σ σ' ρ l:=by
 cases xW with
 | nil=>rfl
 | cons e r=>
  have hne:els' ≠ []:=by rintro rfl;have:=(tn (show TK σ σ' ρ [] (e :: r) from hq)).1;simp at this
  simp only [yX,ο,η,aY];refine propext ⟨λh=>h.2,λh=>⟨⟨hk,⟨sz,els'⟩,?_,rfl,hq⟩,h⟩⟩;rw [hg,QL hne]
theorem p9 {σ σ':St} {ρ:Nat->Nat} {k sz:Nat} {xW els':List (List D)} (hk:k<σ'.nx) (hg:σ.get (ρ k)= vA sz els') (hq:NX σ σ' ρ els' xW):oI σ σ' ρ (yX k sz xW)= True:=by have:=ve (l:=[]) hk hg hq;rw [δ,zf] at this;exact this
def Zg (ks:List Nat) (l:List (Nat × Ob)):Prop:=∀ p ∈ l,p.1 ∈ ks
theorem Vb {ks:List Nat}:Zg ks []=True:=by simp [Zg]
theorem Yr {ks:List Nat} {p:Nat × Ob} {l:List (Nat × Ob)}:Zg ks (p :: l)= (p.1 ∈ ks/\Zg ks l):=by simp [Zg]
theorem Ys {ks:List Nat} {k sz:Nat} {xW:List (List D)} {l:List (Nat × Ob)} (h:k ∈ ks):Zg ks (yX k sz xW++l)= Zg ks l:=by
 cases xW with
 | nil=>rfl
 | cons e r=>simp [yX,Yr,h]
theorem Tv {ks:List Nat} {k sz:Nat} {xW:List (List D)} (h:k ∈ ks):Zg ks (yX k sz xW)= True:=by have:=Ys (sz:=sz) (xW:=xW) (l:=[]) h;rw [δ,Vb] at this;exact this
def aC (ρ:Nat->Nat) (k0:Nat) (l:List (Nat × Ob)):Prop:=∀ p ∈ l,ρ p.1≠k0
theorem Nl {σ':St} {ρ:Nat->Nat} {k0:Nat}:Kv σ' ρ k0=aC ρ k0 σ'.xZ:=propext Iff.rfl
theorem ct {ρ:Nat->Nat} {k0:Nat}:aC ρ k0 []=True:=by simp [aC]
theorem lr {ρ:Nat->Nat} {k0:Nat} {p:Nat × Ob} {l:List (Nat × Ob)}:aC ρ k0 (p :: l)= (ρ p.1≠k0/\aC ρ k0 l):=by simp [aC]
theorem lu {ρ:Nat->Nat} {k0 k sz:Nat} {xW:List (List D)} {l:List (Nat × Ob)}:aC ρ k0 (yX k sz xW++l)= ((xW = []\/ρ k≠k0)/\ aC ρ k0 l):=by
 cases xW with
 | nil=>simp [yX]
 | cons e r=>simp [yX,lr]
theorem Zr {ρ:Nat->Nat} {k0 k sz:Nat} {xW:List (List D)}:aC ρ k0 (yX k sz xW)= (xW = []\/ρ k≠k0):=by have:=lu (ρ:=ρ) (k0:=k0) (k:=k) (sz:=sz) (xW:=xW) (l:=[]);rw [δ,ct,and_true] at this;exact this
theorem yR.VB {C:Cx} {f f':Fr} {σ σ':St} (l:List (Nat × Nat)) (ks:List Nat) (hn:C.n0<=σ'.nx) (h0:∀ p ∈ l,C.n0<=p.1) (hd:(ks.map (sw l)).Nodup)
  (h:Zg ks σ'.xZ/\oI σ σ' (sw l) σ'.xZ/\bw σ σ' (sw l) f f'):yR C f σ f' σ':=by
 obtain⟨hk,hs,hf⟩:=h
 refine yR.view (sw l) hn ?_ hf ?_ ?_
 ·intro k hk
  induction l with
  | nil=>rfl
  | cons p l ih=>
   obtain⟨a,b⟩:=p;have:C.n0<=a:=h0 (a,b) (by simp);simp only [sw];rw [if_neg (by omega)];have hm:∀ p ∈ l,C.n0<=p.1:=λp hp=>h0 p (by simp [hp]);clear ih hd hs hf h0
   induction l with
   | nil=>rfl
   | cons q l ih=> obtain⟨c,d⟩:=q;have:C.n0<=c:=hm (c,d) (by simp);simp only [sw];rw [if_neg (by omega)];exact ih λp hp=>hm p (by simp [hp])
 ·intro p hp;obtain⟨h1,ob,h2,h3,h4⟩:=hs p hp;exact⟨h1,ob,h2,h3,h4⟩
 ·intro p hp q hq e;have h1:=hk p hp;have h2:=hk q hq
  have inj:∀ (ks:List Nat),(ks.map (sw l)).Nodup->∀ a ∈ ks,∀ b ∈ ks,sw l a=sw l b->a=b:=by
   intro ks
   induction ks with
   | nil=>intro _ a ha; simp at ha
   | cons x ks ih=>
    intro hd a ha b hb e;simp only [ζ,List.nodup_cons,ε,not_exists,not_and] at hd
    rcases κ.1 ha with h1 | h1 <;> rcases κ.1 hb with h2 | h2
    ·rw [h1,h2]
    ·rw [h1] at e; exact absurd e.symm (hd.1 b h2)
    ·rw [h2] at e; exact absurd e (hd.1 a h1)
    ·exact ih hd.2 a h1 b h2 e
  exact inj ks hd _ h1 _ h2 e
theorem sH.VB {n0:Nat} {σ σ':St} {d d':D} (l:List (Nat × Nat)) (ks:List Nat) (hn:n0<=σ'.nx) (h0:∀ p ∈ l,n0<=p.1) (hd:(ks.map (sw l)).Nodup)
  (h:Zg ks σ'.xZ/\oI σ σ' (sw l) σ'.xZ/\vw σ σ' (sw l) d d'):sH n0 σ d σ' d':=by
 obtain⟨hk,hs,hf⟩:=h
 refine .inr ⟨sw l,hn,?_,hf,?_,?_⟩
 ·intro k hk;have hm:∀ p ∈ l,n0<=p.1:=h0;clear hd hs hf h0
  induction l with
  | nil=>rfl
  | cons q l ih=> obtain⟨c,d⟩:=q;have:n0<=c:=hm (c,d) (by simp);simp only [sw];rw [if_neg (by omega)];exact ih λp hp=>hm p (by simp [hp])
 ·intro p hp;obtain⟨h1,ob,h2,h3,h4⟩:=hs p hp;exact⟨h1,ob,h2,h3,h4⟩
 ·intro p hp q hq e;have h1:=hk p hp;have h2:=hk q hq
  have inj:∀ (ks:List Nat),(ks.map (sw l)).Nodup->∀ a ∈ ks,∀ b ∈ ks,sw l a=sw l b->a=b:=by
   intro ks
   induction ks with
   | nil=>intro _ a ha; simp at ha
   | cons x ks ih=>
    intro hd a ha b hb e;simp only [ζ,List.nodup_cons,ε,not_exists,not_and] at hd
    rcases κ.1 ha with h1 | h1 <;> rcases κ.1 hb with h2 | h2
    ·rw [h1,h2]
    ·rw [h1] at e; exact absurd e.symm (hd.1 b h2)
    ·rw [h2] at e; exact absurd e (hd.1 a h1)
    ·exact ih hd.2 a h1 b h2 e
  exact inj ks hd _ h1 _ h2 e
def ji (C:Cx) (Q:Exit->Fr->St->Prop) (e:Exit) (f:Fr) (σ:St):Prop:=∃ f' σ',yR C f σ f' σ'/\Q e f' σ'
theorem ji.zN {C:Cx} {Q:Exit->Fr->St->Prop} {e:Exit} {f:Fr} {σ:St} (h:Q e f σ):ji C Q e f σ:=⟨f,σ,yR.refl,h⟩
theorem ji.go {C:Cx} {Q:Exit->Fr->St->Prop} {e:Exit} {f:Fr} {σ:St} (f':Fr) (σ':St) (hw:yR C f σ f' σ') (h:Q e f' σ'):ji C Q e f σ:=⟨f',σ',hw,h⟩
theorem Up {C:Cx} {dc:DC} {f:Fr} {σ:St} {Q:Exit->Fr->St->Prop} (h:wpS C dc f σ (ji C Q)):wpS C dc f σ Q:=by intro code hc E a w G;refine wpIn_mono (h code hc E a w G) λe a' w' hh=>?_;obtain⟨f1,σ1,G1,f2,σ2,hw,hq⟩:=hh;exact⟨f2,σ2,hw E a' w' G1,hq⟩
theorem sP {C:Cx} {dc:DC} {f:Fr} {σ:St} {Q:Exit->Fr->St->Prop} {α:Type} (g:α->Fr) (s:α->St) (I:α->Prop) (m:α->Nat) (a0:α) (h0:I a0) (hw:yR C f σ (g a0) (s a0))
  (round:∀ a,I a->wpS C dc (g a) (s a) (jM (λf' σ'=>∃ a',I a'/\yR C f' σ' (g a') (s a')/\ m a'<m a) (ji C Q))):wpS C (.loop dc) f σ Q:=
 Up (xU g s I m a0 h0 hw round)
end
theorem NK : ((0:Nat):Int)= 0:=rfl
theorem wK {k:Nat} (h:k<9223372036854775807):IntKind.i64.wrap ((k:Int)+ 1)= ((k+1:Nat):Int):=by rw [wrap_i64 (by omega)]; omega
section
variable [tP]
theorem KM (f:Fr) (n:Nat):pI f (.t n)= Fr.get f n:=rfl
theorem KL (f:Fr) (d:D):pI f (.c d)= d:=rfl
theorem RC (f:Fr) (t:Nat) (d:D):Fr.put f (some t) d=(t,d) :: f:=rfl
theorem RA (f:Fr) (d:D):Fr.put f none d=f:=rfl
theorem get_nil (n:Nat):Fr.get [] n = .top:=rfl
theorem QK (t:Nat) (d:D) (r:Fr) (n:Nat):Fr.get ((t,d) :: r) n=if t=n then d else Fr.get r n:=rfl
theorem look_nil (k:Nat):St.look [] k=none:=rfl
theorem xX (j:Nat) (o:Ob) (r:List (Nat × Ob)) (k:Nat):St.look ((j,o) :: r) k=if j=k then some o else St.look r k:=rfl
theorem RX (k:Nat) (o:Ob):zC [] k o = []:=rfl
theorem oF (j:Nat) (o:Ob) (r:List (Nat × Ob)) (k:Nat) (o':Ob):zC ((j,o) :: r) k o'=if j=k then(j,o') :: r else(j,o) :: zC r k o':=rfl
theorem WR (k:Nat):yN [] k = []:=rfl
theorem Y1 (j:Nat) (o:Ob) (r:List (Nat × Ob)) (k:Nat):yN ((j,o) :: r) k=if j=k then yN r k else(j,o) :: yN r k:=rfl
theorem M8 (n:Nat) (l:List (Nat × Ob)) (k:Nat):St.get ⟨n,l⟩ k=St.look l k:=rfl
theorem set_mk (n:Nat) (l:List (Nat × Ob)) (k:Nat) (o:Ob):St.set ⟨n,l⟩ k o=⟨n,zC l k o⟩:=rfl
theorem ML (n:Nat) (l:List (Nat × Ob)) (o:Ob):St.new ⟨n,l⟩ o=⟨n+1,(n,o) :: l⟩:=rfl
theorem QF (n:Nat) (l:List (Nat × Ob)) (k:Nat):St.erase ⟨n,l⟩ k=⟨n,yN l k⟩:=rfl
theorem UV (σ:St) (sz sz':Nat) (xW:List (List D)):rowsOf σ sz (.sl sz' xW)= if sz=sz' then some xW else none:=rfl
theorem YG (σ:St) (sz:Nat):rowsOf σ sz .xL=some []:=rfl
theorem Z4 (σ:St) (sz:Nat):rowsOf σ sz .emp=some []:=rfl
def zD :=γ @S8 (γ @PN (γ @S4 (γ @PQ (γ @Ry (γ @Uq (γ @S3 (γ @S6 (γ @Rx (γ @PO (γ @Ur (γ @XV (γ @UI (γ @R5 (γ @UF (γ @O9 @OA)))))))))))))))
def zT :=γ @KM (γ @KL (γ @RC (γ @RA (γ @get_nil (γ @QK (γ @look_nil (γ @xX (γ @RX (γ @oF (γ @WR (γ @Y1 (γ @M8 (γ @set_mk (γ @ML (γ @QF (γ @UV (γ @YG (γ @Z4 (γ @Int.cast_ofNat_Int (γ @NK (γ @Int.toNat_zero (γ @Int.toNat_one (γ @beq_self_eq_true.{0} (γ @bne_self_eq_false.{0} (γ @Bool.false_eq_true (γ @QE (γ @QJ (γ @O8 (γ @Px (γ @WA (γ @Ps (γ @TP (γ @TN (γ @TQ (γ @W9 (γ @Ri (γ @Uj (γ @Ui (γ @Tx (γ @OM (γ @QY (γ @QX (γ @U1 (γ @QZ (γ @Tt (γ @OE (γ @QO (γ @QR (γ @YA (γ @Qp (γ @Qq (γ @Qr (γ @Qs (γ @Qt (γ @Qu (γ @U4 (γ @Wj (γ @Wi (γ @U3 (γ @Qo (γ @Qn (γ @OV (γ @Wk (γ @Wl (γ @nh (γ @U5 (γ @Wp (γ @nk (γ @U9 (γ @UA (γ @UB (γ @Wr (γ @Ws (γ @wZ (γ @uq (γ @uj (γ @o5 (γ @il (γ @nu (γ @p7 (γ @Option.or_none.{0} (γ @List.length_set.{0} (γ @Zu (γ @UD (γ @Nat.lt_irrefl (γ @yU (γ @xT (γ @Vr (γ @true_and (γ @and_true (γ @ν.{0} (γ @List.getD_cons_succ.{0} (γ @ψ.{0} (γ @μ.{0} (γ @Bool.not_true (γ @Bool.not_false (γ @ζ.{0,0} (γ @List.map_nil.{0,0} (γ @η.{0} (γ @ο.{0} (γ @δ.{0} (γ @UH (γ @UG (γ @List.take_succ_cons.{0} (γ @List.take_zero.{0} (γ @List.drop_succ_cons.{0} (γ @List.drop_zero.{0} (γ @false_implies (γ @or_true (γ @true_or (γ @Aj (γ @Ap (γ @and_self (γ @PY (γ @PX (γ @Jn (γ @Jo (γ @Mb (γ @Kg (γ @Sh (γ @Ul (γ @Ma (γ @Mh (γ @Md (γ @Mf (γ @Mg (γ @Me (γ @Sg (γ @Mc (γ @MX (γ @not_false_eq_true (γ @TW (γ @Ta (γ @TV (γ @WD (γ @TX (γ @Q2 (γ @WJ (γ @TU (γ @TT (γ @Q1 (γ @TY (γ @TZ (γ @WE (γ @WI (γ @WH (γ @WG (γ @Of (γ @Qy (γ @Om (γ @MP (γ @R3 (γ @Od (γ @MO (γ @Oj (γ @Oh (γ @Oi (γ @Qx (γ @R2 (γ @R1 (γ @R0 (γ @ξ.{0} (γ @List.all_nil.{0} (γ @Bool.and_true (γ @Bool.and_self (γ @List.set_cons_zero.{0} (γ @List.set_cons_succ.{0} (γ @Al (γ @Nat.add_zero (γ @Nat.zero_lt_succ (γ @Nat.lt_add_one (γ @decide_true (γ @decide_false (γ @gt_iff_lt.{0} (γ @ge_iff_le.{0} (γ @yZ (γ @P4 (γ @Bool.true_and (γ @decide_eq_true_eq (γ @decide_eq_false_iff_not (γ @zK (γ @mq (γ @zL (γ @mr (γ @UY (γ @zb (γ @tm (γ @y8 (γ @lQ (γ @za (γ @iN (γ @x9 (γ @θ.{0} (γ @List.cons_ne_nil.{0} (γ @List.take_length.{0} (γ @Option.map_some.{0,0} (γ @Option.map_none.{0,0} (γ @χ.{0} (γ @Sf @Vp)))))))))))))))))))))))))))))))))))))))))))))))))))))))))))))))))))))))))))))))))))))))))))))))))))))))))))))))))))))))))))))))))))))))))))))))))))))))))))))))))))))))))))))))))))))))))))))))))))))))
def zR :=γ @NK (γ @Ys (γ @Tv (γ @Yr (γ @Vb (γ @nw (γ @YL (γ @ve (γ @p9 (γ @aY (γ @zf (γ @Mm (γ @qf (γ @Rn (γ @PJ (γ @Vt (γ @ZC (γ @Nl (γ @lu (γ @Zr (γ @lr (γ @ct (γ @yC (γ @nK (γ @aV (γ @UK (γ @o8 (γ @UL (γ @wZ (γ @uq (γ @Option.or_none.{0} (γ @Nat.zero_lt_succ (γ @Nat.lt_add_one (γ @Option.some.injEq.{0} (γ @and_true (γ @true_and (γ @and_self (γ @or_true (γ @true_or (γ @not_false_eq_true (γ @κ.{0} (γ @θ.{0} (γ @List.not_mem_nil.{0} (γ @D.int.injEq (γ @D.bool.injEq (γ @D.sl.injEq (γ @D.ref.injEq (γ @ψ.{0} (γ @μ.{0} (γ @tm (γ @zb (γ @y8 (γ @Al (γ @x9 (γ @iN (γ @Sf (γ @Vp (γ @lQ @za)))))))))))))))))))))))))))))))))))))))))))))))))))))))))
end
end Go.Pd
namespace Go.Pd
open Go Go.ChangeShapes Go.WideShapes Go.RowKit
def ql : List (Nat × Nat)->Nat->Nat->Bool
 | [],o,n=>o==n
 | (a,s) :: r,o,n=>(a==o)&& ql r (o+s) n
def pU (P:Program):Nat->TypeId->Bool
 | 0,_=>false
 | n+1,t=>match P.underlying t with
  | some .bool=>true
  | some (.int _)=>true
  | some .string=>true
  | some (.slice e)=>pU P n e&&decide (0<P.cellsOf e)
  | some (.struct fs)=>(fs.toList.all λf=>pU P n f.type)&& ql (fs.toList.map λf=>(f.offset,P.cellsOf f.type)) 0 (P.cellsOf t)
  | some (.array k e)=>pU P n e&&(P.cellsOf t==k*P.cellsOf e)
  | _=>false
mutual
def zH (P:Program):Nat->TypeId->List D->Prop
 | 0,_,_=>False
 | n+1,t,ds=>match P.underlying t with
  | some .bool=>∃ b,ds = [.bool b]
  | some (.int k)=>∃ i,ds = [.int k i]
  | some .string=>∃ s,ds = [.str s]
  | some (.slice e)=>∃ xW,ds = [.sl (P.cellsOf e) xW]/\∀ row ∈ xW,zH P n e row
  | some (.struct fs)=>pV P n (fs.toList.map λf=>f.type) ds
  | some (.array k e)=>pV P n (List.replicate k e) ds
  | _=>False
def pV (P:Program):Nat->List TypeId->List D->Prop
 | _,[],ds=>ds = []
 | n,f :: fs,ds=>∃ a b,ds=a++b/\zH P n f a/\pV P n fs b
end
def iL (P:Program) (n:Nat) (t:TypeId) (d:D):Prop:=
 match P.underlying t with
 | some (.struct _)=>∃ ds,d = .agg ds/\zH P n t ds
 | some (.array _ _)=>∃ ds,d = .agg ds/\zH P n t ds
 | _=>zH P n t [d]
def y9 (P:Program) (n:Nat):List TypeId->List D->Prop
 | [],as=>as = []
 | t :: ts,as=>∃ a r,as=a :: r/\iL P n t a/\y9 P n ts r
def rp (w:World) (cs:List Value) (ds:List D):Prop:=ds.length=cs.length/\∀ j,j<ds.length->RP (λ_=>False) w (cs.getD j undef) (ds.getD j .top)
theorem uw {w:World} {a b:List Value} {x y:List D} (h:rp w a x) (h':rp w b y):rp w (a++b) (x++y):=by
 refine⟨by simp [h.1,h'.1],λj hj=>?_⟩;simp only [List.getD]
 by_cases hx:j<x.length
 ·rw [τ hx,τ (by rw [<- h.1]; exact hx)];exact h.2 j hx
 ·have h1:=h.1;rw [π (by omega),π (by omega),<- h.1];rw [χ] at hj;exact h'.2 (j-x.length) (by omega)
section
variable {H : Type} {nC : TypeId × Value -> H} {P : Program} {w : World} {sp : Nat -> Bool} {held : Bool}
theorem ec {n:Nat} (key:∀ (t:TypeId) (cs:List Value) (fuel:Nat) (x:DataW H × List MemPlace),pU P n t=true->DataW.trod nC P w 0 sp held fuel t cs=some x->∃ ds,rp w cs ds/\zH P n t ds) {cs:List Value} {fuel:Nat} :
  ∀ (fl:List Field) (o:Nat),(fl.all λf=>pU P n f.type)= true->ql (fl.map λf=>(f.offset,P.cellsOf f.type)) o cs.length=true ->
   (∀ f ∈ fl,∃ x,DataW.trod nC P w 0 sp held fuel f.type ((cs.drop f.offset).take (P.cellsOf f.type))= some x)->∃ ds,rp w (cs.drop o) ds/\pV P n (fl.map λf=>f.type) ds
 | [],o,_,hc,_=>by simp only [List.map_nil,ql,beq_iff_eq] at hc;subst hc;exact⟨[],by simp [rp],by simp [pV]⟩
 | f :: fl,o,hp,hc,hx=>by
  simp only [ξ,Ai] at hp;simp only [ζ,ql,Ai,beq_iff_eq] at hc;obtain⟨x,h1⟩:=hx f (by simp);obtain⟨a,ha,hsa⟩:=key _ _ _ _ hp.1 h1;obtain⟨b,hb,hsb⟩:=ec key fl (o+P.cellsOf f.type) hp.2 hc.2 λg hg=>hx g (by simp [hg]);refine⟨a++b,?_,by simp only [ζ,pV]; exact⟨a,b,rfl,hsa,hsb⟩⟩;rw [hc.1] at ha
  have e:cs.drop o=(cs.drop o).take (P.cellsOf f.type)++ cs.drop (o+P.cellsOf f.type):=by rw [<- List.drop_drop,υ]
  rw [e];exact uw ha hb
theorem SF {n:Nat} (key:∀ (t:TypeId) (cs:List Value) (fuel:Nat) (x:DataW H × List MemPlace),pU P n t=true->DataW.trod nC P w 0 sp held fuel t cs=some x->∃ ds,rp w cs ds/\zH P n t ds) {cs:List Value} {fuel:Nat} {e:TypeId} (hp:pU P n e=true) :
  ∀ (k o:Nat),cs.length=(o+k)* P.cellsOf e ->
   (∀ i,o<=i->i<o+k->∃ x,DataW.trod nC P w 0 sp held fuel e ((cs.drop (i*P.cellsOf e)).take (P.cellsOf e))= some x)->∃ ds,rp w (cs.drop (o*P.cellsOf e)) ds/\pV P n (List.replicate k e) ds
 | 0,o,hl,_=>⟨[],by rw [List.drop_eq_nil_of_le (by rw [hl]; simp)]; simp [rp],by simp [pV]⟩
 | k+1,o,hl,hx=>by
  obtain⟨x,h1⟩:=hx o (Aj _) (by omega);obtain⟨a,ha,hsa⟩:=key _ _ _ _ hp h1;obtain⟨b,hb,hsb⟩:=SF key hp k (o+1) (by rw [hl]; congr 1; omega) λi h1 h2=>hx i (by omega) (by omega);refine⟨a++b,?_,by simp only [List.replicate_succ,pV]; exact⟨a,b,rfl,hsa,hsb⟩⟩
  have e1:cs.drop (o*P.cellsOf e)= (cs.drop (o*P.cellsOf e)).take (P.cellsOf e)++ cs.drop ((o+1)* P.cellsOf e):=by rw [Nat.succ_mul,<- List.drop_drop,υ]
  rw [e1];exact uw ha hb
theorem tl : ∀ (n:Nat) (t:TypeId) (cs:List Value) (fuel:Nat) (x:DataW H × List MemPlace),pU P n t=true->DataW.trod nC P w 0 sp held fuel t cs=some x->∃ ds,rp w cs ds/\zH P n t ds
 | 0,t,cs,fuel,x,hp,_=>by simp [pU] at hp
 | n + 1,t,cs,fuel,x,hp,h=>by
  unfold pU at hp;unfold zH
  split at hp
  ·rename_i hu;obtain⟨b,rfl,_⟩:=DataW.trod_bool hu h;exact⟨[.bool b],⟨rfl,λj hj=>by simp at hj; subst hj; exact .bool b⟩,⟨b,rfl⟩⟩
  ·rename_i k hu;obtain⟨i,rfl,_,hw⟩:=DataW.trod_int hu h;refine⟨[.int k i],⟨rfl,λj hj=>?_⟩,⟨i,rfl⟩⟩;simp at hj; subst hj;simp only [Lit.wf,Ai,decide_eq_true_eq] at hw;exact .int hw
  ·rename_i hu;obtain⟨s,rfl,_,hs⟩:=DataW.trod_string hu h;exact⟨[.str s],⟨rfl,λj hj=>by simp at hj; subst hj; exact .str hs⟩,⟨s,rfl⟩⟩
  ·rename_i e hu;simp only [Ai,decide_eq_true_eq] at hp
   rcases Deep.open_slice hu h with ⟨rfl,_⟩ | ⟨a,len,cap,m,fu,Dd,Pl,rfl,_,hl,hm,hmm,_,hx⟩
   ·exact⟨[.sl (P.cellsOf e) []],⟨rfl,λj hj=>by simp at hj; subst hj; exact .kp none 0 _ (λ_=>rfl)⟩,⟨[],rfl,by simp⟩⟩
   ·have hle:len<=m:=by rw [hmm]; split <;> omega
    by_cases h0:len=0
    ·subst h0;exact⟨[.sl (P.cellsOf e) []],⟨rfl,λj hj=>by simp at hj; subst hj; exact .kp (some a) cap _ (λh=>by cases h)⟩,⟨[],rfl,by simp⟩⟩
    ·obtain⟨f,hf⟩:=Deep.choose_lt (α:=List Value × List D) (n:=len) (p:=λi y=>w.cells? 0 (a.add (i*P.cellsOf e)) (P.cellsOf e)= some y.1/\rp w y.1 y.2/\zH P n e y.2) λi hi=>by obtain⟨cs',h1,h2⟩:=hx i (by omega);obtain⟨ds,h3,h4⟩:=tl n e cs' fu _ hp.1 h2;exact⟨(cs',ds),h1,h3,h4⟩
     have hcells:∀ i,i<len->∀ j,j<P.cellsOf e->w.cell? ((a.add (i*P.cellsOf e)).add j)= some ((f i).1.getD j undef):=by intro i hi j hj;obtain⟨_,h2,h3⟩:=World.cells?_some (hf i hi).1;rw [h3 j hj];simp [List.getD,show j<(f i).1.length by omega]
     have hlen:∀ i,i<len->(f i).1.length=P.cellsOf e:=λi hi=>(World.cells?_some (hf i hi).1).2.1
     have hspot:a.spot=none:=by have:=World.cell?_spot (hcells 0 (by omega) 0 hp.2);simpa [Addr.add] using this
     obtain⟨b,off,spot⟩:=a;simp only at hspot;subst hspot
     have hadd:∀ i j,((⟨b,off,none⟩:Addr).add i).add j=⟨b,off+i+j,none⟩:=by
      intro i j;rw [Deep.add_add];unfold Addr.add
      by_cases h:i+j=0
      ·have h1:i=0:=by omega
       have h2:j=0:=by omega
       subst h1; subst h2; rfl
      ·rw [if_neg h]; simp [Nat.add_assoc]
     have xW:∀ i,i<len->((List.range len).map λi=>(f i).2).getD i []=(f i).2:=by intro i hi;simp [List.getD,hi]
     refine⟨[.sl (P.cellsOf e) ((List.range len).map λi=>(f i).2)],⟨rfl,λj hj=>?_⟩,⟨_,rfl,?_⟩⟩
     ·simp at hj; subst hj;simp only [ν]
      have:=RP.sl (M:=λ_=>False) (w:=w) (b:=b) (off:=off) (cap:=cap) (sz:=P.cellsOf e) (xW:=(List.range len).map λi=>(f i).2) (λi j=>(f i).1.getD j undef) hp.2 (λh=>h) (by simpa using hl) hm ?_ ?_ ?_
      ·simpa using this
      ·intro x hx';simp only [ε,List.mem_range] at hx';obtain⟨i,hi,rfl⟩:=hx';rw [(hf i hi).2.1.1,hlen i hi]
      ·intro i hi j hj;have hi':i<len:=by simpa using hi
       have:=hcells i hi' j hj;rw [hadd] at this;exact this
      ·intro i hi j hj;have hi':i<len:=by simpa using hi
       rw [xW i hi'];exact(hf i hi').2.1.2 j (by rw [(hf i hi').2.1.1,hlen i hi']; exact hj)
     ·intro row hrow;simp only [ε,List.mem_range] at hrow;obtain⟨i,hi,rfl⟩:=hrow;exact(hf i hi).2.2
  ·rename_i fs hu;simp only [Ai] at hp;obtain⟨xs,n',_,_,hlen,hsz,hf⟩:=DataW.trod_struct hu h;rw [<- hlen] at hp
   obtain⟨ds,h1,h2⟩:=ec (λt cs fuel x=>tl n t cs fuel x) (fuel:=n') fs.toList 0 hp.1 hp.2 λg hg=>by
    obtain⟨i,hi,rfl⟩:=List.getElem_of_mem hg;have hi':i<fs.size:=by simpa using hi
    have:=hf i fs[i] (by simp [hi']);refine⟨xs[i]'(by omega),?_⟩;simp only [Array.getElem_toList];rw [this];simp [show i<xs.length by omega]
   exact⟨ds,by simpa using h1,h2⟩
  ·rename_i k e hu;simp only [Ai,beq_iff_eq] at hp;obtain⟨xs,m,_,_,hlen,hxs,hf⟩:=DataW.trod_array hu h
   obtain⟨ds,h1,h2⟩:=SF (λt cs fuel x=>tl n t cs fuel x) (fuel:=m) hp.1 k 0 (by rw [hlen,hp.2]; simp) λi _ hi=>by have:=hf i (by omega);rw [this];simp [show i<xs.length by omega]
   exact⟨ds,by simpa using h1,h2⟩
  ·cases hp
end
section
variable {H : Type} {nC : TypeId × Value -> H} {P : Program} {w : World} {sp : Nat -> Bool} {held : Bool}
theorem o7 {r:Reach} {b:Nat} {t:TypeId} {v:Value} {k:Nat} {e:TypeId} (ht:P.underlying t=some (.array k e)) (h:Value.okWide P w r b t v):∃ cs,v = .agg cs/\cs.size=P.cellsOf t:=by simp only [Value.okWide,ht] at h;obtain⟨cs,h1,h2,_⟩:=h;exact⟨cs,h1,h2⟩
theorem Lr {n:Nat} {b:Nat} {t:TypeId} {v:Value} {d:DataW H} {ps:List MemPlace} (hp:pU P n t=true) (hv:Value.okWide P w .any b t v) (h:DataW.Trod nC P w 0 sp held t v d ps):∃ a,RP (λ_=>False) w v a/\iL P n t a:=by
 obtain⟨fuel,h⟩:=h;obtain⟨ds,h1,h2⟩:=tl n t _ fuel _ hp h;unfold iL
 split
 ·rename_i fs hu;obtain⟨cs,rfl,_⟩:=okWide_struct hu hv;refine⟨.agg ds,.agg (by rw [h1.1]; rfl) λj hj=>?_,ds,rfl,h2⟩;have:=h1.2 j hj
  have e:(Value.agg cs).cells.toList.getD j undef=cs.getD j undef:=by simp [Value.cells,List.getD,Array.getD];by_cases hj:j<cs.size <;> simp [hj]
  rw [e] at this;exact this
 ·rename_i k e hu;obtain⟨cs,rfl,_⟩:=o7 hu hv;refine⟨.agg ds,.agg (by rw [h1.1]; rfl) λj hj=>?_,ds,rfl,h2⟩;have:=h1.2 j hj
  have e:(Value.agg cs).cells.toList.getD j undef=cs.getD j undef:=by simp [Value.cells,List.getD,Array.getD];by_cases hj:j<cs.size <;> simp [hj]
  rw [e] at this;exact this
 ·rename_i hns hna
  have one:∃ x,ds = [x]:=by
   cases n with
   | zero=>simp [pU] at hp
   | succ n=>
    unfold zH at h2
    split at h2
    ·obtain⟨b,rfl⟩:=h2; exact⟨_,rfl⟩
    ·obtain⟨b,rfl⟩:=h2; exact⟨_,rfl⟩
    ·obtain⟨b,rfl⟩:=h2; exact⟨_,rfl⟩
    ·obtain⟨b,rfl,_⟩:=h2; exact⟨_,rfl⟩
    ·rename_i fs hu; exact absurd hu (hns fs)
    ·rename_i k e hu; exact absurd hu (hna k e)
    ·cases h2
  obtain⟨x,rfl⟩:=one;refine⟨x,?_,h2⟩;have hx:=h1.2 0 (by simp);simp only [ν] at hx;have hlen:=h1.1
  cases v with
  | agg cs=>
   exfalso;unfold Value.okWide at hv
   split at hv
   ·rename_i fs hu; exact absurd hu (hns fs)
   ·rename_i k e hu; exact absurd hu (hna k e)
   ·rename_i h3 h4
    cases n with
    | zero=>simp [pU] at hp
    | succ n=>
     unfold pU at hp;unfold Cell.okWide at hv;split at hp <;> rename_i hu <;> simp [hu,Cell.ok] at hv
     all_goals first | exact absurd hu (hns _) | exact absurd hu (hna _ _) | cases hp
  | _=>simpa [Value.cells] using hx
theorem VL {n:Nat} {b:Nat}:∀ {ts:List TypeId} {vs:List Value} {ds:List (DataW H)} {ps:List MemPlace},(ts.all λt=>pU P n t)= true->(∀ (j:Nat) t v,ts[j]?=some t->vs[j]?=some v->Value.okWide P w .any b t v) ->
  DataW.TrodAll nC P w 0 sp held ts vs ds ps->∃ as,as.length=vs.length/\vs.length=ts.length/\ds.length=ts.length/\(∀ j,j<as.length->RP (λ_=>False) w (vs.getD j undef) (as.getD j .top))/\ y9 P n ts as
 | [],vs,ds,ps,_,_,h=>by obtain⟨rfl,rfl,rfl⟩:=trodAll_nil h;exact⟨[],rfl,rfl,rfl,λj hj=>by simp at hj,rfl⟩
 | t :: ts,vs,ds,ps,hp,hv,h=>by
  obtain⟨v,vs',d,ds',p,q,rfl,rfl,rfl,h1,h2⟩:=trodAll_cons h;simp only [ξ,Ai] at hp;obtain⟨a,r1,s1⟩:=Lr hp.1 (hv 0 t v rfl rfl) h1;obtain⟨as,l1,l2,l3,r2,s2⟩:=VL hp.2 (λj t v h1 h2=>hv (j+1) t v h1 h2) h2;refine⟨a :: as,by simp [l1],by simp [l2],by simp [l3],λj hj=>?_,a,as,rfl,s1,s2⟩
  cases j with
  | zero=>exact r1
  | succ j=>exact r2 j (by simpa using hj)
theorem bM (hl:laidOutB P=true) {W W':World} (hb:Below W.heap.size W W'):∀ {ts:List TypeId} {vs:List Value} {ds:List (DataW H)} {ps:List MemPlace},(ts.all λt=>P.readableRec t&&decide (t<P.types.size))= true ->
  (∀ x ∈ ps,x.block<W.heap.size)->DataW.TrodAll nC P W 0 (λ_=>true) true ts vs ds ps->DataW.TrodAll nC P W' 0 (λb=>decide (b<W.heap.size)) true ts vs ds ps
 | [],vs,ds,ps,_,_,h=>by obtain⟨rfl,rfl,rfl⟩:=trodAll_nil h;exact rfl
 | t :: ts,vs,ds,ps,hr,hlt,h=>by obtain⟨v,vs',d,ds',p,q,rfl,rfl,rfl,h1,h2⟩:=trodAll_cons h;simp only [ξ,Ai,decide_eq_true_eq] at hr;exact⟨p,q,Below.trod hl hr.1.1 hr.1.2 h1 hb λx hx=>hlt x (by simp [hx]),bM hl hb hr.2 (λx hx=>hlt x (by simp [hx])) h2,rfl⟩
theorem nz {W:World}:∀ {ts:List TypeId} {vs:List Value} {ds:List (DataW H)} {ps:List MemPlace},DataW.TrodAll nC P W 0 sp held ts vs ds ps->∀ x ∈ ps,x.block<W.heap.size
 | [],vs,ds,ps,h=>by obtain⟨rfl,rfl,rfl⟩:=trodAll_nil h;intro x hx; simp at hx
 | t :: ts,vs,ds,ps,h=>by
  obtain⟨v,vs',d,ds',p,q,rfl,rfl,rfl,⟨m,hm⟩,h2⟩:=trodAll_cons h;intro x hx
  rcases List.mem_append.1 hx with hx | hx
  ·exact DataW.trod_lt m _ _ _ hm x hx
  ·exact nz h2 x hx
end
section
variable [tP]
theorem xA.calls {P:Program} {g:FuncId} {args:List D} {b:Bool} (h:xA P g args (.bool b)) {w:World} {vals:Array Value} (ht:iz w λ_=>False) (hl:vals.size=args.length)
  (hv:∀ j,j<args.length->RP (λ_=>False) w (vals.getD j undef) (args.getD j .top)):Calls P g vals w λe w'=>e = .returned (.bool b)/\ Below w.heap.size w w':=by
 have hM:∀ b,zY (λ_=>False) (λ_=>0) jR b->False:=by
  rintro b (h | ⟨k,o,hk,_⟩)
  ·exact h
  ·cases hk
 have hS:wI (λ_=>False) w jR (λ_=>0):=⟨λb hb=>hb.elim,(λk o hk=>by cases hk),(λk k' o o' hk=>by cases hk),(λk o hk=>by cases hk),ht.zN (Aj _) (λ_ _ _=>rfl) λb _ hb=>hM b hb⟩;refine(h.run _ w _ vals hS hl λj hj=>.pure ((hv j hj).zN (λ_ _ _=>rfl) λb _ hb=>hM b hb)).mono λe w' hh=>?_;obtain⟨v,ι',rfl,k1,k2,k3,k4,k5,k6⟩:=hh;have K0:Kept w w' λ_=>False:=k1.mono λb _ ⟨k,o,hk,_⟩=>by cases hk
 rw [k6.lL];exact⟨rfl,K0.below⟩
end
theorem YN (a:Array Value) (j:Nat) (d:Value):a.getD j d=a.toList.getD j d:=by simp [List.getD,Array.getD];by_cases h:j<a.size <;> simp [h]
theorem QW {H:Type} {nC:TypeId × Value->H} {P:Program} {f:Func} {s:ChangeSpec} {W W':World} {args:Array Value} {ds gs:List (DataW H)} {before:List MemPlace} {tb:TypeId}
  (hl:laidOutB P=true) (hr:(f.params.toList.all λt=>P.readableRec t&&decide (t<P.types.size))= true) (hb:f.resultTypes = #[tb]) (htb:P.underlying tb=some .bool) (hsv:s.vars = [])
  (hW:DataW.Whole nC P f.params.toList s.vars false W args.toList ds gs before) (hs:s.fn H (ds++gs)= { results:=[.lit (.bool true)],args:=ds }) (bel:Below W.heap.size W W') :
  s.post nC P f false true false false W args (.bool true) W':=by
 have hW':=hW;obtain⟨p,q,hA,hV,rfl,hfz,hnd⟩:=hW;rw [hsv] at hV;obtain⟨rfl,rfl⟩:=trodVars_none hV;have hA2:=bM hl bel hr (nz hA) hA
 refine⟨_,_,_,[],p,[],hW',?_,?_,?_,bel.frame _,λh=>by cases h⟩
 ·rw [hs,hb];exact trodAll_mk1 (shut_bool htb _)
 ·rw [hs];exact hA2
 ·rw [hs,hsv];rfl
abbrev dO (i:Nat) (k:DK):yY:=⟨some i,none,k⟩
abbrev dF (i j:Nat) (k:DK):yY:=⟨some i,some (j,false),k⟩
abbrev dT (i j:Nat) (k:DK):yY:=⟨some i,some (j,true),k⟩
abbrev tR.i (n:Int):tR:=.c (.int .i64 n)
abbrev dM (i j:Nat):yY:=⟨some i,none,.mv (.t j)⟩
abbrev dL (i j:Nat):yY:=⟨some i,none,.load 1 false (.t j)⟩
abbrev dG (i n j:Nat):yY:=⟨some i,none,.NY n (.t j)⟩
abbrev DC.r (l:List yY) (c:DC):DC:=.seq (.qD [] l) c
abbrev DK.cf (f:FuncId) (l:List tR):DK:=.call (.c (.fn f [])) l
abbrev bT (i:Nat) (o:BinOp) (a b:Nat):yY:=⟨some i,none,.bin o (.t a) (.t b)⟩
abbrev bI (i:Nat) (o:BinOp) (a:Nat) (n:Int):yY:=⟨some i,none,.bin o (.t a) (.i n)⟩
abbrev dI (i n a b:Nat):yY:=⟨some i,none,.idx n (.t a) (.t b)⟩
abbrev dN (i a:Nat):yY:=⟨some i,none,.len (.t a)⟩
abbrev fG (i j n a:Nat):yY:=⟨some i,some (j,false),.NY n (.t a)⟩
abbrev fL (i j a:Nat):yY:=⟨some i,some (j,false),.load 1 false (.t a)⟩
abbrev fN (i j a:Nat):yY:=⟨some i,some (j,false),.len (.t a)⟩
abbrev fM (i j a:Nat):yY:=⟨some i,some (j,false),.mv (.t a)⟩
abbrev dP (i a b:Nat):yY:=⟨some i,none,.pick (.t a) (.c (.bool true)) (.t b)⟩
abbrev dE (i a n:Nat):yY:=⟨some i,none,.T7 (.t a) n⟩
abbrev sQ (n a b:Nat):yY:=⟨none,none,.store n (.t a) (.t b)⟩
abbrev dV (i:Nat) (b:Bool):yY:=⟨some i,none,.mv (.c (.bool b))⟩
abbrev dJ (i:Nat) (n:Int):yY:=⟨some i,none,.mv (.i n)⟩
abbrev dA (i n a:Nat):yY:=⟨some i,none,.load n true (.t a)⟩
abbrev DC.w (a b:Nat) (c:DC):DC:=.seq (.cond (.t a) .skip (.exit b)) c
abbrev DC.g (l:List yY):DC:=.qD [] l
abbrev dX (i a:Nat):yY:=⟨some i,none,.box (.t a)⟩
abbrev tL (i j a:Nat):yY:=⟨some i,some (j,true),.load 1 false (.t a)⟩
abbrev tG (i j n a:Nat):yY:=⟨some i,some (j,true),.NY n (.t a)⟩
abbrev tM (i j a:Nat):yY:=⟨some i,some (j,true),.mv (.t a)⟩
abbrev dK (i a:Nat):yY:=⟨some i,none,.LW (.t a)⟩
abbrev dH (i a:Nat):yY:=⟨some i,none,.nt (.t a)⟩
abbrev dQ (i a b:Nat):yY:=⟨some i,none,.pick (.t a) (.t b) (.c (.bool false))⟩
abbrev dZ (i:Nat):yY:=⟨some i,none,.mv (.c .xL)⟩
abbrev dB (i f a:Nat):yY:=⟨some i,none,.cf f [.t a]⟩
abbrev dD (i f a b:Nat):yY:=⟨some i,none,.cf f [.t a,.t b]⟩
abbrev fB (i j:Nat) (o:BinOp) (a:Nat) (n:Int):yY:=⟨some i,some (j,false),.bin o (.t a) (.i n)⟩
abbrev CT :=Nat × DC × List bF
abbrev DC.x (a b:Nat):DC:=.cond (.t a) .skip (.exit b)
abbrev DC.n (a b c:Nat):DC:=.g [dM a b,bI c .add a 1,dM b c]
abbrev DC.q (a:Nat) (c d:DC):DC:=.cond (.t a) c d
abbrev DC.u (i:Nat) (n:Int):DC:=.r [dJ i n] .ret
abbrev DC.v (i:Nat) (b:Bool):DC:=.r [dV i b] .ret
abbrev DC.l (n:Nat) (c:DC):DC:=.block n (.loop c)
abbrev tR.u (n:Int):tR:=.c (.int .u64 n)
abbrev iZ : D:=.int .i64 0
def zS :=γ @D.int.injEq (γ @D.bool.injEq (γ @D.sl.injEq (γ @and_true (γ @true_and @and_self))))
def zW.{u} :=γ @ne_eq.{u} (γ @forall_const.{u} (γ @implies_true.{u} @forall_eq.{u}))
section
variable [tP]
def zU :=γ @aE.eq_1 (γ @Pa.eq_1 (γ @Ld.eq_1 (γ @jM.eq_1 (γ @jM.eq_2 (γ @lT.eq_1 (γ @lT.eq_2 (γ @ku.eq_1 (γ @ku.eq_2 (γ @ku.eq_3 (γ @ku.eq_4 (γ @ku.eq_5 (γ @ku.eq_6 (γ @ku.eq_7 (γ @ku.eq_8 (γ @ku.eq_9 (γ @ku.eq_10 (γ @ku.eq_11 (γ @ku.eq_12 (γ @ku.eq_13 (γ @ku.eq_14 (γ @ku.eq_15 (γ @qW.eq_1 (γ @qW.eq_2 (γ @qW.eq_3 (γ @qW.eq_4 (γ @qW.eq_5 (γ @qW.eq_6 (γ @qW.eq_7 (γ @qW.eq_8 (γ @qW.eq_9 (γ @qW.eq_10 (γ @qW.eq_11 (γ @qW.eq_12 (γ @qW.eq_13 (γ @qW.eq_14 (γ @qW.eq_15 (γ @pX.eq_1 (γ @pX.eq_2 (γ @pX.eq_3 (γ @pX.eq_4 (γ @pX.eq_5 (γ @pX.eq_6 (γ @pX.eq_7 (γ @pX.eq_8 (γ @pW.eq_1 (γ @pW.eq_2 (γ @pW.eq_3 (γ @pW.eq_4 (γ @pW.eq_5 (γ @pW.eq_6 (γ @pW.eq_7 (γ @pW.eq_8 (γ @pW.eq_9 (γ @pW.eq_10 (γ @pW.eq_11 (γ @pW.eq_12 (γ @pW.eq_13 (γ @pW.eq_14 (γ @pW.eq_15 (γ @pW.eq_16 (γ @pW.eq_17 (γ @pW.eq_18 (γ @pW.eq_19 (γ @pW.eq_20 (γ @pW.eq_21 (γ @pW.eq_22 (γ @pW.eq_23 (γ @pW.eq_24 (γ @pW.eq_25 (γ @pW.eq_26 (γ @pW.eq_27 (γ @pW.eq_28 (γ @Mz.eq_1 (γ @My.eq_1 (γ @Fv.eq_1 (γ @gC.eq_1 @Vz.eq_1))))))))))))))))))))))))))))))))))))))))))))))))))))))))))))))))))))))))))))
def zQ :=γ @vC.eq_1 (γ @vC.eq_2 (γ @vC.eq_3 (γ @vw.eq_1 (γ @vw.eq_2 (γ @vw.eq_3 (γ @vw.eq_4 (γ @vw.eq_5 (γ @vw.eq_6 (γ @vw.eq_7 (γ @vw.eq_8 (γ @vw.eq_9 (γ @vw.eq_10 (γ @vw.eq_11 (γ @vw.eq_12 (γ @vw.eq_13 (γ @vw.eq_14 (γ @vw.eq_15 (γ @vw.eq_16 (γ @vw.eq_17 (γ @vw.eq_18 (γ @bw.eq_1 (γ @bw.eq_2 (γ @sw.eq_1 (γ @sw.eq_2 (γ @St.get.eq_1 (γ @St.look.eq_1 (γ @St.look.eq_2 (γ @Fr.get.eq_1 @Fr.get.eq_2))))))))))))))))))))))))))))
def zV :=γ @jR.eq_1 (γ @fX.eq_1 (γ @fX.eq_2 (γ @nO.eq_1 (γ @nO.eq_2 (γ @nO.eq_3 (γ @nO.eq_4 (γ @nO.eq_5 (γ @nO.eq_6 (γ @nO.eq_7 (γ @nO.eq_8 (γ @nO.eq_9 (γ @nO.eq_10 (γ @nO.eq_11 (γ @nO.eq_12 (γ @nO.eq_13 (γ @nO.eq_14 (γ @nO.eq_15 (γ @nO.eq_16 (γ @nO.eq_17 (γ @iy.eq_1 (γ @bS.eq_1 (γ @bS.eq_2 (γ @bS.eq_3 (γ @bS.eq_4 (γ @bS.eq_5 (γ @bS.eq_6 (γ @aK.eq_1 (γ @aK.eq_2 (γ @V5.eq_1 (γ @uX.eq_1 (γ @jQ.eq_1 (γ @jQ.eq_2 (γ @Jr.eq_1 (γ @vj.eq_1 (γ @vj.eq_2 (γ @re.eq_1 (γ @re.eq_2 (γ @List.replicate.eq_1.{0} (γ @List.replicate.eq_2.{0} (γ @rowsOf.eq_1 (γ @rowsOf.eq_2 (γ @rowsOf.eq_3 (γ @rowsOf.eq_4 @rowsOf.eq_5)))))))))))))))))))))))))))))))))))))))))))
end
theorem sd {p q:Prop} (b:q) (a:p:=by first | omega | exact Um _ | exact Ao _ | rfl | exact UZ _ _ | exact ZS _ | (intro _ h; cases h; done)):p/\q:=⟨a,b⟩
theorem sH.dv {n0 n:Nat} {σ:St} {d d':D} (hn:n0<=n:=by simp) (h:vw σ ⟨n,[]⟩ (λk=>k) d d':=by simp [vw]):sH n0 σ d ⟨n,[]⟩ d':=.drop hn h
section
variable [tP]
theorem cr {P:Program} {g:FuncId} {args:List D} {d:D} {s:St} (hc:xA P g args d) (hp:D.xR args=true:=by simp [D.xR,D.xF]):xQ P g args s d s:=xQ.yP hc hp
theorem cq {P:Program} {g:FuncId} {args:List D} {d:D} {s:St} (hc:xA P g args d) (hp:D.xR args=true:=by rfl):xQ P g args s d s:=xQ.yP hc hp
end
end Go.Pd
