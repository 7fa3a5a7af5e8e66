/- Part X6. -/
import Derived.Test.YtndfaefmmcoapaaGreatPlX5
import Derived.Carry
import Derived.ChangeArms
import Derived.Deep.Slices
import Derived.ProofKit
import Derived.OpenShut
set_option linter.unusedSectionVars false
set_option linter.unusedVariables false
set_option linter.unusedSimpArgs false
set_option linter.defProp false
open And renaming intro->γ
open List renaming append_nil->δ,mem_map->ε,map_cons->ζ,nil_append->η,mem_singleton->θ,mem_cons->κ,length_nil->μ,getD_cons_zero->ν,all_cons->ξ,cons_append->ο,getElem?_append_right->π,getElem?_append_left->τ,take_append_drop->υ,length_append->χ,length_cons->ψ
open BitVec renaming eq_of_toNat_eq->ω,ofInt_natCast->Aa,toNat_ushiftRight->Ab,toNat_ofNat->Ac,toNat_ofInt->Ad,toNat_umod->Ae,toNat_and->Af,ofInt_mul->Ag,ofInt_add->Ah
open Bool renaming and_eq_true->Ai
open Nat renaming le_refl->Aj,shiftRight_eq_div_pow->Ak,zero_add->Al,pow_lt_pow_right->Am,and_one_is_mod->An
open Int renaming natCast_nonneg->Ao,toNat_natCast->Ap
namespace Go.Pd
open Go
def ui (s:BitVec 64):Int:=s.toNat
theorem Ul (s:BitVec 64):0<=ui s:=by unfold ui; omega
theorem ZP {s t:BitVec 64}:ui s=ui t ↔ s=t:=by
 unfold ui
 constructor
 ·intro h; exact ω (by omega)
 ·rintro rfl; rfl
theorem Kk {n:Int} (h0:0<=n) (h1:n<18446744073709551616):ui (BitVec.ofInt 64 n)= n:=by unfold ui;rw [Ad];have:n % 2 ^ 64=n:=Int.emod_eq_of_lt h0 (by omega);omega
theorem uM (s:BitVec 64):BitVec.ofInt 64 (ui s)= s:=by unfold ui;rw [Aa];simp
theorem gY (s:BitVec 64):IntKind.u64.wrap (s.toNat:Int)= ui s:=by unfold ui;have:=s.isLt;exact wrap_u64 ⟨by omega,by omega⟩
theorem Mg (s t:BitVec 64):tB .and .u64 (ui s) (ui t)= ui (s &&& t):=by show IntKind.u64.wrap ((BitVec.ofInt 64 (ui s)&&& BitVec.ofInt 64 (ui t)).toNat:Int)= _;rw [uM,uM,gY]
theorem Kl (s t:BitVec 64):tB .or .u64 (ui s) (ui t)= ui (s ||| t):=by show IntKind.u64.wrap ((BitVec.ofInt 64 (ui s) ||| BitVec.ofInt 64 (ui t)).toNat:Int)= _;rw [uM,uM,gY]
theorem Sh (s t:BitVec 64):tB .xor .u64 (ui s) (ui t)= ui (s ^^^ t):=by show IntKind.u64.wrap ((BitVec.ofInt 64 (ui s)^^^ BitVec.ofInt 64 (ui t)).toNat:Int)= _;rw [uM,uM,gY]
theorem Uk (s t:BitVec 64):tB .andNot .u64 (ui s) (ui t)= ui (s &&& ~~~t):=by show IntKind.u64.wrap ((BitVec.ofInt 64 (ui s)&&& ~~~BitVec.ofInt 64 (ui t)).toNat:Int)= _;rw [uM,uM,gY]
theorem xi (n:Int):IntKind.u64.wrap n=ui (BitVec.ofInt 64 n):=by unfold ui;rw [Ad];simp [IntKind.wrap,IntKind.signed,IntKind.bits];omega
theorem Mf (s t:BitVec 64):IntKind.u64.wrap (ui s+ui t)= ui (s+t):=by rw [xi,Ah,uM,uM]
theorem Mo (s t:BitVec 64):IntKind.u64.wrap (ui s-ui t)= ui (s-t):=by rw [xi];congr 1;rw [Int.sub_eq_add_neg,Ah,BitVec.ofInt_neg,uM,uM,BitVec.sub_eq_add_neg]
theorem Mi (s t:BitVec 64):IntKind.u64.wrap (ui s*ui t)= ui (s*t):=by rw [xi,Ag,uM,uM]
theorem Ml (s:BitVec 64) (k:Int):ju .u64 (ui s) k=ui (s <<< k.toNat):=by
 unfold ju;rw [xi];congr 1;rw [Ag,uM];show s*BitVec.ofInt 64 (2 ^ min k.toNat 64)= _;apply ω;rw [BitVec.toNat_mul,BitVec.toNat_shiftLeft,Nat.shiftLeft_eq]
 have e:(BitVec.ofInt 64 (2 ^ min k.toNat 64)).toNat=2 ^ min k.toNat 64 % 2 ^ 64:=by
  have:((2:Int)^ min k.toNat 64)= ((2 ^ min k.toNat 64:Nat):Int):=by norm_cast
  rw [this,Aa,Ac]
 rw [e,Nat.mul_mod_mod]
 rcases Nat.lt_or_ge k.toNat 64 with h | h
 ·rw [Nat.min_eq_left (by omega)]
 ·rw [Nat.min_eq_right h];obtain⟨m,hm⟩:=Nat.exists_eq_add_of_le h;rw [hm,Nat.pow_add,<- Nat.mul_assoc,Nat.mul_right_comm];simp
theorem Mm (s:BitVec 64) (k:Int):bc .u64 (ui s) k=ui (s >>> k.toNat):=by
 unfold bc ui;rw [Ab,Ak];show (s.toNat:Int).fdiv (2 ^ min k.toNat 64)= _;have:((2:Int)^ min k.toNat 64)= ((2 ^ min k.toNat 64:Nat):Int):=by norm_cast
 rw [this,Int.fdiv_eq_ediv_of_nonneg _ (Ao _),<- Int.natCast_ediv];congr 1
 rcases Nat.lt_or_ge k.toNat 64 with h | h
 ·rw [Nat.min_eq_left (by omega)]
 ·rw [Nat.min_eq_right h];have h1:=s.isLt;rw [Nat.div_eq_of_lt h1,Nat.div_eq_of_lt (Nat.lt_of_lt_of_le h1 (Nat.pow_le_pow_right (by omega) h))]
theorem Mj (s t:BitVec 64):(ui s).tmod (ui t)= ui (s % t):=by unfold ui;rw [Ae,Int.tmod_eq_emod_of_nonneg (by omega),Int.natCast_emod]
theorem Sg (s t:BitVec 64):(ui s==ui t)= (s==t):=by
 by_cases h:s=t
 ·subst h; simp
 ·have:ui s≠ui t:=λe=>h (ZP.1 e);rw [beq_eq_false_iff_ne.2 this,beq_eq_false_iff_ne.2 h]
theorem Mh (s t:BitVec 64):(ui s != ui t)= (s != t):=by simp only [bne,Sg]
theorem Pb : D.int .u64 0=D.int .u64 (ui 0#64):=rfl
theorem Pc : D.int .u64 1=D.int .u64 (ui 1#64):=rfl
theorem Js : D.int .u64 2=D.int .u64 (ui 2#64):=rfl
theorem Jt : D.int .u64 18446744073709551615=D.int .u64 (ui 18446744073709551615#64):=rfl
theorem Me : ui 2#64≠0:=by decide
def us (l:List (BitVec 64)):List (List D):=l.map λs=>[.int .u64 (ui s)]
def V5 (l:List (BitVec 64)):D:=.sl 1 (us l)
theorem xT (l:List (BitVec 64)):(us l).length=l.length:=by simp [us]
theorem iJ : us [] = []:=rfl
theorem y8 (s:BitVec 64) (l:List (BitVec 64)):us (s :: l)= [.int .u64 (ui s)] :: us l:=rfl
theorem zX (l:List (BitVec 64)) {i:Nat} (h:i<l.length):(us l).getD i [] = [.int .u64 (ui (l.getD i 0))]:=by simp [us,List.getD,h]
theorem vD (l:List (BitVec 64)):∀ e ∈ us l,D.xR e=true:=by intro e he;simp only [us,ε] at he;obtain⟨n,_,rfl⟩:=he;rfl
theorem ZR (l:List (BitVec 64)):∀ e ∈ us l,uX e=true:=by intro e he;simp only [us,ε] at he;obtain⟨n,_,rfl⟩:=he;rfl
theorem Vs (l:List (BitVec 64)) (n:Nat):(us l).take n=us (l.take n):=by simp [us,List.map_take]
theorem tl (l:List (BitVec 64)) (s:BitVec 64):us l ++ [[.int .u64 (ui s)]]=us (l ++ [s]):=by simp [us]
theorem iK (l:List (BitVec 64)) (i:Nat) (s:BitVec 64):(us l).set i [.int .u64 (ui s)]=us (l.set i s):=by simp [us,List.map_set]
theorem yt (n:Nat) (s:BitVec 64):List.replicate n [D.int .u64 (ui s)]=us (List.replicate n s):=by simp [us]
theorem NX : ∀ {xV:List (List D)},(∀ e ∈ xV,∃ n:Int,e = [.int .u64 n])->D.Vw xV->∃ l,xV=us l
 | [],_,_=>⟨[],rfl⟩
 | e :: r,h,hf=>by obtain⟨n,rfl⟩:=h e (by simp);obtain⟨l,rfl⟩:=NX (λe he=>h e (by simp [he])) hf.2;have h1:=hf.1;simp only [D.rX,D.fact,and_true] at h1;obtain⟨h1,h2⟩:=h1;refine⟨BitVec.ofInt 64 n :: l,?_⟩;have:ui (BitVec.ofInt 64 n)= n:=Kk (by simpa [IntKind.min,IntKind.signed] using h1) (by have:IntKind.u64.max=18446744073709551615:=rfl; omega);simp [us,this]
theorem UG (d:D):pB false [d]=d:=rfl
theorem UF (cs:List D):pB true cs = .agg cs:=rfl
def xD (key sz:Nat):List (List D)->D
 | []=>.xL
 | e :: r=>.yD key sz (e :: r).length
def yX (key sz:Nat):List (List D)->List (Nat × Ob)
 | []=>[]
 | e :: r=>[(key,⟨sz,e :: r⟩)]
end Go.Pd
namespace Go.Pd
open Go
variable [tR]
def yS (f:Fr):Fr->Prop
 | []=>True
 | (t,d) :: r=>f.get t=d/\yS f r
omit [tR] in
theorem gv {f:Fr}:∀ {f':Fr},yS f f'->∀ t,f'.get t = .top\/f'.get t=f.get t
 | [],_,t=>.inl rfl
 | (s,d) :: r,h,t=>by
  simp only [Fr.get]
  split
  ·rename_i e; subst e; exact .inr h.1.symm
  ·exact gv h.2 t
theorem yR.same {C:Cx} {f f':Fr} {σ:St} (h:yS f f'):yR C f σ f' σ:=yR.frame (gv h)
end Go.Pd
namespace Go.Pd
open Go
def rr (ll:List (List (BitVec 64))):List (List D):=ll.map λl=>[V5 l]
def Jw (ll:List (List (BitVec 64))):D:=.sl 1 (rr ll)
theorem yZ (l:List (List (BitVec 64))):(rr l).length=l.length:=by simp [rr]
theorem tY (l:List (List (BitVec 64))) {i:Nat} (h:i<l.length):(rr l).getD i [] = [.sl 1 (us (l.getD i []))]:=by simp [rr,V5,List.getD,h]
theorem P6 (l:List (List (BitVec 64))) (n:Nat):(rr l).take n=rr (l.take n):=by simp [rr,List.map_take]
theorem w9 (l:List (List (BitVec 64))):∀ e ∈ rr l,D.xR e=true:=by intro e he;simp only [rr,ε] at he;obtain⟨n,_,rfl⟩:=he;simp [D.xR,D.xF,V5]
end Go.Pd
namespace Go.Pd
open Go
theorem sJ.same {n0:Nat} {σ:St} {d:D}:sJ n0 σ d σ d:=.inl ⟨rfl,rfl⟩
theorem sJ.drop {n0 n:Nat} {σ:St} {d d':D} (hn:n0<=n) (h:vw σ ⟨n,[]⟩ (λk=>k) d d'):sJ n0 σ d ⟨n,[]⟩ d':= .inr ⟨λk=>k,hn,λ_ _=>rfl,h,by simp [stays],by simp [qX]⟩
end Go.Pd
namespace Go.Pd
open Go
universe u
variable [tR]
def GC (σ:St) (K:D->St->Prop) (d:D):Prop:=K d σ
def N1 (f:Fr) (dst:Option Nat) (K:Fr->St->Prop) (d:D) (σ:St):Prop:=K (f.put dst d) σ
def N2 (f:Fr) (dst:Option Nat) (K:Fr->Prop) (d:D):Prop:=K (f.put dst d)
def gB (Q:Exit->Fr->St->Prop) (f:Fr) (σ:St):Prop:=Q .normal f σ
def LX (d:D) (want:Bool) (yes no:Prop):Prop:=
 match d with
 | .bool b=>if b=want then yes else no
 | .rK=>no
 | _=>False
theorem QK (b want:Bool) (yes no:Prop):LX (.bool b) want yes no=if b=want then yes else no:=rfl
theorem OB (want:Bool) (yes no:Prop):LX .rK want yes no=no:=rfl
@[congr] theorem LW {d d' : D} {want : Bool} {yes no : Prop} (h : d = d') : LX d want yes no = LX d' want yes no := by rw [h]
def gd (g:Option (Nat × Bool)) (f:Fr) (yes no:Prop):Prop:=
 match g with
 | none=>yes
 | some (j,want)=>LX (f.get j) want yes no
theorem OC (f:Fr) (yes no:Prop):gd none f yes no=yes:=rfl
theorem OD (j:Nat) (want:Bool) (f:Fr) (yes no:Prop):gd (some (j,want)) f yes no=LX (f.get j) want yes no:=rfl
theorem NQ (o:yY) (f:Fr) (yes no:Prop):zY o f yes no=gd o.guard f yes no:=by
 unfold zY gd
 split
 ·rename_i h; rw [h]
 ·rename_i h; rw [h]; rfl
def zt (q:Bool) (σ:St) (sz bytes:Nat) (x:D) (y:Option (List (List D))) (K:D->St->Prop):Prop:=
 match y with
 | none=>False
 | some rows=>(∀ r ∈ rows,uX r=true)/\ match x with
  | .xL=>rows.length*bytes<=140737488355328/\rows.length<=8000000000000/\(rows = []->K .xL σ)/\ (rows ≠ []->K (.yD σ.nx sz rows.length) (σ.new ⟨sz,rows⟩))
  | .yD key sz' n=>match σ.get key with
   | some ob=>sz=sz'/\ob.sz=sz/\n<=ob.xV.length/\(n+rows.length)* bytes<=140737488355328/\n+rows.length<=8000000000000 /\
    K (.yD σ.nx sz (n+rows.length)) ((σ.erase key).new ⟨sz,ob.xV.take n++rows⟩)
   | none=>False
  | .sub key sz' lo n=>match σ.get key with
   | some ob=>q=true/\sz=sz'/\ob.sz=sz/\lo+n<=ob.xV.length/\(n+rows.length)* bytes<=140737488355328/\n+rows.length<=8000000000000 /\
    ∀ pre:List (List D),(pre = []\/pre=ob.xV.take lo)->K (.sub σ.nx sz pre.length (n+rows.length)) ((σ.erase key).new ⟨sz,pre++((ob.xV.drop lo).take n++rows)⟩)
   | none=>False
  | _=>False
def TE (σ:St) (n:Nat) (a:D) (x:Option (List D)) (K:D->St->Prop):Prop:=
 match a,x with
 | .ref key sz i off,some ds=>match σ.get key with
  | some ob=>ob.sz=sz/\i<ob.xV.length/\ds.length=n/\off+n<=sz/\uX ds=true/\K .rK (σ.set key ⟨sz,ob.xV.set i (jM (ob.xV.getD i []) off ds)⟩)
  | none=>False
 | _,_=>False
def js (x:D) (K:D->Prop):Prop:=
 match x with
 | .sl _ xV=>K (.int .i64 xV.length)
 | .yD _ _ n=>K (.int .i64 n)
 | .sub _ _ _ n=>K (.int .i64 n)
 | .xL=>K (.int .i64 0)
 | .emp=>K (.int .i64 0)
 | _=>False
def az (sz:Nat) (x i:D) (K:D->Prop):Prop:=
 match x,i with
 | .sl sz' xV,.int _ n=>sz=sz'/\0<=n/\n<xV.length/\K (.ptr (xV.getD n.toNat []))
 | .yD key sz' len,.int _ n=>sz=sz'/\0<=n/\n<len/\K (.ref key sz n.toNat 0)
 | .sub key sz' lo len,.int _ n=>sz=sz'/\0<=n/\n<len/\K (.ref key sz (lo+n.toNat) 0)
 | _,_=>False
def lW (neg:Bool) (x y:D) (K:D->Prop):Prop:=
 match x,y with
 | .xL,.xL=>K (.bool (!neg))
 | .yD ..,.xL | .xL,.yD ..=>K (.bool neg)
 | .emp,.xL | .xL,.emp=>K (.bool neg)
 | .sl _ (_ :: _),.xL=>K (.bool neg)
 | _,_=>False
def ir (σ:St) (n:Nat) (ag:Bool) (x:D) (K:D->Prop):Prop:=
 match x with
 | .ref key sz i off=>match σ.get key with
  | some o=>o.sz=sz/\i<o.xV.length/\off+n<=sz/\(ag=true\/n=1)/\ K (pB ag (((o.xV.getD i []).drop off).take n))
  | none=>False
 | .ptr cs=>n<=cs.length/\(ag=true\/n=1)/\ K (pB ag (cs.take n))
 | _=>False
def Ux (x:D) (K:D->Prop):Prop:=
 match x with
 | .ref key sz i off=>K (.ref key sz i off)
 | .ptr cs=>K (.ptr cs)
 | .fn f cs=>K (.fn f cs)
 | _=>False
@[congr] theorem Lo {x x' : D} {K : D -> Prop} (h : x = x') : Ux x K = Ux x' K := by rw [h]
theorem Qp {key sz i off:Nat} {K:D->Prop}:Ux (.ref key sz i off) K=K (.ref key sz i off):=rfl
theorem Qo {cs:List D} {K:D->Prop}:Ux (.ptr cs) K=K (.ptr cs):=rfl
theorem OY {f:FuncId} {cs:List D} {K:D->Prop}:Ux (.fn f cs) K=K (.fn f cs):=rfl
def iv (σ:St) (zero:D) (ok:Bool) (m k:D) (K:D->Prop):Prop:=
 match m,k with
 | .wD key,.int kk x=>match σ.get key with
  | some o=>o.sz=0/\fX kk o.xV/\K (mB ok zero (nM x o.xV 0))
  | none=>False
 | .oG,.int _ _=>K (mB ok zero none)
 | _,_=>False
def Xz (σ:St) (m k x:D) (K:D->St->Prop):Prop:=
 match m,k with
 | .wD key,.int kk y=>match σ.get key with
  | some o=>o.sz=0/\fX kk o.xV/\K .rK (σ.set key ⟨0,re kk o.xV y x⟩)
  | none=>False
 | _,_=>False
def fF (σ:St) (n:Nat) (zero:D) (ok:Bool) (m k:D) (K:D->Prop):Prop:=
 match m,k with
 | .wD key,.agg cs=>match σ.get key with
  | some o=>o.sz=0/\∃ (x:List Int) (l:List (List Int × D)),(cs=x.map (D.int .i64)/\ o.xV=rE l/\x.length=n/\∀ p ∈ l,p.1.length=n)/\ K (mB ok zero (lS x l 0))
  | none=>False
 | _,_=>False
def iH (σ:St) (n:Nat) (m k x:D) (K:D->St->Prop):Prop:=
 match m,k with
 | .wD key,.agg cs=>match σ.get key with
  | some o=>o.sz=0/\∃ (y:List Int) (l:List (List Int × D)),(cs=y.map (D.int .i64)/\ o.xV=rE l/\(y.length=n/\∀ p ∈ l,p.1.length=n))/\ K .rK (σ.set key ⟨0,rE (aB y x l)⟩)
  | none=>False
 | _,_=>False
def Su (σ:St) (zero m k:D) (K:D->St->Prop):Prop:=
 match m,k with
 | .wD key,.int kk y=>match σ.get key with
  | some o=>o.sz=0/\fX kk o.xV/\o.xV.length<=1000000000/\(match nM y o.xV 0 with
   | some (i,d)=>K (.wH [d,.int .i64 i]) (σ.set key ⟨0,o.xV⟩)
   | none=>K (.wH [zero,.int .i64 o.xV.length]) (σ.set key ⟨0,o.xV ++ [[.int kk y,zero]]⟩))
  | none=>False
 | _,_=>False
def Sq (σ:St) (m s x:D) (K:D->St->Prop):Prop:=
 match m,s with
 | .wD key,.int _ i=>match σ.get key with
  | some o=>o.sz=0/\0<=i/\i<o.xV.length/\(∃ kk y d,o.xV.getD i.toNat [] = [.int kk y,d]/\K .rK (σ.set key ⟨0,o.xV.set i.toNat [.int kk y,x]⟩))
  | none=>False
 | _,_=>False
@[congr] theorem NI {σ : St} {zero : D} {ok : Bool} {m m' k k' : D} {K : D -> Prop} (h : m = m') (h' : k = k') : iv σ zero ok m k K = iv σ zero ok m' k' K := by rw [h, h']
@[congr] theorem NK {σ : St} {m m' k k' x x' : D} {K : D -> St -> Prop} (h : m = m') (h' : k = k') (h2 : x = x') : Xz σ m k x K = Xz σ m' k' x' K := by rw [h, h', h2]
@[congr] theorem Nh {σ : St} {n : Nat} {zero : D} {ok : Bool} {m m' k k' : D} {K : D -> Prop} (h : m = m') (h' : k = k') : fF σ n zero ok m k K = fF σ n zero ok m' k' K := by rw [h, h']
@[congr] theorem Nj {σ : St} {n : Nat} {m m' k k' x x' : D} {K : D -> St -> Prop} (h : m = m') (h' : k = k') (h2 : x = x') : iH σ n m k x K = iH σ n m' k' x' K := by rw [h, h', h2]
@[congr] theorem NG {σ : St} {zero m m' k k' : D} {K : D -> St -> Prop} (h : m = m') (h' : k = k') : Su σ zero m k K = Su σ zero m' k' K := by rw [h, h']
@[congr] theorem NC {σ : St} {m m' k k' x x' : D} {K : D -> St -> Prop} (h : m = m') (h' : k = k') (h2 : x = x') : Sq σ m k x K = Sq σ m' k' x' K := by rw [h, h', h2]
@[congr] theorem Ll {q : Bool} {σ : St} {sz bytes : Nat} {x x' : D} {y y' : Option (List (List D))} {K : D -> St -> Prop} (h : x = x') (h' : y = y') : zt q σ sz bytes x y K = zt q σ sz bytes x' y' K := by rw [h, h']
@[congr] theorem Lq {σ : St} {n : Nat} {x x' : D} {y y' : Option (List D)} {K : D -> St -> Prop} (h : x = x') (h' : y = y') : TE σ n x y K = TE σ n x' y' K := by rw [h, h']
@[congr] theorem Ln {x x' : D} {K : D -> Prop} (h : x = x') : js x K = js x' K := by rw [h]
@[congr] theorem Lm {sz : Nat} {x x' i i' : D} {K : D -> Prop} (h : x = x') (h' : i = i') : az sz x i K = az sz x' i' K := by rw [h, h']
@[congr] theorem Nk {neg : Bool} {x x' i i' : D} {K : D -> Prop} (h : x = x') (h' : i = i') : lW neg x i K = lW neg x' i' K := by rw [h, h']
@[congr] theorem NF {σ : St} {n : Nat} {ag : Bool} {x x' : D} {K : D -> Prop} (h : x = x') : ir σ n ag x K = ir σ n ag x' K := by rw [h]
def pX (C:Cx) (σ:St) (ev:tS->D) (k:DK) (K:D->Prop):Prop:=
 match k with
 | .len x=>js (ev x) K
 | .idx sz x i=>az sz (ev x) (ev i) K
 | .aG neg x y=>lW neg (ev x) (ev y) K
 | .load n ag x=>ir σ n ag (ev x) K
 | .c8 zero ok m k=>iv σ zero ok (ev m) (ev k) K
 | .vn n zero ok m k=>fF σ n zero ok (ev m) (ev k) K
 | .Lb x=>Ux (ev x) K
 | k=>pW C σ ev k K
theorem NT (C:Cx) (σ:St) (ev:tS->D) (k:DK) (K:D->Prop):pX C σ ev k K=pW C σ ev k K:=by cases k <;> rfl
def kg (C:Cx) (σ:St) (ev:tS->D) (k:DK) (K:D->St->Prop):Prop:=
 match k with
 | .box x=>qZ C σ ev (.box x) K
 | .alloc z=>qZ C σ ev (.alloc z) K
 | .store n a x=>TE σ n (ev a) (ev x).cells K
 | .app sz bytes x y=>zt (C.own.contains 77777) σ sz bytes (ev x) (rowsOf σ sz (ev y)) K
 | .fV sz bytes zero len cap=>qZ C σ ev (.fV sz bytes zero len cap) K
 | .kB sz len zero parts=>qZ C σ ev (.kB sz len zero parts) K
 | .V7 zero x=>qZ C σ ev (.V7 zero x) K
 | .Zl x y=>qZ C σ ev (.Zl x y) K
 | .call fn args=>qZ C σ ev (.call fn args) K
 | .j7=>qZ C σ ev .j7 K
 | .bM m k x=>Xz σ (ev m) (ev k) (ev x) K
 | .jH n m k x=>iH σ n (ev m) (ev k) (ev x) K
 | .tw zero m k=>Su σ zero (ev m) (ev k) K
 | .tv m s x=>Sq σ (ev m) (ev s) (ev x) K
 | k=>pX C σ ev k (GC σ K)
theorem ZN (C:Cx) (σ:St) (ev:tS->D) (k:DK) (K:D->St->Prop):kg C σ ev k K=qZ C σ ev k K:=by cases k <;> first | rfl | (show pX _ _ _ _ _=_; rw [NT]; rfl)
def tz (C:Cx):List yY->(Fr->St->Prop)->Fr->St->Prop
 | [],K,f,σ=>K f σ
 | ⟨dst,g,k⟩ :: rest,K,f,σ=>gd g f (kg C σ (pI f) k (N1 f dst (tz C rest K))) (tz C rest K (f.put dst .rK) σ)
theorem xv (C:Cx) (K:Fr->St->Prop):∀ (ops:List yY) (f:Fr) (σ:St),tz C ops K f σ=rI C ops f σ K
 | [],f,σ=>rfl
 | o :: rest,f,σ=>by
  have ih:tz C rest K=λf σ=>rI C rest f σ K:=by funext f σ; exact xv C K rest f σ
  unfold tz rI;rw [NQ,ZN,ih];rfl
def ua (C:Cx) (σ:St):List yY->(Fr->Prop)->Fr->Prop
 | [],K,f=>K f
 | ⟨dst,g,k⟩ :: rest,K,f=>gd g f (pX C σ (pI f) k (N2 f dst (ua C σ rest K))) (ua C σ rest K (f.put dst .rK))
theorem iD (C:Cx) (σ:St) (K:Fr->Prop):∀ (ops:List yY) (f:Fr),ua C σ ops K f=uW C σ ops f K
 | [],f=>rfl
 | o :: rest,f=>by
  have ih:ua C σ rest K=λf=>uW C σ rest f K:=by funext f; exact iD C σ K rest f
  unfold ua uW;rw [NQ,NT,ih];rfl
def Xy (C:Cx) (post:List yY) (Q:Exit->Fr->St->Prop) (σ:St) (f:Fr):Prop:=tz C post (gB Q) f σ
def LN (d:D) (p q:Prop):Prop:=
 match d with
 | .bool t=>if t=true then p else q
 | _=>False
theorem Q4 (t:Bool) (p q:Prop):LN (.bool t) p q=if t=true then p else q:=rfl
@[congr] theorem LU {d d' : D} {p q : Prop} (h : d = d') : LN d p q = LN d' p q := by rw [h]
def af (C:Cx) (it:Nat) (m:tS) (out nx more next pair:Nat) (rest:List yY) (code:DC) (Q:Exit->Fr->St->Prop) (f:Fr) (σ:St):Prop:=qo C it m out nx more next pair rest code f σ Q
@[congr] theorem Ni {C : Cx} {it : Nat} {m : tS} {out nx more next pair : Nat} {rest : List yY} {code : DC} {Q : Exit -> Fr -> St -> Prop} {f f' : Fr} {σ : St} (h : f = f') : af C it m out nx more next pair rest code Q f σ = af C it m out nx more next pair rest code Q f' σ := by rw [h]
def Vb (C:Cx) (code:DC) (out next:Nat) (J:Fr->St->Prop) (Q:Exit->Fr->St->Prop) (f:Fr) (σ:St):Prop:=wpS C code f σ (lT next (jJ J (lT out Q)))
@[congr] theorem Pn {C : Cx} {code : DC} {out next : Nat} {J : Fr -> St -> Prop} {Q : Exit -> Fr -> St -> Prop} {f f' : Fr} {σ : St} (h : f = f') : Vb C code out next J Q f σ = Vb C code out next J Q f' σ := by rw [h]
def Xu (C:Cx) (k:DK) (K:Fr->D->St->Prop) (σ:St) (f1:Fr):Prop:=kg C σ (pI f1) k (K f1)
def N4 (f:Fr) (g:Fr):Prop:=g=f
def LS (C:Cx) (un:Bool) (mid:List yY) (f1:Fr) (σ:St) (K:Fr->St->Prop) (σ1:St) (f2:Fr):Prop:=(if un=true then ua C σ mid (N4 f2) f1 else True)/\ K f2 σ1
def Uy (C:Cx) (pre:List yY) (dst:Option Nat) (mid:List yY) (un:Bool) (post:List yY) (Q:Exit->Fr->St->Prop) (f:Fr) (σ:St) (f1:Fr) (d:D) (σ1:St):Prop:= ua C σ1 pre (N4 f1) f/\ua C σ1 mid (LS C un mid (f1.put dst d) σ (tz C post (gB Q)) σ1) (f1.put dst d)
theorem OR {C:Cx} {pre:List yY} {dst:Option Nat} {mid:List yY} {un:Bool} {post:List yY} {Q:Exit->Fr->St->Prop} {f:Fr} {σ:St} {f1:Fr} {d:D} {σ1:St} :
  Uy C pre dst mid un post Q f σ f1 d σ1=TA C pre dst mid un f σ (λf σ=>rI C post f σ λf σ=>Q .normal f σ) f1 d σ1:=by
 unfold Uy TA;rw [iD,iD]
 have:LS C un mid (f1.put dst d) σ (tz C post (gB Q)) σ1=λf2=>(if un=true then uW C σ mid (f1.put dst d) (λg=>g=f2) else True)/\ rI C post f2 σ1 λf σ=>Q .normal f σ:=by funext f2;unfold LS;rw [iD,xv];rfl
 rw [this];rfl
def Zi (C:Cx):DC->(Exit->Fr->St->Prop)->Fr->St->Prop
 | .skip,Q,f,σ=>Q .normal f σ
 | .qC pre post,Q,f,σ=>ua C σ pre (Xy C post Q σ) f
 | .ba pre m mid un post,Q,f,σ=>ua C σ pre (Xu C m.k (Uy C pre m.dst mid un post Q f σ) σ) f
 | .j0 pre m1 mid1 m2 mid2 post,Q,f,σ=>yh C (.j0 pre m1 mid1 m2 mid2 post) f σ Q
 | .seq a b,Q,f,σ=>Zi C a (jJ (Zi C b Q) Q) f σ
 | .cond c a b,Q,f,σ=>LN (pI f c) (Zi C a Q f σ) (Zi C b Q f σ)
 | .block id c,Q,f,σ=>Zi C c (lT id Q) f σ
 | .loop c,Q,f,σ=>wpS C (.loop c) f σ Q
 | .ub g ps a c,Q,f,σ=>wpS C (.ub g ps a c) f σ Q
 | .bN pre m1 mid1 m2 mid2 post free,Q,f,σ=>wpS C (.bN pre m1 mid1 m2 mid2 post free) f σ Q
 | .aJ pre m mid un post fl,Q,f,σ=>wpS C (.aJ pre m mid un post fl) f σ Q
 | .exit id,Q,f,σ=>Q (.exit id) f σ
 | .ret,Q,f,σ=>Q .ret f σ
 | .TK ..,_,_,_=>False
 | .TI ..,_,_,_=>False
 | .TG ..,_,_,_=>False
 | .vp pre it m out nx more next pair rest code,Q,f,σ=>tz C pre (af C it m out nx more next pair rest code Q) f σ
theorem bH (C:Cx):∀ (dc:DC) (Q:Exit->Fr->St->Prop) (f:Fr) (σ:St),Zi C dc Q f σ=yh C dc f σ Q
 | .skip,Q,f,σ=>rfl
 | .qC pre post,Q,f,σ=>by
  unfold Zi yh;rw [iD]
  have:Xy C post Q σ=λf=>rI C post f σ λf σ=>Q .normal f σ:=by funext f;unfold Xy;rw [xv];rfl
  rw [this]
 | .ba pre m mid un post,Q,f,σ=>by
  unfold Zi yh;rw [iD]
  have:Xu C m.k (Uy C pre m.dst mid un post Q f σ) σ=λf1=>qZ C σ (pI f1) m.k λd σ1=>TA C pre m.dst mid un f σ (λf σ=>rI C post f σ λf σ=>Q .normal f σ) f1 d σ1:=by funext f1;unfold Xu;rw [ZN];congr 1;funext d σ1;exact OR
  rw [this]
 | .j0 ..,Q,f,σ=>rfl
 | .seq a b,Q,f,σ=>by
  have ih:Zi C b Q=λf σ=>yh C b f σ Q:=by funext f σ; exact bH C b Q f σ
  unfold Zi;rw [bH C a,ih];rfl
 | .cond c a b,Q,f,σ=>by unfold Zi;rw [bH C a,bH C b];rfl
 | .block id c,Q,f,σ=>by unfold Zi; rw [bH C c]; rfl
 | .loop c,Q,f,σ=>rfl
 | .ub g ps a c,Q,f,σ=>rfl
 | .bN ..,Q,f,σ=>rfl
 | .aJ ..,Q,f,σ=>rfl
 | .exit id,Q,f,σ=>rfl
 | .ret,Q,f,σ=>rfl
 | .TK ..,_,_,_=>rfl
 | .TI ..,_,_,_=>rfl
 | .TG ..,_,_,_=>rfl
 | .vp pre it m out nx more next pair rest code,Q,f,σ=>by unfold Zi yh; rw [xv]; rfl
noncomputable def ai {α:Sort u} (a:α):α:=Classical.choose (⟨a,rfl⟩:∃ b:α,b=a)
theorem zf {α:Sort u} (a:α):ai a=a:=Classical.choose_spec (⟨a,rfl⟩:∃ b:α,b=a)
noncomputable def ye (C:Cx):List yY->(Fr->St->Prop)->Fr->St->Prop:=ai (tz C)
noncomputable def oM (C:Cx) (σ:St):List yY->(Fr->Prop)->Fr->Prop:=ai (ua C σ)
noncomputable def kh (C:Cx):DC->(Exit->Fr->St->Prop)->Fr->St->Prop:=ai (Zi C)
theorem eB (C:Cx):ye C=tz C:=zf _
theorem iE (C:Cx) (σ:St):oM C σ=ua C σ:=zf _
theorem pZ (C:Cx):kh C=Zi C:=zf _
section
variable (C : Cx) (σ : St) (f : Fr) (Q : Exit -> Fr -> St -> Prop) (K : Fr -> St -> Prop) (K1 : Fr -> Prop) (a b c : DC) (dst : Option Nat) (g : Option (Nat × Bool)) (k : DK) (rest pre post : List yY) (x : tS) (id : Nat)
theorem R6 : ye C [] K f σ=K f σ:=by rw [eB]; rfl
theorem UE : ye C (⟨dst,g,k⟩ :: rest) K f σ=gd g f (kg C σ (pI f) k (N1 f dst (ye C rest K))) (ye C rest K (f.put dst .rK) σ):=by rw [eB]; rfl
theorem XQ : oM C σ [] K1 f=K1 f:=by rw [iE]; rfl
theorem UH : oM C σ (⟨dst,g,k⟩ :: rest) K1 f=gd g f (pX C σ (pI f) k (N2 f dst (oM C σ rest K1))) (oM C σ rest K1 (f.put dst .rK)):=by rw [iE]; rfl
def Vx (C:Cx) (post:List yY) (Q:Exit->Fr->St->Prop) (σ:St) (f:Fr):Prop:=ye C post (gB Q) f σ
theorem S8 : kh C .skip Q f σ=Q .normal f σ:=by rw [pZ]; rfl
theorem PQ : kh C (.qC pre post) Q f σ=oM C σ pre (Vx C post Q σ) f:=by
 have e:Vx C post Q σ=Xy C post Q σ:=by funext f; unfold Vx Xy; rw [eB]
 rw [pZ,iE,e]; rfl
def aE (C:Cx) (k:DK) (K:Fr->D->St->Prop) (σ:St) (f1:Fr):Prop:=kg C σ (pI f1) k (K f1)
def Li (C:Cx) (un:Bool) (mid:List yY) (f1:Fr) (σ:St) (K:Fr->St->Prop) (σ1:St) (f2:Fr):Prop:=(if un=true then oM C σ mid (N4 f2) f1 else True)/\ K f2 σ1
def Pe (C:Cx) (pre:List yY) (dst:Option Nat) (mid:List yY) (un:Bool) (post:List yY) (Q:Exit->Fr->St->Prop) (f:Fr) (σ:St) (f1:Fr) (d:D) (σ1:St):Prop:= oM C σ1 pre (N4 f1) f/\oM C σ1 mid (Li C un mid (f1.put dst d) σ (ye C post (gB Q)) σ1) (f1.put dst d)
theorem S4 {mid:List yY} {un:Bool}:kh C (.ba pre ⟨dst,g,k⟩ mid un post) Q f σ=oM C σ pre (aE C k (Pe C pre dst mid un post Q f σ) σ) f:=by
 have e:aE C k (Pe C pre dst mid un post Q f σ) σ=Xu C k (Uy C pre dst mid un post Q f σ) σ:=by
  funext f1;unfold aE Xu;congr 1;funext d σ1;unfold Pe Uy
  have e2:Li C un mid (f1.put dst d) σ (ye C post (gB Q)) σ1=LS C un mid (f1.put dst d) σ (tz C post (gB Q)) σ1:=by funext f2; unfold Li LS; rw [eB,iE]
  rw [e2,iE]
 rw [pZ,iE,e]; rfl
theorem QF (f:Fr):N4 f f=True:=eq_true rfl
theorem PS : kh C (.seq a b) Q f σ=kh C a (jJ (kh C b Q) Q) f σ:=by rw [pZ]; rfl
theorem Ry : kh C (.cond x a b) Q f σ=LN (pI f x) (kh C a Q f σ) (kh C b Q f σ):=by rw [pZ]; rfl
theorem Up : kh C (.block id c) Q f σ=kh C c (lT id Q) f σ:=by rw [pZ]; rfl
theorem S3 : kh C (.loop c) Q f σ=wpS C (.loop c) f σ Q:=by rw [pZ]; rfl
theorem S6 {g:tS} {ps:List Nat}:kh C (.ub g ps a c) Q f σ=wpS C (.ub g ps a c) f σ Q:=by rw [pZ]; rfl
theorem Rx : kh C (.exit id) Q f σ=Q (.exit id) f σ:=by rw [pZ]; rfl
theorem PR : kh C .ret Q f σ=Q .ret f σ:=by rw [pZ]; rfl
theorem Uq {it:Nat} {m:tS} {out nx more next pair:Nat} {rst:List yY} {code:DC}:kh C (.vp pre it m out nx more next pair rst code) Q f σ=ye C pre (af C it m out nx more next pair rst code Q) f σ:=by rw [pZ,eB]; rfl
end
theorem xN {C:Cx} (hm:C.P.follows .mixedOrders=true) {dc:DC} {f:Fr} {σ:St} {Q:Exit->Fr->St->Prop} (h:kh C dc Q f σ):wpS C dc f σ Q:= Sk hm (by rw [<- bH,<- pZ]; exact h)
theorem xP.KY {P:Program} {g:FuncId} {fn:Func} {own:List Nat} {N:Nat} {dc:DC} {rs:List bJ} {args:List D} {σ:St} {d:D} {σ':St} (hm:P.follows .mixedOrders=true) (hf:P.funcs[g]?=some fn)
  (hc:xS P own fn=some (N,dc,rs)) (hla:args.length<=N)
  (h:D.rX args->kh ⟨P,N,σ.nx,own,none⟩ dc (iq ⟨P,N,σ.nx,own,none⟩ rs d σ') (fY 0 args) σ):xP P g args σ d σ':=
 xP.Ke hm hf hc hla λhfa=>by rw [<- bH,<- pZ]; exact h hfa
end Go.Pd
namespace Go.Pd
open Go
theorem yw (s:BitVec 64) (w:Nat):s >>> w &&& 1#64=if s.getLsbD w then 1#64 else 0#64:=by
 apply ω;rw [Af,Ab];have:(1#64).toNat=1:=rfl;rw [this,An];unfold BitVec.getLsbD;rw [Nat.testBit_eq_decide_div_mod_eq,Ak]
 by_cases h:s.toNat / 2 ^ w % 2=1
 ·simp [h]
 ·simp [h]; omega
theorem Q2 (s:BitVec 64) (w:Nat):s >>> w % 2#64=if s.getLsbD w then 1#64 else 0#64:=by rw [<- yw];apply ω;rw [Af,Ae];have:(1#64).toNat=1:=rfl;rw [this,An];rfl
theorem ud (s:BitVec 64) (w:Nat):(s >>> w % 2#64==1#64)= s.getLsbD w:=by rw [Q2];cases s.getLsbD w <;> rfl
theorem Zs (s:BitVec 64) (w:Nat):(s >>> w &&& 1#64==1#64)= s.getLsbD w:=by rw [yw];cases s.getLsbD w <;> rfl
theorem ti {k:Nat} (hk:k<62):ju .i64 1 k=((2 ^ k:Nat):Int):=by
 have hp:2 ^ k<2 ^ 62:=Am (by omega) hk;unfold ju
 have e:min (k:Int).toNat IntKind.i64.bits=k:=by have:IntKind.i64.bits=64:=rfl;rw [this,Ap]; omega
 rw [e,Int.one_mul,wrap_i64]
 ·simp
 ·have:((2:Int)^ k)= ((2 ^ k:Nat):Int):=by simp
  rw [this];exact⟨Int.le_trans (by decide) (Ao _),Int.le_trans (Int.ofNat_le.2 (Nat.le_of_lt hp)) (by decide)⟩
theorem or_zero {a k:Nat} (h:a<2 ^ k) (hk:k<62):tB .or .i64 (a:Int) (ju .i64 0 k)= (a:Int):=by
 have hp:2 ^ k<2 ^ 62:=Am (by omega) hk
 have e1:ju .i64 0 k=0:=by unfold ju;rw [Int.zero_mul]; rfl
 rw [e1];show IntKind.i64.wrap ((BitVec.ofInt 64 (a:Int) ||| BitVec.ofInt 64 0).toNat:Int)= _;rw [Aa,BitVec.toNat_or,Ac,Nat.mod_eq_of_lt (by omega)];have:(BitVec.ofInt 64 0).toNat=0:=rfl;rw [this,Nat.or_zero];exact wrap_i64 (by omega)
end Go.Pd
namespace Go.Pd
open Go
theorem yA (key sz:Nat):xD key sz [] = .xL:=rfl
theorem lz (key sz:Nat) (e:List D) (r:List (List D)):xD key sz (e :: r)= .yD key sz (r.length+1):=rfl
theorem yB (key sz:Nat):yX key sz [] = []:=rfl
theorem mc (key sz:Nat) (e:List D) (r:List (List D)):yX key sz (e :: r)= [(key,⟨sz,e :: r⟩)]:=rfl
theorem lQ (k:IntKind):rows k [] = []:=rfl
theorem zd (k:IntKind) (n:Int) (l:List Int):rows k (n :: l)= [.int k n] :: rows k l:=rfl
theorem ze (k:IntKind) (l:List Int) (n:Int):rows k l ++ [[.int k n]]=rows k (l ++ [n]):=by simp [rows]
theorem z6 (l:List (List (BitVec 64))) (r:List (BitVec 64)):rr l ++ [[.sl 1 (us r)]]=rr (l ++ [r]):=by simp [rr,V5]
theorem Sf : rr [] = []:=rfl
theorem Vq (l:List (BitVec 64)) (r:List (List (BitVec 64))):rr (l :: r)= [.sl 1 (us l)] :: rr r:=rfl
variable [tR]
theorem Ts {key m n sz:Nat} {xV:List (List D)} (hs:0<sz) (hp:∀ e ∈ xV,D.xR e=true) {ρ:Nat->Nat}:vw ⟨m,yX key sz xV⟩ ⟨n,[]⟩ ρ (xD key sz xV) (.sl sz xV):=by
 cases xV with
 | nil=>simp [xD,vw]
 | cons e r=> simp only [xD,yX,vw];refine⟨trivial,hs,by simp,⟨sz,e :: r⟩,by simp [St.get,St.look],rfl,Aj _,by simp,hp⟩
theorem sJ.name {n0 n m sz j:Nat} {xV:List (List D)} {d d':D} (hn:n0<=n) (hp:∀ e ∈ xV,D.xR e=true) (hv:vw ⟨m,[(j,⟨sz,xV⟩)]⟩ ⟨n+1,[(n,⟨sz,xV⟩)]⟩ (λk=>if k=n then j else k) d d'):sJ n0 ⟨m,[(j,⟨sz,xV⟩)]⟩ d ⟨n+1,[(n,⟨sz,xV⟩)]⟩ d':=by
 refine .inr ⟨λk=>if k=n then j else k,by show n0<=n+1; omega,λk hk=>if_neg (by omega),hv,?_,?_⟩
 ·intro p hp';simp only [θ] at hp';subst hp';exact⟨Nat.lt_succ_self n,⟨sz,xV⟩,by simp [St.get,St.look],rfl,.same hp⟩
 ·intro p hp' q hq' _;simp only [θ] at hp' hq';rw [hp',hq']
end Go.Pd
namespace Go.Pd
open Go
def vA (sz:Nat):List (List D)->Option Ob
 | []=>none
 | e :: r=>some ⟨sz,e :: r⟩
theorem wW {k s:Nat} {xV:List (List D)} {r:List (Nat × Ob)} {k':Nat}:St.look (yX k s xV++r) k'=if k=k' then(vA s xV).or (St.look r k') else St.look r k':=by
 cases xV with
 | nil=>simp [yX,vA]
 | cons e l=>simp [yX,vA,St.look]
theorem uq {k s:Nat} {xV:List (List D)} {k':Nat}:St.look (yX k s xV) k'=if k=k' then vA s xV else none:=by have:=wW (k:=k) (s:=s) (xV:=xV) (r:=[]) (k':=k');simp only [δ,St.look,Option.or_none] at this;exact this
theorem uj {k s:Nat} {xV:List (List D)} {r:List (Nat × Ob)} {k':Nat}:yO (yX k s xV++r) k'=if k=k' then yO r k' else yX k s xV++yO r k':=by
 cases xV with
 | nil=>simp [yX]
 | cons e l=>simp [yX,yO]
theorem l7 {k s:Nat} {xV:List (List D)} {k':Nat}:yO (yX k s xV) k'=if k=k' then [] else yX k s xV:=by have:=uj (k:=k) (s:=s) (xV:=xV) (r:=[]) (k':=k');simp only [δ,yO] at this;exact this
theorem Xg : ∀ {r:List (Nat × Ob)} {k:Nat} {o:Ob},St.look r k=none->zG r k o=r
 | [],_,_,_=>rfl
 | (j,o') :: r,k,o,h=>by
  simp only [St.look] at h
  split at h
  ·cases h
  ·rename_i hn;simp only [zG,if_neg hn,Xg h]
theorem lp : ∀ {r:List (Nat × Ob)} {k:Nat},St.look r k=none->yO r k=r
 | [],_,_=>rfl
 | (j,o') :: r,k,h=>by
  simp only [St.look] at h
  split at h
  ·cases h
  ·rename_i hn;simp only [yO,if_neg hn,lp h]
theorem gy {k s:Nat} {xV els':List (List D)} {r:List (Nat × Ob)} (hl:els'.length=xV.length) (h:St.look r k=none):zG (yX k s xV++r) k ⟨s,els'⟩= yX k s els'++r:=by
 cases xV with
 | nil=> have:els' = []:=List.eq_nil_of_length_eq_zero (by simpa using hl);subst this;simp only [yX,η];exact Xg h
 | cons e l=>
  cases els' with
  | nil=>simp at hl
  | cons e' l'=>simp [yX,zG]
theorem ni {k s:Nat} {xV els':List (List D)} (hl:els'.length=xV.length):zG (yX k s xV) k ⟨s,els'⟩= yX k s els':=by have:=gy (k:=k) (s:=s) (r:=[]) hl rfl;simp only [δ] at this;exact this
theorem p3 {k s:Nat} {xV:List (List D)} {r:List (Nat × Ob)} {k':Nat} {o:Ob} (h:k≠k'):zG (yX k s xV++r) k' o=yX k s xV++zG r k' o:=by
 cases xV with
 | nil=>simp [yX]
 | cons e l=>simp [yX,zG,h]
theorem Zt (k s:Nat) (xV:List (List D)):(xD k s xV).cells=some [xD k s xV]:=by cases xV <;> rfl
theorem UC (k s:Nat) (xV:List (List D)):(xD k s xV).one=true:=by cases xV <;> rfl
theorem TW (k s n:Nat):(D.yD k s n).cells=some [.yD k s n]:=rfl
theorem Ta (k s l n:Nat):(D.sub k s l n).cells=some [.sub k s l n]:=rfl
theorem TV (k:IntKind) (n:Int):(D.int k n).cells=some [.int k n]:=rfl
theorem WG (b:Bool):(D.bool b).cells=some [.bool b]:=rfl
theorem TX (s:ByteArray):(D.str s).cells=some [.str s]:=rfl
theorem Q7 (sz:Nat) (xV:List (List D)):(D.sl sz xV).cells=some [.sl sz xV]:=rfl
theorem WL : D.xL.cells=some [.xL]:=rfl
theorem TU : D.emp.cells=some [.emp]:=rfl
theorem TT (cs:List D):(D.agg cs).cells=some cs:=rfl
theorem Q6 (f:FuncId) (cs:List D):(D.fn f cs).cells=some [.fn f cs]:=rfl
theorem TY (a b c d:Nat):(D.ref a b c d).cells=some [.ref a b c d]:=rfl
theorem TZ (cs:List D):(D.ptr cs).cells=some [.ptr cs]:=rfl
theorem WH (k:Nat):(D.wD k).cells=some [.wD k]:=rfl
theorem WK : D.qQ.cells=some [.qQ]:=rfl
theorem WJ : D.oG.cells=some [.oG]:=rfl
theorem WI : D.mC.cells=some [.mC]:=rfl
theorem Oi (k:IntKind) (n:Int):(D.int k n).one=true:=rfl
theorem Qx (b:Bool):(D.bool b).one=true:=rfl
theorem Oq (s:ByteArray):(D.str s).one=true:=rfl
theorem MT (sz:Nat) (xV:List (List D)):(D.sl sz xV).one=true:=rfl
theorem R4 : D.xL.one=true:=rfl
theorem Og : D.emp.one=true:=rfl
theorem MS (f:FuncId) (cs:List D):(D.fn f cs).one=true:=rfl
theorem On (a b c d:Nat):(D.ref a b c d).one=true:=rfl
theorem Ol (a b c:Nat):(D.yD a b c).one=true:=rfl
theorem Om (cs:List D):(D.ptr cs).one=true:=rfl
theorem R0 (k:Nat):(D.wD k).one=true:=rfl
theorem R3 : D.qQ.one=true:=rfl
theorem R2 : D.oG.one=true:=rfl
theorem R1 : D.mC.one=true:=rfl
section
variable [tR]
theorem TO {q:Bool} {σ:St} {sz bytes key:Nat} {xV:List (List D)} {rw:List (List D)} {K:D->St->Prop} (h:σ.get key=vA sz xV) (h0:rw ≠ []) :
  zt q σ sz bytes (xD key sz xV) (some rw) K=((∀ r ∈ rw,uX r=true)/\ (xV.length+rw.length)* bytes<=140737488355328/\xV.length+rw.length<=8000000000000 /\
   K (xD σ.nx sz (xV++rw)) ⟨σ.nx+1,yX σ.nx sz (xV++rw)++ yO σ.xZ key⟩):=by
 cases xV with
 | nil=>
  obtain⟨r,rs,rfl⟩:∃ r rs,rw=r :: rs:=by cases rw with | nil=>exact absurd rfl h0 | cons r rs=>exact⟨r,rs,rfl⟩
  have he:yO σ.xZ key=σ.xZ:=lp h;simp only [zt,xD,yX,St.new,he,η,μ,Al];simp
 | cons e l=>
  have e1:l.length+1+rw.length=l.length+rw.length+1:=by omega
  simp only [zt,xD,h,vA,St.erase,St.new,yX];simp [xD,yX,e1]
theorem WC {q:Bool} {nx:Nat} {xZ:List (Nat × Ob)} {sz bytes key:Nat} {xV:List (List D)} {r:List D} {rs:List (List D)} {K:D->St->Prop} (h:St.look xZ key=vA sz xV) :
  zt q ⟨nx,xZ⟩ sz bytes (xD key sz xV) (some (r :: rs)) K=((∀ x ∈ r :: rs,uX x=true)/\ (xV.length+(r :: rs).length)* bytes<=140737488355328/\xV.length+(r :: rs).length<=8000000000000 /\
   K (xD nx sz (xV++r :: rs)) ⟨nx+1,yX nx sz (xV++r :: rs)++ yO xZ key⟩):=TO h (by simp)
theorem Pz {q:Bool} {σ:St} {sz bytes:Nat} {r:List D} {rs:List (List D)} {K:D->St->Prop} :
  zt q σ sz bytes .xL (some (r :: rs)) K=((∀ x ∈ r :: rs,uX x=true)/\ (r :: rs).length*bytes<=140737488355328/\(r :: rs).length<=8000000000000/\K (.yD σ.nx sz (r :: rs).length) (σ.new ⟨sz,r :: rs⟩)):=by
 simp [zt]
theorem Py {q:Bool} {σ:St} {sz sz' bytes key n:Nat} {rows:List (List D)} {K:D->St->Prop} :
  zt q σ sz bytes (.yD key sz' n) (some rows) K=((∀ x ∈ rows,uX x=true)/\ match σ.get key with
   | some ob=>sz=sz'/\ob.sz=sz/\n<=ob.xV.length/\(n+rows.length)* bytes<=140737488355328/\n+rows.length<=8000000000000/\K (.yD σ.nx sz (n+rows.length)) ((σ.erase key).new ⟨sz,ob.xV.take n++rows⟩)
   | none=>False):=rfl
def Za (nx:Nat) (xZ:List (Nat × Ob)) (n key sz i off:Nat) (ds:List D) (K:D->St->Prop):Option Ob->Prop
 | some ob=>ob.sz=sz/\i<ob.xV.length/\ds.length=n/\off+n<=sz/\uX ds=true/\K .rK ⟨nx,zG xZ key ⟨sz,ob.xV.set i (jM (ob.xV.getD i []) off ds)⟩⟩
 | none=>False
@[congr] theorem Lp {nx : Nat} {xZ : List (Nat × Ob)} {n key sz i off : Nat} {ds : List D} {K : D -> St -> Prop} {o o' : Option Ob} (h : o = o') : Za nx xZ n key sz i off ds K o = Za nx xZ n key sz i off ds K o' := by rw [h]
theorem Ri {nx:Nat} {xZ:List (Nat × Ob)} {n key sz i off:Nat} {ds:List D} {K:D->St->Prop}:TE ⟨nx,xZ⟩ n (.ref key sz i off) (some ds) K=Za nx xZ n key sz i off ds K (St.look xZ key):=by simp only [TE,St.get];cases St.look xZ key <;> rfl
theorem Ui {nx:Nat} {xZ:List (Nat × Ob)} {n key sz i off:Nat} {ds:List D} {K:D->St->Prop} {sz':Nat} {xV:List (List D)} :
  Za nx xZ n key sz i off ds K (some ⟨sz',xV⟩)= (sz'=sz/\i<xV.length/\ds.length=n/\off+n<=sz/\uX ds=true/\K .rK ⟨nx,zG xZ key ⟨sz,xV.set i (jM (xV.getD i []) off ds)⟩⟩):=rfl
theorem Uh {nx:Nat} {xZ:List (Nat × Ob)} {n key sz i off:Nat} {ds:List D} {K:D->St->Prop} {xV:List (List D)} :
  Za nx xZ n key sz i off ds K (vA sz xV)= (i<xV.length/\ds.length=n/\off+n<=sz/\uX ds=true/\K .rK ⟨nx,zG xZ key ⟨sz,xV.set i (jM (xV.getD i []) off ds)⟩⟩):=by
 cases xV with
 | nil=>simp [Za,vA]
 | cons e l=>simp [Za,vA]
def ra (n:Nat) (ag:Bool) (sz i off:Nat) (K:D->Prop):Option Ob->Prop
 | some o=>o.sz=sz/\i<o.xV.length/\off+n<=sz/\(ag=true\/n=1)/\ K (pB ag (((o.xV.getD i []).drop off).take n))
 | none=>False
@[congr] theorem ND {n sz i off : Nat} {ag : Bool} {K : D -> Prop} {o o' : Option Ob} (h : o = o') : ra n ag sz i off K o = ra n ag sz i off K o' := by rw [h]
theorem U3 {nx:Nat} {xZ:List (Nat × Ob)} {n key sz i off:Nat} {ag:Bool} {K:D->Prop}:ir ⟨nx,xZ⟩ n ag (.ref key sz i off) K=ra n ag sz i off K (St.look xZ key):=by simp only [ir,St.get];cases St.look xZ key <;> rfl
theorem Wi {n sz i off:Nat} {ag:Bool} {K:D->Prop} {sz':Nat} {xV:List (List D)}:ra n ag sz i off K (some ⟨sz',xV⟩)= (sz'=sz/\i<xV.length/\off+n<=sz/\(ag=true\/n=1)/\ K (pB ag (((xV.getD i []).drop off).take n))):=rfl
theorem Wh {n sz i off:Nat} {ag:Bool} {K:D->Prop} {xV:List (List D)}:ra n ag sz i off K (vA sz xV)= (i<xV.length/\off+n<=sz/\(ag=true\/n=1)/\ K (pB ag (((xV.getD i []).drop off).take n))):=by
 cases xV with
 | nil=>simp [ra,vA]
 | cons e l=>simp [ra,vA]
theorem U1 {σ:St} {n:Nat} {ag:Bool} {cs:List D} {K:D->Prop}:ir σ n ag (.ptr cs) K=(n<=cs.length/\(ag=true\/n=1)/\ K (pB ag (cs.take n))):=rfl
def cG (kk:IntKind) (l:List (Int × D)):List (List D):=l.map λp=>[.int kk p.1,p.2]
def qK (x:Int):List (Int × D)->Nat->Option (Nat × D)
 | [],_=>none
 | (m,d) :: r,i=>if x=m then some (i,d) else qK x r (i+1)
def T7 (l:List (Int × D)) (x:Int) (d:D):List (Int × D):=
 match qK x l 0 with
 | some (i,_)=>l.set i (x,d)
 | none=>l ++ [(x,d)]
theorem mf (kk:IntKind) (l:List (Int × D)):fX kk (cG kk l):=by intro row h;simp only [cG,ε] at h;obtain⟨p,_,rfl⟩:=h;exact⟨_,_,rfl⟩
theorem aV (kk:IntKind) (x:Int):∀ (l:List (Int × D)) (i:Nat),nM x (cG kk l) i=qK x l i
 | [],_=>rfl
 | (m,d) :: r,i=>by show nM x ([.int kk m,d] :: cG kk r) i=_;rw [nM,qK,aV kk x r (i+1)]
theorem Wn (kk:IntKind) (l:List (Int × D)) (x:Int) (d:D):re kk (cG kk l) x d=cG kk (T7 l x d):=by
 unfold re T7;rw [aV]
 cases qK x l 0 with
 | none=>simp [cG]
 | some p=>simp [cG,List.map_set]
theorem yx : ∀ {a b:List Int},a.map (D.int .i64)= b.map (D.int .i64)->a=b
 | [],[],_=>rfl
 | [],_ :: _,h=>by simp at h
 | _ :: _,[],h=>by simp at h
 | x :: a,y :: b,h=>by simp only [ζ,List.cons.injEq,D.int.injEq,true_and] at h;rw [h.1,yx h.2]
theorem nw : ∀ {a b:List (List Int × D)},rE a=rE b->a=b
 | [],[],_=>rfl
 | [],_ :: _,h=>by simp [rE] at h
 | _ :: _,[],h=>by simp [rE] at h
 | (x,d) :: a,(y,e) :: b,h=>by simp only [rE,ζ,List.cons.injEq,D.agg.injEq,and_true] at h;obtain⟨⟨h1,h2⟩,h3⟩:=h;rw [yx h1,h2,nw (a:=a) (b:=b) h3]
theorem wi {nx:Nat} {xZ:List (Nat × Ob)} {n:Nat} {zero:D} {ok:Bool} {key:Nat} {x:List Int} {l:List (List Int × D)} {cs:List D} {K:D->Prop} (hg:St.look xZ key=some ⟨0,rE l⟩) (hc:cs=x.map (D.int .i64)) (hx:x.length=n) (hl:∀ p ∈ l,p.1.length=n) :
  fF ⟨nx,xZ⟩ n zero ok (.wD key) (.agg cs) K=K (mB ok zero (lS x l 0)):=by
 subst hc;simp only [fF,St.get,hg];refine propext ⟨λh=>?_,λh=>⟨trivial,x,l,⟨rfl,rfl,hx,hl⟩,h⟩⟩;obtain⟨_,x',l',⟨h1,h2,_,_⟩,h3⟩:=h;rw [yx h1,nw h2]; exact h3
theorem Wp {nx:Nat} {xZ:List (Nat × Ob)} {n:Nat} {key:Nat} {y:List Int} {l:List (List Int × D)} {cs:List D} {x:D} {K:D->St->Prop} (hg:St.look xZ key=some ⟨0,rE l⟩) (hc:cs=y.map (D.int .i64)) (hx:y.length=n) (hl:∀ p ∈ l,p.1.length=n) :
  iH ⟨nx,xZ⟩ n (.wD key) (.agg cs) x K=K .rK ⟨nx,zG xZ key ⟨0,rE (aB y x l)⟩⟩:=by
 subst hc;simp only [iH,St.get,hg,St.set];refine propext ⟨λh=>?_,λh=>⟨trivial,y,l,⟨rfl,rfl,hx,hl⟩,h⟩⟩;obtain⟨_,x',l',⟨h1,h2,_,_⟩,h3⟩:=h;rw [yx h1,nw h2]; exact h3
theorem wk {nx:Nat} {xZ:List (Nat × Ob)} {n:Nat} {key:Nat} {y:List Int} {l:List (List Int × D)} {cs:List D} {x:D} {K:D->St->Prop} (hg:St.look xZ key=some ⟨0,rE l⟩) (hc:cs=y.map (D.int .i64)) (hx:y.length=n) (hl:∀ p ∈ l,p.1.length=n) (hno:lS y l 0=none) :
  iH ⟨nx,xZ⟩ n (.wD key) (.agg cs) x K=K .rK ⟨nx,zG xZ key ⟨0,rE (l ++ [(y,x)])⟩⟩:=by
 rw [Wp hg hc hx hl,show aB y x l=l ++ [(y,x)] by unfold aB; rw [hno]]
def iu (kk:IntKind) (x:Int) (zero:D) (ok:Bool) (K:D->Prop):Option Ob->Prop
 | some o=>o.sz=0/\fX kk o.xV/\K (mB ok zero (nM x o.xV 0))
 | none=>False
@[congr] theorem NH {kk : IntKind} {x : Int} {zero : D} {ok : Bool} {K : D -> Prop} {o o' : Option Ob} (h : o = o') : iu kk x zero ok K o = iu kk x zero ok K o' := by rw [h]
theorem Wj {nx:Nat} {xZ:List (Nat × Ob)} {zero:D} {ok:Bool} {key:Nat} {kk:IntKind} {x:Int} {K:D->Prop}:iv ⟨nx,xZ⟩ zero ok (.wD key) (.int kk x) K=iu kk x zero ok K (St.look xZ key):=by simp only [iv,St.get];cases St.look xZ key <;> rfl
theorem Wk {σ:St} {zero:D} {ok:Bool} {kk:IntKind} {x:Int} {K:D->Prop}:iv σ zero ok .oG (.int kk x) K=K (mB ok zero none):=rfl
theorem ml {kk:IntKind} {x:Int} {zero:D} {ok:Bool} {K:D->Prop} {l:List (Int × D)}:iu kk x zero ok K (some ⟨0,cG kk l⟩)= K (mB ok zero (qK x l 0)):=by simp only [iu,aV];exact propext ⟨λh=>h.2.2,λh=>⟨trivial,mf kk l,h⟩⟩
theorem U4 {kk:IntKind} {x:Int} {zero:D} {ok:Bool} {K:D->Prop}:iu kk x zero ok K (some ⟨0,[]⟩)= K (mB ok zero none):=ml (l:=[])
def iy (nx:Nat) (xZ:List (Nat × Ob)) (key:Nat) (kk:IntKind) (y:Int) (x:D) (K:D->St->Prop):Option Ob->Prop
 | some o=>o.sz=0/\fX kk o.xV/\K .rK ⟨nx,zG xZ key ⟨0,re kk o.xV y x⟩⟩
 | none=>False
@[congr] theorem NJ {nx : Nat} {xZ : List (Nat × Ob)} {key : Nat} {kk : IntKind} {y : Int} {x : D} {K : D -> St -> Prop} {o o' : Option Ob} (h : o = o') : iy nx xZ key kk y x K o = iy nx xZ key kk y x K o' := by rw [h]
theorem Wo {nx:Nat} {xZ:List (Nat × Ob)} {key:Nat} {kk:IntKind} {y:Int} {x:D} {K:D->St->Prop}:Xz ⟨nx,xZ⟩ (.wD key) (.int kk y) x K=iy nx xZ key kk y x K (St.look xZ key):=by simp only [Xz,St.get];cases St.look xZ key <;> rfl
theorem mw {nx:Nat} {xZ:List (Nat × Ob)} {key:Nat} {kk:IntKind} {y:Int} {x:D} {K:D->St->Prop} {l:List (Int × D)}:iy nx xZ key kk y x K (some ⟨0,cG kk l⟩)= K .rK ⟨nx,zG xZ key ⟨0,cG kk (T7 l y x)⟩⟩:=by simp only [iy,Wn];exact propext ⟨λh=>h.2.2,λh=>⟨trivial,mf kk l,h⟩⟩
theorem U8 {nx:Nat} {xZ:List (Nat × Ob)} {key:Nat} {kk:IntKind} {y:Int} {x:D} {K:D->St->Prop}:iy nx xZ key kk y x K (some ⟨0,[]⟩)= K .rK ⟨nx,zG xZ key ⟨0,cG kk [(y,x)]⟩⟩:=mw (l:=[])
theorem U9 (zero:D):mB true zero none = .wH [zero,.bool false]:=rfl
theorem UA (zero:D) (i:Nat) (d:D):mB true zero (some (i,d))= .wH [d,.bool true]:=rfl
theorem Wq (zero:D):mB false zero none=zero:=rfl
theorem Wr (zero:D) (i:Nat) (d:D):mB false zero (some (i,d))= d:=rfl
theorem OQ {sz:Nat} {xV:List (List D)} {K:D->Prop}:js (.sl sz xV) K=K (.int .i64 xV.length):=rfl
theorem QX {k sz n:Nat} {K:D->Prop}:js (.yD k sz n) K=K (.int .i64 n):=rfl
theorem Qa {k sz lo n:Nat} {K:D->Prop}:js (.sub k sz lo n) K=K (.int .i64 n):=rfl
theorem QS {sz key sz' lo len:Nat} {k:IntKind} {n:Int} {K:D->Prop}:az sz (.sub key sz' lo len) (.int k n) K=(sz=sz'/\0<=n/\n<len/\K (.ref key sz (lo+n.toNat) 0)):=rfl
theorem Tx {K:D->Prop}:js .xL K=K (.int .i64 0):=rfl
theorem QY {K:D->Prop}:js .emp K=K (.int .i64 0):=rfl
theorem OI {sz sz':Nat} {xV:List (List D)} {k:IntKind} {n:Int} {K:D->Prop}:az sz (.sl sz' xV) (.int k n) K=(sz=sz'/\0<=n/\n<xV.length/\K (.ptr (xV.getD n.toNat []))):=rfl
theorem QR {sz key sz' len:Nat} {k:IntKind} {n:Int} {K:D->Prop}:az sz (.yD key sz' len) (.int k n) K=(sz=sz'/\0<=n/\n<len/\K (.ref key sz n.toNat 0)):=rfl
theorem Qq {neg:Bool} {K:D->Prop}:lW neg .xL .xL K=K (.bool (!neg)):=rfl
theorem Qr {neg:Bool} {K:D->Prop} {a b c:Nat}:lW neg (.yD a b c) .xL K=K (.bool neg):=rfl
theorem Qs {neg:Bool} {K:D->Prop} {a b c:Nat}:lW neg .xL (.yD a b c) K=K (.bool neg):=rfl
theorem Qt {neg:Bool} {K:D->Prop}:lW neg .emp .xL K=K (.bool neg):=rfl
theorem Qu {neg:Bool} {K:D->Prop}:lW neg .xL .emp K=K (.bool neg):=rfl
theorem Qv {neg:Bool} {K:D->Prop} {sz:Nat} {e:List D} {r:List (List D)}:lW neg (.sl sz (e :: r)) .xL K=K (.bool neg):=rfl
def PZ (nx:Nat) (xZ:List (Nat × Ob)) (sz sz' bytes key n:Nat) (rows:List (List D)) (K:D->St->Prop):Option Ob->Prop
 | some ob=>sz=sz'/\ob.sz=sz/\n<=ob.xV.length/\(n+rows.length)* bytes<=140737488355328/\n+rows.length<=8000000000000/\K (.yD nx sz (n+rows.length)) ⟨nx+1,(nx,⟨sz,ob.xV.take n++rows⟩) :: yO xZ key⟩
 | none=>False
@[congr] theorem Lk {nx : Nat} {xZ : List (Nat × Ob)} {sz sz' bytes key n : Nat} {rows : List (List D)} {K : D -> St -> Prop} {o o' : Option Ob} (h : o = o') : PZ nx xZ sz sz' bytes key n rows K o = PZ nx xZ sz sz' bytes key n rows K o' := by rw [h]
theorem TP {q:Bool} {nx:Nat} {xZ:List (Nat × Ob)} {sz sz' bytes key n:Nat} {rows:List (List D)} {K:D->St->Prop} :
  zt q ⟨nx,xZ⟩ sz bytes (.yD key sz' n) (some rows) K=((∀ x ∈ rows,uX x=true)/\ PZ nx xZ sz sz' bytes key n rows K (St.look xZ key)):=by
 rw [Py];simp only [St.get];cases St.look xZ key <;> rfl
theorem TN {nx:Nat} {xZ:List (Nat × Ob)} {sz sz' bytes key n:Nat} {rows:List (List D)} {K:D->St->Prop} {sz0:Nat} {xV:List (List D)} :
  PZ nx xZ sz sz' bytes key n rows K (some ⟨sz0,xV⟩)= (sz=sz'/\sz0=sz/\n<=xV.length/\(n+rows.length)* bytes<=140737488355328/\n+rows.length<=8000000000000/\K (.yD nx sz (n+rows.length)) ⟨nx+1,(nx,⟨sz,xV.take n++rows⟩) :: yO xZ key⟩):=rfl
def Vv (q:Bool) (nx:Nat) (xZ:List (Nat × Ob)) (sz sz' bytes key lo n:Nat) (rows:List (List D)) (K:D->St->Prop):Option Ob->Prop
 | some ob=>q=true/\sz=sz'/\ob.sz=sz/\lo+n<=ob.xV.length/\(n+rows.length)* bytes<=140737488355328/\n+rows.length<=8000000000000 /\
  ∀ pre:List (List D),(pre = []\/pre=ob.xV.take lo)->K (.sub nx sz pre.length (n+rows.length)) ⟨nx+1,(nx,⟨sz,pre++((ob.xV.drop lo).take n++rows)⟩) :: yO xZ key⟩
 | none=>False
@[congr] theorem N9 {q : Bool} {nx : Nat} {xZ : List (Nat × Ob)} {sz sz' bytes key lo n : Nat} {rows : List (List D)} {K : D -> St -> Prop} {o o' : Option Ob} (h : o = o') : Vv q nx xZ sz sz' bytes key lo n rows K o = Vv q nx xZ sz sz' bytes key lo n rows K o' := by rw [h]
theorem TQ {q:Bool} {nx:Nat} {xZ:List (Nat × Ob)} {sz sz' bytes key lo n:Nat} {rows:List (List D)} {K:D->St->Prop} :
  zt q ⟨nx,xZ⟩ sz bytes (.sub key sz' lo n) (some rows) K=((∀ x ∈ rows,uX x=true)/\ Vv q nx xZ sz sz' bytes key lo n rows K (St.look xZ key)):=by
 simp only [zt,St.get];cases St.look xZ key <;> rfl
theorem WB {q:Bool} {nx:Nat} {xZ:List (Nat × Ob)} {sz sz' bytes key lo n:Nat} {rows:List (List D)} {K:D->St->Prop} {sz0:Nat} {xV:List (List D)} :
  Vv q nx xZ sz sz' bytes key lo n rows K (some ⟨sz0,xV⟩)= (q=true/\sz=sz'/\sz0=sz/\lo+n<=xV.length/\(n+rows.length)* bytes<=140737488355328/\n+rows.length<=8000000000000 /\
   ∀ pre:List (List D),(pre = []\/pre=xV.take lo)->K (.sub nx sz pre.length (n+rows.length)) ⟨nx+1,(nx,⟨sz,pre++((xV.drop lo).take n++rows)⟩) :: yO xZ key⟩):=rfl
theorem Ty {key sz:Nat} {xV:List (List D)} {K:D->Prop}:js (xD key sz xV) K=K (.int .i64 xV.length):=by cases xV <;> simp [js,xD]
theorem Tt {key sz sz':Nat} {xV:List (List D)} {k:IntKind} {n:Int} {K:D->Prop}:az sz' (xD key sz xV) (.int k n) K=(sz'=sz/\0<=n/\n<xV.length/\K (.ref key sz n.toNat 0)):=by
 cases xV with
 | nil=>simp only [az,xD,μ]; simp; intro _ h1 h2; omega
 | cons e l=>simp [az,xD]; rintro rfl _ _; rfl
theorem Y9 {key sz:Nat} {neg:Bool} {xV:List (List D)} {K:D->Prop}:lW neg (xD key sz xV) .xL K=K (.bool (if neg then !xV.isEmpty else xV.isEmpty)):=by cases xV <;> cases neg <;> simp [lW,xD]
def sw : List (Nat × Nat)->Nat->Nat
 | [],k=>k
 | (a,b) :: r,k=>if k=a then b else sw r k
def rR (xV:List (List D)):Prop:=∀ e ∈ xV,D.xR e=true
theorem yE (l:List (BitVec 64)):rR (us l)= True:=eq_true (vD l)
theorem nJ (l:List (List (BitVec 64))):rR (rr l)= True:=eq_true (w9 l)
theorem aW (k:IntKind) (l:List Int):rR (rows k l)= True:=eq_true (qV k l)
theorem UK : rR []=True:=by simp [rR]
theorem n9 (a b:List (List D)):rR (a++b)= (rR a/\rR b):=by simp only [rR,List.mem_append];exact propext ⟨λh=>⟨λe he=>h e (.inl he),λe he=>h e (.inr he)⟩,λh e he=>he.elim (h.1 e) (h.2 e)⟩
theorem UL (l:List (BitVec 64)) (i:Nat) (s:BitVec 64):rR ((us l).set i [.int .u64 (ui s)])= True:=by rw [iK,yE]
theorem Vu {σ σ':St} {ρ:Nat->Nat} {a b sz:Nat} {xV:List (List D)}:vw σ σ' ρ (xD a sz xV) (xD b sz xV)= (xV = []\/(b<σ'.nx/\a=ρ b)):=by
 cases xV with
 | nil=>simp [xD,vw]
 | cons e l=>simp [xD,vw]
def L1 (σ':St) (ρ:Nat->Nat) (k0:Nat):Prop:=∀ p ∈ σ'.xZ,ρ p.1≠k0
theorem Z9 {σ σ':St} {ρ:Nat->Nat} {k0 sz:Nat} {xV:List (List D)} (hs:0<sz) (h:L1 σ' ρ k0) (hg:σ.get k0=vA sz xV) (hp:rR xV):vw σ σ' ρ (xD k0 sz xV) (.sl sz xV)= True:=by
 cases xV with
 | nil=>simp [xD,vw]
 | cons e l=> refine eq_true ?_;simp only [xD,vw];exact⟨trivial,hs,h,⟨sz,e :: l⟩,hg,rfl,Aj _,by simp,hp⟩
def Ng (σ σ':St) (ρ:Nat->Nat) (as bs:List (List D)):Prop:=TL σ σ' ρ as bs
theorem Rn {σ σ':St} {ρ:Nat->Nat} {xV:List (List D)} (h:rR xV):Ng σ σ' ρ xV xV=True:=eq_true (.same h)
end
section
variable [tR]
theorem Xr {σ σ':St} {ρ:Nat->Nat}:∀ {a:List D},D.xR a=true->uK σ σ' ρ a a:=by
 intro a h
 have key:∀ d:D,d.xF=true->vw σ σ' ρ d d:=by
  intro d
  refine D.rec (motive_1:=λd=>d.xF=true->vw σ σ' ρ d d) (motive_2:=λ_=>True) (motive_3:=λcs=>D.xR cs=true->uK σ σ' ρ cs cs)
   ?top ?rK ?int ?bool ?str ?sl ?xL ?emp ?agg ?wH ?fn ?ref ?yD ?sub ?ptr ?wD ?qQ ?oG ?mC ?j8 trivial (λ_ _ _ _=>trivial) ?nil ?cons d
  case agg=>intro cs ih h; simp only [D.xF] at h; simp only [vw]; exact⟨trivial,ih h⟩
  case wH=>intro cs ih h; simp only [D.xF] at h; simp only [vw]; exact⟨trivial,ih h⟩
  case fn=>intro f cs ih h; simp only [D.xF] at h; simp only [vw]; exact⟨trivial,trivial,ih h⟩
  case ref=>intro k sz i off h; simp [D.xF] at h
  case yD=>intro k sz n h; simp [D.xF] at h
  case sub=>intro k sz lo n h; simp [D.xF] at h
  case wD=>intro k h; simp [D.xF] at h
  case nil=>intro _; simp [uK]
  case cons=> intro d r h1 h2 h;simp only [D.xR,Ai] at h;simp only [uK];exact⟨h1 h.1,h2 h.2⟩
  case ptr=>intro cs _ _; simp [vw]
  all_goals intros; simp [vw]
 induction a with
 | nil=>simp [uK]
 | cons d r ih=> simp only [D.xR,Ai] at h;simp only [uK];exact⟨key d h.1,ih h.2⟩
theorem Xq {σ σ':St} {ρ:Nat->Nat}:∀ {xV:List (List D)} {a b:List D},rR xV->a.length=b.length->uK σ σ' ρ a b->TL σ σ' ρ (xV ++ [a]) (xV ++ [b])
 | [],a,b,_,hl,h=>.cons hl h .nil
 | e :: r,a,b,hp,hl,h=>.cons rfl (Xr (hp e (by simp))) (Xq (λx hx=>hp x (by simp [hx])) hl h)
theorem Mq {σ σ':St} {ρ:Nat->Nat} {xV:List (List D)} {a b:List D} (h:Ng σ σ' ρ (xV ++ [a]) (xV ++ [b])):a.length=b.length/\uK σ σ' ρ a b:=by
 have:=(tm (show TL σ σ' ρ (xV ++ [a]) (xV ++ [b]) from h)).2 xV.length (by simp);have e1:∀ x:List D,(xV ++ [x]).getD xV.length []=x:=by intro x; simp [List.getD]
 rw [e1,e1] at this;refine⟨this.1,?_⟩
 rcases this.2 with h | ⟨h1,h2⟩
 ·exact h
 ·rw [h1]; exact Xr h2
theorem qd {σ σ':St} {ρ:Nat->Nat} {xV:List (List D)} {a b:List D} (hp:rR xV):Ng σ σ' ρ (xV ++ [a]) (xV ++ [b])= (a.length=b.length/\uK σ σ' ρ a b):= propext ⟨λh=>Mq h,λh=>Xq hp h.1 h.2⟩
theorem PM {σ σ':St} {ρ:Nat->Nat} {a b:List D}:Ng σ σ' ρ [a] [b]=(a.length=b.length/\uK σ σ' ρ a b):=qd (xV:=[]) (by simp [rR])
theorem Mr {σ σ':St} {ρ:Nat->Nat} {l:List (List (BitVec 64))} {r:List (BitVec 64)} {x:D}:Ng σ σ' ρ (rr l ++ [[x]]) (rr (l ++ [r]))= uK σ σ' ρ [x] [.sl 1 (us r)]:=by rw [<- z6,qd (w9 l)];simp
def wY (σ σ':St) (ρ:Nat->Nat) (p:Nat × Ob):Prop:=p.1<σ'.nx/\∃ ob,σ.get (ρ p.1)= some ob/\ob.sz=p.2.sz/\Ng σ σ' ρ ob.xV p.2.xV
def oI (σ σ':St) (ρ:Nat->Nat) (l:List (Nat × Ob)):Prop:=∀ p ∈ l,wY σ σ' ρ p
theorem zi {σ σ':St} {ρ:Nat->Nat}:oI σ σ' ρ []=True:=by simp [oI]
theorem bA {σ σ':St} {ρ:Nat->Nat} {p:Nat × Ob} {l:List (Nat × Ob)}:oI σ σ' ρ (p :: l)= (wY σ σ' ρ p/\oI σ σ' ρ l):=by simp [oI]
theorem nm {σ σ':St} {ρ:Nat->Nat} {k sz:Nat} {xV:List (List D)} {l:List (Nat × Ob)} (hk:k<σ'.nx) (hg:σ.get (ρ k)= vA sz xV) (hp:rR xV):oI σ σ' ρ (yX k sz xV++l)= oI σ σ' ρ l:=by
 cases xV with
 | nil=>rfl
 | cons e r=> simp only [yX,ο,η,bA];refine propext ⟨λh=>h.2,λh=>⟨⟨hk,⟨sz,e :: r⟩,hg,rfl,.same hp⟩,h⟩⟩
theorem YJ {σ σ':St} {ρ:Nat->Nat} {k sz:Nat} {xV:List (List D)} (hk:k<σ'.nx) (hg:σ.get (ρ k)= vA sz xV) (hp:rR xV):oI σ σ' ρ (yX k sz xV)= True:=by have:=nm (l:=[]) hk hg hp;rw [δ,zi] at this;exact this
theorem QN {sz:Nat} {xV:List (List D)} (h:xV ≠ []):vA sz xV=some ⟨sz,xV⟩:=by
 cases xV with
 | nil=>exact absurd rfl h
 | cons e r=>rfl
theorem ve {σ σ':St} {ρ:Nat->Nat} {k sz:Nat} {xV els':List (List D)} {l:List (Nat × Ob)} (hk:k<σ'.nx) (hg:σ.get (ρ k)= vA sz els') (hq:Ng σ σ' ρ els' xV):oI σ σ' ρ (yX k sz xV++l)= oI σ σ' ρ l:=by
 cases xV with
 | nil=>rfl
 | cons e r=>
  have hne:els' ≠ []:=by rintro rfl;have:=(tm (show TL σ σ' ρ [] (e :: r) from hq)).1;simp at this
  simp only [yX,ο,η,bA];refine propext ⟨λh=>h.2,λh=>⟨⟨hk,⟨sz,els'⟩,?_,rfl,hq⟩,h⟩⟩;rw [hg,QN hne]
theorem p5 {σ σ':St} {ρ:Nat->Nat} {k sz:Nat} {xV els':List (List D)} (hk:k<σ'.nx) (hg:σ.get (ρ k)= vA sz els') (hq:Ng σ σ' ρ els' xV):oI σ σ' ρ (yX k sz xV)= True:=by have:=ve (l:=[]) hk hg hq;rw [δ,zi] at this;exact this
def Ze (ks:List Nat) (l:List (Nat × Ob)):Prop:=∀ p ∈ l,p.1 ∈ ks
theorem VY {ks:List Nat}:Ze ks []=True:=by simp [Ze]
theorem Yo {ks:List Nat} {p:Nat × Ob} {l:List (Nat × Ob)}:Ze ks (p :: l)= (p.1 ∈ ks/\Ze ks l):=by simp [Ze]
theorem Yp {ks:List Nat} {k sz:Nat} {xV:List (List D)} {l:List (Nat × Ob)} (h:k ∈ ks):Ze ks (yX k sz xV++l)= Ze ks l:=by
 cases xV with
 | nil=>rfl
 | cons e r=>simp [yX,Yo,h]
theorem Tu {ks:List Nat} {k sz:Nat} {xV:List (List D)} (h:k ∈ ks):Ze ks (yX k sz xV)= True:=by have:=Yp (sz:=sz) (xV:=xV) (l:=[]) h;rw [δ,VY] at this;exact this
def aC (ρ:Nat->Nat) (k0:Nat) (l:List (Nat × Ob)):Prop:=∀ p ∈ l,ρ p.1≠k0
theorem Nq {σ':St} {ρ:Nat->Nat} {k0:Nat}:L1 σ' ρ k0=aC ρ k0 σ'.xZ:=propext Iff.rfl
theorem cj {ρ:Nat->Nat} {k0:Nat}:aC ρ k0 []=True:=by simp [aC]
theorem kq {ρ:Nat->Nat} {k0:Nat} {p:Nat × Ob} {l:List (Nat × Ob)}:aC ρ k0 (p :: l)= (ρ p.1≠k0/\aC ρ k0 l):=by simp [aC]
theorem ku {ρ:Nat->Nat} {k0 k sz:Nat} {xV:List (List D)} {l:List (Nat × Ob)}:aC ρ k0 (yX k sz xV++l)= ((xV = []\/ρ k≠k0)/\ aC ρ k0 l):=by
 cases xV with
 | nil=>simp [yX]
 | cons e r=>simp [yX,kq]
theorem Zq {ρ:Nat->Nat} {k0 k sz:Nat} {xV:List (List D)}:aC ρ k0 (yX k sz xV)= (xV = []\/ρ k≠k0):=by have:=ku (ρ:=ρ) (k0:=k0) (k:=k) (sz:=sz) (xV:=xV) (l:=[]);rw [δ,cj,and_true] at this;exact this
theorem yR.W7 {C:Cx} {f f':Fr} {σ σ':St} (l:List (Nat × Nat)) (ks:List Nat) (hn:C.n0<=σ'.nx) (h0:∀ p ∈ l,C.n0<=p.1) (hd:(ks.map (sw l)).Nodup)
  (h:Ze ks σ'.xZ/\oI σ σ' (sw l) σ'.xZ/\bo σ σ' (sw l) f f'):yR C f σ f' σ':=by
 obtain⟨hk,hs,hf⟩:=h
 refine yR.view (sw l) hn ?_ hf ?_ ?_
 ·intro k hk
  induction l with
  | nil=>rfl
  | cons p l ih=>
   obtain⟨a,b⟩:=p;have:C.n0<=a:=h0 (a,b) (by simp);simp only [sw];rw [if_neg (by omega)];have hm:∀ p ∈ l,C.n0<=p.1:=λp hp=>h0 p (by simp [hp]);clear ih hd hs hf h0
   induction l with
   | nil=>rfl
   | cons q l ih=> obtain⟨c,d⟩:=q;have:C.n0<=c:=hm (c,d) (by simp);simp only [sw];rw [if_neg (by omega)];exact ih λp hp=>hm p (by simp [hp])
 ·intro p hp;obtain⟨h1,ob,h2,h3,h4⟩:=hs p hp;exact⟨h1,ob,h2,h3,h4⟩
 ·intro p hp q hq e;have h1:=hk p hp;have h2:=hk q hq
  have inj:∀ (ks:List Nat),(ks.map (sw l)).Nodup->∀ a ∈ ks,∀ b ∈ ks,sw l a=sw l b->a=b:=by
   intro ks
   induction ks with
   | nil=>intro _ a ha; simp at ha
   | cons x ks ih=>
    intro hd a ha b hb e;simp only [ζ,List.nodup_cons,ε,not_exists,not_and] at hd
    rcases κ.1 ha with h1 | h1 <;> rcases κ.1 hb with h2 | h2
    ·rw [h1,h2]
    ·rw [h1] at e; exact absurd e.symm (hd.1 b h2)
    ·rw [h2] at e; exact absurd e (hd.1 a h1)
    ·exact ih hd.2 a h1 b h2 e
  exact inj ks hd _ h1 _ h2 e
theorem sJ.W7 {n0:Nat} {σ σ':St} {d d':D} (l:List (Nat × Nat)) (ks:List Nat) (hn:n0<=σ'.nx) (h0:∀ p ∈ l,n0<=p.1) (hd:(ks.map (sw l)).Nodup)
  (h:Ze ks σ'.xZ/\oI σ σ' (sw l) σ'.xZ/\vw σ σ' (sw l) d d'):sJ n0 σ d σ' d':=by
 obtain⟨hk,hs,hf⟩:=h
 refine .inr ⟨sw l,hn,?_,hf,?_,?_⟩
 ·intro k hk;have hm:∀ p ∈ l,n0<=p.1:=h0;clear hd hs hf h0
  induction l with
  | nil=>rfl
  | cons q l ih=> obtain⟨c,d⟩:=q;have:n0<=c:=hm (c,d) (by simp);simp only [sw];rw [if_neg (by omega)];exact ih λp hp=>hm p (by simp [hp])
 ·intro p hp;obtain⟨h1,ob,h2,h3,h4⟩:=hs p hp;exact⟨h1,ob,h2,h3,h4⟩
 ·intro p hp q hq e;have h1:=hk p hp;have h2:=hk q hq
  have inj:∀ (ks:List Nat),(ks.map (sw l)).Nodup->∀ a ∈ ks,∀ b ∈ ks,sw l a=sw l b->a=b:=by
   intro ks
   induction ks with
   | nil=>intro _ a ha; simp at ha
   | cons x ks ih=>
    intro hd a ha b hb e;simp only [ζ,List.nodup_cons,ε,not_exists,not_and] at hd
    rcases κ.1 ha with h1 | h1 <;> rcases κ.1 hb with h2 | h2
    ·rw [h1,h2]
    ·rw [h1] at e; exact absurd e.symm (hd.1 b h2)
    ·rw [h2] at e; exact absurd e (hd.1 a h1)
    ·exact ih hd.2 a h1 b h2 e
  exact inj ks hd _ h1 _ h2 e
def jb (C:Cx) (Q:Exit->Fr->St->Prop) (e:Exit) (f:Fr) (σ:St):Prop:=∃ f' σ',yR C f σ f' σ'/\Q e f' σ'
theorem jb.zL {C:Cx} {Q:Exit->Fr->St->Prop} {e:Exit} {f:Fr} {σ:St} (h:Q e f σ):jb C Q e f σ:=⟨f,σ,yR.refl,h⟩
theorem jb.go {C:Cx} {Q:Exit->Fr->St->Prop} {e:Exit} {f:Fr} {σ:St} (f':Fr) (σ':St) (hw:yR C f σ f' σ') (h:Q e f' σ'):jb C Q e f σ:=⟨f',σ',hw,h⟩
theorem Uo {C:Cx} {dc:DC} {f:Fr} {σ:St} {Q:Exit->Fr->St->Prop} (h:wpS C dc f σ (jb C Q)):wpS C dc f σ Q:=by intro code hc E a w G;refine wpIn_mono (h code hc E a w G) λe a' w' hh=>?_;obtain⟨f1,σ1,G1,f2,σ2,hw,hq⟩:=hh;exact⟨f2,σ2,hw E a' w' G1,hq⟩
theorem sZ {C:Cx} {dc:DC} {f:Fr} {σ:St} {Q:Exit->Fr->St->Prop} {α:Type} (g:α->Fr) (s:α->St) (I:α->Prop) (m:α->Nat) (a0:α) (h0:I a0) (hw:yR C f σ (g a0) (s a0))
  (round:∀ a,I a->wpS C dc (g a) (s a) (jJ (λf' σ'=>∃ a',I a'/\yR C f' σ' (g a') (s a')/\ m a'<m a) (jb C Q))):wpS C (.loop dc) f σ Q:=
 Uo (xU g s I m a0 h0 hw round)
end
theorem NN : ((0:Nat):Int)= 0:=rfl
theorem vX {k:Nat} (h:k<9223372036854775807):IntKind.i64.wrap ((k:Int)+ 1)= ((k+1:Nat):Int):=by rw [wrap_i64 (by omega)]; omega
section
variable [tR]
theorem KT (f:Fr) (n:Nat):pI f (.t n)= Fr.get f n:=rfl
theorem KS (f:Fr) (d:D):pI f (.c d)= d:=rfl
theorem RC (f:Fr) (t:Nat) (d:D):Fr.put f (some t) d=(t,d) :: f:=rfl
theorem RB (f:Fr) (d:D):Fr.put f none d=f:=rfl
theorem get_nil (n:Nat):Fr.get [] n = .top:=rfl
theorem QM (t:Nat) (d:D) (r:Fr) (n:Nat):Fr.get ((t,d) :: r) n=if t=n then d else Fr.get r n:=rfl
theorem look_nil (k:Nat):St.look [] k=none:=rfl
theorem xX (j:Nat) (o:Ob) (r:List (Nat × Ob)) (k:Nat):St.look ((j,o) :: r) k=if j=k then some o else St.look r k:=rfl
theorem RX (k:Nat) (o:Ob):zG [] k o = []:=rfl
theorem oD (j:Nat) (o:Ob) (r:List (Nat × Ob)) (k:Nat) (o':Ob):zG ((j,o) :: r) k o'=if j=k then(j,o') :: r else(j,o) :: zG r k o':=rfl
theorem WT (k:Nat):yO [] k = []:=rfl
theorem Y0 (j:Nat) (o:Ob) (r:List (Nat × Ob)) (k:Nat):yO ((j,o) :: r) k=if j=k then yO r k else(j,o) :: yO r k:=rfl
theorem MD (n:Nat) (l:List (Nat × Ob)) (k:Nat):St.get ⟨n,l⟩ k=St.look l k:=rfl
theorem set_mk (n:Nat) (l:List (Nat × Ob)) (k:Nat) (o:Ob):St.set ⟨n,l⟩ k o=⟨n,zG l k o⟩:=rfl
theorem MP (n:Nat) (l:List (Nat × Ob)) (o:Ob):St.new ⟨n,l⟩ o=⟨n+1,(n,o) :: l⟩:=rfl
theorem QG (n:Nat) (l:List (Nat × Ob)) (k:Nat):St.erase ⟨n,l⟩ k=⟨n,yO l k⟩:=rfl
theorem UV (σ:St) (sz sz':Nat) (xV:List (List D)):rowsOf σ sz (.sl sz' xV)= if sz=sz' then some xV else none:=rfl
theorem YF (σ:St) (sz:Nat):rowsOf σ sz .xL=some []:=rfl
theorem Z4 (σ:St) (sz:Nat):rowsOf σ sz .emp=some []:=rfl
def zD :=γ @S8 (γ @PQ (γ @S4 (γ @PS (γ @Ry (γ @Up (γ @S3 (γ @S6 (γ @Rx (γ @PR (γ @Uq (γ @XQ (γ @UH (γ @R6 (γ @UE (γ @OC @OD)))))))))))))))
def zT :=γ @KT (γ @KS (γ @RC (γ @RB (γ @get_nil (γ @QM (γ @look_nil (γ @xX (γ @RX (γ @oD (γ @WT (γ @Y0 (γ @MD (γ @set_mk (γ @MP (γ @QG (γ @UV (γ @YF (γ @Z4 (γ @Int.cast_ofNat_Int (γ @NN (γ @Int.toNat_zero (γ @Int.toNat_one (γ @beq_self_eq_true.{0} (γ @bne_self_eq_false.{0} (γ @Bool.false_eq_true (γ @QF (γ @QK (γ @OB (γ @Q4 (γ @WC (γ @Pz (γ @TP (γ @TN (γ @TQ (γ @WB (γ @Ri (γ @Ui (γ @Uh (γ @Ty (γ @OQ (γ @QX (γ @Qa (γ @Tx (γ @QY (γ @Tt (γ @OI (γ @QR (γ @QS (γ @Y9 (γ @Qq (γ @Qr (γ @Qs (γ @Qt (γ @Qu (γ @Qv (γ @U3 (γ @Wi (γ @Wh (γ @U1 (γ @Qp (γ @Qo (γ @OY (γ @Wj (γ @Wk (γ @ml (γ @U4 (γ @Wo (γ @mw (γ @U8 (γ @U9 (γ @UA (γ @Wq (γ @Wr (γ @wW (γ @uq (γ @uj (γ @l7 (γ @gy (γ @ni (γ @p3 (γ @Option.or_none.{0} (γ @List.length_set.{0} (γ @Zt (γ @UC (γ @Nat.lt_irrefl (γ @yV (γ @xT (γ @Vs (γ @true_and (γ @and_true (γ @ν.{0} (γ @List.getD_cons_succ.{0} (γ @ψ.{0} (γ @μ.{0} (γ @Bool.not_true (γ @Bool.not_false (γ @ζ.{0,0} (γ @List.map_nil.{0,0} (γ @η.{0} (γ @ο.{0} (γ @δ.{0} (γ @UG (γ @UF (γ @List.take_succ_cons.{0} (γ @List.take_zero.{0} (γ @List.drop_succ_cons.{0} (γ @List.drop_zero.{0} (γ @false_implies (γ @or_true (γ @true_or (γ @Aj (γ @Ap (γ @and_self (γ @Pb (γ @Pc (γ @Js (γ @Jt (γ @Mg (γ @Kl (γ @Sh (γ @Uk (γ @Mf (γ @Mo (γ @Mi (γ @Ml (γ @Mm (γ @Mj (γ @Sg (γ @Mh (γ @Me (γ @not_false_eq_true (γ @TW (γ @Ta (γ @TV (γ @WG (γ @TX (γ @Q7 (γ @WL (γ @TU (γ @TT (γ @Q6 (γ @TY (γ @TZ (γ @WH (γ @WK (γ @WJ (γ @WI (γ @Oi (γ @Qx (γ @Oq (γ @MT (γ @R4 (γ @Og (γ @MS (γ @On (γ @Ol (γ @Om (γ @R0 (γ @R3 (γ @R2 (γ @R1 (γ @ξ.{0} (γ @List.all_nil.{0} (γ @Bool.and_true (γ @Bool.and_self (γ @List.set_cons_zero.{0} (γ @List.set_cons_succ.{0} (γ @Al (γ @Nat.add_zero (γ @Nat.zero_lt_succ (γ @Nat.lt_add_one (γ @decide_true (γ @decide_false (γ @gt_iff_lt.{0} (γ @ge_iff_le.{0} (γ @yZ (γ @P6 (γ @Bool.true_and (γ @decide_eq_true_eq (γ @decide_eq_false_iff_not (γ @yA (γ @lz (γ @yB (γ @mc (γ @UY (γ @ze (γ @tl (γ @z6 (γ @lQ (γ @zd (γ @iJ (γ @y8 (γ @θ.{0} (γ @List.cons_ne_nil.{0} (γ @List.take_length.{0} (γ @Option.map_some.{0,0} (γ @Option.map_none.{0,0} (γ @χ.{0} (γ @Sf @Vq)))))))))))))))))))))))))))))))))))))))))))))))))))))))))))))))))))))))))))))))))))))))))))))))))))))))))))))))))))))))))))))))))))))))))))))))))))))))))))))))))))))))))))))))))))))))))))))))))))))))
def zR :=γ @NN (γ @Yp (γ @Tu (γ @Yo (γ @VY (γ @nm (γ @YJ (γ @ve (γ @p5 (γ @bA (γ @zi (γ @Mr (γ @qd (γ @Rn (γ @PM (γ @Vu (γ @Z9 (γ @Nq (γ @ku (γ @Zq (γ @kq (γ @cj (γ @yE (γ @nJ (γ @aW (γ @UK (γ @n9 (γ @UL (γ @wW (γ @uq (γ @Option.or_none.{0} (γ @Nat.zero_lt_succ (γ @Nat.lt_add_one (γ @Option.some.injEq.{0} (γ @and_true (γ @true_and (γ @and_self (γ @or_true (γ @true_or (γ @not_false_eq_true (γ @κ.{0} (γ @θ.{0} (γ @List.not_mem_nil.{0} (γ @D.int.injEq (γ @D.bool.injEq (γ @D.sl.injEq (γ @D.ref.injEq (γ @ψ.{0} (γ @μ.{0} (γ @tl (γ @ze (γ @z6 (γ @Al (γ @y8 (γ @iJ (γ @Sf (γ @Vq (γ @lQ @zd)))))))))))))))))))))))))))))))))))))))))))))))))))))))))
end
end Go.Pd
namespace Go.Pd
open Go Go.ChangeShapes Go.WideShapes Go.RowKit
def qi : List (Nat × Nat)->Nat->Nat->Bool
 | [],o,n=>o==n
 | (a,s) :: r,o,n=>(a==o)&& qi r (o+s) n
def pU (P:Program):Nat->TypeId->Bool
 | 0,_=>false
 | n+1,t=>match P.underlying t with
  | some .bool=>true
  | some (.int _)=>true
  | some .string=>true
  | some (.slice e)=>pU P n e&&decide (0<P.cellsOf e)
  | some (.struct fs)=>(fs.toList.all λf=>pU P n f.type)&& qi (fs.toList.map λf=>(f.offset,P.cellsOf f.type)) 0 (P.cellsOf t)
  | some (.array k e)=>pU P n e&&(P.cellsOf t==k*P.cellsOf e)
  | _=>false
mutual
def wS (P:Program):Nat->TypeId->List D->Prop
 | 0,_,_=>False
 | n+1,t,ds=>match P.underlying t with
  | some .bool=>∃ b,ds = [.bool b]
  | some (.int k)=>∃ i,ds = [.int k i]
  | some .string=>∃ s,ds = [.str s]
  | some (.slice e)=>∃ xV,ds = [.sl (P.cellsOf e) xV]/\∀ row ∈ xV,wS P n e row
  | some (.struct fs)=>pA P n (fs.toList.map λf=>f.type) ds
  | some (.array k e)=>pA P n (List.replicate k e) ds
  | _=>False
def pA (P:Program):Nat->List TypeId->List D->Prop
 | _,[],ds=>ds = []
 | n,f :: fs,ds=>∃ a b,ds=a++b/\wS P n f a/\pA P n fs b
end
def bE (P:Program) (n:Nat) (t:TypeId) (d:D):Prop:=
 match P.underlying t with
 | some (.struct _)=>∃ ds,d = .agg ds/\wS P n t ds
 | some (.array _ _)=>∃ ds,d = .agg ds/\wS P n t ds
 | _=>wS P n t [d]
def z7 (P:Program) (n:Nat):List TypeId->List D->Prop
 | [],as=>as = []
 | t :: ts,as=>∃ a r,as=a :: r/\bE P n t a/\z7 P n ts r
def rj (w:World) (cs:List Value) (ds:List D):Prop:=ds.length=cs.length/\∀ j,j<ds.length->RP (λ_=>False) w (cs.getD j undef) (ds.getD j .top)
theorem uv {w:World} {a b:List Value} {x y:List D} (h:rj w a x) (h':rj w b y):rj w (a++b) (x++y):=by
 refine⟨by simp [h.1,h'.1],λj hj=>?_⟩;simp only [List.getD]
 by_cases hx:j<x.length
 ·rw [τ hx,τ (by rw [<- h.1]; exact hx)];exact h.2 j hx
 ·have h1:=h.1;rw [π (by omega),π (by omega),<- h.1];rw [χ] at hj;exact h'.2 (j-x.length) (by omega)
section
variable {H : Type} {nB : TypeId × Value -> H} {P : Program} {w : World} {sp : Nat -> Bool} {held : Bool}
theorem dh {n:Nat} (key:∀ (t:TypeId) (cs:List Value) (fuel:Nat) (x:DataW H × List MemPlace),pU P n t=true->DataW.trod nB P w 0 sp held fuel t cs=some x->∃ ds,rj w cs ds/\wS P n t ds) {cs:List Value} {fuel:Nat} :
  ∀ (fl:List Field) (o:Nat),(fl.all λf=>pU P n f.type)= true->qi (fl.map λf=>(f.offset,P.cellsOf f.type)) o cs.length=true ->
   (∀ f ∈ fl,∃ x,DataW.trod nB P w 0 sp held fuel f.type ((cs.drop f.offset).take (P.cellsOf f.type))= some x)->∃ ds,rj w (cs.drop o) ds/\pA P n (fl.map λf=>f.type) ds
 | [],o,_,hc,_=>by simp only [List.map_nil,qi,beq_iff_eq] at hc;subst hc;exact⟨[],by simp [rj],by simp [pA]⟩
 | f :: fl,o,hp,hc,hx=>by
  simp only [ξ,Ai] at hp;simp only [ζ,qi,Ai,beq_iff_eq] at hc;obtain⟨x,h1⟩:=hx f (by simp);obtain⟨a,ha,hsa⟩:=key _ _ _ _ hp.1 h1;obtain⟨b,hb,hsb⟩:=dh key fl (o+P.cellsOf f.type) hp.2 hc.2 λg hg=>hx g (by simp [hg]);refine⟨a++b,?_,by simp only [ζ,pA]; exact⟨a,b,rfl,hsa,hsb⟩⟩;rw [hc.1] at ha
  have e:cs.drop o=(cs.drop o).take (P.cellsOf f.type)++ cs.drop (o+P.cellsOf f.type):=by rw [<- List.drop_drop,υ]
  rw [e];exact uv ha hb
theorem SI {n:Nat} (key:∀ (t:TypeId) (cs:List Value) (fuel:Nat) (x:DataW H × List MemPlace),pU P n t=true->DataW.trod nB P w 0 sp held fuel t cs=some x->∃ ds,rj w cs ds/\wS P n t ds) {cs:List Value} {fuel:Nat} {e:TypeId} (hp:pU P n e=true) :
  ∀ (k o:Nat),cs.length=(o+k)* P.cellsOf e ->
   (∀ i,o<=i->i<o+k->∃ x,DataW.trod nB P w 0 sp held fuel e ((cs.drop (i*P.cellsOf e)).take (P.cellsOf e))= some x)->∃ ds,rj w (cs.drop (o*P.cellsOf e)) ds/\pA P n (List.replicate k e) ds
 | 0,o,hl,_=>⟨[],by rw [List.drop_eq_nil_of_le (by rw [hl]; simp)]; simp [rj],by simp [pA]⟩
 | k+1,o,hl,hx=>by
  obtain⟨x,h1⟩:=hx o (Aj _) (by omega);obtain⟨a,ha,hsa⟩:=key _ _ _ _ hp h1;obtain⟨b,hb,hsb⟩:=SI key hp k (o+1) (by rw [hl]; congr 1; omega) λi h1 h2=>hx i (by omega) (by omega);refine⟨a++b,?_,by simp only [List.replicate_succ,pA]; exact⟨a,b,rfl,hsa,hsb⟩⟩
  have e1:cs.drop (o*P.cellsOf e)= (cs.drop (o*P.cellsOf e)).take (P.cellsOf e)++ cs.drop ((o+1)* P.cellsOf e):=by rw [Nat.succ_mul,<- List.drop_drop,υ]
  rw [e1];exact uv ha hb
theorem tj : ∀ (n:Nat) (t:TypeId) (cs:List Value) (fuel:Nat) (x:DataW H × List MemPlace),pU P n t=true->DataW.trod nB P w 0 sp held fuel t cs=some x->∃ ds,rj w cs ds/\wS P n t ds
 | 0,t,cs,fuel,x,hp,_=>by simp [pU] at hp
 | n + 1,t,cs,fuel,x,hp,h=>by
  unfold pU at hp;unfold wS
  split at hp
  ·rename_i hu;obtain⟨b,rfl,_⟩:=DataW.trod_bool hu h;exact⟨[.bool b],⟨rfl,λj hj=>by simp at hj; subst hj; exact .bool b⟩,⟨b,rfl⟩⟩
  ·rename_i k hu;obtain⟨i,rfl,_,hw⟩:=DataW.trod_int hu h;refine⟨[.int k i],⟨rfl,λj hj=>?_⟩,⟨i,rfl⟩⟩;simp at hj; subst hj;simp only [Lit.wf,Ai,decide_eq_true_eq] at hw;exact .int hw
  ·rename_i hu;obtain⟨s,rfl,_,hs⟩:=DataW.trod_string hu h;exact⟨[.str s],⟨rfl,λj hj=>by simp at hj; subst hj; exact .str hs⟩,⟨s,rfl⟩⟩
  ·rename_i e hu;simp only [Ai,decide_eq_true_eq] at hp
   rcases Deep.open_slice hu h with ⟨rfl,_⟩ | ⟨a,len,cap,m,fu,Dd,Pl,rfl,_,hl,hm,hmm,_,hx⟩
   ·exact⟨[.sl (P.cellsOf e) []],⟨rfl,λj hj=>by simp at hj; subst hj; exact .kd none 0 _ (λ_=>rfl)⟩,⟨[],rfl,by simp⟩⟩
   ·have hle:len<=m:=by rw [hmm]; split <;> omega
    by_cases h0:len=0
    ·subst h0;exact⟨[.sl (P.cellsOf e) []],⟨rfl,λj hj=>by simp at hj; subst hj; exact .kd (some a) cap _ (λh=>by cases h)⟩,⟨[],rfl,by simp⟩⟩
    ·obtain⟨f,hf⟩:=Deep.choose_lt (α:=List Value × List D) (n:=len) (p:=λi y=>w.cells? 0 (a.add (i*P.cellsOf e)) (P.cellsOf e)= some y.1/\rj w y.1 y.2/\wS P n e y.2) λi hi=>by obtain⟨cs',h1,h2⟩:=hx i (by omega);obtain⟨ds,h3,h4⟩:=tj n e cs' fu _ hp.1 h2;exact⟨(cs',ds),h1,h3,h4⟩
     have hcells:∀ i,i<len->∀ j,j<P.cellsOf e->w.cell? ((a.add (i*P.cellsOf e)).add j)= some ((f i).1.getD j undef):=by intro i hi j hj;obtain⟨_,h2,h3⟩:=World.cells?_some (hf i hi).1;rw [h3 j hj];simp [List.getD,show j<(f i).1.length by omega]
     have hlen:∀ i,i<len->(f i).1.length=P.cellsOf e:=λi hi=>(World.cells?_some (hf i hi).1).2.1
     have hspot:a.spot=none:=by have:=World.cell?_spot (hcells 0 (by omega) 0 hp.2);simpa [Addr.add] using this
     obtain⟨b,off,spot⟩:=a;simp only at hspot;subst hspot
     have hadd:∀ i j,((⟨b,off,none⟩:Addr).add i).add j=⟨b,off+i+j,none⟩:=by
      intro i j;rw [Deep.add_add];unfold Addr.add
      by_cases h:i+j=0
      ·have h1:i=0:=by omega
       have h2:j=0:=by omega
       subst h1; subst h2; rfl
      ·rw [if_neg h]; simp [Nat.add_assoc]
     have xV:∀ i,i<len->((List.range len).map λi=>(f i).2).getD i []=(f i).2:=by intro i hi;simp [List.getD,hi]
     refine⟨[.sl (P.cellsOf e) ((List.range len).map λi=>(f i).2)],⟨rfl,λj hj=>?_⟩,⟨_,rfl,?_⟩⟩
     ·simp at hj; subst hj;simp only [ν]
      have:=RP.sl (M:=λ_=>False) (w:=w) (b:=b) (off:=off) (cap:=cap) (sz:=P.cellsOf e) (xV:=(List.range len).map λi=>(f i).2) (λi j=>(f i).1.getD j undef) hp.2 (λh=>h) (by simpa using hl) hm ?_ ?_ ?_
      ·simpa using this
      ·intro x hx';simp only [ε,List.mem_range] at hx';obtain⟨i,hi,rfl⟩:=hx';rw [(hf i hi).2.1.1,hlen i hi]
      ·intro i hi j hj;have hi':i<len:=by simpa using hi
       have:=hcells i hi' j hj;rw [hadd] at this;exact this
      ·intro i hi j hj;have hi':i<len:=by simpa using hi
       rw [xV i hi'];exact(hf i hi').2.1.2 j (by rw [(hf i hi').2.1.1,hlen i hi']; exact hj)
     ·intro row hrow;simp only [ε,List.mem_range] at hrow;obtain⟨i,hi,rfl⟩:=hrow;exact(hf i hi).2.2
  ·rename_i fs hu;simp only [Ai] at hp;obtain⟨xs,n',_,_,hlen,hsz,hf⟩:=DataW.trod_struct hu h;rw [<- hlen] at hp
   obtain⟨ds,h1,h2⟩:=dh (λt cs fuel x=>tj n t cs fuel x) (fuel:=n') fs.toList 0 hp.1 hp.2 λg hg=>by
    obtain⟨i,hi,rfl⟩:=List.getElem_of_mem hg;have hi':i<fs.size:=by simpa using hi
    have:=hf i fs[i] (by simp [hi']);refine⟨xs[i]'(by omega),?_⟩;simp only [Array.getElem_toList];rw [this];simp [show i<xs.length by omega]
   exact⟨ds,by simpa using h1,h2⟩
  ·rename_i k e hu;simp only [Ai,beq_iff_eq] at hp;obtain⟨xs,m,_,_,hlen,hxs,hf⟩:=DataW.trod_array hu h
   obtain⟨ds,h1,h2⟩:=SI (λt cs fuel x=>tj n t cs fuel x) (fuel:=m) hp.1 k 0 (by rw [hlen,hp.2]; simp) λi _ hi=>by have:=hf i (by omega);rw [this];simp [show i<xs.length by omega]
   exact⟨ds,by simpa using h1,h2⟩
  ·cases hp
end
section
variable {H : Type} {nB : TypeId × Value -> H} {P : Program} {w : World} {sp : Nat -> Bool} {held : Bool}
theorem l9 {r:Reach} {b:Nat} {t:TypeId} {v:Value} {k:Nat} {e:TypeId} (ht:P.underlying t=some (.array k e)) (h:Value.okWide P w r b t v):∃ cs,v = .agg cs/\cs.size=P.cellsOf t:=by simp only [Value.okWide,ht] at h;obtain⟨cs,h1,h2,_⟩:=h;exact⟨cs,h1,h2⟩
theorem Lw {n:Nat} {b:Nat} {t:TypeId} {v:Value} {d:DataW H} {ps:List MemPlace} (hp:pU P n t=true) (hv:Value.okWide P w .any b t v) (h:DataW.Trod nB P w 0 sp held t v d ps):∃ a,RP (λ_=>False) w v a/\bE P n t a:=by
 obtain⟨fuel,h⟩:=h;obtain⟨ds,h1,h2⟩:=tj n t _ fuel _ hp h;unfold bE
 split
 ·rename_i fs hu;obtain⟨cs,rfl,_⟩:=okWide_struct hu hv;refine⟨.agg ds,.agg (by rw [h1.1]; rfl) λj hj=>?_,ds,rfl,h2⟩;have:=h1.2 j hj
  have e:(Value.agg cs).cells.toList.getD j undef=cs.getD j undef:=by simp [Value.cells,List.getD,Array.getD];by_cases hj:j<cs.size <;> simp [hj]
  rw [e] at this;exact this
 ·rename_i k e hu;obtain⟨cs,rfl,_⟩:=l9 hu hv;refine⟨.agg ds,.agg (by rw [h1.1]; rfl) λj hj=>?_,ds,rfl,h2⟩;have:=h1.2 j hj
  have e:(Value.agg cs).cells.toList.getD j undef=cs.getD j undef:=by simp [Value.cells,List.getD,Array.getD];by_cases hj:j<cs.size <;> simp [hj]
  rw [e] at this;exact this
 ·rename_i hns hna
  have one:∃ x,ds = [x]:=by
   cases n with
   | zero=>simp [pU] at hp
   | succ n=>
    unfold wS at h2
    split at h2
    ·obtain⟨b,rfl⟩:=h2; exact⟨_,rfl⟩
    ·obtain⟨b,rfl⟩:=h2; exact⟨_,rfl⟩
    ·obtain⟨b,rfl⟩:=h2; exact⟨_,rfl⟩
    ·obtain⟨b,rfl,_⟩:=h2; exact⟨_,rfl⟩
    ·rename_i fs hu; exact absurd hu (hns fs)
    ·rename_i k e hu; exact absurd hu (hna k e)
    ·cases h2
  obtain⟨x,rfl⟩:=one;refine⟨x,?_,h2⟩;have hx:=h1.2 0 (by simp);simp only [ν] at hx;have hlen:=h1.1
  cases v with
  | agg cs=>
   exfalso;unfold Value.okWide at hv
   split at hv
   ·rename_i fs hu; exact absurd hu (hns fs)
   ·rename_i k e hu; exact absurd hu (hna k e)
   ·rename_i h3 h4
    cases n with
    | zero=>simp [pU] at hp
    | succ n=>
     unfold pU at hp;unfold Cell.okWide at hv;split at hp <;> rename_i hu <;> simp [hu,Cell.ok] at hv
     all_goals first | exact absurd hu (hns _) | exact absurd hu (hna _ _) | cases hp
  | _=>simpa [Value.cells] using hx
theorem VK {n:Nat} {b:Nat}:∀ {ts:List TypeId} {vs:List Value} {ds:List (DataW H)} {ps:List MemPlace},(ts.all λt=>pU P n t)= true->(∀ (j:Nat) t v,ts[j]?=some t->vs[j]?=some v->Value.okWide P w .any b t v) ->
  DataW.TrodAll nB P w 0 sp held ts vs ds ps->∃ as,as.length=vs.length/\vs.length=ts.length/\ds.length=ts.length/\(∀ j,j<as.length->RP (λ_=>False) w (vs.getD j undef) (as.getD j .top))/\ z7 P n ts as
 | [],vs,ds,ps,_,_,h=>by obtain⟨rfl,rfl,rfl⟩:=trodAll_nil h;exact⟨[],rfl,rfl,rfl,λj hj=>by simp at hj,rfl⟩
 | t :: ts,vs,ds,ps,hp,hv,h=>by
  obtain⟨v,vs',d,ds',p,q,rfl,rfl,rfl,h1,h2⟩:=trodAll_cons h;simp only [ξ,Ai] at hp;obtain⟨a,r1,s1⟩:=Lw hp.1 (hv 0 t v rfl rfl) h1;obtain⟨as,l1,l2,l3,r2,s2⟩:=VK hp.2 (λj t v h1 h2=>hv (j+1) t v h1 h2) h2;refine⟨a :: as,by simp [l1],by simp [l2],by simp [l3],λj hj=>?_,a,as,rfl,s1,s2⟩
  cases j with
  | zero=>exact r1
  | succ j=>exact r2 j (by simpa using hj)
theorem bQ (hl:laidOutB P=true) {W W':World} (hb:Below W.heap.size W W'):∀ {ts:List TypeId} {vs:List Value} {ds:List (DataW H)} {ps:List MemPlace},(ts.all λt=>P.readableRec t&&decide (t<P.types.size))= true ->
  (∀ x ∈ ps,x.block<W.heap.size)->DataW.TrodAll nB P W 0 (λ_=>true) true ts vs ds ps->DataW.TrodAll nB P W' 0 (λb=>decide (b<W.heap.size)) true ts vs ds ps
 | [],vs,ds,ps,_,_,h=>by obtain⟨rfl,rfl,rfl⟩:=trodAll_nil h;exact rfl
 | t :: ts,vs,ds,ps,hr,hlt,h=>by obtain⟨v,vs',d,ds',p,q,rfl,rfl,rfl,h1,h2⟩:=trodAll_cons h;simp only [ξ,Ai,decide_eq_true_eq] at hr;exact⟨p,q,Below.trod hl hr.1.1 hr.1.2 h1 hb λx hx=>hlt x (by simp [hx]),bQ hl hb hr.2 (λx hx=>hlt x (by simp [hx])) h2,rfl⟩
theorem np {W:World}:∀ {ts:List TypeId} {vs:List Value} {ds:List (DataW H)} {ps:List MemPlace},DataW.TrodAll nB P W 0 sp held ts vs ds ps->∀ x ∈ ps,x.block<W.heap.size
 | [],vs,ds,ps,h=>by obtain⟨rfl,rfl,rfl⟩:=trodAll_nil h;intro x hx; simp at hx
 | t :: ts,vs,ds,ps,h=>by
  obtain⟨v,vs',d,ds',p,q,rfl,rfl,rfl,⟨m,hm⟩,h2⟩:=trodAll_cons h;intro x hx
  rcases List.mem_append.1 hx with hx | hx
  ·exact DataW.trod_lt m _ _ _ hm x hx
  ·exact np h2 x hx
end
section
variable [tR]
theorem xA.calls {P:Program} {g:FuncId} {args:List D} {b:Bool} (h:xA P g args (.bool b)) {w:World} {vals:Array Value} (ht:im w λ_=>False) (hl:vals.size=args.length)
  (hv:∀ j,j<args.length->RP (λ_=>False) w (vals.getD j undef) (args.getD j .top)):Calls P g vals w λe w'=>e = .returned (.bool b)/\ Below w.heap.size w w':=by
 have hM:∀ b,zN (λ_=>False) (λ_=>0) jN b->False:=by
  rintro b (h | ⟨k,o,hk,_⟩)
  ·exact h
  ·cases hk
 have hS:wL (λ_=>False) w jN (λ_=>0):=⟨λb hb=>hb.elim,(λk o hk=>by cases hk),(λk k' o o' hk=>by cases hk),(λk o hk=>by cases hk),ht.zL (Aj _) (λ_ _ _=>rfl) λb _ hb=>hM b hb⟩;refine(h.run _ w _ vals hS hl λj hj=>.pure ((hv j hj).zL (λ_ _ _=>rfl) λb _ hb=>hM b hb)).mono λe w' hh=>?_;obtain⟨v,ι',rfl,k1,k2,k3,k4,k5,k6⟩:=hh;have K0:Kept w w' λ_=>False:=k1.mono λb _ ⟨k,o,hk,_⟩=>by cases hk
 rw [k6.lM];exact⟨rfl,K0.below⟩
end
theorem YL (a:Array Value) (j:Nat) (d:Value):a.getD j d=a.toList.getD j d:=by simp [List.getD,Array.getD];by_cases h:j<a.size <;> simp [h]
theorem QZ {H:Type} {nB:TypeId × Value->H} {P:Program} {f:Func} {s:ChangeSpec} {W W':World} {args:Array Value} {ds gs:List (DataW H)} {before:List MemPlace} {tb:TypeId}
  (hl:laidOutB P=true) (hr:(f.params.toList.all λt=>P.readableRec t&&decide (t<P.types.size))= true) (hb:f.resultTypes = #[tb]) (htb:P.underlying tb=some .bool) (hsv:s.vars = [])
  (hW:DataW.Whole nB P f.params.toList s.vars false W args.toList ds gs before) (hs:s.fn H (ds++gs)= { results:=[.lit (.bool true)],args:=ds }) (bel:Below W.heap.size W W') :
  s.post nB P f false true false false W args (.bool true) W':=by
 have hW':=hW;obtain⟨p,q,hA,hV,rfl,hfz,hnd⟩:=hW;rw [hsv] at hV;obtain⟨rfl,rfl⟩:=trodVars_none hV;have hA2:=bQ hl bel hr (np hA) hA
 refine⟨_,_,_,[],p,[],hW',?_,?_,?_,bel.frame _,λh=>by cases h⟩
 ·rw [hs,hb];exact trodAll_mk1 (shut_bool htb _)
 ·rw [hs];exact hA2
 ·rw [hs,hsv];rfl
abbrev dO (i:Nat) (k:DK):yY:=⟨some i,none,k⟩
abbrev dF (i j:Nat) (k:DK):yY:=⟨some i,some (j,false),k⟩
abbrev dT (i j:Nat) (k:DK):yY:=⟨some i,some (j,true),k⟩
abbrev tS.i (n:Int):tS:=.c (.int .i64 n)
abbrev dM (i j:Nat):yY:=⟨some i,none,.mv (.t j)⟩
abbrev dL (i j:Nat):yY:=⟨some i,none,.load 1 false (.t j)⟩
abbrev dG (i n j:Nat):yY:=⟨some i,none,.Nc n (.t j)⟩
abbrev DC.r (l:List yY) (c:DC):DC:=.seq (.qC [] l) c
abbrev DK.cf (f:FuncId) (l:List tS):DK:=.call (.c (.fn f [])) l
abbrev bT (i:Nat) (o:BinOp) (a b:Nat):yY:=⟨some i,none,.bin o (.t a) (.t b)⟩
abbrev bI (i:Nat) (o:BinOp) (a:Nat) (n:Int):yY:=⟨some i,none,.bin o (.t a) (.i n)⟩
abbrev dI (i n a b:Nat):yY:=⟨some i,none,.idx n (.t a) (.t b)⟩
abbrev dN (i a:Nat):yY:=⟨some i,none,.len (.t a)⟩
abbrev fG (i j n a:Nat):yY:=⟨some i,some (j,false),.Nc n (.t a)⟩
abbrev fL (i j a:Nat):yY:=⟨some i,some (j,false),.load 1 false (.t a)⟩
abbrev fN (i j a:Nat):yY:=⟨some i,some (j,false),.len (.t a)⟩
abbrev fM (i j a:Nat):yY:=⟨some i,some (j,false),.mv (.t a)⟩
abbrev dP (i a b:Nat):yY:=⟨some i,none,.pick (.t a) (.c (.bool true)) (.t b)⟩
abbrev dE (i a n:Nat):yY:=⟨some i,none,.T8 (.t a) n⟩
abbrev sQ (n a b:Nat):yY:=⟨none,none,.store n (.t a) (.t b)⟩
abbrev dV (i:Nat) (b:Bool):yY:=⟨some i,none,.mv (.c (.bool b))⟩
abbrev dJ (i:Nat) (n:Int):yY:=⟨some i,none,.mv (.i n)⟩
abbrev dA (i n a:Nat):yY:=⟨some i,none,.load n true (.t a)⟩
abbrev DC.w (a b:Nat) (c:DC):DC:=.seq (.cond (.t a) .skip (.exit b)) c
abbrev DC.g (l:List yY):DC:=.qC [] l
abbrev dX (i a:Nat):yY:=⟨some i,none,.box (.t a)⟩
abbrev tL (i j a:Nat):yY:=⟨some i,some (j,true),.load 1 false (.t a)⟩
abbrev tG (i j n a:Nat):yY:=⟨some i,some (j,true),.Nc n (.t a)⟩
abbrev tM (i j a:Nat):yY:=⟨some i,some (j,true),.mv (.t a)⟩
abbrev dK (i a:Nat):yY:=⟨some i,none,.Lb (.t a)⟩
abbrev dH (i a:Nat):yY:=⟨some i,none,.nt (.t a)⟩
abbrev dQ (i a b:Nat):yY:=⟨some i,none,.pick (.t a) (.t b) (.c (.bool false))⟩
abbrev dZ (i:Nat):yY:=⟨some i,none,.mv (.c .xL)⟩
abbrev dB (i f a:Nat):yY:=⟨some i,none,.cf f [.t a]⟩
abbrev dD (i f a b:Nat):yY:=⟨some i,none,.cf f [.t a,.t b]⟩
abbrev fB (i j:Nat) (o:BinOp) (a:Nat) (n:Int):yY:=⟨some i,some (j,false),.bin o (.t a) (.i n)⟩
abbrev CT :=Nat × DC × List bJ
abbrev DC.x (a b:Nat):DC:=.cond (.t a) .skip (.exit b)
abbrev DC.n (a b c:Nat):DC:=.g [dM a b,bI c .add a 1,dM b c]
abbrev DC.q (a:Nat) (c d:DC):DC:=.cond (.t a) c d
abbrev DC.u (i:Nat) (n:Int):DC:=.r [dJ i n] .ret
abbrev DC.v (i:Nat) (b:Bool):DC:=.r [dV i b] .ret
abbrev DC.l (n:Nat) (c:DC):DC:=.block n (.loop c)
abbrev tS.u (n:Int):tS:=.c (.int .u64 n)
abbrev iZ : D:=.int .i64 0
def zS :=γ @D.int.injEq (γ @D.bool.injEq (γ @D.sl.injEq (γ @and_true (γ @true_and @and_self))))
def zW.{u} :=γ @ne_eq.{u} (γ @forall_const.{u} (γ @implies_true.{u} @forall_eq.{u}))
section
variable [tR]
def zU :=γ @aE.eq_1 (γ @Pe.eq_1 (γ @Li.eq_1 (γ @jJ.eq_1 (γ @jJ.eq_2 (γ @lT.eq_1 (γ @lT.eq_2 (γ @kg.eq_1 (γ @kg.eq_2 (γ @kg.eq_3 (γ @kg.eq_4 (γ @kg.eq_5 (γ @kg.eq_6 (γ @kg.eq_7 (γ @kg.eq_8 (γ @kg.eq_9 (γ @kg.eq_10 (γ @kg.eq_11 (γ @kg.eq_12 (γ @kg.eq_13 (γ @kg.eq_14 (γ @kg.eq_15 (γ @qZ.eq_1 (γ @qZ.eq_2 (γ @qZ.eq_3 (γ @qZ.eq_4 (γ @qZ.eq_5 (γ @qZ.eq_6 (γ @qZ.eq_7 (γ @qZ.eq_8 (γ @qZ.eq_9 (γ @qZ.eq_10 (γ @qZ.eq_11 (γ @qZ.eq_12 (γ @qZ.eq_13 (γ @qZ.eq_14 (γ @qZ.eq_15 (γ @pX.eq_1 (γ @pX.eq_2 (γ @pX.eq_3 (γ @pX.eq_4 (γ @pX.eq_5 (γ @pX.eq_6 (γ @pX.eq_7 (γ @pX.eq_8 (γ @pW.eq_1 (γ @pW.eq_2 (γ @pW.eq_3 (γ @pW.eq_4 (γ @pW.eq_5 (γ @pW.eq_6 (γ @pW.eq_7 (γ @pW.eq_8 (γ @pW.eq_9 (γ @pW.eq_10 (γ @pW.eq_11 (γ @pW.eq_12 (γ @pW.eq_13 (γ @pW.eq_14 (γ @pW.eq_15 (γ @pW.eq_16 (γ @pW.eq_17 (γ @pW.eq_18 (γ @pW.eq_19 (γ @pW.eq_20 (γ @pW.eq_21 (γ @pW.eq_22 (γ @pW.eq_23 (γ @pW.eq_24 (γ @pW.eq_25 (γ @pW.eq_26 (γ @pW.eq_27 (γ @pW.eq_28 (γ @N1.eq_1 (γ @N2.eq_1 (γ @GC.eq_1 (γ @gB.eq_1 @Vx.eq_1))))))))))))))))))))))))))))))))))))))))))))))))))))))))))))))))))))))))))))
def zQ :=γ @uK.eq_1 (γ @uK.eq_2 (γ @uK.eq_3 (γ @vw.eq_1 (γ @vw.eq_2 (γ @vw.eq_3 (γ @vw.eq_4 (γ @vw.eq_5 (γ @vw.eq_6 (γ @vw.eq_7 (γ @vw.eq_8 (γ @vw.eq_9 (γ @vw.eq_10 (γ @vw.eq_11 (γ @vw.eq_12 (γ @vw.eq_13 (γ @vw.eq_14 (γ @vw.eq_15 (γ @vw.eq_16 (γ @vw.eq_17 (γ @vw.eq_18 (γ @bo.eq_1 (γ @bo.eq_2 (γ @sw.eq_1 (γ @sw.eq_2 (γ @St.get.eq_1 (γ @St.look.eq_1 (γ @St.look.eq_2 (γ @Fr.get.eq_1 @Fr.get.eq_2))))))))))))))))))))))))))))
def zV :=γ @jN.eq_1 (γ @fY.eq_1 (γ @fY.eq_2 (γ @nN.eq_1 (γ @nN.eq_2 (γ @nN.eq_3 (γ @nN.eq_4 (γ @nN.eq_5 (γ @nN.eq_6 (γ @nN.eq_7 (γ @nN.eq_8 (γ @nN.eq_9 (γ @nN.eq_10 (γ @nN.eq_11 (γ @nN.eq_12 (γ @nN.eq_13 (γ @nN.eq_14 (γ @nN.eq_15 (γ @nN.eq_16 (γ @nN.eq_17 (γ @iq.eq_1 (γ @bZ.eq_1 (γ @bZ.eq_2 (γ @bZ.eq_3 (γ @bZ.eq_4 (γ @bZ.eq_5 (γ @bZ.eq_6 (γ @aK.eq_1 (γ @aK.eq_2 (γ @V5.eq_1 (γ @uX.eq_1 (γ @jM.eq_1 (γ @jM.eq_2 (γ @Jw.eq_1 (γ @vj.eq_1 (γ @vj.eq_2 (γ @qy.eq_1 (γ @qy.eq_2 (γ @List.replicate.eq_1.{0} (γ @List.replicate.eq_2.{0} (γ @rowsOf.eq_1 (γ @rowsOf.eq_2 (γ @rowsOf.eq_3 (γ @rowsOf.eq_4 @rowsOf.eq_5)))))))))))))))))))))))))))))))))))))))))))
end
theorem sd {p q:Prop} (b:q) (a:p:=by first | omega | exact Ul _ | exact Ao _ | rfl | exact UZ _ _ | exact ZR _ | (intro _ h; cases h; done)):p/\q:=⟨a,b⟩
theorem sJ.dv {n0 n:Nat} {σ:St} {d d':D} (hn:n0<=n:=by simp) (h:vw σ ⟨n,[]⟩ (λk=>k) d d':=by simp [vw]):sJ n0 σ d ⟨n,[]⟩ d':=.drop hn h
section
variable [tR]
theorem cr {P:Program} {g:FuncId} {args:List D} {d:D} {s:St} (hc:xA P g args d) (hp:D.xR args=true:=by simp [D.xR,D.xF]):xP P g args s d s:=xP.yP hc hp
theorem cq {P:Program} {g:FuncId} {args:List D} {d:D} {s:St} (hc:xA P g args d) (hp:D.xR args=true:=by rfl):xP P g args s d s:=xP.yP hc hp
end
end Go.Pd
