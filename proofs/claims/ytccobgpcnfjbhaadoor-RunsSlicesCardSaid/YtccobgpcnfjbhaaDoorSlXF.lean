/- Part XF. -/
import Derived.Test.YtccobgpcnfjbhaaDoorSlXE
import Derived.Test.YtccobgpcnfjbhaaDoorSlXA
import Derived.Test.YtccobgpcnfjbhaaDoorSlXR
set_option linter.unusedSectionVars false
set_option linter.unusedVariables false
set_option linter.unusedSimpArgs false
set_option linter.defProp false
set_option maxRecDepth 20000
set_option maxHeartbeats 1000000
open Option renaming bind_eq_some_iff->γ,map_eq_some_iff->δ
open Bool renaming and_eq_true->ε
open List renaming all_eq_true->ζ,filter_cons->η
namespace Go.Pd
open Go
variable [zJ]
def r7 (σ:St) (sz bytes:Nat) (x:D) (rows:List (List D)):Option (D × St):=
 match x with
 | .xY=>if rows.length*bytes<=140737488355328/\rows.length<=8000000000000 then(match rows with
  | []=>some (.xY,σ)
  | _ :: _=>some (.zZ σ.nx sz rows.length,σ.new ⟨sz,rows⟩)) else none
 | .zZ key sz' n=>match σ.get key with
  | some ob=>if sz=sz'/\ob.sz=sz/\n<=ob.xX.length/\(n+rows.length)* bytes<=140737488355328/\n+rows.length<=8000000000000 then some (.zZ σ.nx sz (n+rows.length),(σ.erase key).new ⟨sz,ob.xX.take n++rows⟩) else none
  | none=>none
 | _=>none
def r9 (σ:St) (zero:D) (x:D):Option (D × St):=
 match x with
 | .xY=>some (.yN [],σ)
 | .emp=>some (.yN [],σ)
 | .zZ key sz n=>match σ.get key with
  | some ob=>if sz=1/\ob.sz=1/\0<n/\n<=ob.xX.length/\zero.one=true then some (.yN [],σ.set key ⟨1,List.replicate n [zero]++ob.xX.drop n⟩) else none
  | none=>none
 | .sub key sz lo n=>match σ.get key with
  | some ob=>if sz=1/\ob.sz=1/\0<n/\lo+n<=ob.xX.length/\zero.one=true then some (.yN [],σ.set key ⟨1,ob.xX.take lo++(List.replicate n [zero]++ob.xX.drop (lo+n))⟩) else none
  | none=>none
 | _=>none
def s5 (σ:St) (x:D) (rows:List (List D)):Option (D × St):=
 match x with
 | .zZ key sz n=>match σ.get key with
  | some ob=>if sz=1/\ob.sz=1/\n<=ob.xX.length/\0<min n rows.length then some (.int .i64 ((min n rows.length:Nat):Int),σ.set key ⟨1,rows.take (min n rows.length)++ ob.xX.drop (min n rows.length)⟩) else none
  | none=>none
 | .sub key sz lo n=>match σ.get key with
  | some ob=>if sz=1/\ob.sz=1/\lo+n<=ob.xX.length/\0<min n rows.length then some (.int .i64 ((min n rows.length:Nat):Int),σ.set key ⟨1,ob.xX.take lo++(rows.take (min n rows.length)++ ob.xX.drop (lo+min n rows.length))⟩) else none
  | none=>none
 | _=>none
def jo (σ:St) (m k:D) (f:St->Nat->Ob->IntKind->Int->Option (D × St)):Option (D × St):=
 match m,k with
 | .yU key,.int kk y=>match σ.get key with
  | some o=>if o.sz=0/\cC kk o.xX=true then f σ key o kk y else none
  | none=>none
 | _,_=>none
def vE (call:yQ) (σ:St) (ev:yG->D) (k:DK):Option (D × St):=
 match k with
 | .box x=>match (ev x).cells with
  | some cs=>if yX cs=true/\0<cs.length then some (.ref σ.nx cs.length 0 0,σ.new ⟨cs.length,[cs]⟩) else none
  | none=>none
 | .alloc zero=>if yX zero=true/\0<zero.length then some (.ref σ.nx zero.length 0 0,σ.new ⟨zero.length,[zero]⟩) else none
 | .store n a x=>match ev a,(ev x).cells with
  | .ref key sz i off,some ds=>match σ.get key with
   | some ob=>if ob.sz=sz/\i<ob.xX.length/\ds.length=n/\off+n<=sz/\yX ds=true then some (.wG,σ.set key ⟨sz,ob.xX.set i (rV (ob.xX.getD i []) off ds)⟩) else none
   | none=>none
  | _,_=>none
 | .app sz bytes x y=>match rowsOf σ sz (ev y) with
  | some rows=>if rows.all yX=true then r7 σ sz bytes (ev x) rows else none
  | none=>none
 | .pP sz bytes zero len cap=>match ev len,ev cap with
  | .int .i64 n,.int .i64 m=>if n=m/\0<=n/\bytes*n<=281474976710656/\yX zero=true then some (.zZ σ.nx sz n.toNat,σ.new ⟨sz,List.replicate n.toNat zero⟩) else none
  | _,_=>none
 | .tT sz len zero parts=>match oF sz (List.replicate len zero) (parts.map λp=>(p.1,ev p.2)) with
  | some es=>if es.all yX=true then some (.zZ σ.nx sz len,σ.new ⟨sz,es⟩) else none
  | none=>none
 | .cQ zero x=>r9 σ zero (ev x)
 | .xm x y=>match rowsOf σ 1 (ev y) with
  | some rows=>if rows.all yX=true then s5 σ (ev x) rows else none
  | none=>none
 | .call fn args=>match ev fn with
  | .fn g caps=>pq call σ g (args.map ev++caps)
  | _=>none
 | .gP=>some (.yU σ.nx,σ.new ⟨0,[]⟩)
 | .qU m k x=>jo σ (ev m) (ev k) λσ key o kk y=>some (.wG,σ.set key ⟨0,lB kk o.xX y (ev x)⟩)
 | .tD n m k x=>match ev m,ev k with
  | .yU key,.agg cs=>match σ.get key,rT cs with
   | some o,some y=>match gM o.xX with
    | some l=>if o.sz=0/\y.length=n/\(l.all λp=>p.1.length==n)= true then some (.wG,σ.set key ⟨0,nG (jZ y (ev x) l)⟩) else none
    | none=>none
   | _,_=>none
  | _,_=>none
 | .nY zero m k=>jo σ (ev m) (ev k) λσ key o kk y=>if o.xX.length<=1000000000 then(match vB y o.xX 0 with
  | some (i,d)=>some (.yN [d,.int .i64 i],σ.set key ⟨0,o.xX⟩)
  | none=>some (.yN [zero,.int .i64 o.xX.length],σ.set key ⟨0,o.xX ++ [[.int kk y,zero]]⟩)) else none
 | .nZ m s x=>match ev m,ev s with
  | .yU key,.int _ i=>match σ.get key with
   | some o=>if o.sz=0/\0<=i/\i<o.xX.length then(match o.xX.getD i.toNat [] with
    | [.int kk y,_]=>some (.wG,σ.set key ⟨0,o.xX.set i.toNat [.int kk y,ev x]⟩)
    | _=>none) else none
   | none=>none
  | _,_=>none
 | k=>(pE call σ ev k).map λd=>(d,σ)
theorem eC {rows:List (List D)} (h:rows.all yX=true):∀ r ∈ rows,yX r=true:=ζ.1 h
theorem nF {C:Cx} {call:yQ} (hc:uY C.P call) {σ:St} {ev:yG->D}:∀ {k:DK} {d:D} {σ':St},vE call σ ev k=some (d,σ')->∀ {K:D->St->Prop},K d σ'->wX C σ ev k K
 | .box x,d,σ',h,K,hK=>by
  simp only [vE] at h;simp only [wX]
  split at h
  ·rename_i h1;rw [h1];simp only
   split at h
   ·rename_i h2;simp only [Option.some.injEq,Prod.mk.injEq] at h;obtain⟨rfl,rfl⟩:=h;exact⟨h2.1,h2.2,hK⟩
   ·cases h
  ·cases h
 | .alloc zero,d,σ',h,K,hK=>by
  simp only [vE] at h
  split at h
  ·rename_i h2;simp only [Option.some.injEq,Prod.mk.injEq] at h;obtain⟨rfl,rfl⟩:=h;exact⟨h2.1,h2.2,hK⟩
  ·cases h
 | .store n a x,d,σ',h,K,hK=>by
  simp only [vE] at h;simp only [wX]
  split at h
  ·rename_i h1 h2;rw [h1,h2];simp only
   split at h
   ·rename_i h3;rw [h3];simp only
    split at h
    ·rename_i h4;simp only [Option.some.injEq,Prod.mk.injEq] at h;obtain⟨rfl,rfl⟩:=h;exact⟨h4.1,h4.2.1,h4.2.2.1,h4.2.2.2.1,h4.2.2.2.2,hK⟩
    ·cases h
   ·cases h
  ·cases h
 | .app sz bytes x y,d,σ',h,K,hK=>by
  simp only [vE] at h;simp only [wX]
  split at h
  ·rename_i rows h1;rw [h1];simp only
   split at h
   ·rename_i h2;refine⟨eC h2,?_⟩;unfold r7 at h
    split at h
    ·rename_i h3;rw [h3];simp only
     split at h
     ·rename_i h4
      refine⟨h4.1,h4.2,λe=>?_,λe=>?_⟩
      ·subst e;simp only [Option.some.injEq,Prod.mk.injEq] at h;obtain⟨rfl,rfl⟩:=h;exact hK
      ·match rows,e,h with
       | r :: rs,_,h=> simp only [Option.some.injEq,Prod.mk.injEq] at h;obtain⟨rfl,rfl⟩:=h;exact hK
     ·cases h
    ·rename_i h3;rw [h3];simp only
     split at h
     ·rename_i h5;rw [h5];simp only
      split at h
      ·rename_i h4;simp only [Option.some.injEq,Prod.mk.injEq] at h;obtain⟨rfl,rfl⟩:=h;exact⟨h4.1,h4.2.1,h4.2.2.1,h4.2.2.2.1,h4.2.2.2.2,hK⟩
      ·cases h
     ·cases h
    ·cases h
   ·cases h
  ·cases h
 | .pP sz bytes zero len cap,d,σ',h,K,hK=>by
  simp only [vE] at h;simp only [wX]
  split at h
  ·rename_i h1 h2;rw [h1,h2];simp only
   split at h
   ·rename_i h4;simp only [Option.some.injEq,Prod.mk.injEq] at h;obtain⟨rfl,rfl⟩:=h;exact⟨h4.1,h4.2.1,h4.2.2.1,h4.2.2.2,hK⟩
   ·cases h
  ·cases h
 | .tT sz len zero parts,d,σ',h,K,hK=>by
  simp only [vE] at h;simp only [wX]
  split at h
  ·rename_i h1;rw [h1];simp only
   split at h
   ·rename_i h4;simp only [Option.some.injEq,Prod.mk.injEq] at h;obtain⟨rfl,rfl⟩:=h;exact⟨eC h4,hK⟩
   ·cases h
  ·cases h
 | .cQ zero x,d,σ',h,K,hK=>by
  simp only [vE] at h;simp only [wX];unfold r9 at h
  split at h
  ·rename_i h1;rw [h1];simp only [Option.some.injEq,Prod.mk.injEq] at h;obtain⟨rfl,rfl⟩:=h;exact hK
  ·rename_i h1;rw [h1];simp only [Option.some.injEq,Prod.mk.injEq] at h;obtain⟨rfl,rfl⟩:=h;exact hK
  ·rename_i h1;rw [h1];simp only
   split at h
   ·rename_i h2;rw [h2];simp only
    split at h
    ·rename_i h4;simp only [Option.some.injEq,Prod.mk.injEq] at h;obtain⟨rfl,rfl⟩:=h;exact⟨h4.1,h4.2.1,h4.2.2.1,h4.2.2.2.1,h4.2.2.2.2,hK⟩
    ·cases h
   ·cases h
  ·rename_i h1;rw [h1];simp only
   split at h
   ·rename_i h2;rw [h2];simp only
    split at h
    ·rename_i h4;simp only [Option.some.injEq,Prod.mk.injEq] at h;obtain⟨rfl,rfl⟩:=h;exact⟨h4.1,h4.2.1,h4.2.2.1,h4.2.2.2.1,h4.2.2.2.2,hK⟩
    ·cases h
   ·cases h
  ·cases h
 | .xm x y,d,σ',h,K,hK=>by
  simp only [vE] at h;simp only [wX]
  split at h
  ·rename_i rows hr;rw [hr];simp only
   split at h
   ·rename_i hall;refine⟨eC hall,?_⟩;unfold s5 at h
    split at h
    ·rename_i h1;rw [h1];simp only
     split at h
     ·rename_i h2;rw [h2];simp only
      split at h
      ·rename_i h4;simp only [Option.some.injEq,Prod.mk.injEq] at h;obtain⟨rfl,rfl⟩:=h;exact⟨h4.1,h4.2.1,h4.2.2.1,h4.2.2.2,hK⟩
      ·cases h
     ·cases h
    ·rename_i h1;rw [h1];simp only
     split at h
     ·rename_i h2;rw [h2];simp only
      split at h
      ·rename_i h4;simp only [Option.some.injEq,Prod.mk.injEq] at h;obtain⟨rfl,rfl⟩:=h;exact⟨h4.1,h4.2.1,h4.2.2.1,h4.2.2.2,hK⟩
      ·cases h
     ·cases h
    ·cases h
   ·cases h
  ·cases h
 | .call fn args,d,σ',h,K,hK=>by
  simp only [vE] at h;simp only [wX]
  split at h
  ·rename_i h1;rw [h1];exact⟨d,σ',kx hc h,hK⟩
  ·cases h
 | .gP,d,σ',h,K,hK=>by simp only [vE,Option.some.injEq,Prod.mk.injEq] at h;obtain⟨rfl,rfl⟩:=h;exact hK
 | .qU m k x,d,σ',h,K,hK=>by
  simp only [vE] at h;simp only [wX];unfold jo at h
  split at h
  ·rename_i h1 h2;rw [h1,h2];simp only
   split at h
   ·rename_i h3;rw [h3];simp only
    split at h
    ·rename_i h4;simp only [Option.some.injEq,Prod.mk.injEq] at h;obtain⟨rfl,rfl⟩:=h;exact⟨h4.1,mN h4.2,hK⟩
    ·cases h
   ·cases h
  ·cases h
 | .tD n m k x,d,σ',h,K,hK=>by
  simp only [vE] at h;simp only [wX]
  split at h
  ·rename_i key cs h1 h2;rw [h1,h2];simp only
   split at h
   ·rename_i o y h3 h4;rw [h3];simp only
    split at h
    ·rename_i l h5
     split at h
     ·rename_i h6;simp only [Option.some.injEq,Prod.mk.injEq] at h;obtain⟨rfl,rfl⟩:=h;exact⟨h6.1,y,l,⟨vJ h4,jJ h5,h6.2.1,λp hp=>by have:=ζ.1 h6.2.2 p hp; simpa using this⟩,hK⟩
     ·cases h
    ·cases h
   ·cases h
  ·cases h
 | .nY zero m k,d,σ',h,K,hK=>by
  simp only [vE] at h;simp only [wX];unfold jo at h
  split at h
  ·rename_i h1 h2;rw [h1,h2];simp only
   split at h
   ·rename_i h3;rw [h3];simp only
    split at h
    ·rename_i h4;simp only at h
     split at h
     ·rename_i h5;refine⟨h4.1,mN h4.2,h5,?_⟩
      split at h
      ·rename_i h6;rw [h6];simp only [Option.some.injEq,Prod.mk.injEq] at h;obtain⟨rfl,rfl⟩:=h;exact hK
      ·rename_i h6;rw [h6];simp only [Option.some.injEq,Prod.mk.injEq] at h;obtain⟨rfl,rfl⟩:=h;exact hK
     ·cases h
    ·cases h
   ·cases h
  ·cases h
 | .nZ m s x,d,σ',h,K,hK=>by
  simp only [vE] at h;simp only [wX]
  split at h
  ·rename_i h1 h2;rw [h1,h2];simp only
   split at h
   ·rename_i h3;rw [h3];simp only
    split at h
    ·rename_i h4
     split at h
     ·rename_i kk y dd h6;simp only [Option.some.injEq,Prod.mk.injEq] at h;obtain⟨rfl,rfl⟩:=h;exact⟨h4.1,h4.2.1,h4.2.2,kk,y,dd,h6,hK⟩
     ·cases h
    ·cases h
   ·cases h
  ·cases h
 | .mv _,d,σ',h,K,hK | .jv _,d,σ',h,K,hK | .pick ..,d,σ',h,K,hK | .bin ..,d,σ',h,K,hK | .beq ..,d,σ',h,K,hK | .geq ..,d,σ',h,K,hK | .nt _,d,σ',h,K,hK | .neg _,d,σ',h,K,hK | .ct _,d,σ',h,K,hK
 | .conv ..,d,σ',h,K,hK | .qj ..,d,σ',h,K,hK | .xg ..,d,σ',h,K,hK | .cK ..,d,σ',h,K,hK | .xv ..,d,σ',h,K,hK | .mn ..,d,σ',h,K,hK | .mx ..,d,σ',h,K,hK | .build ..,d,σ',h,K,hK | .idx ..,d,σ',h,K,hK
 | .len _,d,σ',h,K,hK | .qC ..,d,σ',h,K,hK | .cM _,d,σ',h,K,hK | .load ..,d,σ',h,K,hK | .cR ..,d,σ',h,K,hK | .wW ..,d,σ',h,K,hK | .nH ..,d,σ',h,K,hK | .oG ..,d,σ',h,K,hK=>by simp only [vE,δ,Prod.mk.injEq] at h;obtain⟨d0,h0,rfl,rfl⟩:=h;exact ed hc h0 (K:=λd=>K d σ) hK
def eQ (o:xT) (f:Fr):Option Bool:=
 match o.guard with
 | none=>some true
 | some (j,want)=>match f.get j with
  | .bool b=>if b=want then some true else some false
  | .wG=>some false
  | _=>none
theorem oL {o:xT} {f:Fr} {b:Bool} (h:eQ o f=some b) {yes no:Prop} (h1:b=true->yes) (h2:b=false->no):xM o f yes no:=by
 unfold eQ at h;unfold xM
 split at h
 ·rename_i e; rw [e]; simp only [Option.some.injEq] at h; exact h1 h.symm
 ·rename_i j want e;rw [e];simp only
  split at h
  ·rename_i b' e2;rw [e2];simp only
   split at h
   ·rename_i e3; rw [if_pos e3]; simp only [Option.some.injEq] at h; exact h1 h.symm
   ·rename_i e3; rw [if_neg e3]; simp only [Option.some.injEq] at h; exact h2 h.symm
  ·rename_i e2; rw [e2]; simp only [Option.some.injEq] at h; exact h2 h.symm
  ·cases h
def tU (call:yQ) (σ:St):List xT->Fr->Option Fr
 | [],f=>some f
 | o :: r,f=>match eQ o f with
  | some true=>match pE call σ (wJ f) o.k with
   | some d=>tU call σ r (f.put o.dst d)
   | none=>none
  | some false=>tU call σ r (f.put o.dst .wG)
  | none=>none
theorem yO {C:Cx} {call:yQ} (hc:uY C.P call) {σ:St}:∀ {l:List xT} {f f':Fr},tU call σ l f=some f'->∀ {K:Fr->Prop},K f'->yC C σ l f K
 | [],f,f',h,K,hK=>by simp [tU] at h; subst h; exact hK
 | o :: r,f,f',h,K,hK=>by
  unfold tU at h;unfold yC
  split at h
  ·rename_i hg
   split at h
   ·rename_i d hd;exact oL hg (λ_=>ed hc hd (yO hc h hK)) λe=>by cases e
   ·cases h
  ·rename_i hg;exact oL hg (λe=>by cases e) λ_=>yO hc h hK
  ·cases h
def kA (call:yQ):List xT->Fr->St->Option (Fr × St)
 | [],f,σ=>some (f,σ)
 | o :: r,f,σ=>match eQ o f with
  | some true=>match vE call σ (wJ f) o.k with
   | some (d,σ')=>kA call r (f.put o.dst d) σ'
   | none=>none
  | some false=>kA call r (f.put o.dst .wG) σ
  | none=>none
theorem sF {C:Cx} {call:yQ} (hc:uY C.P call):∀ {l:List xT} {f f':Fr} {σ σ':St},kA call l f σ=some (f',σ')->∀ {K:Fr->St->Prop},K f' σ'->wU C l f σ K
 | [],f,f',σ,σ',h,K,hK=>by simp [kA] at h; obtain⟨rfl,rfl⟩:=h; exact hK
 | o :: r,f,f',σ,σ',h,K,hK=>by
  unfold kA at h;unfold wU
  split at h
  ·rename_i hg
   split at h
   ·rename_i d σ1 hd;exact oL hg (λ_=>nF hc hd (sF hc h hK)) λe=>by cases e
   ·cases h
  ·rename_i hg;exact oL hg (λe=>by cases e) λ_=>sF hc h hK
  ·cases h
def dd (mask:Nat):Fr->Fr
 | []=>[]
 | (t,d) :: r=>if mask.testBit t=true then dd mask r else(t,d) :: dd (mask ||| 2 ^ t) r
theorem yw : ∀ (f:Fr) (mask t:Nat),mask.testBit t=false->(dd mask f).get t=f.get t
 | [],mask,t,h=>rfl
 | (s,d) :: r,mask,t,h=>by
  unfold dd
  split
  ·rename_i hs;rw [yw r mask t h];have:s≠t:=λe=>by rw [e,h] at hs; cases hs
   simp [Fr.get,this]
  ·by_cases e:s=t
   ·simp [Fr.get,e]
   ·rw [Fr.get,if_neg e,Fr.get,if_neg e];refine yw r _ t ?_;rw [Nat.testBit_or,h,Nat.testBit_two_pow_of_ne e]; rfl
theorem zA.dd {C:Cx} {f:Fr} {σ:St}:zA C f σ (Pd.dd 0 f) σ:=zA.frame λt=>.inr (yw f 0 t (Nat.zero_testBit t))
def gF (body:Fr->St->Option (Ex × Fr × St)):Nat->Fr->St->Option (Ex × Fr × St)
 | 0,_,_=>none
 | k+1,f,σ=>match body f σ with
  | some (.normal,f1,σ1)=>gF body k (dd 0 f1) σ1
  | r=>r
def e9 (call:yQ) (σ:St) (mid:List xT) (f:Fr) (un:Bool) (f2:Fr):Bool:=
 match un with
 | true=>match tU call σ mid f with
  | some g2=>xf g2 f2
  | none=>false
 | false=>true
theorem pb {C:Cx} {call:yQ} (hc:uY C.P call) {σ:St} {mid:List xT} {f f2:Fr} {un:Bool} (h:e9 call σ mid f un f2=true):if un=true then yC C σ mid f (λg=>g=f2) else True:=by
 unfold e9 at h
 split at h
 ·rw [if_pos rfl]
  split at h
  ·rename_i g2 h8;exact yO hc h8 (oU h)
  ·cases h
 ·rw [if_neg (by simp)]; trivial
def ju (nx:Nat) (ρ:Nat->Nat):Nat->D->D->Bool
 | _,.ref k s i o,.ref k' s' i' o'=>decide (k'<nx)&& decide (k=ρ k')&& decide (s=s')&& decide (i=i')&& decide (o=o')
 | _,.zZ k s n,.zZ k' s' n'=>decide (k'<nx)&& decide (k=ρ k')&& decide (s=s')&& decide (n=n')
 | _,.sub k s l n,.sub k' s' l' n'=>decide (k'<nx)&& decide (k=ρ k')&& decide (s=s')&& decide (l=l')&& decide (n=n')
 | _,.yU k,.yU k'=>decide (k'<nx)&& decide (k=ρ k')
 | n+1,.agg a,.agg b=>kM (ju nx ρ n) a b
 | n+1,.yN a,.yN b=>kM (ju nx ρ n) a b
 | n+1,.fn f a,.fn g b=>decide (f=g)&& kM (ju nx ρ n) a b
 | n,d,d'=>d'.xQ&&qn n d d'
theorem dW {σ σ':St} {ρ:Nat->Nat} {d:D} (h:d.xQ=true):vw σ σ' ρ d d:=by have:=jK (σ:=σ) (σ':=σ') (ρ:=ρ) (a:=[d]) (by simp [D.xR,h]);simp only [pY] at this;exact this.1
theorem kF {σ σ':St} {ρ:Nat->Nat} {e:D->D->Bool} (he:∀ a b,e a b=true->vw σ σ' ρ a b):∀ {xs bs:List D},kM e xs bs=true->xs.length=bs.length/\pY σ σ' ρ xs bs
 | [],[],_=>⟨rfl,by simp only [pY]⟩
 | [],_ :: _,h=>by simp [kM] at h
 | _ :: _,[],h=>by simp [kM] at h
 | a :: xs,b :: bs,h=>by simp only [kM,ε] at h;obtain⟨h1,h2⟩:=kF he (xs:=xs) (bs:=bs) h.2;exact⟨by simp [h1],by simp only [pY]; exact⟨he _ _ h.1,h2⟩⟩
theorem ov {σ σ':St} {ρ:Nat->Nat}:∀ (n:Nat) (a b:D),ju σ'.nx ρ n a b=true->vw σ σ' ρ a b:=by
 have key:∀ (n:Nat) (a b:D),(b.xQ&&qn n a b)= true->vw σ σ' ρ a b:=λn a b h=>by rw [ε] at h;have:=eP _ _ _ h.2;subst this;exact dW h.1
 intro n
 induction n with
 | zero=>
  intro a b h
  cases a <;> cases b <;> simp only [ju] at h <;> first
   | exact key _ _ _ h
   | (simp only [vw]; simp only [ε,decide_eq_true_eq] at h; simp_all)
 | succ n ih=>
  intro a b h
  cases a <;> cases b <;> simp only [ju] at h <;> first
   | exact key _ _ _ h
   | (simp only [vw]; exact kF ih h)
   | (simp only [vw]; simp only [ε,decide_eq_true_eq] at h; exact⟨h.1,kF ih h.2⟩)
   | (simp only [vw]; simp only [ε,decide_eq_true_eq] at h; simp_all)
def qb (nx:Nat) (ρ:Nat->Nat) (a b:List (List D)):Bool:=kM (kM (ju nx ρ 30)) a b
theorem vc {σ σ':St} {ρ:Nat->Nat}:∀ {a b:List (List D)},qb σ'.nx ρ a b=true->qk σ σ' ρ a b
 | [],[],_=>.nil
 | [],_ :: _,h=>by simp [qb,kM] at h
 | _ :: _,[],h=>by simp [qb,kM] at h
 | a :: xs,b :: bs,h=>by simp only [qb,kM,ε] at h;obtain⟨h1,h2⟩:=kF (ov (σ:=σ) (σ':=σ') (ρ:=ρ) 30) h.1;exact .cons h1 h2 (vc h.2)
def ql (n0 n1:Nat) (k:Nat):Nat:=if k<n0 then k else if k=n1 then n0 else if k<n1 then k+1 else k
theorem aV (n0 n1 k:Nat):(k<n0/\ql n0 n1 k=k)\/(n0<=k/\k=n1/\ql n0 n1 k=n0)\/(n0<=k/\k<n1/\ql n0 n1 k=k+1)\/(n0<=k/\n1<k/\ql n0 n1 k=k):=by
 unfold ql
 by_cases h1:k<n0
 ·rw [if_pos h1]; omega
 ·rw [if_neg h1]
  by_cases h2:k=n1
  ·rw [if_pos h2]; omega
  ·rw [if_neg h2]
   by_cases h3:k<n1
   ·rw [if_pos h3]; omega
   ·rw [if_neg h3]; omega
def qa (n0 n1:Nat) (f4:Fr) (σ4:St) (g4:Fr) (σ5:St):Bool:= decide (n0<=σ4.nx)&& decide (n0<=n1)&& (f4.all λp=>ju σ4.nx (ql n0 n1) 30 (g4.get p.1) p.2)&& σ4.xZ.all λp=>decide (p.1<σ4.nx)&& (match σ5.get (ql n0 n1 p.1) with | some ob=>decide (ob.sz=p.2.sz)&& qb σ4.nx (ql n0 n1) ob.xX p.2.xX | none=>false)
theorem oa {C:Cx} {n0 n1:Nat} {f4 g4:Fr} {σ4 σ5:St} (h:qa n0 n1 f4 σ4 g4 σ5=true) (hn:C.n0<=n0):zA C g4 σ5 f4 σ4:=by
 simp only [qa,ε,decide_eq_true_eq,ζ] at h;obtain⟨⟨⟨h1,h2⟩,h3⟩,h4⟩:=h
 refine zA.view (ql n0 n1) (by omega) (λk hk=>by unfold ql; rw [if_pos (by omega)]) ?_ (λp hp=>?_) (λp _ q _ e=>?_)
 ·have:∀ l:Fr,(∀ p ∈ l,ju σ4.nx (ql n0 n1) 30 (g4.get p.1) p.2=true)->cS σ5 σ4 (ql n0 n1) g4 l:=by
   intro l
   induction l with
   | nil=>intro _; simp only [cS]
   | cons p l ih=>intro hl; simp only [cS]; exact⟨ov _ _ _ (hl p (by simp)),ih λq hq=>hl q (by simp [hq])⟩
  exact this f4 h3
 ·obtain⟨g1,g2⟩:=h4 p hp;refine⟨g1,?_⟩
  split at g2
  ·rename_i ob hob;simp only [ε,decide_eq_true_eq] at g2;exact⟨ob,hob,g2.1,vc g2.2⟩
  ·cases g2
 ·have:=aV n0 n1 p.1;have:=aV n0 n1 q.1;omega
def lC (call:yQ) (σ:St) (l:List xT) (f g:Fr):Bool:=match tU call σ l f with
 | some g'=>xf g' g
 | none=>false
theorem rF {C:Cx} {call:yQ} (hc:uY C.P call) {σ:St} {l:List xT} {f g:Fr} (h:lC call σ l f g=true):yC C σ l f λx=>x=g:=by
 unfold lC at h
 split at h
 ·rename_i g' h8; exact yO hc h8 (oU h)
 ·cases h
def l5 (free:List Nat) (f g:Fr):Bool:=free.all λt=>qn 30 (f.get t) (g.get t)
def pz (call:yQ) (pre:List xT) (m1:xT) (mid1:List xT) (m2:xT) (mid2 post:List xT) (free:List Nat) (f:Fr) (σ:St):Option (Fr × St):=
 (tU call σ pre f).bind λf1=>(vE call σ (wJ f1) m1.k).bind λx=>(tU call x.2 mid1 (f1.put m1.dst x.1)).bind λf2=>(vE call x.2 (wJ f2) m2.k).bind λy=>(tU call y.2 mid2 (f2.put m2.dst y.1)).bind λf3=>
 (vE call σ (wJ f) m2.k).bind λA=>(tU call A.2 pre f).bind λg1=>(vE call A.2 (wJ g1) m1.k).bind λz=>(tU call z.2 (mid1++⟨m2.dst,none,.mv (.c A.1)⟩ :: mid2) (g1.put m1.dst z.1)).bind λg3=>
 (kA call post f3 y.2).bind λr=>(kA call post g3 z.2).bind λs=>
 if (lC call σ (xp pre m1.dst x.1 mid1 m2.dst y.1 mid2) f f3&&lC call x.2 (xp pre m1.dst x.1 mid1 m2.dst y.1 mid2) f f3&&lC call y.2 (xp pre m1.dst x.1 mid1 m2.dst y.1 mid2) f f3 &&
  lC call A.2 (xp pre m1.dst z.1 mid1 m2.dst A.1 mid2) f g3&&lC call z.2 (xp pre m1.dst z.1 mid1 m2.dst A.1 mid2) f g3&&l5 free r.1 s.1&&qa σ.nx x.2.nx r.1 r.2 s.1 s.2)= true then some r else none
theorem bx {C:Cx} {dc:DC} {f:Fr} {σ:St} {Q:Exit->Fr->St->Prop} (h:C.n0<=σ.nx->wpS C dc f σ Q):wpS C dc f σ Q:=λcode hc E a w G=>by obtain⟨ι,G'⟩:=G;exact h G'.nx code hc E a w ⟨ι,G'⟩
theorem ni {C:Cx} (hm:C.P.follows .mixedOrders=true) {call:yQ} (hc:uY C.P call) {pre:List xT} {m1:xT} {mid1:List xT} {m2:xT} {mid2 post:List xT} {free:List Nat} {f f':Fr} {σ σ':St}
  (h:pz call pre m1 mid1 m2 mid2 post free f σ=some (f',σ')) {Q:Exit->Fr->St->Prop} (hQ:Q .normal f' σ'):wpS C (.mA pre m1 mid1 m2 mid2 post free) f σ Q:=by
 refine bx λhn=>oc hm ?_;unfold pz at h;obtain⟨f1,a1,h⟩:=γ.1 h;obtain⟨⟨dx,σ1⟩,a2,h⟩:=γ.1 h;obtain⟨f2,a3,h⟩:=γ.1 h;obtain⟨⟨dy,σ2⟩,a4,h⟩:=γ.1 h;obtain⟨f3,a5,h⟩:=γ.1 h;obtain⟨⟨dA,σA⟩,a6,h⟩:=γ.1 h;obtain⟨g1,a7,h⟩:=γ.1 h;obtain⟨⟨dz,σB⟩,a8,h⟩:=γ.1 h;obtain⟨g3,a9,h⟩:=γ.1 h;obtain⟨⟨f4,σ4⟩,b1,h⟩:=γ.1 h;obtain⟨⟨g4,σ5⟩,b2,h⟩:=γ.1 h
 split at h
 ·rename_i hb;cases h;simp only [ε] at hb;obtain⟨⟨⟨⟨⟨⟨c1,c2⟩,c3⟩,c4⟩,c5⟩,c6⟩,c7⟩:=hb;exact yO hc a1 (nF hc a2 (yO hc a3 (nF hc a4 (yO hc a5 ⟨rF hc c1,rF hc c2,rF hc c3,nF hc a6 (yO hc a7 (nF hc a8 (yO hc a9 ⟨rF hc c4,rF hc c5,sF hc b1 (sF hc b2 ⟨λt ht=>eP _ _ _ (ζ.1 c6 t ht),oa c7 hn,hQ⟩)⟩)))⟩))))
 ·cases h
def py (call:yQ) (pre:List xT) (m:xT) (mid:List xT) (un:Bool) (post:List xT) (fl:List Bool) (f:Fr) (σ:St):Option (Fr × St):=
 (tU call σ pre f).bind λf1=>(vE call σ (wJ f1) m.k).bind λx=>(tU call x.2 mid (f1.put m.dst x.1)).bind λf2=>(kA call post f2 x.2).bind λr=>
 if (lC call x.2 (oH fl pre f1) f f1&&e9 call σ mid (f1.put m.dst x.1) un f2)= true then some r else none
theorem nj {C:Cx} (hm:C.P.follows .mixedOrders=true) {call:yQ} (hc:uY C.P call) {pre:List xT} {m:xT} {mid:List xT} {un:Bool} {post:List xT} {fl:List Bool} {f f':Fr} {σ σ':St}
  (h:py call pre m mid un post fl f σ=some (f',σ')) {Q:Exit->Fr->St->Prop} (hQ:Q .normal f' σ'):wpS C (.mC pre m mid un post fl) f σ Q:=by
 refine od hm ?_;unfold py at h;obtain⟨f1,a1,h⟩:=γ.1 h;obtain⟨⟨d,σ1⟩,a2,h⟩:=γ.1 h;obtain⟨f2,a3,h⟩:=γ.1 h;obtain⟨⟨f4,σ4⟩,b1,h⟩:=γ.1 h
 split at h
 ·rename_i hb;cases h;simp only [ε] at hb;exact yO hc a1 (nF hc a2 ⟨rF hc hb.1,yO hc a3 ⟨pb hc hb.2,sF hc b1 hQ⟩⟩)
 ·cases h
def fH : DC->Bool
 | .nK ..=>false
 | .seq a b=>fH a&&fH b
 | .cond _ a b=>fH a&&fH b
 | .block _ c=>fH c
 | .loop c=>fH c
 | _=>true
def xj (b:Fr->St->Option St) (xX:List (List D)) (f:Fr) (p0 p1:Nat):Nat->St->Option St
 | 0,σ=>some σ
 | m+1,σ=>match b ((f.put (some p0) (.int .i64 (m:Int))).put (some p1) (.agg (xX.getD m []))) σ with
  | some σ2=>xj b xX f p0 p1 m σ2
  | none=>none
def kR (bk:Nat->Bool) (N:Nat) (call:yQ):DC->Nat->Fr->St->Option (Ex × Fr × St)
 | .skip,_,f,σ=>some (.normal,f,σ)
 | .vF pre post,_,f,σ=>match tU call σ pre f with
  | some f1=>match kA call post f1 σ with
   | some (f2,σ2)=>some (.normal,f2,σ2)
   | none=>none
  | none=>none
 | .kB pre m mid un post,_,f,σ=>match tU call σ pre f with
  | some f1=>match vE call σ (wJ f1) m.k with
   | some (d,σ1)=>match tU call σ1 pre f,tU call σ1 mid (f1.put m.dst d) with
    | some g1,some f2=>match xf g1 f1&&e9 call σ mid (f1.put m.dst d) un f2 with
     | true=>match kA call post f2 σ1 with
      | some (f3,σ3)=>some (.normal,f3,σ3)
      | none=>none
     | false=>none
    | _,_=>none
   | none=>none
  | none=>none
 | .mB pre m1 mid1 m2 mid2 post,_,f,σ=>match tU call σ pre f with
  | some f1=>match vE call σ (wJ f1) m1.k with
   | some (d1,σ1)=>match tU call σ1 pre f,tU call σ1 mid1 (f1.put m1.dst d1) with
    | some g1,some f2=>match xf g1 f1,vE call σ1 (wJ f2) m2.k with
     | true,some (d2,σ2)=>match tU call σ2 pre f,tU call σ2 mid1 (f1.put m1.dst d1),tU call σ2 mid2 (f2.put m2.dst d2) with
      | some x1,some x2,some f3=>match xf x1 f1&&xf x2 f2 with
       | true=>match kA call post f3 σ2 with
        | some (f4,σ4)=>some (.normal,f4,σ4)
        | none=>none
       | false=>none
      | _,_,_=>none
     | _,_=>none
    | _,_=>none
   | none=>none
  | none=>none
 | .seq a b,n,f,σ=>match kR bk N call a n f σ with
  | some (.normal,f1,σ1)=>kR bk N call b n f1 σ1
  | r=>r
 | .cond c a b,n,f,σ=>match wJ f c with
  | .bool t=>if t=true then kR bk N call a n f σ else kR bk N call b n f σ
  | _=>none
 | .block id c,n,f,σ=>match kR bk N call c n f σ with
  | some (.exit i,f1,σ1)=>if i=id then some (.normal,f1,σ1) else some (.exit i,f1,σ1)
  | r=>r
 | .loop c,n,f,σ=>gF (kR bk N call c n) n f σ
 | .mA pre m1 mid1 m2 mid2 post free,_,f,σ=>(pz call pre m1 mid1 m2 mid2 post free f σ).map λr=>(.normal,r.1,r.2)
 | .mC pre m mid un post fl,_,f,σ=>(py call pre m mid un post fl f σ).map λr=>(.normal,r.1,r.2)
 | .nK g ps dx dy,n,f,σ=>match ps,wJ f g with
  | [p0,p1],.fn gi [.ptr [.xY]]=>if (bk gi&&decide (p0<N)&& decide (p1<N))= true then some (.normal,f,σ) else none
  | [p0,p1],.fn gi [.ptr [.sl 2 xX]]=>if (bk gi&&fH dx&&fH dy&&decide (p0<N)&& decide (p1<N))= true then(xj (λf0 σ0=>match kR bk N call dx n f0 σ0 with
    | some (.normal,f1,σ1)=>match kR bk N call dy n f1 σ1 with
     | some (.normal,_,σ2)=>some σ2
     | _=>none
    | _=>none) xX f p0 p1 xX.length σ).map λσ'=>(.normal,f,σ') else none
  | _,_=>none
 | .exit id,_,f,σ=>some (.exit id,f,σ)
 | .ret,_,f,σ=>some (.ret,f,σ)
 | _,_,_,_=>none
theorem ky {C:Cx} (hm:C.P.follows .mixedOrders=true) {c:DC} {body:Fr->St->Option (Ex × Fr × St)} (hb:∀ f σ e f' σ',body f σ=some (e,f',σ')->∀ Q:Exit->Fr->St->Prop,Q e.to f' σ'->rR C c f σ Q) {n:Nat} {f:Fr} {σ:St} {e:Ex} {f':Fr} {σ':St}
  (h:gF body n f σ=some (e,f',σ')) {Q:Exit->Fr->St->Prop} (hQ:Q e.to f' σ'):wpS C (.loop c) f σ Q:=by
 refine xL (α:=Nat × Fr × St) (λa=>a.2.1) (λa=>a.2.2) (λa=>gF body a.1 a.2.1 a.2.2=some (e,f',σ')) (λa=>a.1) (n,f,σ) h zA.refl ?_;rintro ⟨k,f0,σ0⟩ hI
 match k,hI with
 | 0,hI=>simp [gF] at hI
 | k+1,hI=>
  simp only at hI ⊢;unfold gF at hI;refine jW hm ?_
  split at hI
  ·rename_i f1 σ1 h1;exact hb _ _ _ _ _ h1 _ ⟨(k,Pd.dd 0 f1,σ1),hI,zA.dd,Nat.lt_succ_self k⟩
  ·rename_i hne;refine hb _ _ _ _ _ hI _ ?_
   cases e with
   | normal=>exact absurd hI (hne _ _)
   | exit i=>exact hQ
   | ret=>exact hQ
theorem iz {b:Fr->St->Option St} {xX:List (List D)} {f:Fr} {p0 p1 m:Nat} {σ σ':St} (h:xj b xX f p0 p1 (m+1) σ=some σ'):∃ σ2,b ((f.put (some p0) (.int .i64 (m:Int))).put (some p1) (.agg (xX.getD m []))) σ=some σ2/\xj b xX f p0 p1 m σ2=some σ':=by
 simp only [xj] at h
 split at h
 ·rename_i σ2 h2; exact⟨σ2,h2,h⟩
 ·cases h
theorem sZ {bk:Nat->Bool} {C:Cx} (hm:C.P.follows .mixedOrders=true) (hB:∀ g,bk g=true->vv C.P g) {call:yQ} (hc:uY C.P call):∀ (c:DC),(C.rd=none\/fH c=true)->∀ (n:Nat) (f:Fr) (σ:St) (e:Ex) (f':Fr) (σ':St),kR bk C.N call c n f σ=some (e,f',σ')->∀ Q:Exit->Fr->St->Prop,Q e.to f' σ'->rR C c f σ Q
 | .skip,hr,n,f,σ,e,f',σ',h,Q,hQ=>by simp [kR] at h; obtain⟨rfl,rfl,rfl⟩:=h; exact hQ
 | .exit id,hr,n,f,σ,e,f',σ',h,Q,hQ=>by simp [kR] at h; obtain⟨rfl,rfl,rfl⟩:=h; exact hQ
 | .ret,hr,n,f,σ,e,f',σ',h,Q,hQ=>by simp [kR] at h; obtain⟨rfl,rfl,rfl⟩:=h; exact hQ
 | .vF pre post,hr,n,f,σ,e,f',σ',h,Q,hQ=>by
  unfold kR at h;unfold rR
  split at h
  ·rename_i f1 h1
   split at h
   ·rename_i f2 σ2 h2;simp only [Option.some.injEq,Prod.mk.injEq] at h;obtain⟨rfl,rfl,rfl⟩:=h;exact yO hc h1 (sF hc h2 hQ)
   ·cases h
  ·cases h
 | .seq a b,hr,n,f,σ,e,f',σ',h,Q,hQ=>by
  unfold kR at h;unfold rR
  split at h
  ·rename_i f1 σ1 h1;exact sZ hm hB hc a (hr.imp (λx=>x) λh=>by simp only [fH,ε] at h; exact h.1) n _ _ _ _ _ h1 _ (sZ hm hB hc b (hr.imp (λx=>x) λh=>by simp only [fH,ε] at h; exact h.2) n _ _ _ _ _ h Q hQ)
  ·rename_i hne;refine sZ hm hB hc a (hr.imp (λx=>x) λh=>by simp only [fH,ε] at h; exact h.1) n _ _ _ _ _ h _ ?_
   cases e with
   | normal=>exact absurd h (hne _ _)
   | exit i=>exact hQ
   | ret=>exact hQ
 | .cond c a b,hr,n,f,σ,e,f',σ',h,Q,hQ=>by
  unfold kR at h;unfold rR
  split at h
  ·rename_i t ht;rw [ht];simp only
   split at h
   ·rename_i e1; rw [if_pos e1]; exact sZ hm hB hc a (hr.imp (λx=>x) λh=>by simp only [fH,ε] at h; exact h.1) n _ _ _ _ _ h Q hQ
   ·rename_i e1; rw [if_neg e1]; exact sZ hm hB hc b (hr.imp (λx=>x) λh=>by simp only [fH,ε] at h; exact h.2) n _ _ _ _ _ h Q hQ
  ·cases h
 | .block id c,hr,n,f,σ,e,f',σ',h,Q,hQ=>by
  unfold kR at h;unfold rR
  split at h
  ·rename_i i f1 σ1 h1;refine sZ hm hB hc c (hr.imp (λx=>x) λh=>by simpa only [fH] using h) n _ _ _ _ _ h1 _ ?_;show if i=id then Q .normal f1 σ1 else Q (.exit i) f1 σ1
   split at h
   ·rename_i e1;simp only [Option.some.injEq,Prod.mk.injEq] at h;obtain⟨rfl,rfl,rfl⟩:=h;rw [if_pos e1]; exact hQ
   ·rename_i e1;simp only [Option.some.injEq,Prod.mk.injEq] at h;obtain⟨rfl,rfl,rfl⟩:=h;rw [if_neg e1]; exact hQ
  ·rename_i hne;refine sZ hm hB hc c (hr.imp (λx=>x) λh=>by simpa only [fH] using h) n _ _ _ _ _ h _ ?_
   cases e with
   | normal=>exact hQ
   | exit i=>exact absurd h (hne _ _ _)
   | ret=>exact hQ
 | .loop c,hr,n,f,σ,e,f',σ',h,Q,hQ=>by unfold kR at h;unfold rR;exact ky hm (λf σ e f' σ' h Q hQ=>sZ hm hB hc c (hr.imp (λx=>x) λh=>by simpa only [fH] using h) n f σ e f' σ' h Q hQ) h hQ
 | .kB pre m mid un post,hr,n,f,σ,e,f',σ',h,Q,hQ=>by
  unfold kR at h;unfold rR
  split at h
  ·rename_i f1 h1
   split at h
   ·rename_i d σ1 h2
    split at h
    ·rename_i g1 f2 h3 h4
     split at h
     ·rename_i h5;rw [ε] at h5
      split at h
      ·rename_i f3 σ3 h6;simp only [Option.some.injEq,Prod.mk.injEq] at h;obtain⟨rfl,rfl,rfl⟩:=h;exact yO hc h1 (nF hc h2 ⟨yO hc h3 (oU h5.1),yO hc h4 ⟨pb hc h5.2,sF hc h6 hQ⟩⟩)
      ·cases h
     ·cases h
    ·cases h
   ·cases h
  ·cases h
 | .mB pre m1 mid1 m2 mid2 post,hr,n,f,σ,e,f',σ',h,Q,hQ=>by
  unfold kR at h;unfold rR
  split at h
  ·rename_i f1 h1
   split at h
   ·rename_i d1 σ1 h2
    split at h
    ·rename_i g1 f2 h3 h4
     split at h
     ·rename_i d2 σ2 h5 h6
      split at h
      ·rename_i x1 x2 f3 h7 h8 h9
       split at h
       ·rename_i h10;rw [ε] at h10
        split at h
        ·rename_i f4 σ4 h11;simp only [Option.some.injEq,Prod.mk.injEq] at h;obtain⟨rfl,rfl,rfl⟩:=h;exact yO hc h1 (nF hc h2 ⟨yO hc h3 (oU h5),yO hc h4 (nF hc h6 ⟨yO hc h7 (oU h10.1),yO hc h8 (oU h10.2),yO hc h9 (sF hc h11 hQ)⟩)⟩)
        ·cases h
       ·cases h
      ·cases h
     ·cases h
    ·cases h
   ·cases h
  ·cases h
 | .uj ..,hr,n,f,σ,e,f',σ',h,Q,hQ | .qo ..,hr,n,f,σ,e,f',σ',h,Q,hQ | .qm ..,hr,n,f,σ,e,f',σ',h,Q,hQ | .nB ..,hr,n,f,σ,e,f',σ',h,Q,hQ=>by simp [kR] at h
 | .mA pre m1 mid1 m2 mid2 post free,hr,n,f,σ,e,f',σ',h,Q,hQ=>by unfold kR at h;unfold rR;obtain⟨⟨f4,σ4⟩,h1,h2⟩:=δ.1 h;cases h2;exact ni hm hc h1 hQ
 | .mC pre m mid un post fl,hr,n,f,σ,e,f',σ',h,Q,hQ=>by unfold kR at h;unfold rR;obtain⟨⟨f4,σ4⟩,h1,h2⟩:=δ.1 h;cases h2;exact nj hm hc h1 hQ
 | .nK g ps dx dy,hr,n,f,σ,e,f',σ',h,Q,hQ=>by
  unfold kR at h;unfold rR
  split at h
  ·rename_i p0 p1 gi hg
   split at h
   ·rename_i hb;simp only [ε,decide_eq_true_eq] at hb;obtain⟨⟨b1,b4⟩,b5⟩:=hb;cases h;have hrd:C.rd=none:=hr.resolve_right (by simp [fH]);exact bV hrd (hB _ b1) hg (.inr ⟨rfl,rfl⟩) ⟨b4,b5⟩ (λk s=>s=σ) rfl (λl k σk hk _=>absurd hk (by simp)) (λs hs=>by subst hs; exact hQ)
   ·cases h
  ·rename_i p0 p1 gi xX hg
   split at h
   ·rename_i hb;simp only [ε,decide_eq_true_eq] at hb;obtain⟨⟨⟨⟨b1,b2⟩,b3⟩,b4⟩,b5⟩:=hb;obtain⟨σ2,h1,h2⟩:=δ.1 h;cases h2;have hrd:C.rd=none:=hr.resolve_right (by simp [fH])
    refine bV hrd (hB _ b1) hg (.inl rfl) ⟨b4,b5⟩ (λk s=>k<=xX.length/\xj _ xX f p0 p1 (xX.length-k) s=some σ') ⟨Nat.zero_le _,h1⟩ (λl k σk hk hJ=>?_) (λs hs=>?_)
    ·obtain⟨_,hJ⟩:=hJ;rw [show xX.length-k=(xX.length-1-k)+ 1 by omega] at hJ;obtain⟨σ3,g1,g2⟩:=iz hJ;simp only at g1
     split at g1
     ·rename_i f1 σ1 g3
      split at g1
      ·rename_i f5 σ5 g4;cases g1;refine jW (C:={ C with n0:=σ.nx,rd:=some l }) hm (sZ (C:={ C with n0:=σ.nx,rd:=some l }) hm hB hc dx (.inr b2) n _ _ _ _ _ g3 _ ?_);exact jW (C:={ C with n0:=σ.nx,rd:=some l }) hm (sZ (C:={ C with n0:=σ.nx,rd:=some l }) hm hB hc dy (.inr b3) n _ _ _ _ _ g4 _ ⟨rfl,_,_,zA.refl,by omega,by rw [show xX.length-(k+1)= xX.length-1-k by omega]; exact g2⟩)
      ·cases g1
     ·cases g1
    ·have h0:=hs.2;rw [Nat.sub_self] at h0;simp only [xj] at h0;cases h0;exact hQ
   ·cases h
  ·cases h
mutual
def pn : D->List Nat->List Nat
 | .ref k _ _ _,l=>k :: l
 | .zZ k _ _,l=>k :: l
 | .sub k _ _ _,l=>k :: l
 | .yU k,l=>k :: l
 | .agg cs,l=>cD cs l
 | .yN cs,l=>cD cs l
 | .fn _ cs,l=>cD cs l
 | _,l=>l
def cD : List D->List Nat->List Nat
 | [],l=>l
 | d :: r,l=>pn d (cD r l)
end
def po : List (List D)->List Nat->List Nat
 | [],l=>l
 | e :: r,l=>cD e (po r l)
def cE (n0:Nat) (xZ:List (Nat × Ob)):Nat->List Nat->Nat->Nat
 | 0,_,m=>m
 | _+1,[],m=>m
 | n+1,k :: todo,m=>if k<n0\/m.testBit k=true then cE n0 xZ n todo m else match St.look xZ k with
  | some o=>cE n0 xZ n (po o.xX todo) (m ||| 2 ^ k)
  | none=>cE n0 xZ n todo m
def eU (n0:Nat):List (Nat × Ob)->List Nat
 | []=>[]
 | (k,o) :: r=>if k<n0 then po o.xX (eU n0 r) else eU n0 r
def b9 (n0:Nat) (d:D) (σ:St):List (Nat × Ob):=
 if σ.nx=n0 then σ.xZ else
  let m:=cE n0 σ.xZ 100000 (pn d (eU n0 σ.xZ)) 0
  σ.xZ.filter λp=>decide (p.1<n0) || m.testBit p.1
theorem nO {φ:Nat->Bool} {k:Nat} {o:Ob}:∀ {l:List (Nat × Ob)},St.look (l.filter λp=>φ p.1) k=some o->St.look l k=some o
 | [],h=>by cases h
 | (j, o') :: r,h=>by
  rw [η] at h
  split at h
  ·rw [oM] at h ⊢
   split at h
   ·rename_i e; rw [if_pos e]; exact h
   ·rename_i e; rw [if_neg e]; exact nO h
  ·rename_i hf;have h':=nO h;rw [oM]
   split
   ·rename_i e;subst e;exfalso
    have:∀ {l:List (Nat × Ob)},St.look (l.filter λp=>φ p.1) j≠some o:=by
     intro l
     induction l with
     | nil=>simp [St.look]
     | cons p l ih=>
      rw [η]
      split
      ·rename_i hp;rw [oM]
       split
       ·rename_i e; rw [e] at hp; exact absurd hp hf
       ·exact ih
      ·exact ih
    exact this h
   ·exact h'
theorem aj {n0:Nat} {d:D} {σ:St}:∀ k o,St.look (b9 n0 d σ) k=some o->σ.get k=some o:=λk o h=>by
 unfold b9 at h
 split at h
 ·exact h
 ·exact nO (φ:=λj=>decide (j<n0) || (cE n0 σ.xZ 100000 (pn d (eU n0 σ.xZ)) 0).testBit j) h
def qD (f:Fr) (σ:St):rO->Option D
 | .tmp t=>some (f.get t)
 | .cell t n ag=>wa σ n ag (f.get t)
def fE (f:Fr) (σ:St):List rO->Option D
 | []=>some (.yN [])
 | [a]=>qD f σ a
 | [a,b]=>match qD f σ a,qD f σ b with
  | some x,some y=>some (.yN [x,y])
  | _,_=>none
 | [a,b,c]=>match qD f σ a,qD f σ b,qD f σ c with
  | some x,some y,some z=>some (.yN [x,y,z])
  | _,_,_=>none
 | [a,b,c,d]=>match qD f σ a,qD f σ b,qD f σ c,qD f σ d with
  | some x,some y,some z,some u=>some (.yN [x,y,z,u])
  | _,_,_,_=>none
 | _=>none
theorem vQ {C:Cx} {f:Fr} {σ:St} {r:rO} {d:D} (h:qD f σ r=some d) {K:D->Prop} (hK:K d):tX C r f σ K:=by
 cases r with
 | tmp t=>simp only [qD,Option.some.injEq] at h; subst h; exact hK
 | cell t n ag=>exact bC (C:=C) (ev:=wJ f) (x:=.t t) h hK
theorem iu {C:Cx} {f:Fr} {σ:St}:∀ {rs:List rO} {d:D},fE f σ rs=some d->∀ {K:D->Prop},K d->sJ C rs f σ K
 | [],d,h,K,hK=>by simp only [fE,Option.some.injEq] at h; subst h; exact hK
 | [a],d,h,K,hK=>vQ (by simpa only [fE] using h) hK
 | [a,b],d,h,K,hK=>by
  simp only [fE] at h;simp only [sJ]
  split at h
  ·rename_i h1 h2;simp only [Option.some.injEq] at h; subst h;exact vQ h1 (K:=λx=>tX C b f σ λy=>K (.yN [x,y])) (vQ h2 hK)
  ·cases h
 | [a,b,c],d,h,K,hK=>by
  simp only [fE] at h;simp only [sJ]
  split at h
  ·rename_i h1 h2 h3;simp only [Option.some.injEq] at h; subst h;exact vQ h1 (K:=λx=>tX C b f σ λy=>tX C c f σ λz=>K (.yN [x,y,z])) (vQ h2 (K:=λy=>tX C c f σ λz=>K (.yN [_,y,z])) (vQ h3 hK))
  ·cases h
 | [a,b,c,e],d,h,K,hK=>by
  simp only [fE] at h;simp only [sJ]
  split at h
  ·rename_i h1 h2 h3 h4;simp only [Option.some.injEq] at h; subst h;exact vQ h1 (K:=λx=>tX C b f σ λy=>tX C c f σ λz=>tX C e f σ λu=>K (.yN [x,y,z,u])) (vQ h2 (K:=λy=>tX C c f σ λz=>tX C e f σ λu=>K (.yN [_,y,z,u])) (vQ h3 (K:=λz=>tX C e f σ λu=>K (.yN [_,_,z,u])) (vQ h4 hK)))
  ·cases h
 | _ :: _ :: _ :: _ :: _ :: _,d,h,K,hK=>by simp [fE] at h
abbrev Table :=List (Nat × Fn)
def wb : Table->Nat->Option Fn
 | [],_=>none
 | (k,F) :: r,g=>if k=g then some F else wb r g
def tO (P:Program) (T:Table):Prop:=∀ g F,wb T g=some F->∃ fn,P.funcs[g]?=some fn/\xW P F.own fn=some (F.n,F.code,F.res)
theorem tO.nil {P:Program}:tO P []:=λg F h=>by cases h
theorem tO.cons {P:Program} {T:Table} {g:Nat} {fn:Func} {own:List Nat} {c:Nat × DC × List rO} (hf:P.funcs[g]?=some fn) (hc:xW P own fn=some c) (h:tO P T):tO P ((g,⟨c.1,c.2.1,c.2.2,own⟩) :: T):=λk F hk=>by
 unfold wb at hk
 split at hk
 ·rename_i e;subst e;simp only [Option.some.injEq] at hk;subst hk;exact⟨fn,hf,hc⟩
 ·exact h k F hk
abbrev lP :=FuncId->List D->Option D
def mJ (P:Program) (O:lP):Prop:=∀ g args d,O g args=some d->∀ σ,xS P g args σ d σ
def jn (fr:Nat->Bool) (call:yQ):yQ:=λg args σ=>if (fr g&&D.xR args)= true then(match call g args hU with
 | some (d,σ1)=>(fz σ1 30 d).map λd'=>(d',σ)
 | none=>none) else call g args σ
theorem gf {P:Program} {fr:Nat->Bool} {call:yQ} (hc:uY P call):uY P (jn fr call):=λg args σ d σ' h=>by
 unfold jn at h
 split at h
 ·rename_i hp;rw [ε] at hp
  split at h
  ·rename_i d1 σ1 h1;obtain⟨d2,h2,h3⟩:=δ.1 h;cases h3;exact xS.tP ((hc _ _ _ _ _ h1).vp (vx 30 _ _ h2)) hp.2
  ·cases h
 ·exact hc _ _ _ _ _ h
def cu (bk fr:Nat->Bool) (T:Table) (O:lP):Nat->yQ
 | 0,_,_,_=>none
 | n + 1,g,args,σ=>match O g args with
  | some d=>some (d,σ)
  | none=>match wb T g with
   | some F=>if args.length<=F.n then(match kR bk F.n (jn fr (cu bk fr T O n)) F.code 100000 (rL 0 args) σ with
    | some (.exit _,_,_)=>none
    | some (_,f,σ1)=>match fE f σ1 F.res with
     | some d=>some (d,⟨σ1.nx,b9 σ.nx d σ1⟩)
     | none=>none
    | none=>none) else none
   | none=>none
theorem ow {bk fr:Nat->Bool} {P:Program} (hm:P.follows .mixedOrders=true) (hB:∀ g,bk g=true->vv P g) {T:Table} (hT:tO P T) {O:lP} (hO:mJ P O):∀ n,uY P (cu bk fr T O n)
 | 0=>λg args σ d σ' h=>by simp [cu] at h
 | n + 1=>λg args σ d σ' h=>by
  have ih:=ow (fr:=fr) hm hB hT hO n;unfold cu at h
  split at h
  ·rename_i d1 h1;simp only [Option.some.injEq,Prod.mk.injEq] at h;obtain⟨rfl,rfl⟩:=h;exact hO _ _ _ h1 σ
  split at h
  ·rename_i F hF;obtain⟨fn,hf,hc⟩:=hT g F hF
   split at h
   ·rename_i hl
    have key:∀ e f σ1,kR bk F.n (jn fr (cu bk fr T O n)) F.code 100000 (rL 0 args) σ=some (e,f,σ1)->(e.to = .ret\/e.to = .normal)->(match fE f σ1 F.res with | some d=>some (d,(⟨σ1.nx,b9 σ.nx d σ1⟩:St)) | none=>none)= some (d,σ')->xS P g args σ d σ':=by
     intro e f σ1 h1 he h2
     split at h2
     ·rename_i d1 h3;simp only [Option.some.injEq,Prod.mk.injEq] at h2;obtain⟨rfl,rfl⟩:=h2;refine xS.gc (σ1:=σ1) ?_ aj;refine xS.ec hm hf hc hl λ_=>?_;exact sZ (C:=⟨P,F.n,σ.nx,F.own,none⟩) hm hB (gf ih) F.code (.inl rfl) 100000 _ _ _ _ _ h1 _ ⟨he,iu h3 (.inl ⟨rfl,rfl⟩)⟩
     ·cases h2
    split at h
    ·cases h
    ·rename_i e f σ1 hne h1;refine key e f σ1 h1 ?_ h
     cases e with
     | normal=>exact .inr rfl
     | exit i=>exact absurd rfl (hne i)
     | ret=>exact .inl rfl
    ·cases h
   ·cases h
  ·cases h
theorem ir {bk fr:Nat->Bool} {P:Program} (hm:P.follows .mixedOrders=true) (hB:∀ g,bk g=true->vv P g) {T:Table} (hT:tO P T) {O:lP} (hO:mJ P O) (n:Nat) {g:FuncId} {args:List D} {d:D} (hd:d.xQ=true) (h:(cu bk fr T O n g args hU).map (·.1)= some d):wP P g args d:=by rw [δ] at h;obtain⟨⟨d1,σ1⟩,h1,rfl⟩:=h;exact(ow hm hB hT hO n _ _ _ _ _ h1).eZ hd
theorem reckon {P:Program} (hm:P.follows .mixedOrders=true) {T:Table} (hT:tO P T) {O:lP} (hO:mJ P O) (n:Nat) {g:FuncId} {args:List D} {d:D} (hd:d.xQ=true) (h:(cu (λ_=>false) (λ_=>false) T O n g args hU).map (·.1)= some d):wP P g args d:= ir hm (λ_ h=>by cases h) hT hO n hd h
end Go.Pd
