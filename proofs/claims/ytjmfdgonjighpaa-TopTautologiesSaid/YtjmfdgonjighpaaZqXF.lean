/- Part XF. -/
import Derived.Test.YtjmfdgonjighpaaZqXN
import Derived.Test.YtjmfdgonjighpaaZqXA
import Derived.Test.YtjmfdgonjighpaaZqG5
set_option linter.unusedSectionVars false
set_option linter.unusedVariables false
set_option linter.unusedSimpArgs false
set_option linter.defProp false
set_option maxRecDepth 20000
set_option maxHeartbeats 1000000
open Option renaming bind_eq_some_iff->γ,map_eq_some_iff->δ
open Bool renaming and_eq_true->ε
open List renaming all_eq_true->ζ,contains_eq_mem->η,filter_cons->θ
namespace Go.Pd
open Go
variable [vA]
def P9 (σ:St) (sz bytes:Nat) (x:D) (rows:List (List D)):Option (D × St):=
 match x with
 | .xI=>if rows.length*bytes<=140737488355328/\rows.length<=8000000000000 then(match rows with
  | []=>some (.xI,σ)
  | _ :: _=>some (.wZ σ.nx sz rows.length,σ.new ⟨sz,rows⟩)) else none
 | .wZ key sz' n=>match σ.get key with
  | some ob=>if sz=sz'/\ob.sz=sz/\n<=ob.xZ.length/\(n+rows.length)* bytes<=140737488355328/\n+rows.length<=8000000000000 then some (.wZ σ.nx sz (n+rows.length),(σ.erase key).new ⟨sz,ob.xZ.take n++rows⟩) else none
  | none=>none
 | _=>none
def PF (σ:St) (zero:D) (x:D):Option (D × St):=
 match x with
 | .xI=>some (.yD [],σ)
 | .emp=>some (.yD [],σ)
 | .wZ key sz n=>match σ.get key with
  | some ob=>if sz=1/\ob.sz=1/\0<n/\n<=ob.xZ.length/\zero.one=true then some (.yD [],σ.set key ⟨1,List.replicate n [zero]++ob.xZ.drop n⟩) else none
  | none=>none
 | .sub key sz lo n=>match σ.get key with
  | some ob=>if sz=1/\ob.sz=1/\0<n/\lo+n<=ob.xZ.length/\zero.one=true then some (.yD [],σ.set key ⟨1,ob.xZ.take lo++(List.replicate n [zero]++ob.xZ.drop (lo+n))⟩) else none
  | none=>none
 | _=>none
def PG (σ:St) (x:D) (rows:List (List D)):Option (D × St):=
 match x with
 | .wZ key sz n=>match σ.get key with
  | some ob=>if sz=1/\ob.sz=1/\n<=ob.xZ.length/\0<min n rows.length then some (.int .i64 ((min n rows.length:Nat):Int),σ.set key ⟨1,rows.take (min n rows.length)++ ob.xZ.drop (min n rows.length)⟩) else none
  | none=>none
 | .sub key sz lo n=>match σ.get key with
  | some ob=>if sz=1/\ob.sz=1/\lo+n<=ob.xZ.length/\0<min n rows.length then some (.int .i64 ((min n rows.length:Nat):Int),σ.set key ⟨1,ob.xZ.take lo++(rows.take (min n rows.length)++ ob.xZ.drop (lo+min n rows.length))⟩) else none
  | none=>none
 | _=>none
def T7 (σ:St) (m k:D) (f:St->Nat->Ob->IntKind->Int->Option (D × St)):Option (D × St):=
 match m,k with
 | .yV key,.int kk y=>match σ.get key with
  | some o=>if o.sz=0/\ej kk o.xZ=true then f σ key o kk y else none
  | none=>none
 | _,_=>none
def vE (call:zG) (σ:St) (ev:vK->D) (k:DK):Option (D × St):=
 match k with
 | .box x=>match (ev x).cells with
  | some cs=>if zN cs=true/\0<cs.length then some (.ref σ.nx cs.length 0 0,σ.new ⟨cs.length,[cs]⟩) else none
  | none=>none
 | .alloc zero=>if zN zero=true/\0<zero.length then some (.ref σ.nx zero.length 0 0,σ.new ⟨zero.length,[zero]⟩) else none
 | .store n a x=>match ev a,(ev x).cells with
  | .ref key sz i off,some ds=>match σ.get key with
   | some ob=>if ob.sz=sz/\i<ob.xZ.length/\ds.length=n/\off+n<=sz/\zN ds=true then some (.uO,σ.set key ⟨sz,ob.xZ.set i (oR (ob.xZ.getD i []) off ds)⟩) else none
   | none=>none
  | _,_=>none
 | .app sz bytes x y=>match rowsOf σ sz (ev y) with
  | some rows=>if rows.all zN=true then P9 σ sz bytes (ev x) rows else none
  | none=>none
 | .jF sz bytes zero len cap=>match ev len,ev cap with
  | .int .i64 n,.int .i64 m=>if n=m/\0<=n/\bytes*n<=281474976710656/\zN zero=true then some (.wZ σ.nx sz n.toNat,σ.new ⟨sz,List.replicate n.toNat zero⟩) else none
  | _,_=>none
 | .lZ sz len zero parts=>match fT sz (List.replicate len zero) (parts.map λp=>(p.1,ev p.2)) with
  | some es=>if es.all zN=true then some (.wZ σ.nx sz len,σ.new ⟨sz,es⟩) else none
  | none=>none
 | .j9 zero x=>PF σ zero (ev x)
 | .j5 x y=>match rowsOf σ 1 (ev y) with
  | some rows=>if rows.all zN=true then PG σ (ev x) rows else none
  | none=>none
 | .call fn args=>match ev fn with
  | .fn g caps=>Vg call σ g (args.map ev++caps)
  | _=>none
 | .yu=>some (.yV σ.nx,σ.new ⟨0,[]⟩)
 | .nA m k x=>T7 σ (ev m) (ev k) λσ key o kk y=>some (.uO,σ.set key ⟨0,aE kk o.xZ y (ev x)⟩)
 | .qU n m k x=>match ev m,ev k with
  | .yV key,.agg cs=>match σ.get key,nS cs with
   | some o,some y=>match ze o.xZ with
    | some l=>if o.sz=0/\y.length=n/\(l.all λp=>p.1.length==n)= true then some (.uO,σ.set key ⟨0,vZ (lN y (ev x) l)⟩) else none
    | none=>none
   | _,_=>none
  | _,_=>none
 | .fF zero m k=>T7 σ (ev m) (ev k) λσ key o kk y=>if o.xZ.length<=1000000000 then(match qT y o.xZ 0 with
  | some (i,d)=>some (.yD [d,.int .i64 i],σ.set key ⟨0,o.xZ⟩)
  | none=>some (.yD [zero,.int .i64 o.xZ.length],σ.set key ⟨0,o.xZ ++ [[.int kk y,zero]]⟩)) else none
 | .oT n zero m k=>match ev m,ev k with
  | .yV key,.agg cs=>match σ.get key,nS cs with
   | some o,some y=>match ze o.xZ with
    | some l=>if o.sz=0/\o.xZ.length<=1000000000/\y.length=n/\(l.all λp=>p.1.length==n)= true then(match uJ y l 0 with
     | some (i,d)=>some (.yD [d,.int .i64 i],σ.set key ⟨0,o.xZ⟩)
     | none=>some (.yD [zero,.int .i64 o.xZ.length],σ.set key ⟨0,vZ (l ++ [(y,zero)])⟩)) else none
    | none=>none
   | _,_=>none
  | _,_=>none
 | .fD m s x=>match ev m,ev s with
  | .yV key,.int _ i=>match σ.get key with
   | some o=>if o.sz=0/\0<=i/\i<o.xZ.length then(match o.xZ.getD i.toNat [] with
    | [y,_]=>some (.uO,σ.set key ⟨0,o.xZ.set i.toNat [y,ev x]⟩)
    | _=>none) else none
   | none=>none
  | _,_=>none
 | k=>(pE call σ ev k).map λd=>(d,σ)
theorem im {rows:List (List D)} (h:rows.all zN=true):∀ r ∈ rows,zN r=true:=ζ.1 h
theorem jB {C:Cx} {call:zG} (hc:tT C.P call) {σ:St} {ev:vK->D}:∀ {k:DK} {d:D} {σ':St},vE call σ ev k=some (d,σ')->∀ {K:D->St->Prop},K d σ'->zC C σ ev k K
 | .box x,d,σ',h,K,hK=>by
  simp only [vE] at h;simp only [zC]
  split at h
  ·rename_i h1;rw [h1];simp only
   split at h
   ·rename_i h2;simp only [Option.some.injEq,Prod.mk.injEq] at h;obtain⟨rfl,rfl⟩:=h;exact⟨h2.1,h2.2,hK⟩
   ·cases h
  ·cases h
 | .alloc zero,d,σ',h,K,hK=>by
  simp only [vE] at h
  split at h
  ·rename_i h2;simp only [Option.some.injEq,Prod.mk.injEq] at h;obtain⟨rfl,rfl⟩:=h;exact⟨h2.1,h2.2,hK⟩
  ·cases h
 | .store n a x,d,σ',h,K,hK=>by
  simp only [vE] at h;simp only [zC]
  split at h
  ·rename_i h1 h2;rw [h1,h2];simp only
   split at h
   ·rename_i h3;rw [h3];simp only
    split at h
    ·rename_i h4;simp only [Option.some.injEq,Prod.mk.injEq] at h;obtain⟨rfl,rfl⟩:=h;exact⟨h4.1,h4.2.1,h4.2.2.1,h4.2.2.2.1,h4.2.2.2.2,hK⟩
    ·cases h
   ·cases h
  ·cases h
 | .app sz bytes x y,d,σ',h,K,hK=>by
  simp only [vE] at h;simp only [zC]
  split at h
  ·rename_i rows h1;rw [h1];simp only
   split at h
   ·rename_i h2;refine⟨im h2,?_⟩;unfold P9 at h
    split at h
    ·rename_i h3;rw [h3];simp only
     split at h
     ·rename_i h4
      refine⟨h4.1,h4.2,λe=>?_,λe=>?_⟩
      ·subst e;simp only [Option.some.injEq,Prod.mk.injEq] at h;obtain⟨rfl,rfl⟩:=h;exact hK
      ·match rows,e,h with
       | r :: rs,_,h=> simp only [Option.some.injEq,Prod.mk.injEq] at h;obtain⟨rfl,rfl⟩:=h;exact hK
     ·cases h
    ·rename_i h3;rw [h3];simp only
     split at h
     ·rename_i h5;rw [h5];simp only
      split at h
      ·rename_i h4;simp only [Option.some.injEq,Prod.mk.injEq] at h;obtain⟨rfl,rfl⟩:=h;exact⟨h4.1,h4.2.1,h4.2.2.1,h4.2.2.2.1,h4.2.2.2.2,hK⟩
      ·cases h
     ·cases h
    ·cases h
   ·cases h
  ·cases h
 | .jF sz bytes zero len cap,d,σ',h,K,hK=>by
  simp only [vE] at h;simp only [zC]
  split at h
  ·rename_i h1 h2;rw [h1,h2];simp only
   split at h
   ·rename_i h4;simp only [Option.some.injEq,Prod.mk.injEq] at h;obtain⟨rfl,rfl⟩:=h;exact⟨h4.1,h4.2.1,h4.2.2.1,h4.2.2.2,hK⟩
   ·cases h
  ·cases h
 | .lZ sz len zero parts,d,σ',h,K,hK=>by
  simp only [vE] at h;simp only [zC]
  split at h
  ·rename_i h1;rw [h1];simp only
   split at h
   ·rename_i h4;simp only [Option.some.injEq,Prod.mk.injEq] at h;obtain⟨rfl,rfl⟩:=h;exact⟨im h4,hK⟩
   ·cases h
  ·cases h
 | .j9 zero x,d,σ',h,K,hK=>by
  simp only [vE] at h;simp only [zC];unfold PF at h
  split at h
  ·rename_i h1;rw [h1];simp only [Option.some.injEq,Prod.mk.injEq] at h;obtain⟨rfl,rfl⟩:=h;exact hK
  ·rename_i h1;rw [h1];simp only [Option.some.injEq,Prod.mk.injEq] at h;obtain⟨rfl,rfl⟩:=h;exact hK
  ·rename_i h1;rw [h1];simp only
   split at h
   ·rename_i h2;rw [h2];simp only
    split at h
    ·rename_i h4;simp only [Option.some.injEq,Prod.mk.injEq] at h;obtain⟨rfl,rfl⟩:=h;exact⟨h4.1,h4.2.1,h4.2.2.1,h4.2.2.2.1,h4.2.2.2.2,hK⟩
    ·cases h
   ·cases h
  ·rename_i h1;rw [h1];simp only
   split at h
   ·rename_i h2;rw [h2];simp only
    split at h
    ·rename_i h4;simp only [Option.some.injEq,Prod.mk.injEq] at h;obtain⟨rfl,rfl⟩:=h;exact⟨h4.1,h4.2.1,h4.2.2.1,h4.2.2.2.1,h4.2.2.2.2,hK⟩
    ·cases h
   ·cases h
  ·cases h
 | .j5 x y,d,σ',h,K,hK=>by
  simp only [vE] at h;simp only [zC]
  split at h
  ·rename_i rows hr;rw [hr];simp only
   split at h
   ·rename_i hall;refine⟨im hall,?_⟩;unfold PG at h
    split at h
    ·rename_i h1;rw [h1];simp only
     split at h
     ·rename_i h2;rw [h2];simp only
      split at h
      ·rename_i h4;simp only [Option.some.injEq,Prod.mk.injEq] at h;obtain⟨rfl,rfl⟩:=h;exact⟨h4.1,h4.2.1,h4.2.2.1,h4.2.2.2,hK⟩
      ·cases h
     ·cases h
    ·rename_i h1;rw [h1];simp only
     split at h
     ·rename_i h2;rw [h2];simp only
      split at h
      ·rename_i h4;simp only [Option.some.injEq,Prod.mk.injEq] at h;obtain⟨rfl,rfl⟩:=h;exact⟨h4.1,h4.2.1,h4.2.2.1,h4.2.2.2,hK⟩
      ·cases h
     ·cases h
    ·cases h
   ·cases h
  ·cases h
 | .call fn args,d,σ',h,K,hK=>by
  simp only [vE] at h;simp only [zC]
  split at h
  ·rename_i h1;rw [h1];exact⟨d,σ',Tz hc h,hK⟩
  ·cases h
 | .yu,d,σ',h,K,hK=>by simp only [vE,Option.some.injEq,Prod.mk.injEq] at h;obtain⟨rfl,rfl⟩:=h;exact hK
 | .nA m k x,d,σ',h,K,hK=>by
  simp only [vE] at h;simp only [zC];unfold T7 at h
  split at h
  ·rename_i h1 h2;rw [h1,h2];simp only
   split at h
   ·rename_i h3;rw [h3];simp only
    split at h
    ·rename_i h4;simp only [Option.some.injEq,Prod.mk.injEq] at h;obtain⟨rfl,rfl⟩:=h;exact⟨h4.1,cK h4.2,hK⟩
    ·cases h
   ·cases h
  ·cases h
 | .qU n m k x,d,σ',h,K,hK=>by
  simp only [vE] at h;simp only [zC]
  split at h
  ·rename_i key cs h1 h2;rw [h1,h2];simp only
   split at h
   ·rename_i o y h3 h4;rw [h3];simp only
    split at h
    ·rename_i l h5
     split at h
     ·rename_i h6;simp only [Option.some.injEq,Prod.mk.injEq] at h;obtain⟨rfl,rfl⟩:=h;exact⟨h6.1,y,l,⟨sG h4,cR h5,h6.2.1,λp hp=>by have:=ζ.1 h6.2.2 p hp; simpa using this⟩,hK⟩
     ·cases h
    ·cases h
   ·cases h
  ·cases h
 | .fF zero m k,d,σ',h,K,hK=>by
  simp only [vE] at h;simp only [zC];unfold T7 at h
  split at h
  ·rename_i h1 h2;rw [h1,h2];simp only
   split at h
   ·rename_i h3;rw [h3];simp only
    split at h
    ·rename_i h4;simp only at h
     split at h
     ·rename_i h5;refine⟨h4.1,cK h4.2,h5,?_⟩
      split at h
      ·rename_i h6;rw [h6];simp only [Option.some.injEq,Prod.mk.injEq] at h;obtain⟨rfl,rfl⟩:=h;exact hK
      ·rename_i h6;rw [h6];simp only [Option.some.injEq,Prod.mk.injEq] at h;obtain⟨rfl,rfl⟩:=h;exact hK
     ·cases h
    ·cases h
   ·cases h
  ·cases h
 | .oT n zero m k,d,σ',h,K,hK=>by
  simp only [vE] at h;simp only [zC]
  split at h
  ·rename_i key cs h1 h2;rw [h1,h2];simp only
   split at h
   ·rename_i o y h3 h4;rw [h3];simp only
    split at h
    ·rename_i l h5
     split at h
     ·rename_i h6;refine⟨h6.1,h6.2.1,y,l,⟨sG h4,cR h5,h6.2.2.1,λp hp=>by have:=ζ.1 h6.2.2.2 p hp; simpa using this⟩,?_⟩
      split at h
      ·rename_i h7;rw [h7];simp only [Option.some.injEq,Prod.mk.injEq] at h;obtain⟨rfl,rfl⟩:=h;exact hK
      ·rename_i h7;rw [h7];simp only [Option.some.injEq,Prod.mk.injEq] at h;obtain⟨rfl,rfl⟩:=h;exact hK
     ·cases h
    ·cases h
   ·cases h
  ·cases h
 | .fD m s x,d,σ',h,K,hK=>by
  simp only [vE] at h;simp only [zC]
  split at h
  ·rename_i h1 h2;rw [h1,h2];simp only
   split at h
   ·rename_i h3;rw [h3];simp only
    split at h
    ·rename_i h4
     split at h
     ·rename_i y dd h6;simp only [Option.some.injEq,Prod.mk.injEq] at h;obtain⟨rfl,rfl⟩:=h;exact⟨h4.1,h4.2.1,h4.2.2,y,dd,h6,hK⟩
     ·cases h
    ·cases h
   ·cases h
  ·cases h
 | .mv _,d,σ',h,K,hK | .W6 _,d,σ',h,K,hK | .pick ..,d,σ',h,K,hK | .bin ..,d,σ',h,K,hK | .beq ..,d,σ',h,K,hK | .geq ..,d,σ',h,K,hK | .nt _,d,σ',h,K,hK | .neg _,d,σ',h,K,hK | .R1 _,d,σ',h,K,hK
 | .conv ..,d,σ',h,K,hK | .fv ..,d,σ',h,K,hK | .Xz ..,d,σ',h,K,hK | .lV ..,d,σ',h,K,hK | .j7 ..,d,σ',h,K,hK | .mn ..,d,σ',h,K,hK | .yv ..,d,σ',h,K,hK | .mx ..,d,σ',h,K,hK | .build ..,d,σ',h,K,hK | .idx ..,d,σ',h,K,hK | .Qy ..,d,σ',h,K,hK | .fg ..,d,σ',h,K,hK
 | .len _,d,σ',h,K,hK | .iW ..,d,σ',h,K,hK | .fk _,d,σ',h,K,hK | .load ..,d,σ',h,K,hK | .Zg ..,d,σ',h,K,hK | .rJ ..,d,σ',h,K,hK | .fH ..,d,σ',h,K,hK | .mW ..,d,σ',h,K,hK=>by simp only [vE,δ,Prod.mk.injEq] at h;obtain⟨d0,h0,rfl,rfl⟩:=h;exact YW hc h0 (K:=λd=>K d σ) hK
def bL (o:xN) (f:Fr):Option Bool:=
 match o.guard with
 | none=>some true
 | some (j,want)=>match f.get j with
  | .bool b=>if b=want then some true else some false
  | .uO=>some false
  | _=>none
theorem rY {o:xN} {f:Fr} {b:Bool} (h:bL o f=some b) {yes no:Prop} (h1:b=true->yes) (h2:b=false->no):xR o f yes no:=by
 unfold bL at h;unfold xR
 split at h
 ·rename_i e; rw [e]; simp only [Option.some.injEq] at h; exact h1 h.symm
 ·rename_i j want e;rw [e];simp only
  split at h
  ·rename_i b' e2;rw [e2];simp only
   split at h
   ·rename_i e3; rw [if_pos e3]; simp only [Option.some.injEq] at h; exact h1 h.symm
   ·rename_i e3; rw [if_neg e3]; simp only [Option.some.injEq] at h; exact h2 h.symm
  ·rename_i e2; rw [e2]; simp only [Option.some.injEq] at h; exact h2 h.symm
  ·cases h
def oQ (call:zG) (σ:St):List xN->Fr->Option Fr
 | [],f=>some f
 | o :: r,f=>match bL o f with
  | some true=>match pE call σ (wP f) o.k with
   | some d=>oQ call σ r (f.put o.dst d)
   | none=>none
  | some false=>oQ call σ r (f.put o.dst .uO)
  | none=>none
theorem vL {C:Cx} {call:zG} (hc:tT C.P call) {σ:St}:∀ {l:List xN} {f f':Fr},oQ call σ l f=some f'->∀ {K:Fr->Prop},K f'->uX C σ l f K
 | [],f,f',h,K,hK=>by simp [oQ] at h; subst h; exact hK
 | o :: r,f,f',h,K,hK=>by
  unfold oQ at h;unfold uX
  split at h
  ·rename_i hg
   split at h
   ·rename_i d hd;exact rY hg (λ_=>YW hc hd (vL hc h hK)) λe=>by cases e
   ·cases h
  ·rename_i hg;exact rY hg (λe=>by cases e) λ_=>vL hc h hK
  ·cases h
def zj (call:zG):List xN->Fr->St->Option (Fr × St)
 | [],f,σ=>some (f,σ)
 | o :: r,f,σ=>match bL o f with
  | some true=>match vE call σ (wP f) o.k with
   | some (d,σ')=>zj call r (f.put o.dst d) σ'
   | none=>none
  | some false=>zj call r (f.put o.dst .uO) σ
  | none=>none
theorem mT {C:Cx} {call:zG} (hc:tT C.P call):∀ {l:List xN} {f f':Fr} {σ σ':St},zj call l f σ=some (f',σ')->∀ {K:Fr->St->Prop},K f' σ'->tP C l f σ K
 | [],f,f',σ,σ',h,K,hK=>by simp [zj] at h; obtain⟨rfl,rfl⟩:=h; exact hK
 | o :: r,f,f',σ,σ',h,K,hK=>by
  unfold zj at h;unfold tP
  split at h
  ·rename_i hg
   split at h
   ·rename_i d σ1 hd;exact rY hg (λ_=>jB hc hd (mT hc h hK)) λe=>by cases e
   ·cases h
  ·rename_i hg;exact rY hg (λe=>by cases e) λ_=>mT hc h hK
  ·cases h
def dd (mask:Nat):Fr->Fr
 | []=>[]
 | (t,d) :: r=>if mask.testBit t=true then dd mask r else(t,d) :: dd (mask ||| 2 ^ t) r
theorem ka : ∀ (f:Fr) (mask t:Nat),mask.testBit t=false->(dd mask f).get t=f.get t
 | [],mask,t,h=>rfl
 | (s,d) :: r,mask,t,h=>by
  unfold dd
  split
  ·rename_i hs;rw [ka r mask t h];have:s≠t:=λe=>by rw [e,h] at hs; cases hs
   simp [Fr.get,this]
  ·by_cases e:s=t
   ·simp [Fr.get,e]
   ·rw [Fr.get,if_neg e,Fr.get,if_neg e];refine ka r _ t ?_;rw [Nat.testBit_or,h,Nat.testBit_two_pow_of_ne e]; rfl
theorem yJ.dd {C:Cx} {f:Fr} {σ:St}:yJ C f σ (Pd.dd 0 f) σ:=yJ.frame λt=>.inr (ka f 0 t (Nat.zero_testBit t))
def ql (body:Fr->St->Option (Ex × Fr × St)):Nat->Fr->St->Option (Ex × Fr × St)
 | 0,_,_=>none
 | k+1,f,σ=>match body f σ with
  | some (.normal,f1,σ1)=>ql body k (dd 0 f1) σ1
  | r=>r
def OF (call:zG) (σ:St) (mid:List xN) (f:Fr) (un:Bool) (f2:Fr):Bool:=
 match un with
 | true=>match oQ call σ mid f with
  | some g2=>Xw g2 f2
  | none=>false
 | false=>true
theorem VQ {C:Cx} {call:zG} (hc:tT C.P call) {σ:St} {mid:List xN} {f f2:Fr} {un:Bool} (h:OF call σ mid f un f2=true):if un=true then uX C σ mid f (λg=>g=f2) else True:=by
 unfold OF at h
 split at h
 ·rw [if_pos rfl]
  split at h
  ·rename_i g2 h8;exact vL hc h8 (gL h)
  ·cases h
 ·rw [if_neg (by simp)]; trivial
def TE (nx:Nat) (ρ:Nat->Nat):Nat->D->D->Bool
 | _,.ref k s i o,.ref k' s' i' o'=>decide (k'<nx)&& decide (k=ρ k')&& decide (s=s')&& decide (i=i')&& decide (o=o')
 | _,.wZ k s n,.wZ k' s' n'=>decide (k'<nx)&& decide (k=ρ k')&& decide (s=s')&& decide (n=n')
 | _,.sub k s l n,.sub k' s' l' n'=>decide (k'<nx)&& decide (k=ρ k')&& decide (s=s')&& decide (l=l')&& decide (n=n')
 | _,.yV k,.yV k'=>decide (k'<nx)&& decide (k=ρ k')
 | n+1,.agg a,.agg b=>yt (TE nx ρ n) a b
 | n+1,.yD a,.yD b=>yt (TE nx ρ n) a b
 | n+1,.fn f a,.fn g b=>decide (f=g)&& yt (TE nx ρ n) a b
 | n,d,d'=>d'.xO&&ft n d d'
theorem ia {σ σ':St} {ρ:Nat->Nat} {d:D} (h:d.xO=true):vw σ σ' ρ d d:=by have:=vv (σ:=σ) (σ':=σ') (ρ:=ρ) (a:=[d]) (by simp [D.xT,h]);simp only [sV] at this;exact this.1
theorem zu {σ σ':St} {ρ:Nat->Nat} {e:D->D->Bool} (he:∀ a b,e a b=true->vw σ σ' ρ a b):∀ {xs bs:List D},yt e xs bs=true->xs.length=bs.length/\sV σ σ' ρ xs bs
 | [],[],_=>⟨rfl,by simp only [sV]⟩
 | [],_ :: _,h=>by simp [yt] at h
 | _ :: _,[],h=>by simp [yt] at h
 | a :: xs,b :: bs,h=>by simp only [yt,ε] at h;obtain⟨h1,h2⟩:=zu he (xs:=xs) (bs:=bs) h.2;exact⟨by simp [h1],by simp only [sV]; exact⟨he _ _ h.1,h2⟩⟩
theorem VE {σ σ':St} {ρ:Nat->Nat}:∀ (n:Nat) (a b:D),TE σ'.nx ρ n a b=true->vw σ σ' ρ a b:=by
 have key:∀ (n:Nat) (a b:D),(b.xO&&ft n a b)= true->vw σ σ' ρ a b:=λn a b h=>by rw [ε] at h;have:=kL _ _ _ h.2;subst this;exact ia h.1
 intro n
 induction n with
 | zero=>
  intro a b h
  cases a <;> cases b <;> simp only [TE] at h <;> first
   | exact key _ _ _ h
   | (simp only [vw]; simp only [ε,decide_eq_true_eq] at h; simp_all)
 | succ n ih=>
  intro a b h
  cases a <;> cases b <;> simp only [TE] at h <;> first
   | exact key _ _ _ h
   | (simp only [vw]; exact zu ih h)
   | (simp only [vw]; simp only [ε,decide_eq_true_eq] at h; exact⟨h.1,zu ih h.2⟩)
   | (simp only [vw]; simp only [ε,decide_eq_true_eq] at h; simp_all)
def Vv (nx:Nat) (ρ:Nat->Nat) (a b:List (List D)):Bool:=yt (yt (TE nx ρ 30)) a b
theorem Zs {σ σ':St} {ρ:Nat->Nat}:∀ {a b:List (List D)},Vv σ'.nx ρ a b=true->WC σ σ' ρ a b
 | [],[],_=>.nil
 | [],_ :: _,h=>by simp [Vv,yt] at h
 | _ :: _,[],h=>by simp [Vv,yt] at h
 | a :: xs,b :: bs,h=>by simp only [Vv,yt,ε] at h;obtain⟨h1,h2⟩:=zu (VE (σ:=σ) (σ':=σ') (ρ:=ρ) 30) h.1;exact .cons h1 h2 (Zs h.2)
def W8 (n0 n1:Nat) (k:Nat):Nat:=if k<n0 then k else if k=n1 then n0 else if k<n1 then k+1 else k
theorem x9 (n0 n1 k:Nat):(k<n0/\W8 n0 n1 k=k)\/(n0<=k/\k=n1/\W8 n0 n1 k=n0)\/(n0<=k/\k<n1/\W8 n0 n1 k=k+1)\/(n0<=k/\n1<k/\W8 n0 n1 k=k):=by
 unfold W8
 by_cases h1:k<n0
 ·rw [if_pos h1]; omega
 ·rw [if_neg h1]
  by_cases h2:k=n1
  ·rw [if_pos h2]; omega
  ·rw [if_neg h2]
   by_cases h3:k<n1
   ·rw [if_pos h3]; omega
   ·rw [if_neg h3]; omega
def Xv (n0 n1:Nat) (f4:Fr) (σ4:St) (g4:Fr) (σ5:St):Bool:= decide (n0<=σ4.nx)&& decide (n0<=n1)&& (f4.all λp=>TE σ4.nx (W8 n0 n1) 30 (g4.get p.1) p.2)&& σ4.xX.all λp=>decide (p.1<σ4.nx)&& (match σ5.get (W8 n0 n1 p.1) with | some ob=>decide (ob.sz=p.2.sz)&& Vv σ4.nx (W8 n0 n1) ob.xZ p.2.xZ | none=>false)
theorem ZQ {C:Cx} {n0 n1:Nat} {f4 g4:Fr} {σ4 σ5:St} (h:Xv n0 n1 f4 σ4 g4 σ5=true) (hn:C.n0<=n0):yJ C g4 σ5 f4 σ4:=by
 simp only [Xv,ε,decide_eq_true_eq,ζ] at h;obtain⟨⟨⟨h1,h2⟩,h3⟩,h4⟩:=h
 refine yJ.view (W8 n0 n1) (by omega) (λk hk=>by unfold W8; rw [if_pos (by omega)]) ?_ (λp hp=>?_) (λp _ q _ e=>?_)
 ·have:∀ l:Fr,(∀ p ∈ l,TE σ4.nx (W8 n0 n1) 30 (g4.get p.1) p.2=true)->aK σ5 σ4 (W8 n0 n1) g4 l:=by
   intro l
   induction l with
   | nil=>intro _; simp only [aK]
   | cons p l ih=>intro hl; simp only [aK]; exact⟨VE _ _ _ (hl p (by simp)),ih λq hq=>hl q (by simp [hq])⟩
  exact this f4 h3
 ·obtain⟨g1,g2⟩:=h4 p hp;refine⟨g1,?_⟩
  split at g2
  ·rename_i ob hob;simp only [ε,decide_eq_true_eq] at g2;exact⟨ob,hob,g2.1,Zs g2.2⟩
  ·cases g2
 ·have:=x9 n0 n1 p.1;have:=x9 n0 n1 q.1;omega
def Vs (n0 n1:Nat) (f4:Fr) (σ4:St) (g4:Fr) (σ5:St):Bool:=Xv n0 n1 (dd 0 f4) σ4 g4 σ5
theorem df {C:Cx} {n0 n1:Nat} {f4 g4:Fr} {σ4 σ5:St} (h:Vs n0 n1 f4 σ4 g4 σ5=true) (hn:C.n0<=n0):yJ C g4 σ5 f4 σ4:=(ZQ h hn).trans (yJ.frame λt=>.inr (ka f4 0 t (Nat.zero_testBit t)).symm)
def aF (call:zG) (σ:St) (l:List xN) (f g:Fr):Bool:=match oQ call σ l f with
 | some g'=>Xw g' g
 | none=>false
theorem lI {C:Cx} {call:zG} (hc:tT C.P call) {σ:St} {l:List xN} {f g:Fr} (h:aF call σ l f g=true):uX C σ l f λx=>x=g:=by
 unfold aF at h
 split at h
 ·rename_i g' h8; exact vL hc h8 (gL h)
 ·cases h
def Oe (free:List Nat) (f g:Fr):Bool:=free.all λt=>ft 30 (f.get t) (g.get t)
def Vj (call:zG) (pre:List xN) (m1:xN) (mid1:List xN) (m2:xN) (mid2 post:List xN) (free:List Nat) (f:Fr) (σ:St):Option (Fr × St):=
 (oQ call σ pre f).bind λf1=>(vE call σ (wP f1) m1.k).bind λx=>(oQ call x.2 mid1 (f1.put m1.dst x.1)).bind λf2=>(vE call x.2 (wP f2) m2.k).bind λy=>(oQ call y.2 mid2 (f2.put m2.dst y.1)).bind λf3=>
 (vE call σ (wP f) m2.k).bind λA=>(oQ call A.2 pre f).bind λg1=>(vE call A.2 (wP g1) m1.k).bind λz=>(oQ call z.2 (mid1++⟨m2.dst,none,.mv (.c A.1)⟩ :: mid2) (g1.put m1.dst z.1)).bind λg3=>
 (zj call post f3 y.2).bind λr=>(zj call post g3 z.2).bind λs=>
 if (aF call σ (re pre m1.dst x.1 (TM mid1 f3) m2.dst y.1 mid2) f f3&&aF call x.2 (re pre m1.dst x.1 mid1 m2.dst y.1 mid2) f f3&&aF call y.2 (re pre m1.dst x.1 mid1 m2.dst y.1 mid2) f f3 &&
  aF call A.2 (re pre m1.dst z.1 (TM mid1 g3) m2.dst A.1 mid2) f g3&&aF call z.2 (re pre m1.dst z.1 mid1 m2.dst A.1 mid2) f g3&&Oe free r.1 s.1&&Vs σ.nx x.2.nx r.1 r.2 s.1 s.2)= true then some r else none
theorem VT {C:Cx} {dc:DC} {f:Fr} {σ:St} {Q:Exit->Fr->St->Prop} (h:C.n0<=σ.nx->wpS C dc f σ Q):wpS C dc f σ Q:=λcode hc E a w G=>by obtain⟨ι,G'⟩:=G;exact h G'.nx code hc E a w ⟨ι,G'⟩
theorem UY {C:Cx} (hm:C.P.follows .mixedOrders=true) {call:zG} (hc:tT C.P call) {pre:List xN} {m1:xN} {mid1:List xN} {m2:xN} {mid2 post:List xN} {free:List Nat} {f f':Fr} {σ σ':St}
  (h:Vj call pre m1 mid1 m2 mid2 post free f σ=some (f',σ')) {Q:Exit->Fr->St->Prop} (hQ:Q .normal f' σ'):wpS C (.bY pre m1 mid1 m2 mid2 post free) f σ Q:=by
 refine VT λhn=>Uv hm ?_;unfold Vj at h;obtain⟨f1,a1,h⟩:=γ.1 h;obtain⟨⟨dx,σ1⟩,a2,h⟩:=γ.1 h;obtain⟨f2,a3,h⟩:=γ.1 h;obtain⟨⟨dy,σ2⟩,a4,h⟩:=γ.1 h;obtain⟨f3,a5,h⟩:=γ.1 h;obtain⟨⟨dA,σA⟩,a6,h⟩:=γ.1 h;obtain⟨g1,a7,h⟩:=γ.1 h;obtain⟨⟨dz,σB⟩,a8,h⟩:=γ.1 h;obtain⟨g3,a9,h⟩:=γ.1 h;obtain⟨⟨f4,σ4⟩,b1,h⟩:=γ.1 h;obtain⟨⟨g4,σ5⟩,b2,h⟩:=γ.1 h
 split at h
 ·rename_i hb;cases h;simp only [ε] at hb;obtain⟨⟨⟨⟨⟨⟨c1,c2⟩,c3⟩,c4⟩,c5⟩,c6⟩,c7⟩:=hb;exact vL hc a1 (jB hc a2 (vL hc a3 (jB hc a4 (vL hc a5 ⟨lI hc c1,lI hc c2,lI hc c3,jB hc a6 (vL hc a7 (jB hc a8 (vL hc a9 ⟨lI hc c4,lI hc c5,mT hc b1 (mT hc b2 ⟨λt ht=>kL _ _ _ (ζ.1 c6 t ht),df c7 hn,hQ⟩)⟩)))⟩))))
 ·cases h
def iV (call:zG) (s:Nat) (jE:List Nat):List xN->Nat->Fr->St->Option (List (D × St))
 | [],_,_,_=>some []
 | o :: r,i,f,σ=>match bL o f with
  | some true=>match (if (decide (i<s)&& !jE.contains i)= true then(pE call σ (wP f) o.k).map (λd=>(d,σ)) else vE call σ (wP f) o.k) with
   | some p=>(iV call s jE r (i+1) (f.put o.dst p.1) p.2).map (p :: ·)
   | none=>none
  | some false=>(iV call s jE r (i+1) (f.put o.dst .uO) σ).map ((.uO,σ) :: ·)
  | none=>none
theorem bH {C:Cx} {call:zG} (hc:tT C.P call) {s:Nat} {jE:List Nat}:∀ {l:List xN} {i:Nat} {f:Fr} {σ:St} {tr:List (D × St)},iV call s jE l i f σ=some tr ->
  Trace C l f σ tr/\tr.length=l.length/\∀ k,i+k<s->jE.contains (i+k)= false->zB (tr.take (k+1)) σ=zB (tr.take k) σ
 | [],i,f,σ,tr,h=>by simp [iV] at h; subst h;exact⟨.nil,rfl,λk _ _=>by simp [zB]⟩
 | o :: r,i,f,σ,tr,h=>by
  unfold iV at h
  have fin:∀ (p:D × St) (t:List (D × St)),xR o f (zC C σ (wP f) o.k λx y=>x=p.1/\y=p.2) (p.1 = .uO/\p.2=σ)->(i<s->jE.contains i=false->p.2=σ)->iV call s jE r (i+1) (f.put o.dst p.1) p.2=some t->p :: t=tr ->
    Trace C (o :: r) f σ tr/\tr.length=(o :: r).length/\∀ k,i+k<s->jE.contains (i+k)= false->zB (tr.take (k+1)) σ=zB (tr.take k) σ:=by
   intro p t h1 h2 h3 h4;subst h4;obtain⟨g1,g2,g3⟩:=bH hc h3;refine⟨.cons h1 g1,by simp [g2],λk hk hm=>?_⟩
   cases k with
   | zero=>exact h2 (by omega) hm
   | succ k=>exact g3 k (by omega) (by rw [show i+1+k=i+(k+1) by omega]; exact hm)
  split at h
  ·rename_i hg
   split at h
   ·rename_i p hp;rw [δ] at h;obtain⟨t,h1,h2⟩:=h
    split at hp
    ·rw [δ] at hp;obtain⟨d,h3,rfl⟩:=hp;exact fin _ t (rY hg (λ_=>lC (YW hc h3 (K:=λx=>x=d) rfl)) λe=>by cases e) (λ_ _=>rfl) h1 h2
    ·rename_i hn;exact fin p t (rY hg (λ_=>jB hc hp (K:=λx y=>x=p.1/\y=p.2) ⟨rfl,rfl⟩) λe=>by cases e) (λh5 h6=>absurd (by rw [h6,decide_eq_true h5]; rfl) hn) h1 h2
   ·cases h
  ·rename_i hg;rw [δ] at h;obtain⟨t,h1,h2⟩:=h;exact fin (.uO,σ) t (rY hg (λe=>by cases e) λ_=>⟨rfl,rfl⟩) (λ_ _=>rfl) h1 h2
  ·cases h
def MR (call:zG) (l:List xN) (tr:List (D × St)) (f:Fr) (σp:St) (i:Nat) (o:xN):Bool:=
 match bL o (wM (l.take i) (tr.take i) f) with
 | some true=>match pE call σp (wP (wM (l.take i) (tr.take i) f)) o.k with
  | some d=>ft 30 d (wK tr i)
  | none=>false
 | some false=>ft 30 .uO (wK tr i)
 | none=>false
theorem Pv {C:Cx} {call:zG} (hc:tT C.P call) {l:List xN} {tr:List (D × St)} {f:Fr} {σp:St} {i:Nat} {o:xN} (h:MR call l tr f σp i o=true) :
  xR o (wM (l.take i) (tr.take i) f) (zC C σp (wP (wM (l.take i) (tr.take i) f)) o.k λx y=>x=wK tr i/\y=σp) (.uO=wK tr i):=by
 unfold MR at h
 split at h
 ·rename_i hg
  split at h
  ·rename_i d hd;have e:=kL _ _ _ h;subst e;exact rY hg (λ_=>lC (YW hc hd (K:=λx=>x=wK tr i) rfl)) λe=>by cases e
  ·cases h
 ·rename_i hg;exact rY hg (λe=>by cases e) λ_=>kL _ _ _ h
 ·cases h
def Vq (call:zG) (ms:List Nat) (l:List xN) (s:Nat) (jE:List Nat) (tr:List (D × St)) (f:Fr) (σ:St):Bool:=
 (List.range s).all λi=>jE.contains i || (match l[i]? with
  | none=>true
  | some o=>o.k.zH || ((0 :: jE.map (·+1)).all λp=>(jE.any λm=>decide (m<s)&& ((decide (m<p)&& ordered ms i m) || (decide (p<=m)&& ordered ms m i))) || MR call l tr f (zB (tr.take p) σ) i o))
theorem ct {C:Cx} {call:zG} (hc:tT C.P call) {ms:List Nat} {l:List xN} {s:Nat} {jE:List Nat} {tr:List (D × St)} {f:Fr} {σ:St} (hs:wc s jE tr σ) (h:Vq call ms l s jE tr f σ=true):jw C ms l s jE tr f σ:=by
 have rep:∀ p,p<=s->∃ q ∈ 0 :: jE.map (·+1),(∀ m ∈ jE,m<p ↔ m<q)/\ zB (tr.take p) σ=zB (tr.take q) σ:=by
  intro p
  induction p with
  | zero=>intro _; exact⟨0,by simp,λm _=>Iff.rfl,rfl⟩
  | succ p ih=>
   intro hp
   by_cases hm:jE.contains p=true
   ·exact⟨p+1,List.mem_cons_of_mem _ (List.mem_map.2 ⟨p,by simpa [η] using hm,rfl⟩),λm _=>Iff.rfl,rfl⟩
   ·obtain⟨q,h1,h2,h3⟩:=ih (by omega);refine⟨q,h1,λm hmm=>?_,by rw [hs p (by omega) (by simpa using hm),h3]⟩;rw [<- h2 m hmm];have:m≠p:=λe=>by subst e; exact hm (by simpa [η] using hmm)
    omega
 intro i dop p his him hps hdop hns hor;have h1:=ζ.1 h i (List.mem_range.2 his);rw [him,Bool.false_or,hdop] at h1;simp only [hns,Bool.false_or] at h1;obtain⟨q,q1,q2,q3⟩:=rep p hps;have h2:=ζ.1 h1 q q1;rw [Bool.or_eq_true] at h2;rw [q3]
 rcases h2 with h2 | h2
 ·exfalso;obtain⟨m,hm,h3⟩:=List.any_eq_true.1 h2;simp only [ε,Bool.or_eq_true,decide_eq_true_eq] at h3;obtain⟨h4,h5⟩:=h3;have h6:=hor m h4 (by simpa [η] using hm)
  rcases h5 with ⟨h7,h8⟩ | ⟨h7,h8⟩
  ·rw [h6.1 ((q2 m hm).2 h7)] at h8; cases h8
  ·rw [h6.2 (Nat.le_of_not_lt λh9=>by have:=(q2 m hm).1 h9; omega)] at h8; cases h8
 ·exact Pv hc h2
def Qq (call:zG) (ms:List Nat) (l:List xN) (s:Nat) (xs:List Nat) (y:Nat) (f:Fr) (σ:St) (tr:List (D × St)) (x:Nat):Bool:=
 match l[y]? with
 | none=>false
 | some m2=>match vE call (zB (tr.take x) σ) (wP f) m2.k with
  | none=>false
  | some (dA,σA)=>match iV call s (xs.filter λi=>decide (x<=i)) (fA l tr xs x y dA) 0 f σA with
   | none=>false
   | some tr'=>Vq call ms (fA l tr xs x y dA) s (xs.filter λi=>decide (x<=i)) tr' f σA&&((dw ms l xs x y).all λt=>ft 30 ((wM l tr f).get t) ((wM (fA l tr xs x y dA) tr' f).get t))&& decide (σ.nx<=(zB (tr.take x) σ).nx)&&
     Vs (zB (tr.take x) σ).nx (zB (tr.take y) σ).nx (wM l tr f) (zB tr σ) (wM (fA l tr xs x y dA) tr' f) (zB tr' σA)
theorem Rh {C:Cx} {call:zG} (hc:tT C.P call) {ms:List Nat} {l:List xN} {s:Nat} {xs:List Nat} {y:Nat} {f:Fr} {σ:St} {tr:List (D × St)} {x:Nat} (hn:C.n0<=σ.nx) (h:Qq call ms l s xs y f σ tr x=true):∃ dA σA tr',Sw C ms l s xs y f σ tr x dA σA tr':=by
 unfold Qq at h
 split at h
 ·cases h
 ·rename_i m2 hm
  split at h
  ·cases h
  ·rename_i dA σA hA
   split at h
   ·cases h
   ·rename_i tr' ht;simp only [ε,decide_eq_true_eq] at h;obtain⟨⟨⟨h1,h2⟩,h3⟩,h4⟩:=h;obtain⟨g1,g2,g3⟩:=bH hc ht;have hst:wc s (xs.filter λi=>decide (x<=i)) tr' σA:=λi hi him=>g3 i (by omega) (by rw [Nat.zero_add]; exact him);refine⟨dA,σA,tr',λm hm'=>?_,g1,g2.trans z8,hst,ct hc hst h1,λt ht=>kL _ _ _ (ζ.1 h2 t ht),df h4 (by omega)⟩;rw [hm] at hm'; cases hm';exact jB hc hA (K:=λa b=>a=dA/\b=σA) ⟨rfl,rfl⟩
def Vk (call:zG) (ms:List Nat) (l:List xN) (s:Nat) (xs:List Nat) (y:Nat) (f:Fr) (σ:St):Option (Fr × St):=
 match iV call s (xs ++ [y]) l 0 f σ with
 | none=>none
 | some tr=>if (Vq call ms l s (xs ++ [y]) tr f σ&&(decide (s<=y) || xs.all λx=>Qq call ms l s xs y f σ tr x))= true then some (wM l tr f,zB tr σ) else none
theorem UX {C:Cx} (hm:C.P.follows .mixedOrders=true) {call:zG} (hc:tT C.P call) {ms:List Nat} {l:List xN} {s:Nat} {xs:List Nat} {y:Nat} {f f':Fr} {σ σ':St}
  (h:Vk call ms l s xs y f σ=some (f',σ')) {Q:Exit->Fr->St->Prop} (hQ:Q .normal f' σ'):wpS C (.mK ms l s xs y) f σ Q:=by
 refine VT λhn=>?_;unfold Vk at h
 split at h
 ·cases h
 ·rename_i tr ht
  split at h
  ·rename_i hb;rw [ε] at hb;cases h;obtain⟨g1,g2,g3⟩:=bH hc ht;have hst:wc s (xs ++ [y]) tr σ:=λi hi him=>g3 i (by omega) (by rw [Nat.zero_add]; exact him);exact vy hm ⟨g1,g2,hst,ct hc hst hb.1,λhy x hx=>Rh hc hn (ζ.1 ((Bool.or_eq_true_iff.1 hb.2).resolve_left (by simp; omega)) x hx)⟩ hQ
  ·cases h
def Vl (call:zG) (pre:List xN) (m:xN) (mid:List xN) (un:Bool) (post:List xN) (fl:List Bool) (f:Fr) (σ:St):Option (Fr × St):=
 (oQ call σ pre f).bind λf1=>(vE call σ (wP f1) m.k).bind λx=>(oQ call x.2 mid (f1.put m.dst x.1)).bind λf2=>(zj call post f2 x.2).bind λr=>
 if (aF call x.2 (iY fl pre f1) f f1&&OF call σ mid (f1.put m.dst x.1) un f2)= true then some r else none
theorem Ua {C:Cx} (hm:C.P.follows .mixedOrders=true) {call:zG} (hc:tT C.P call) {pre:List xN} {m:xN} {mid:List xN} {un:Bool} {post:List xN} {fl:List Bool} {f f':Fr} {σ σ':St}
  (h:Vl call pre m mid un post fl f σ=some (f',σ')) {Q:Exit->Fr->St->Prop} (hQ:Q .normal f' σ'):wpS C (.bX pre m mid un post fl) f σ Q:=by
 refine Uw hm ?_;unfold Vl at h;obtain⟨f1,a1,h⟩:=γ.1 h;obtain⟨⟨d,σ1⟩,a2,h⟩:=γ.1 h;obtain⟨f2,a3,h⟩:=γ.1 h;obtain⟨⟨f4,σ4⟩,b1,h⟩:=γ.1 h
 split at h
 ·rename_i hb;cases h;simp only [ε] at hb;exact vL hc a1 (jB hc a2 ⟨lI hc hb.1,vL hc a3 ⟨VQ hc hb.2,mT hc b1 hQ⟩⟩)
 ·cases h
def mg : DC->Bool
 | .eE ..=>false
 | .seq a b=>mg a&&mg b
 | .cond _ a b=>mg a&&mg b
 | .block _ c=>mg c
 | .loop c=>mg c
 | _=>true
def b8 (b:Fr->St->Option St) (xZ:List (List D)) (f:Fr) (p0 p1:Nat):Nat->St->Option St
 | 0,σ=>some σ
 | m+1,σ=>match b ((f.put (some p0) (.int .i64 (m:Int))).put (some p1) (.agg (xZ.getD m []))) σ with
  | some σ2=>b8 b xZ f p0 p1 m σ2
  | none=>none
def aI (bk:Nat->Bool) (N:Nat) (call:zG):DC->Nat->Fr->St->Option (Ex × Fr × St)
 | .skip,_,f,σ=>some (.normal,f,σ)
 | .sS pre post,_,f,σ=>match oQ call σ pre f with
  | some f1=>match zj call post f1 σ with
   | some (f2,σ2)=>some (.normal,f2,σ2)
   | none=>none
  | none=>none
 | .yo pre m mid un post,_,f,σ=>match oQ call σ pre f with
  | some f1=>match vE call σ (wP f1) m.k with
   | some (d,σ1)=>match oQ call σ1 pre f,oQ call σ1 mid (f1.put m.dst d) with
    | some g1,some f2=>match Xw g1 f1&&OF call σ mid (f1.put m.dst d) un f2 with
     | true=>match zj call post f2 σ1 with
      | some (f3,σ3)=>some (.normal,f3,σ3)
      | none=>none
     | false=>none
    | _,_=>none
   | none=>none
  | none=>none
 | .ym pre m1 mid1 m2 mid2 post,_,f,σ=>match oQ call σ pre f with
  | some f1=>match vE call σ (wP f1) m1.k with
   | some (d1,σ1)=>match oQ call σ1 pre f,oQ call σ1 mid1 (f1.put m1.dst d1) with
    | some g1,some f2=>match Xw g1 f1,vE call σ1 (wP f2) m2.k with
     | true,some (d2,σ2)=>match oQ call σ2 pre f,oQ call σ2 mid1 (f1.put m1.dst d1),oQ call σ2 mid2 (f2.put m2.dst d2) with
      | some x1,some x2,some f3=>match Xw x1 f1&&Xw x2 f2 with
       | true=>match zj call post f3 σ2 with
        | some (f4,σ4)=>some (.normal,f4,σ4)
        | none=>none
       | false=>none
      | _,_,_=>none
     | _,_=>none
    | _,_=>none
   | none=>none
  | none=>none
 | .seq a b,n,f,σ=>match aI bk N call a n f σ with
  | some (.normal,f1,σ1)=>aI bk N call b n f1 σ1
  | r=>r
 | .cond c a b,n,f,σ=>match wP f c with
  | .bool t=>if t=true then aI bk N call a n f σ else aI bk N call b n f σ
  | _=>none
 | .block id c,n,f,σ=>match aI bk N call c n f σ with
  | some (.exit i,f1,σ1)=>if i=id then some (.normal,f1,σ1) else some (.exit i,f1,σ1)
  | r=>r
 | .loop c,n,f,σ=>ql (aI bk N call c n) n f σ
 | .bY pre m1 mid1 m2 mid2 post free,_,f,σ=>(Vj call pre m1 mid1 m2 mid2 post free f σ).map λr=>(.normal,r.1,r.2)
 | .mK ms l s xs y,_,f,σ=>(Vk call ms l s xs y f σ).map λr=>(.normal,r.1,r.2)
 | .bX pre m mid un post fl,_,f,σ=>(Vl call pre m mid un post fl f σ).map λr=>(.normal,r.1,r.2)
 | .eE g ps dx dy,n,f,σ=>match ps,wP f g with
  | [p0,p1],.fn gi [.ptr [.xI]]=>if (bk gi&&decide (p0<N)&& decide (p1<N))= true then some (.normal,f,σ) else none
  | [p0,p1],.fn gi [.ptr [.sl 2 xZ]]=>if (bk gi&&mg dx&&mg dy&&decide (p0<N)&& decide (p1<N))= true then(b8 (λf0 σ0=>match aI bk N call dx n f0 σ0 with
    | some (.normal,f1,σ1)=>match aI bk N call dy n f1 σ1 with
     | some (.normal,_,σ2)=>some σ2
     | _=>none
    | _=>none) xZ f p0 p1 xZ.length σ).map λσ'=>(.normal,f,σ') else none
  | _,_=>none
 | .exit id,_,f,σ=>some (.exit id,f,σ)
 | .ret,_,f,σ=>some (.ret,f,σ)
 | _,_,_,_=>none
theorem Tw {C:Cx} (hm:C.P.follows .mixedOrders=true) {c:DC} {body:Fr->St->Option (Ex × Fr × St)} (hb:∀ f σ e f' σ',body f σ=some (e,f',σ')->∀ Q:Exit->Fr->St->Prop,Q e.to f' σ'->mX C c f σ Q) {n:Nat} {f:Fr} {σ:St} {e:Ex} {f':Fr} {σ':St}
  (h:ql body n f σ=some (e,f',σ')) {Q:Exit->Fr->St->Prop} (hQ:Q e.to f' σ'):wpS C (.loop c) f σ Q:=by
 refine yM (α:=Nat × Fr × St) (λa=>a.2.1) (λa=>a.2.2) (λa=>ql body a.1 a.2.1 a.2.2=some (e,f',σ')) (λa=>a.1) (n,f,σ) h yJ.refl ?_;rintro ⟨k,f0,σ0⟩ hI
 match k,hI with
 | 0,hI=>simp [ql] at hI
 | k+1,hI=>
  simp only at hI ⊢;unfold ql at hI;refine wy hm ?_
  split at hI
  ·rename_i f1 σ1 h1;exact hb _ _ _ _ _ h1 _ ⟨(k,Pd.dd 0 f1,σ1),hI,yJ.dd,Nat.lt_succ_self k⟩
  ·rename_i zL;refine hb _ _ _ _ _ hI _ ?_
   cases e with
   | normal=>exact absurd hI (zL _ _)
   | exit i=>exact hQ
   | ret=>exact hQ
theorem Se {b:Fr->St->Option St} {xZ:List (List D)} {f:Fr} {p0 p1 m:Nat} {σ σ':St} (h:b8 b xZ f p0 p1 (m+1) σ=some σ'):∃ σ2,b ((f.put (some p0) (.int .i64 (m:Int))).put (some p1) (.agg (xZ.getD m []))) σ=some σ2/\b8 b xZ f p0 p1 m σ2=some σ':=by
 simp only [b8] at h
 split at h
 ·rename_i σ2 h2; exact⟨σ2,h2,h⟩
 ·cases h
theorem nQ {bk:Nat->Bool} {C:Cx} (hm:C.P.follows .mixedOrders=true) (hB:∀ g,bk g=true->VV C.P g) {call:zG} (hc:tT C.P call):∀ (c:DC),(C.rd=none\/mg c=true)->∀ (n:Nat) (f:Fr) (σ:St) (e:Ex) (f':Fr) (σ':St),aI bk C.N call c n f σ=some (e,f',σ')->∀ Q:Exit->Fr->St->Prop,Q e.to f' σ'->mX C c f σ Q
 | .skip,hr,n,f,σ,e,f',σ',h,Q,hQ=>by simp [aI] at h; obtain⟨rfl,rfl,rfl⟩:=h; exact hQ
 | .exit id,hr,n,f,σ,e,f',σ',h,Q,hQ=>by simp [aI] at h; obtain⟨rfl,rfl,rfl⟩:=h; exact hQ
 | .ret,hr,n,f,σ,e,f',σ',h,Q,hQ=>by simp [aI] at h; obtain⟨rfl,rfl,rfl⟩:=h; exact hQ
 | .sS pre post,hr,n,f,σ,e,f',σ',h,Q,hQ=>by
  unfold aI at h;unfold mX
  split at h
  ·rename_i f1 h1
   split at h
   ·rename_i f2 σ2 h2;simp only [Option.some.injEq,Prod.mk.injEq] at h;obtain⟨rfl,rfl,rfl⟩:=h;exact vL hc h1 (mT hc h2 hQ)
   ·cases h
  ·cases h
 | .seq a b,hr,n,f,σ,e,f',σ',h,Q,hQ=>by
  unfold aI at h;unfold mX
  split at h
  ·rename_i f1 σ1 h1;exact nQ hm hB hc a (hr.imp (λx=>x) λh=>by simp only [mg,ε] at h; exact h.1) n _ _ _ _ _ h1 _ (nQ hm hB hc b (hr.imp (λx=>x) λh=>by simp only [mg,ε] at h; exact h.2) n _ _ _ _ _ h Q hQ)
  ·rename_i zL;refine nQ hm hB hc a (hr.imp (λx=>x) λh=>by simp only [mg,ε] at h; exact h.1) n _ _ _ _ _ h _ ?_
   cases e with
   | normal=>exact absurd h (zL _ _)
   | exit i=>exact hQ
   | ret=>exact hQ
 | .cond c a b,hr,n,f,σ,e,f',σ',h,Q,hQ=>by
  unfold aI at h;unfold mX
  split at h
  ·rename_i t ht;rw [ht];simp only
   split at h
   ·rename_i e1; rw [if_pos e1]; exact nQ hm hB hc a (hr.imp (λx=>x) λh=>by simp only [mg,ε] at h; exact h.1) n _ _ _ _ _ h Q hQ
   ·rename_i e1; rw [if_neg e1]; exact nQ hm hB hc b (hr.imp (λx=>x) λh=>by simp only [mg,ε] at h; exact h.2) n _ _ _ _ _ h Q hQ
  ·cases h
 | .block id c,hr,n,f,σ,e,f',σ',h,Q,hQ=>by
  unfold aI at h;unfold mX
  split at h
  ·rename_i i f1 σ1 h1;refine nQ hm hB hc c (hr.imp (λx=>x) λh=>by simpa only [mg] using h) n _ _ _ _ _ h1 _ ?_;show if i=id then Q .normal f1 σ1 else Q (.exit i) f1 σ1
   split at h
   ·rename_i e1;simp only [Option.some.injEq,Prod.mk.injEq] at h;obtain⟨rfl,rfl,rfl⟩:=h;rw [if_pos e1]; exact hQ
   ·rename_i e1;simp only [Option.some.injEq,Prod.mk.injEq] at h;obtain⟨rfl,rfl,rfl⟩:=h;rw [if_neg e1]; exact hQ
  ·rename_i zL;refine nQ hm hB hc c (hr.imp (λx=>x) λh=>by simpa only [mg] using h) n _ _ _ _ _ h _ ?_
   cases e with
   | normal=>exact hQ
   | exit i=>exact absurd h (zL _ _ _)
   | ret=>exact hQ
 | .loop c,hr,n,f,σ,e,f',σ',h,Q,hQ=>by unfold aI at h;unfold mX;exact Tw hm (λf σ e f' σ' h Q hQ=>nQ hm hB hc c (hr.imp (λx=>x) λh=>by simpa only [mg] using h) n f σ e f' σ' h Q hQ) h hQ
 | .yo pre m mid un post,hr,n,f,σ,e,f',σ',h,Q,hQ=>by
  unfold aI at h;unfold mX
  split at h
  ·rename_i f1 h1
   split at h
   ·rename_i d σ1 h2
    split at h
    ·rename_i g1 f2 h3 h4
     split at h
     ·rename_i h5;rw [ε] at h5
      split at h
      ·rename_i f3 σ3 h6;simp only [Option.some.injEq,Prod.mk.injEq] at h;obtain⟨rfl,rfl,rfl⟩:=h;exact vL hc h1 (jB hc h2 ⟨vL hc h3 (gL h5.1),vL hc h4 ⟨VQ hc h5.2,mT hc h6 hQ⟩⟩)
      ·cases h
     ·cases h
    ·cases h
   ·cases h
  ·cases h
 | .ym pre m1 mid1 m2 mid2 post,hr,n,f,σ,e,f',σ',h,Q,hQ=>by
  unfold aI at h;unfold mX
  split at h
  ·rename_i f1 h1
   split at h
   ·rename_i d1 σ1 h2
    split at h
    ·rename_i g1 f2 h3 h4
     split at h
     ·rename_i d2 σ2 h5 h6
      split at h
      ·rename_i x1 x2 f3 h7 h8 h9
       split at h
       ·rename_i h10;rw [ε] at h10
        split at h
        ·rename_i f4 σ4 h11;simp only [Option.some.injEq,Prod.mk.injEq] at h;obtain⟨rfl,rfl,rfl⟩:=h;exact vL hc h1 (jB hc h2 ⟨vL hc h3 (gL h5),vL hc h4 (jB hc h6 ⟨vL hc h7 (gL h10.1),vL hc h8 (gL h10.2),vL hc h9 (mT hc h11 hQ)⟩)⟩)
        ·cases h
       ·cases h
      ·cases h
     ·cases h
    ·cases h
   ·cases h
  ·cases h
 | .Zf ..,hr,n,f,σ,e,f',σ',h,Q,hQ | .WA ..,hr,n,f,σ,e,f',σ',h,Q,hQ | .W9 ..,hr,n,f,σ,e,f',σ',h,Q,hQ | .dY ..,hr,n,f,σ,e,f',σ',h,Q,hQ=>by simp [aI] at h
 | .bY pre m1 mid1 m2 mid2 post free,hr,n,f,σ,e,f',σ',h,Q,hQ=>by unfold aI at h;unfold mX;obtain⟨⟨f4,σ4⟩,h1,h2⟩:=δ.1 h;cases h2;exact UY hm hc h1 hQ
 | .mK ms l s xs y,hr,n,f,σ,e,f',σ',h,Q,hQ=>by unfold aI at h;unfold mX;obtain⟨⟨f4,σ4⟩,h1,h2⟩:=δ.1 h;cases h2;exact UX hm hc h1 hQ
 | .bX pre m mid un post fl,hr,n,f,σ,e,f',σ',h,Q,hQ=>by unfold aI at h;unfold mX;obtain⟨⟨f4,σ4⟩,h1,h2⟩:=δ.1 h;cases h2;exact Ua hm hc h1 hQ
 | .eE g ps dx dy,hr,n,f,σ,e,f',σ',h,Q,hQ=>by
  unfold aI at h;unfold mX
  split at h
  ·rename_i p0 p1 gi hg
   split at h
   ·rename_i hb;simp only [ε,decide_eq_true_eq] at hb;obtain⟨⟨b1,b4⟩,b5⟩:=hb;cases h;have hrd:C.rd=none:=hr.resolve_right (by simp [mg]);exact dg hrd (hB _ b1) hg (.inr ⟨rfl,rfl⟩) ⟨b4,b5⟩ (λk s=>s=σ) rfl (λl k σk hk _=>absurd hk (by simp)) (λs hs=>by subst hs; exact hQ)
   ·cases h
  ·rename_i p0 p1 gi xZ hg
   split at h
   ·rename_i hb;simp only [ε,decide_eq_true_eq] at hb;obtain⟨⟨⟨⟨b1,b2⟩,b3⟩,b4⟩,b5⟩:=hb;obtain⟨σ2,h1,h2⟩:=δ.1 h;cases h2;have hrd:C.rd=none:=hr.resolve_right (by simp [mg])
    refine dg hrd (hB _ b1) hg (.inl rfl) ⟨b4,b5⟩ (λk s=>k<=xZ.length/\b8 _ xZ f p0 p1 (xZ.length-k) s=some σ') ⟨Nat.zero_le _,h1⟩ (λl k σk hk hJ=>?_) (λs hs=>?_)
    ·obtain⟨_,hJ⟩:=hJ;rw [show xZ.length-k=(xZ.length-1-k)+ 1 by omega] at hJ;obtain⟨σ3,g1,g2⟩:=Se hJ;simp only at g1
     split at g1
     ·rename_i f1 σ1 g3
      split at g1
      ·rename_i f5 σ5 g4;cases g1;refine wy (C:={ C with n0:=σ.nx,rd:=some l }) hm (nQ (C:={ C with n0:=σ.nx,rd:=some l }) hm hB hc dx (.inr b2) n _ _ _ _ _ g3 _ ?_);exact wy (C:={ C with n0:=σ.nx,rd:=some l }) hm (nQ (C:={ C with n0:=σ.nx,rd:=some l }) hm hB hc dy (.inr b3) n _ _ _ _ _ g4 _ ⟨rfl,_,_,yJ.refl,by omega,by rw [show xZ.length-(k+1)= xZ.length-1-k by omega]; exact g2⟩)
      ·cases g1
     ·cases g1
    ·have h0:=hs.2;rw [Nat.sub_self] at h0;simp only [b8] at h0;cases h0;exact hQ
   ·cases h
  ·cases h
mutual
def Vd : D->List Nat->List Nat
 | .ref k _ _ _,l=>k :: l
 | .wZ k _ _,l=>k :: l
 | .sub k _ _ _,l=>k :: l
 | .yV k,l=>k :: l
 | .agg cs,l=>eo cs l
 | .yD cs,l=>eo cs l
 | .fn _ cs,l=>eo cs l
 | _,l=>l
def eo : List D->List Nat->List Nat
 | [],l=>l
 | d :: r,l=>Vd d (eo r l)
end
def Ve : List (List D)->List Nat->List Nat
 | [],l=>l
 | e :: r,l=>eo e (Ve r l)
def ep (n0:Nat) (xX:List (Nat × Ob)):Nat->List Nat->Nat->Nat
 | 0,_,m=>m
 | _+1,[],m=>m
 | n+1,k :: todo,m=>if k<n0\/m.testBit k=true then ep n0 xX n todo m else match St.look xX k with
  | some o=>ep n0 xX n (Ve o.xZ todo) (m ||| 2 ^ k)
  | none=>ep n0 xX n todo m
def kq (n0:Nat):List (Nat × Ob)->List Nat
 | []=>[]
 | (k,o) :: r=>if k<n0 then Ve o.xZ (kq n0 r) else kq n0 r
def O7 (n0:Nat) (d:D) (σ:St):List (Nat × Ob):=
 if σ.nx=n0 then σ.xX else
  let m:=ep n0 σ.xX 100000 (Vd d (kq n0 σ.xX)) 0
  σ.xX.filter λp=>decide (p.1<n0) || m.testBit p.1
theorem eQ {φ:Nat->Bool} {k:Nat} {o:Ob}:∀ {l:List (Nat × Ob)},St.look (l.filter λp=>φ p.1) k=some o->St.look l k=some o
 | [],h=>by cases h
 | (j, o') :: r,h=>by
  rw [θ] at h
  split at h
  ·rw [xY] at h ⊢
   split at h
   ·rename_i e; rw [if_pos e]; exact h
   ·rename_i e; rw [if_neg e]; exact eQ h
  ·rename_i hf;have h':=eQ h;rw [xY]
   split
   ·rename_i e;subst e;exfalso
    have:∀ {l:List (Nat × Ob)},St.look (l.filter λp=>φ p.1) j≠some o:=by
     intro l
     induction l with
     | nil=>simp [St.look]
     | cons p l ih=>
      rw [θ]
      split
      ·rename_i hp;rw [xY]
       split
       ·rename_i e; rw [e] at hp; exact absurd hp hf
       ·exact ih
      ·exact ih
    exact this h
   ·exact h'
theorem Q3 {n0:Nat} {d:D} {σ:St}:∀ k o,St.look (O7 n0 d σ) k=some o->σ.get k=some o:=λk o h=>by
 unfold O7 at h
 split at h
 ·exact h
 ·exact eQ (φ:=λj=>decide (j<n0) || (ep n0 σ.xX 100000 (Vd d (kq n0 σ.xX)) 0).testBit j) h
def jL (f:Fr) (σ:St):lT->Option D
 | .tmp t=>some (f.get t)
 | .cell t n ag=>YT σ n ag (f.get t)
def lu (f:Fr) (σ:St):List lT->Option D
 | []=>some (.yD [])
 | [a]=>jL f σ a
 | [a,b]=>match jL f σ a,jL f σ b with
  | some x,some y=>some (.yD [x,y])
  | _,_=>none
 | [a,b,c]=>match jL f σ a,jL f σ b,jL f σ c with
  | some x,some y,some z=>some (.yD [x,y,z])
  | _,_,_=>none
 | [a,b,c,d]=>match jL f σ a,jL f σ b,jL f σ c,jL f σ d with
  | some x,some y,some z,some u=>some (.yD [x,y,z,u])
  | _,_,_,_=>none
 | _=>none
theorem rO {C:Cx} {f:Fr} {σ:St} {r:lT} {d:D} (h:jL f σ r=some d) {K:D->Prop} (hK:K d):pB C r f σ K:=by
 cases r with
 | tmp t=>simp only [jL,Option.some.injEq] at h; subst h; exact hK
 | cell t n ag=>exact ba (C:=C) (ev:=wP f) (x:=.t t) h hK
theorem Sd {C:Cx} {f:Fr} {σ:St}:∀ {rs:List lT} {d:D},lu f σ rs=some d->∀ {K:D->Prop},K d->mY C rs f σ K
 | [],d,h,K,hK=>by simp only [lu,Option.some.injEq] at h; subst h; exact hK
 | [a],d,h,K,hK=>rO (by simpa only [lu] using h) hK
 | [a,b],d,h,K,hK=>by
  simp only [lu] at h;simp only [mY]
  split at h
  ·rename_i h1 h2;simp only [Option.some.injEq] at h; subst h;exact rO h1 (K:=λx=>pB C b f σ λy=>K (.yD [x,y])) (rO h2 hK)
  ·cases h
 | [a,b,c],d,h,K,hK=>by
  simp only [lu] at h;simp only [mY]
  split at h
  ·rename_i h1 h2 h3;simp only [Option.some.injEq] at h; subst h;exact rO h1 (K:=λx=>pB C b f σ λy=>pB C c f σ λz=>K (.yD [x,y,z])) (rO h2 (K:=λy=>pB C c f σ λz=>K (.yD [_,y,z])) (rO h3 hK))
  ·cases h
 | [a,b,c,e],d,h,K,hK=>by
  simp only [lu] at h;simp only [mY]
  split at h
  ·rename_i h1 h2 h3 h4;simp only [Option.some.injEq] at h; subst h;exact rO h1 (K:=λx=>pB C b f σ λy=>pB C c f σ λz=>pB C e f σ λu=>K (.yD [x,y,z,u])) (rO h2 (K:=λy=>pB C c f σ λz=>pB C e f σ λu=>K (.yD [_,y,z,u])) (rO h3 (K:=λz=>pB C e f σ λu=>K (.yD [_,_,z,u])) (rO h4 hK)))
  ·cases h
 | _ :: _ :: _ :: _ :: _ :: _,d,h,K,hK=>by simp [lu] at h
abbrev Table :=List (Nat × Fn)
def YU : Table->Nat->Option Fn
 | [],_=>none
 | (k,F) :: r,g=>if k=g then some F else YU r g
def kG (P:Program) (T:Table):Prop:=∀ g F,YU T g=some F->∃ fn,P.funcs[g]?=some fn/\xP P F.own fn=some (F.n,F.code,F.res)
theorem kG.nil {P:Program}:kG P []:=λg F h=>by cases h
theorem kG.cons {P:Program} {T:Table} {g:Nat} {fn:Func} {own:List Nat} {c:Nat × DC × List lT} (hf:P.funcs[g]?=some fn) (hc:xP P own fn=some c) (h:kG P T):kG P ((g,⟨c.1,c.2.1,c.2.2,own⟩) :: T):=λk F hk=>by
 unfold YU at hk
 split at hk
 ·rename_i e;subst e;simp only [Option.some.injEq] at hk;subst hk;exact⟨fn,hf,hc⟩
 ·exact h k F hk
abbrev iQ :=zG
def iD (P:Program) (O:iQ):Prop:=tT P O
def T6 (fr:Nat->Bool) (call:zG):zG:=λg args σ=>if (fr g&&D.xT args)= true then(match call g args kT with
 | some (d,σ1)=>(fz σ1 30 d).map λd'=>(d',σ)
 | none=>none) else call g args σ
theorem Rx {P:Program} {fr:Nat->Bool} {call:zG} (hc:tT P call):tT P (T6 fr call):=λg args σ d σ' h=>by
 unfold T6 at h
 split at h
 ·rename_i hp;rw [ε] at hp
  split at h
  ·rename_i d1 σ1 h1;obtain⟨d2,h2,h3⟩:=δ.1 h;cases h3;exact xU.yU ((hc _ _ _ _ _ h1).jm (xy 30 _ _ h2)) hp.2
  ·cases h
 ·exact hc _ _ _ _ _ h
def Pe (bk fr:Nat->Bool) (T:Table) (O:iQ):Nat->zG
 | 0,_,_,_=>none
 | n + 1,g,args,σ=>match O g args σ with
  | some r=>some r
  | none=>match YU T g with
   | some F=>if args.length<=F.n then(match aI bk F.n (T6 fr (Pe bk fr T O n)) F.code 100000 (lO 0 args) σ with
    | some (.exit _,_,_)=>none
    | some (_,f,σ1)=>match lu f σ1 F.res with
     | some d=>some (d,⟨σ1.nx,O7 σ.nx d σ1⟩)
     | none=>none
    | none=>none) else none
   | none=>none
theorem VF {bk fr:Nat->Bool} {P:Program} (hm:P.follows .mixedOrders=true) (hB:∀ g,bk g=true->VV P g) {T:Table} (hT:kG P T) {O:iQ} (hO:iD P O):∀ n,tT P (Pe bk fr T O n)
 | 0=>λg args σ d σ' h=>by simp [Pe] at h
 | n + 1=>λg args σ d σ' h=>by
  have ih:=VF (fr:=fr) hm hB hT hO n;unfold Pe at h
  split at h
  ·rename_i r h1;cases h;exact hO _ _ _ _ _ h1
  split at h
  ·rename_i F hF;obtain⟨fn,hf,hc⟩:=hT g F hF
   split at h
   ·rename_i hl
    have key:∀ e f σ1,aI bk F.n (T6 fr (Pe bk fr T O n)) F.code 100000 (lO 0 args) σ=some (e,f,σ1)->(e.to = .ret\/e.to = .normal)->(match lu f σ1 F.res with | some d=>some (d,(⟨σ1.nx,O7 σ.nx d σ1⟩:St)) | none=>none)= some (d,σ')->xU P g args σ d σ':=by
     intro e f σ1 h1 he h2
     split at h2
     ·rename_i d1 h3;simp only [Option.some.injEq,Prod.mk.injEq] at h2;obtain⟨rfl,rfl⟩:=h2;refine xU.gc (σ1:=σ1) ?_ Q3;refine xU.RM hm hf hc hl λ_=>?_;exact nQ (C:=⟨P,F.n,σ.nx,F.own,none⟩) hm hB (Rx ih) F.code (.inl rfl) 100000 _ _ _ _ _ h1 _ ⟨he,Sd h3 (.inl ⟨rfl,rfl⟩)⟩
     ·cases h2
    split at h
    ·cases h
    ·rename_i e f σ1 zL h1;refine key e f σ1 h1 ?_ h
     cases e with
     | normal=>exact .inr rfl
     | exit i=>exact absurd rfl (zL i)
     | ret=>exact .inl rfl
    ·cases h
   ·cases h
  ·cases h
end Go.Pd
