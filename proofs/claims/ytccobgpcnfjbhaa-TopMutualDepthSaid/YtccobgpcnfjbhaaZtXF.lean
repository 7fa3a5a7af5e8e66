/- Part XF. -/
import Derived.Test.YtccobgpcnfjbhaaZtXE
import Derived.Test.YtccobgpcnfjbhaaZtXA
import Derived.Test.YtccobgpcnfjbhaaZtXN
set_option linter.unusedSectionVars false
set_option linter.unusedVariables false
set_option linter.unusedSimpArgs false
set_option linter.defProp false
set_option maxRecDepth 20000
set_option maxHeartbeats 1000000
open Option renaming bind_eq_some_iff->γ,map_eq_some_iff->δ
open Bool renaming and_eq_true->ε
open List renaming all_eq_true->ζ,contains_eq_mem->η,filter_cons->θ
namespace Go.Pd
open Go
variable [vU]
def Qr (σ:St) (sz bytes:Nat) (x:D) (rows:List (List D)):Option (D × St):=
 match x with
 | .xU=>if rows.length*bytes<=140737488355328/\rows.length<=8000000000000 then(match rows with
  | []=>some (.xU,σ)
  | _ :: _=>some (.xP σ.nx sz rows.length,σ.new ⟨sz,rows⟩)) else none
 | .xP key sz' n=>match σ.get key with
  | some ob=>if sz=sz'/\ob.sz=sz/\n<=ob.xZ.length/\(n+rows.length)* bytes<=140737488355328/\n+rows.length<=8000000000000 then some (.xP σ.nx sz (n+rows.length),(σ.erase key).new ⟨sz,ob.xZ.take n++rows⟩) else none
  | none=>none
 | _=>none
def Qt (σ:St) (zero:D) (x:D):Option (D × St):=
 match x with
 | .xU=>some (.xI [],σ)
 | .emp=>some (.xI [],σ)
 | .xP key sz n=>match σ.get key with
  | some ob=>if sz=1/\ob.sz=1/\0<n/\n<=ob.xZ.length/\zero.one=true then some (.xI [],σ.set key ⟨1,List.replicate n [zero]++ob.xZ.drop n⟩) else none
  | none=>none
 | .sub key sz lo n=>match σ.get key with
  | some ob=>if sz=1/\ob.sz=1/\0<n/\lo+n<=ob.xZ.length/\zero.one=true then some (.xI [],σ.set key ⟨1,ob.xZ.take lo++(List.replicate n [zero]++ob.xZ.drop (lo+n))⟩) else none
  | none=>none
 | _=>none
def Qu (σ:St) (x:D) (rows:List (List D)):Option (D × St):=
 match x with
 | .xP key sz n=>match σ.get key with
  | some ob=>if sz=1/\ob.sz=1/\n<=ob.xZ.length/\0<min n rows.length then some (.int .i64 ((min n rows.length:Nat):Int),σ.set key ⟨1,rows.take (min n rows.length)++ ob.xZ.drop (min n rows.length)⟩) else none
  | none=>none
 | .sub key sz lo n=>match σ.get key with
  | some ob=>if sz=1/\ob.sz=1/\lo+n<=ob.xZ.length/\0<min n rows.length then some (.int .i64 ((min n rows.length:Nat):Int),σ.set key ⟨1,ob.xZ.take lo++(rows.take (min n rows.length)++ ob.xZ.drop (lo+min n rows.length))⟩) else none
  | none=>none
 | _=>none
def WQ (σ:St) (m k:D) (f:St->Nat->Ob->IntKind->Int->Option (D × St)):Option (D × St):=
 match m,k with
 | .xG key,.int kk y=>match σ.get key with
  | some o=>if o.sz=0/\ry kk o.xZ=true then f σ key o kk y else none
  | none=>none
 | _,_=>none
def vE (call:yN) (σ:St) (ev:wQ->D) (k:DK):Option (D × St):=
 match k with
 | .box x=>match (ev x).cells with
  | some cs=>if zX cs=true/\0<cs.length then some (.ref σ.nx cs.length 0 0,σ.new ⟨cs.length,[cs]⟩) else none
  | none=>none
 | .alloc zero=>if zX zero=true/\0<zero.length then some (.ref σ.nx zero.length 0 0,σ.new ⟨zero.length,[zero]⟩) else none
 | .store n a x=>match ev a,(ev x).cells with
  | .ref key sz i off,some ds=>match σ.get key with
   | some ob=>if ob.sz=sz/\i<ob.xZ.length/\ds.length=n/\off+n<=sz/\zX ds=true then some (.vP,σ.set key ⟨sz,ob.xZ.set i (pI (ob.xZ.getD i []) off ds)⟩) else none
   | none=>none
  | _,_=>none
 | .app sz bytes x y=>match rowsOf σ sz (ev y) with
  | some rows=>if rows.all zX=true then Qr σ sz bytes (ev x) rows else none
  | none=>none
 | .oZ sz bytes zero len cap=>match ev len,ev cap with
  | .int .i64 n,.int .i64 m=>if n=m/\0<=n/\bytes*n<=281474976710656/\zX zero=true then some (.xP σ.nx sz n.toNat,σ.new ⟨sz,List.replicate n.toNat zero⟩) else none
  | _,_=>none
 | .tK sz len zero parts=>match kO sz (List.replicate len zero) (parts.map λp=>(p.1,ev p.2)) with
  | some es=>if es.all zX=true then some (.xP σ.nx sz len,σ.new ⟨sz,es⟩) else none
  | none=>none
 | .ug zero x=>Qt σ zero (ev x)
 | .jn x y=>match rowsOf σ 1 (ev y) with
  | some rows=>if rows.all zX=true then Qu σ (ev x) rows else none
  | none=>none
 | .call fn args=>match ev fn with
  | .fn g caps=>Yx call σ g (args.map ev++caps)
  | _=>none
 | .fA=>some (.xG σ.nx,σ.new ⟨0,[]⟩)
 | .pU m k x=>WQ σ (ev m) (ev k) λσ key o kk y=>some (.vP,σ.set key ⟨0,fU kk o.xZ y (ev x)⟩)
 | .rH n m k x=>match ev m,ev k with
  | .xG key,.agg cs=>match σ.get key,qP cs with
   | some o,some y=>match eB o.xZ with
    | some l=>if o.sz=0/\y.length=n/\(l.all λp=>p.1.length==n)= true then some (.vP,σ.set key ⟨0,vD (kN y (ev x) l)⟩) else none
    | none=>none
   | _,_=>none
  | _,_=>none
 | .kG zero m k=>WQ σ (ev m) (ev k) λσ key o kk y=>if o.xZ.length<=1000000000 then(match sT y o.xZ 0 with
  | some (i,d)=>some (.xI [d,.int .i64 i],σ.set key ⟨0,o.xZ⟩)
  | none=>some (.xI [zero,.int .i64 o.xZ.length],σ.set key ⟨0,o.xZ ++ [[.int kk y,zero]]⟩)) else none
 | .rQ n zero m k=>match ev m,ev k with
  | .xG key,.agg cs=>match σ.get key,qP cs with
   | some o,some y=>match eB o.xZ with
    | some l=>if o.sz=0/\o.xZ.length<=1000000000/\y.length=n/\(l.all λp=>p.1.length==n)= true then(match sR y l 0 with
     | some (i,d)=>some (.xI [d,.int .i64 i],σ.set key ⟨0,o.xZ⟩)
     | none=>some (.xI [zero,.int .i64 o.xZ.length],σ.set key ⟨0,vD (l ++ [(y,zero)])⟩)) else none
    | none=>none
   | _,_=>none
  | _,_=>none
 | .kR m s x=>match ev m,ev s with
  | .xG key,.int _ i=>match σ.get key with
   | some o=>if o.sz=0/\0<=i/\i<o.xZ.length then(match o.xZ.getD i.toNat [] with
    | [y,_]=>some (.vP,σ.set key ⟨0,o.xZ.set i.toNat [y,ev x]⟩)
    | _=>none) else none
   | none=>none
  | _,_=>none
 | k=>(pE call σ ev k).map λd=>(d,σ)
theorem vi {rows:List (List D)} (h:rows.all zX=true):∀ r ∈ rows,zX r=true:=ζ.1 h
theorem mV {C:Cx} {call:yN} (hc:uZ C.P call) {σ:St} {ev:wQ->D}:∀ {k:DK} {d:D} {σ':St},vE call σ ev k=some (d,σ')->∀ {K:D->St->Prop},K d σ'->vO C σ ev k K
 | .box x,d,σ',h,K,hK=>by
  simp only [vE] at h;simp only [vO]
  split at h
  ·rename_i h1;rw [h1];simp only
   split at h
   ·rename_i h2;simp only [Option.some.injEq,Prod.mk.injEq] at h;obtain⟨rfl,rfl⟩:=h;exact⟨h2.1,h2.2,hK⟩
   ·cases h
  ·cases h
 | .alloc zero,d,σ',h,K,hK=>by
  simp only [vE] at h
  split at h
  ·rename_i h2;simp only [Option.some.injEq,Prod.mk.injEq] at h;obtain⟨rfl,rfl⟩:=h;exact⟨h2.1,h2.2,hK⟩
  ·cases h
 | .store n a x,d,σ',h,K,hK=>by
  simp only [vE] at h;simp only [vO]
  split at h
  ·rename_i h1 h2;rw [h1,h2];simp only
   split at h
   ·rename_i h3;rw [h3];simp only
    split at h
    ·rename_i h4;simp only [Option.some.injEq,Prod.mk.injEq] at h;obtain⟨rfl,rfl⟩:=h;exact⟨h4.1,h4.2.1,h4.2.2.1,h4.2.2.2.1,h4.2.2.2.2,hK⟩
    ·cases h
   ·cases h
  ·cases h
 | .app sz bytes x y,d,σ',h,K,hK=>by
  simp only [vE] at h;simp only [vO]
  split at h
  ·rename_i rows h1;rw [h1];simp only
   split at h
   ·rename_i h2;refine⟨vi h2,?_⟩;unfold Qr at h
    split at h
    ·rename_i h3;rw [h3];simp only
     split at h
     ·rename_i h4
      refine⟨h4.1,h4.2,λe=>?_,λe=>?_⟩
      ·subst e;simp only [Option.some.injEq,Prod.mk.injEq] at h;obtain⟨rfl,rfl⟩:=h;exact hK
      ·match rows,e,h with
       | r :: rs,_,h=> simp only [Option.some.injEq,Prod.mk.injEq] at h;obtain⟨rfl,rfl⟩:=h;exact hK
     ·cases h
    ·rename_i h3;rw [h3];simp only
     split at h
     ·rename_i h5;rw [h5];simp only
      split at h
      ·rename_i h4;simp only [Option.some.injEq,Prod.mk.injEq] at h;obtain⟨rfl,rfl⟩:=h;exact⟨h4.1,h4.2.1,h4.2.2.1,h4.2.2.2.1,h4.2.2.2.2,hK⟩
      ·cases h
     ·cases h
    ·cases h
   ·cases h
  ·cases h
 | .oZ sz bytes zero len cap,d,σ',h,K,hK=>by
  simp only [vE] at h;simp only [vO]
  split at h
  ·rename_i h1 h2;rw [h1,h2];simp only
   split at h
   ·rename_i h4;simp only [Option.some.injEq,Prod.mk.injEq] at h;obtain⟨rfl,rfl⟩:=h;exact⟨h4.1,h4.2.1,h4.2.2.1,h4.2.2.2,hK⟩
   ·cases h
  ·cases h
 | .tK sz len zero parts,d,σ',h,K,hK=>by
  simp only [vE] at h;simp only [vO]
  split at h
  ·rename_i h1;rw [h1];simp only
   split at h
   ·rename_i h4;simp only [Option.some.injEq,Prod.mk.injEq] at h;obtain⟨rfl,rfl⟩:=h;exact⟨vi h4,hK⟩
   ·cases h
  ·cases h
 | .ug zero x,d,σ',h,K,hK=>by
  simp only [vE] at h;simp only [vO];unfold Qt at h
  split at h
  ·rename_i h1;rw [h1];simp only [Option.some.injEq,Prod.mk.injEq] at h;obtain⟨rfl,rfl⟩:=h;exact hK
  ·rename_i h1;rw [h1];simp only [Option.some.injEq,Prod.mk.injEq] at h;obtain⟨rfl,rfl⟩:=h;exact hK
  ·rename_i h1;rw [h1];simp only
   split at h
   ·rename_i h2;rw [h2];simp only
    split at h
    ·rename_i h4;simp only [Option.some.injEq,Prod.mk.injEq] at h;obtain⟨rfl,rfl⟩:=h;exact⟨h4.1,h4.2.1,h4.2.2.1,h4.2.2.2.1,h4.2.2.2.2,hK⟩
    ·cases h
   ·cases h
  ·rename_i h1;rw [h1];simp only
   split at h
   ·rename_i h2;rw [h2];simp only
    split at h
    ·rename_i h4;simp only [Option.some.injEq,Prod.mk.injEq] at h;obtain⟨rfl,rfl⟩:=h;exact⟨h4.1,h4.2.1,h4.2.2.1,h4.2.2.2.1,h4.2.2.2.2,hK⟩
    ·cases h
   ·cases h
  ·cases h
 | .jn x y,d,σ',h,K,hK=>by
  simp only [vE] at h;simp only [vO]
  split at h
  ·rename_i rows hr;rw [hr];simp only
   split at h
   ·rename_i hall;refine⟨vi hall,?_⟩;unfold Qu at h
    split at h
    ·rename_i h1;rw [h1];simp only
     split at h
     ·rename_i h2;rw [h2];simp only
      split at h
      ·rename_i h4;simp only [Option.some.injEq,Prod.mk.injEq] at h;obtain⟨rfl,rfl⟩:=h;exact⟨h4.1,h4.2.1,h4.2.2.1,h4.2.2.2,hK⟩
      ·cases h
     ·cases h
    ·rename_i h1;rw [h1];simp only
     split at h
     ·rename_i h2;rw [h2];simp only
      split at h
      ·rename_i h4;simp only [Option.some.injEq,Prod.mk.injEq] at h;obtain⟨rfl,rfl⟩:=h;exact⟨h4.1,h4.2.1,h4.2.2.1,h4.2.2.2,hK⟩
      ·cases h
     ·cases h
    ·cases h
   ·cases h
  ·cases h
 | .call fn args,d,σ',h,K,hK=>by
  simp only [vE] at h;simp only [vO]
  split at h
  ·rename_i h1;rw [h1];exact⟨d,σ',ZC hc h,hK⟩
  ·cases h
 | .fA,d,σ',h,K,hK=>by simp only [vE,Option.some.injEq,Prod.mk.injEq] at h;obtain⟨rfl,rfl⟩:=h;exact hK
 | .pU m k x,d,σ',h,K,hK=>by
  simp only [vE] at h;simp only [vO];unfold WQ at h
  split at h
  ·rename_i h1 h2;rw [h1,h2];simp only
   split at h
   ·rename_i h3;rw [h3];simp only
    split at h
    ·rename_i h4;simp only [Option.some.injEq,Prod.mk.injEq] at h;obtain⟨rfl,rfl⟩:=h;exact⟨h4.1,iM h4.2,hK⟩
    ·cases h
   ·cases h
  ·cases h
 | .rH n m k x,d,σ',h,K,hK=>by
  simp only [vE] at h;simp only [vO]
  split at h
  ·rename_i key cs h1 h2;rw [h1,h2];simp only
   split at h
   ·rename_i o y h3 h4;rw [h3];simp only
    split at h
    ·rename_i l h5
     split at h
     ·rename_i h6;simp only [Option.some.injEq,Prod.mk.injEq] at h;obtain⟨rfl,rfl⟩:=h;exact⟨h6.1,y,l,⟨tU h4,iS h5,h6.2.1,λp hp=>by have:=ζ.1 h6.2.2 p hp; simpa using this⟩,hK⟩
     ·cases h
    ·cases h
   ·cases h
  ·cases h
 | .kG zero m k,d,σ',h,K,hK=>by
  simp only [vE] at h;simp only [vO];unfold WQ at h
  split at h
  ·rename_i h1 h2;rw [h1,h2];simp only
   split at h
   ·rename_i h3;rw [h3];simp only
    split at h
    ·rename_i h4;simp only at h
     split at h
     ·rename_i h5;refine⟨h4.1,iM h4.2,h5,?_⟩
      split at h
      ·rename_i h6;rw [h6];simp only [Option.some.injEq,Prod.mk.injEq] at h;obtain⟨rfl,rfl⟩:=h;exact hK
      ·rename_i h6;rw [h6];simp only [Option.some.injEq,Prod.mk.injEq] at h;obtain⟨rfl,rfl⟩:=h;exact hK
     ·cases h
    ·cases h
   ·cases h
  ·cases h
 | .rQ n zero m k,d,σ',h,K,hK=>by
  simp only [vE] at h;simp only [vO]
  split at h
  ·rename_i key cs h1 h2;rw [h1,h2];simp only
   split at h
   ·rename_i o y h3 h4;rw [h3];simp only
    split at h
    ·rename_i l h5
     split at h
     ·rename_i h6;refine⟨h6.1,h6.2.1,y,l,⟨tU h4,iS h5,h6.2.2.1,λp hp=>by have:=ζ.1 h6.2.2.2 p hp; simpa using this⟩,?_⟩
      split at h
      ·rename_i h7;rw [h7];simp only [Option.some.injEq,Prod.mk.injEq] at h;obtain⟨rfl,rfl⟩:=h;exact hK
      ·rename_i h7;rw [h7];simp only [Option.some.injEq,Prod.mk.injEq] at h;obtain⟨rfl,rfl⟩:=h;exact hK
     ·cases h
    ·cases h
   ·cases h
  ·cases h
 | .kR m s x,d,σ',h,K,hK=>by
  simp only [vE] at h;simp only [vO]
  split at h
  ·rename_i h1 h2;rw [h1,h2];simp only
   split at h
   ·rename_i h3;rw [h3];simp only
    split at h
    ·rename_i h4
     split at h
     ·rename_i y dd h6;simp only [Option.some.injEq,Prod.mk.injEq] at h;obtain⟨rfl,rfl⟩:=h;exact⟨h4.1,h4.2.1,h4.2.2,y,dd,h6,hK⟩
     ·cases h
    ·cases h
   ·cases h
  ·cases h
 | .mv _,d,σ',h,K,hK | .XY _,d,σ',h,K,hK | .pick ..,d,σ',h,K,hK | .bin ..,d,σ',h,K,hK | .beq ..,d,σ',h,K,hK | .geq ..,d,σ',h,K,hK | .nt _,d,σ',h,K,hK | .neg _,d,σ',h,K,hK | .TS _,d,σ',h,K,hK
 | .conv ..,d,σ',h,K,hK | .XT ..,d,σ',h,K,hK | .jg ..,d,σ',h,K,hK | .tx ..,d,σ',h,K,hK | .eX ..,d,σ',h,K,hK | .mn ..,d,σ',h,K,hK | .mx ..,d,σ',h,K,hK | .build ..,d,σ',h,K,hK | .idx ..,d,σ',h,K,hK | .aj ..,d,σ',h,K,hK | .eD ..,d,σ',h,K,hK
 | .len _,d,σ',h,K,hK | .oU ..,d,σ',h,K,hK | .ub _,d,σ',h,K,hK | .load ..,d,σ',h,K,hK | .xm ..,d,σ',h,K,hK | .zG ..,d,σ',h,K,hK | .mW ..,d,σ',h,K,hK | .mS ..,d,σ',h,K,hK=>by simp only [vE,δ,Prod.mk.injEq] at h;obtain⟨d0,h0,rfl,rfl⟩:=h;exact dp hc h0 (K:=λd=>K d σ) hK
def gR (o:xN) (f:Fr):Option Bool:=
 match o.guard with
 | none=>some true
 | some (j,want)=>match f.get j with
  | .bool b=>if b=want then some true else some false
  | .vP=>some false
  | _=>none
theorem tR {o:xN} {f:Fr} {b:Bool} (h:gR o f=some b) {yes no:Prop} (h1:b=true->yes) (h2:b=false->no):xF o f yes no:=by
 unfold gR at h;unfold xF
 split at h
 ·rename_i e; rw [e]; simp only [Option.some.injEq] at h; exact h1 h.symm
 ·rename_i j want e;rw [e];simp only
  split at h
  ·rename_i b' e2;rw [e2];simp only
   split at h
   ·rename_i e3; rw [if_pos e3]; simp only [Option.some.injEq] at h; exact h1 h.symm
   ·rename_i e3; rw [if_neg e3]; simp only [Option.some.injEq] at h; exact h2 h.symm
  ·rename_i e2; rw [e2]; simp only [Option.some.injEq] at h; exact h2 h.symm
  ·cases h
def rG (call:yN) (σ:St):List xN->Fr->Option Fr
 | [],f=>some f
 | o :: r,f=>match gR o f with
  | some true=>match pE call σ (uX f) o.k with
   | some d=>rG call σ r (f.put o.dst d)
   | none=>none
  | some false=>rG call σ r (f.put o.dst .vP)
  | none=>none
theorem wR {C:Cx} {call:yN} (hc:uZ C.P call) {σ:St}:∀ {l:List xN} {f f':Fr},rG call σ l f=some f'->∀ {K:Fr->Prop},K f'->uY C σ l f K
 | [],f,f',h,K,hK=>by simp [rG] at h; subst h; exact hK
 | o :: r,f,f',h,K,hK=>by
  unfold rG at h;unfold uY
  split at h
  ·rename_i hg
   split at h
   ·rename_i d hd;exact tR hg (λ_=>dp hc hd (wR hc h hK)) λe=>by cases e
   ·cases h
  ·rename_i hg;exact tR hg (λe=>by cases e) λ_=>wR hc h hK
  ·cases h
def eF (call:yN):List xN->Fr->St->Option (Fr × St)
 | [],f,σ=>some (f,σ)
 | o :: r,f,σ=>match gR o f with
  | some true=>match vE call σ (uX f) o.k with
   | some (d,σ')=>eF call r (f.put o.dst d) σ'
   | none=>none
  | some false=>eF call r (f.put o.dst .vP) σ
  | none=>none
theorem pO {C:Cx} {call:yN} (hc:uZ C.P call):∀ {l:List xN} {f f':Fr} {σ σ':St},eF call l f σ=some (f',σ')->∀ {K:Fr->St->Prop},K f' σ'->uF C l f σ K
 | [],f,f',σ,σ',h,K,hK=>by simp [eF] at h; obtain⟨rfl,rfl⟩:=h; exact hK
 | o :: r,f,f',σ,σ',h,K,hK=>by
  unfold eF at h;unfold uF
  split at h
  ·rename_i hg
   split at h
   ·rename_i d σ1 hd;exact tR hg (λ_=>mV hc hd (pO hc h hK)) λe=>by cases e
   ·cases h
  ·rename_i hg;exact tR hg (λe=>by cases e) λ_=>pO hc h hK
  ·cases h
def dd (mask:Nat):Fr->Fr
 | []=>[]
 | (t,d) :: r=>if mask.testBit t=true then dd mask r else(t,d) :: dd (mask ||| 2 ^ t) r
theorem wj : ∀ (f:Fr) (mask t:Nat),mask.testBit t=false->(dd mask f).get t=f.get t
 | [],mask,t,h=>rfl
 | (s,d) :: r,mask,t,h=>by
  unfold dd
  split
  ·rename_i hs;rw [wj r mask t h];have:s≠t:=λe=>by rw [e,h] at hs; cases hs
   simp [Fr.get,this]
  ·by_cases e:s=t
   ·simp [Fr.get,e]
   ·rw [Fr.get,if_neg e,Fr.get,if_neg e];refine wj r _ t ?_;rw [Nat.testBit_or,h,Nat.testBit_two_pow_of_ne e]; rfl
theorem yV.dd {C:Cx} {f:Fr} {σ:St}:yV C f σ (Pd.dd 0 f) σ:=yV.frame λt=>.inr (wj f 0 t (Nat.zero_testBit t))
def xa (body:Fr->St->Option (Ex × Fr × St)):Nat->Fr->St->Option (Ex × Fr × St)
 | 0,_,_=>none
 | k+1,f,σ=>match body f σ with
  | some (.normal,f1,σ1)=>xa body k (dd 0 f1) σ1
  | r=>r
def Q2 (call:yN) (σ:St) (mid:List xN) (f:Fr) (un:Bool) (f2:Fr):Bool:=
 match un with
 | true=>match rG call σ mid f with
  | some g2=>jf g2 f2
  | none=>false
 | false=>true
theorem Yl {C:Cx} {call:yN} (hc:uZ C.P call) {σ:St} {mid:List xN} {f f2:Fr} {un:Bool} (h:Q2 call σ mid f un f2=true):if un=true then uY C σ mid f (λg=>g=f2) else True:=by
 unfold Q2 at h
 split at h
 ·rw [if_pos rfl]
  split at h
  ·rename_i g2 h8;exact wR hc h8 (lG h)
  ·cases h
 ·rw [if_neg (by simp)]; trivial
def WZ (nx:Nat) (ρ:Nat->Nat):Nat->D->D->Bool
 | _,.ref k s i o,.ref k' s' i' o'=>decide (k'<nx)&& decide (k=ρ k')&& decide (s=s')&& decide (i=i')&& decide (o=o')
 | _,.xP k s n,.xP k' s' n'=>decide (k'<nx)&& decide (k=ρ k')&& decide (s=s')&& decide (n=n')
 | _,.sub k s l n,.sub k' s' l' n'=>decide (k'<nx)&& decide (k=ρ k')&& decide (s=s')&& decide (l=l')&& decide (n=n')
 | _,.xG k,.xG k'=>decide (k'<nx)&& decide (k=ρ k')
 | n+1,.agg a,.agg b=>iF (WZ nx ρ n) a b
 | n+1,.xI a,.xI b=>iF (WZ nx ρ n) a b
 | n+1,.fn f a,.fn g b=>decide (f=g)&& iF (WZ nx ρ n) a b
 | n,d,d'=>d'.xH&&xk n d d'
theorem vd {σ σ':St} {ρ:Nat->Nat} {d:D} (h:d.xH=true):vw σ σ' ρ d d:=by have:=bU (σ:=σ) (σ':=σ') (ρ:=ρ) (a:=[d]) (by simp [D.xJ,h]);simp only [rN] at this;exact this.1
theorem eK {σ σ':St} {ρ:Nat->Nat} {e:D->D->Bool} (he:∀ a b,e a b=true->vw σ σ' ρ a b):∀ {xs bs:List D},iF e xs bs=true->xs.length=bs.length/\rN σ σ' ρ xs bs
 | [],[],_=>⟨rfl,by simp only [rN]⟩
 | [],_ :: _,h=>by simp [iF] at h
 | _ :: _,[],h=>by simp [iF] at h
 | a :: xs,b :: bs,h=>by simp only [iF,ε] at h;obtain⟨h1,h2⟩:=eK he (xs:=xs) (bs:=bs) h.2;exact⟨by simp [h1],by simp only [rN]; exact⟨he _ _ h.1,h2⟩⟩
theorem Yb {σ σ':St} {ρ:Nat->Nat}:∀ (n:Nat) (a b:D),WZ σ'.nx ρ n a b=true->vw σ σ' ρ a b:=by
 have key:∀ (n:Nat) (a b:D),(b.xH&&xk n a b)= true->vw σ σ' ρ a b:=λn a b h=>by rw [ε] at h;have:=rJ _ _ _ h.2;subst this;exact vd h.1
 intro n
 induction n with
 | zero=>
  intro a b h
  cases a <;> cases b <;> simp only [WZ] at h <;> first
   | exact key _ _ _ h
   | (simp only [vw]; simp only [ε,decide_eq_true_eq] at h; simp_all)
 | succ n ih=>
  intro a b h
  cases a <;> cases b <;> simp only [WZ] at h <;> first
   | exact key _ _ _ h
   | (simp only [vw]; exact eK ih h)
   | (simp only [vw]; simp only [ε,decide_eq_true_eq] at h; exact⟨h.1,eK ih h.2⟩)
   | (simp only [vw]; simp only [ε,decide_eq_true_eq] at h; simp_all)
def XL (nx:Nat) (ρ:Nat->Nat) (a b:List (List D)):Bool:=iF (iF (WZ nx ρ 30)) a b
theorem bj {σ σ':St} {ρ:Nat->Nat}:∀ {a b:List (List D)},XL σ'.nx ρ a b=true->jr σ σ' ρ a b
 | [],[],_=>.nil
 | [],_ :: _,h=>by simp [XL,iF] at h
 | _ :: _,[],h=>by simp [XL,iF] at h
 | a :: xs,b :: bs,h=>by simp only [XL,iF,ε] at h;obtain⟨h1,h2⟩:=eK (Yb (σ:=σ) (σ':=σ') (ρ:=ρ) 30) h.1;exact .cons h1 h2 (bj h.2)
def XV (n0 n1:Nat) (k:Nat):Nat:=if k<n0 then k else if k=n1 then n0 else if k<n1 then k+1 else k
theorem qm (n0 n1 k:Nat):(k<n0/\XV n0 n1 k=k)\/(n0<=k/\k=n1/\XV n0 n1 k=n0)\/(n0<=k/\k<n1/\XV n0 n1 k=k+1)\/(n0<=k/\n1<k/\XV n0 n1 k=k):=by
 unfold XV
 by_cases h1:k<n0
 ·rw [if_pos h1]; omega
 ·rw [if_neg h1]
  by_cases h2:k=n1
  ·rw [if_pos h2]; omega
  ·rw [if_neg h2]
   by_cases h3:k<n1
   ·rw [if_pos h3]; omega
   ·rw [if_neg h3]; omega
def je (n0 n1:Nat) (f4:Fr) (σ4:St) (g4:Fr) (σ5:St):Bool:= decide (n0<=σ4.nx)&& decide (n0<=n1)&& (f4.all λp=>WZ σ4.nx (XV n0 n1) 30 (g4.get p.1) p.2)&& σ4.xY.all λp=>decide (p.1<σ4.nx)&& (match σ5.get (XV n0 n1 p.1) with | some ob=>decide (ob.sz=p.2.sz)&& XL σ4.nx (XV n0 n1) ob.xZ p.2.xZ | none=>false)
theorem z7 {C:Cx} {n0 n1:Nat} {f4 g4:Fr} {σ4 σ5:St} (h:je n0 n1 f4 σ4 g4 σ5=true) (hn:C.n0<=n0):yV C g4 σ5 f4 σ4:=by
 simp only [je,ε,decide_eq_true_eq,ζ] at h;obtain⟨⟨⟨h1,h2⟩,h3⟩,h4⟩:=h
 refine yV.view (XV n0 n1) (by omega) (λk hk=>by unfold XV; rw [if_pos (by omega)]) ?_ (λp hp=>?_) (λp _ q _ e=>?_)
 ·have:∀ l:Fr,(∀ p ∈ l,WZ σ4.nx (XV n0 n1) 30 (g4.get p.1) p.2=true)->uk σ5 σ4 (XV n0 n1) g4 l:=by
   intro l
   induction l with
   | nil=>intro _; simp only [uk]
   | cons p l ih=>intro hl; simp only [uk]; exact⟨Yb _ _ _ (hl p (by simp)),ih λq hq=>hl q (by simp [hq])⟩
  exact this f4 h3
 ·obtain⟨g1,g2⟩:=h4 p hp;refine⟨g1,?_⟩
  split at g2
  ·rename_i ob hob;simp only [ε,decide_eq_true_eq] at g2;exact⟨ob,hob,g2.1,bj g2.2⟩
  ·cases g2
 ·have:=qm n0 n1 p.1;have:=qm n0 n1 q.1;omega
def XJ (n0 n1:Nat) (f4:Fr) (σ4:St) (g4:Fr) (σ5:St):Bool:=je n0 n1 (dd 0 f4) σ4 g4 σ5
theorem rj {C:Cx} {n0 n1:Nat} {f4 g4:Fr} {σ4 σ5:St} (h:XJ n0 n1 f4 σ4 g4 σ5=true) (hn:C.n0<=n0):yV C g4 σ5 f4 σ4:=(z7 h hn).trans (yV.frame λt=>.inr (wj f4 0 t (Nat.zero_testBit t)).symm)
def fW (call:yN) (σ:St) (l:List xN) (f g:Fr):Bool:=match rG call σ l f with
 | some g'=>jf g' g
 | none=>false
theorem oO {C:Cx} {call:yN} (hc:uZ C.P call) {σ:St} {l:List xN} {f g:Fr} (h:fW call σ l f g=true):uY C σ l f λx=>x=g:=by
 unfold fW at h
 split at h
 ·rename_i g' h8; exact wR hc h8 (lG h)
 ·cases h
def QI (free:List Nat) (f g:Fr):Bool:=free.all λt=>xk 30 (f.get t) (g.get t)
def XB (call:yN) (pre:List xN) (m1:xN) (mid1:List xN) (m2:xN) (mid2 post:List xN) (free:List Nat) (f:Fr) (σ:St):Option (Fr × St):=
 (rG call σ pre f).bind λf1=>(vE call σ (uX f1) m1.k).bind λx=>(rG call x.2 mid1 (f1.put m1.dst x.1)).bind λf2=>(vE call x.2 (uX f2) m2.k).bind λy=>(rG call y.2 mid2 (f2.put m2.dst y.1)).bind λf3=>
 (vE call σ (uX f) m2.k).bind λA=>(rG call A.2 pre f).bind λg1=>(vE call A.2 (uX g1) m1.k).bind λz=>(rG call z.2 (mid1++⟨m2.dst,none,.mv (.c A.1)⟩ :: mid2) (g1.put m1.dst z.1)).bind λg3=>
 (eF call post f3 y.2).bind λr=>(eF call post g3 z.2).bind λs=>
 if (fW call σ (xl pre m1.dst x.1 (Wa mid1 f3) m2.dst y.1 mid2) f f3&&fW call x.2 (xl pre m1.dst x.1 mid1 m2.dst y.1 mid2) f f3&&fW call y.2 (xl pre m1.dst x.1 mid1 m2.dst y.1 mid2) f f3 &&
  fW call A.2 (xl pre m1.dst z.1 (Wa mid1 g3) m2.dst A.1 mid2) f g3&&fW call z.2 (xl pre m1.dst z.1 mid1 m2.dst A.1 mid2) f g3&&QI free r.1 s.1&&XJ σ.nx x.2.nx r.1 r.2 s.1 s.2)= true then some r else none
theorem Yo {C:Cx} {dc:DC} {f:Fr} {σ:St} {Q:Exit->Fr->St->Prop} (h:C.n0<=σ.nx->wpS C dc f σ Q):wpS C dc f σ Q:=λcode hc E a w G=>by obtain⟨ι,G'⟩:=G;exact h G'.nx code hc E a w ⟨ι,G'⟩
theorem Zo {C:Cx} (hm:C.P.follows .mixedOrders=true) {call:yN} (hc:uZ C.P call) {pre:List xN} {m1:xN} {mid1:List xN} {m2:xN} {mid2 post:List xN} {free:List Nat} {f f':Fr} {σ σ':St}
  (h:XB call pre m1 mid1 m2 mid2 post free f σ=some (f',σ')) {Q:Exit->Fr->St->Prop} (hQ:Q .normal f' σ'):wpS C (.jJ pre m1 mid1 m2 mid2 post free) f σ Q:=by
 refine Yo λhn=>YO hm ?_;unfold XB at h;obtain⟨f1,a1,h⟩:=γ.1 h;obtain⟨⟨dx,σ1⟩,a2,h⟩:=γ.1 h;obtain⟨f2,a3,h⟩:=γ.1 h;obtain⟨⟨dy,σ2⟩,a4,h⟩:=γ.1 h;obtain⟨f3,a5,h⟩:=γ.1 h;obtain⟨⟨dA,σA⟩,a6,h⟩:=γ.1 h;obtain⟨g1,a7,h⟩:=γ.1 h;obtain⟨⟨dz,σB⟩,a8,h⟩:=γ.1 h;obtain⟨g3,a9,h⟩:=γ.1 h;obtain⟨⟨f4,σ4⟩,b1,h⟩:=γ.1 h;obtain⟨⟨g4,σ5⟩,b2,h⟩:=γ.1 h
 split at h
 ·rename_i hb;cases h;simp only [ε] at hb;obtain⟨⟨⟨⟨⟨⟨c1,c2⟩,c3⟩,c4⟩,c5⟩,c6⟩,c7⟩:=hb;exact wR hc a1 (mV hc a2 (wR hc a3 (mV hc a4 (wR hc a5 ⟨oO hc c1,oO hc c2,oO hc c3,mV hc a6 (wR hc a7 (mV hc a8 (wR hc a9 ⟨oO hc c4,oO hc c5,pO hc b1 (pO hc b2 ⟨λt ht=>rJ _ _ _ (ζ.1 c6 t ht),rj c7 hn,hQ⟩)⟩)))⟩))))
 ·cases h
def mQ (call:yN) (s:Nat) (kS:List Nat):List xN->Nat->Fr->St->Option (List (D × St))
 | [],_,_,_=>some []
 | o :: r,i,f,σ=>match gR o f with
  | some true=>match (if (decide (i<s)&& !kS.contains i)= true then(pE call σ (uX f) o.k).map (λd=>(d,σ)) else vE call σ (uX f) o.k) with
   | some p=>(mQ call s kS r (i+1) (f.put o.dst p.1) p.2).map (p :: ·)
   | none=>none
  | some false=>(mQ call s kS r (i+1) (f.put o.dst .vP) σ).map ((.vP,σ) :: ·)
  | none=>none
theorem gN {C:Cx} {call:yN} (hc:uZ C.P call) {s:Nat} {kS:List Nat}:∀ {l:List xN} {i:Nat} {f:Fr} {σ:St} {tr:List (D × St)},mQ call s kS l i f σ=some tr ->
  Trace C l f σ tr/\tr.length=l.length/\∀ k,i+k<s->kS.contains (i+k)= false->zN (tr.take (k+1)) σ=zN (tr.take k) σ
 | [],i,f,σ,tr,h=>by simp [mQ] at h; subst h;exact⟨.nil,rfl,λk _ _=>by simp [zN]⟩
 | o :: r,i,f,σ,tr,h=>by
  unfold mQ at h
  have fin:∀ (p:D × St) (t:List (D × St)),xF o f (vO C σ (uX f) o.k λx y=>x=p.1/\y=p.2) (p.1 = .vP/\p.2=σ)->(i<s->kS.contains i=false->p.2=σ)->mQ call s kS r (i+1) (f.put o.dst p.1) p.2=some t->p :: t=tr ->
    Trace C (o :: r) f σ tr/\tr.length=(o :: r).length/\∀ k,i+k<s->kS.contains (i+k)= false->zN (tr.take (k+1)) σ=zN (tr.take k) σ:=by
   intro p t h1 h2 h3 h4;subst h4;obtain⟨g1,g2,g3⟩:=gN hc h3;refine⟨.cons h1 g1,by simp [g2],λk hk hm=>?_⟩
   cases k with
   | zero=>exact h2 (by omega) hm
   | succ k=>exact g3 k (by omega) (by rw [show i+1+k=i+(k+1) by omega]; exact hm)
  split at h
  ·rename_i hg
   split at h
   ·rename_i p hp;rw [δ] at h;obtain⟨t,h1,h2⟩:=h
    split at hp
    ·rw [δ] at hp;obtain⟨d,h3,rfl⟩:=hp;exact fin _ t (tR hg (λ_=>oG (dp hc h3 (K:=λx=>x=d) rfl)) λe=>by cases e) (λ_ _=>rfl) h1 h2
    ·rename_i hn;exact fin p t (tR hg (λ_=>mV hc hp (K:=λx y=>x=p.1/\y=p.2) ⟨rfl,rfl⟩) λe=>by cases e) (λh5 h6=>absurd (by rw [h6,decide_eq_true h5]; rfl) hn) h1 h2
   ·cases h
  ·rename_i hg;rw [δ] at h;obtain⟨t,h1,h2⟩:=h;exact fin (.vP,σ) t (tR hg (λe=>by cases e) λ_=>⟨rfl,rfl⟩) (λ_ _=>rfl) h1 h2
  ·cases h
def OF (call:yN) (l:List xN) (tr:List (D × St)) (f:Fr) (σp:St) (i:Nat) (o:xN):Bool:=
 match gR o (wX (l.take i) (tr.take i) f) with
 | some true=>match pE call σp (uX (wX (l.take i) (tr.take i) f)) o.k with
  | some d=>xk 30 d (zF tr i)
  | none=>false
 | some false=>xk 30 .vP (zF tr i)
 | none=>false
theorem S8 {C:Cx} {call:yN} (hc:uZ C.P call) {l:List xN} {tr:List (D × St)} {f:Fr} {σp:St} {i:Nat} {o:xN} (h:OF call l tr f σp i o=true) :
  xF o (wX (l.take i) (tr.take i) f) (vO C σp (uX (wX (l.take i) (tr.take i) f)) o.k λx y=>x=zF tr i/\y=σp) (.vP=zF tr i):=by
 unfold OF at h
 split at h
 ·rename_i hg
  split at h
  ·rename_i d hd;have e:=rJ _ _ _ h;subst e;exact tR hg (λ_=>oG (dp hc hd (K:=λx=>x=zF tr i) rfl)) λe=>by cases e
  ·cases h
 ·rename_i hg;exact tR hg (λe=>by cases e) λ_=>rJ _ _ _ h
 ·cases h
def XH (call:yN) (ms:List Nat) (l:List xN) (s:Nat) (kS:List Nat) (tr:List (D × St)) (f:Fr) (σ:St):Bool:=
 (List.range s).all λi=>kS.contains i || (match l[i]? with
  | none=>true
  | some o=>o.k.yG || ((0 :: kS.map (·+1)).all λp=>(kS.any λm=>decide (m<s)&& ((decide (m<p)&& ordered ms i m) || (decide (p<=m)&& ordered ms m i))) || OF call l tr f (zN (tr.take p) σ) i o))
theorem re {C:Cx} {call:yN} (hc:uZ C.P call) {ms:List Nat} {l:List xN} {s:Nat} {kS:List Nat} {tr:List (D × St)} {f:Fr} {σ:St} (hs:bY s kS tr σ) (h:XH call ms l s kS tr f σ=true):iq C ms l s kS tr f σ:=by
 have rep:∀ p,p<=s->∃ q ∈ 0 :: kS.map (·+1),(∀ m ∈ kS,m<p ↔ m<q)/\ zN (tr.take p) σ=zN (tr.take q) σ:=by
  intro p
  induction p with
  | zero=>intro _; exact⟨0,by simp,λm _=>Iff.rfl,rfl⟩
  | succ p ih=>
   intro hp
   by_cases hm:kS.contains p=true
   ·exact⟨p+1,List.mem_cons_of_mem _ (List.mem_map.2 ⟨p,by simpa [η] using hm,rfl⟩),λm _=>Iff.rfl,rfl⟩
   ·obtain⟨q,h1,h2,h3⟩:=ih (by omega);refine⟨q,h1,λm hmm=>?_,by rw [hs p (by omega) (by simpa using hm),h3]⟩;rw [<- h2 m hmm];have:m≠p:=λe=>by subst e; exact hm (by simpa [η] using hmm)
    omega
 intro i dop p his him hps hdop hns hor;have h1:=ζ.1 h i (List.mem_range.2 his);rw [him,Bool.false_or,hdop] at h1;simp only [hns,Bool.false_or] at h1;obtain⟨q,q1,q2,q3⟩:=rep p hps;have h2:=ζ.1 h1 q q1;rw [Bool.or_eq_true] at h2;rw [q3]
 rcases h2 with h2 | h2
 ·exfalso;obtain⟨m,hm,h3⟩:=List.any_eq_true.1 h2;simp only [ε,Bool.or_eq_true,decide_eq_true_eq] at h3;obtain⟨h4,h5⟩:=h3;have h6:=hor m h4 (by simpa [η] using hm)
  rcases h5 with ⟨h7,h8⟩ | ⟨h7,h8⟩
  ·rw [h6.1 ((q2 m hm).2 h7)] at h8; cases h8
  ·rw [h6.2 (Nat.le_of_not_lt λh9=>by have:=(q2 m hm).1 h9; omega)] at h8; cases h8
 ·exact S8 hc h2
def TJ (call:yN) (ms:List Nat) (l:List xN) (s:Nat) (xs:List Nat) (y:Nat) (f:Fr) (σ:St) (tr:List (D × St)) (x:Nat):Bool:=
 match l[y]? with
 | none=>false
 | some m2=>match vE call (zN (tr.take x) σ) (uX f) m2.k with
  | none=>false
  | some (dA,σA)=>match mQ call s (xs.filter λi=>decide (x<=i)) (gY l tr xs x y dA) 0 f σA with
   | none=>false
   | some tr'=>XH call ms (gY l tr xs x y dA) s (xs.filter λi=>decide (x<=i)) tr' f σA&&((dg ms l xs x y).all λt=>xk 30 ((wX l tr f).get t) ((wX (gY l tr xs x y dA) tr' f).get t))&& decide (σ.nx<=(zN (tr.take x) σ).nx)&&
     XJ (zN (tr.take x) σ).nx (zN (tr.take y) σ).nx (wX l tr f) (zN tr σ) (wX (gY l tr xs x y dA) tr' f) (zN tr' σA)
theorem UD {C:Cx} {call:yN} (hc:uZ C.P call) {ms:List Nat} {l:List xN} {s:Nat} {xs:List Nat} {y:Nat} {f:Fr} {σ:St} {tr:List (D × St)} {x:Nat} (hn:C.n0<=σ.nx) (h:TJ call ms l s xs y f σ tr x=true):∃ dA σA tr',Qo C ms l s xs y f σ tr x dA σA tr':=by
 unfold TJ at h
 split at h
 ·cases h
 ·rename_i m2 hm
  split at h
  ·cases h
  ·rename_i dA σA hA
   split at h
   ·cases h
   ·rename_i tr' ht;simp only [ε,decide_eq_true_eq] at h;obtain⟨⟨⟨h1,h2⟩,h3⟩,h4⟩:=h;obtain⟨g1,g2,g3⟩:=gN hc ht;have hst:bY s (xs.filter λi=>decide (x<=i)) tr' σA:=λi hi him=>g3 i (by omega) (by rw [Nat.zero_add]; exact him);refine⟨dA,σA,tr',λm hm'=>?_,g1,g2.trans qh,hst,re hc hst h1,λt ht=>rJ _ _ _ (ζ.1 h2 t ht),rj h4 (by omega)⟩;rw [hm] at hm'; cases hm';exact mV hc hA (K:=λa b=>a=dA/\b=σA) ⟨rfl,rfl⟩
def XC (call:yN) (ms:List Nat) (l:List xN) (s:Nat) (xs:List Nat) (y:Nat) (f:Fr) (σ:St):Option (Fr × St):=
 match mQ call s (xs ++ [y]) l 0 f σ with
 | none=>none
 | some tr=>if (XH call ms l s (xs ++ [y]) tr f σ&&(decide (s<=y) || xs.all λx=>TJ call ms l s xs y f σ tr x))= true then some (wX l tr f,zN tr σ) else none
theorem Zp {C:Cx} (hm:C.P.follows .mixedOrders=true) {call:yN} (hc:uZ C.P call) {ms:List Nat} {l:List xN} {s:Nat} {xs:List Nat} {y:Nat} {f f':Fr} {σ σ':St}
  (h:XC call ms l s xs y f σ=some (f',σ')) {Q:Exit->Fr->St->Prop} (hQ:Q .normal f' σ'):wpS C (.mY ms l s xs y) f σ Q:=by
 refine Yo λhn=>?_;unfold XC at h
 split at h
 ·cases h
 ·rename_i tr ht
  split at h
  ·rename_i hb;rw [ε] at hb;cases h;obtain⟨g1,g2,g3⟩:=gN hc ht;have hst:bY s (xs ++ [y]) tr σ:=λi hi him=>g3 i (by omega) (by rw [Nat.zero_add]; exact him);exact YP hm ⟨g1,g2,hst,re hc hst hb.1,λhy x hx=>UD hc hn (ζ.1 ((Bool.or_eq_true_iff.1 hb.2).resolve_left (by simp; omega)) x hx)⟩ hQ
  ·cases h
def XD (call:yN) (pre:List xN) (m:xN) (mid:List xN) (un:Bool) (post:List xN) (fl:List Bool) (f:Fr) (σ:St):Option (Fr × St):=
 (rG call σ pre f).bind λf1=>(vE call σ (uX f1) m.k).bind λx=>(rG call x.2 mid (f1.put m.dst x.1)).bind λf2=>(eF call post f2 x.2).bind λr=>
 if (fW call x.2 (mU fl pre f1) f f1&&Q2 call σ mid (f1.put m.dst x.1) un f2)= true then some r else none
theorem Zq {C:Cx} (hm:C.P.follows .mixedOrders=true) {call:yN} (hc:uZ C.P call) {pre:List xN} {m:xN} {mid:List xN} {un:Bool} {post:List xN} {fl:List Bool} {f f':Fr} {σ σ':St}
  (h:XD call pre m mid un post fl f σ=some (f',σ')) {Q:Exit->Fr->St->Prop} (hQ:Q .normal f' σ'):wpS C (.iD pre m mid un post fl) f σ Q:=by
 refine YQ hm ?_;unfold XD at h;obtain⟨f1,a1,h⟩:=γ.1 h;obtain⟨⟨d,σ1⟩,a2,h⟩:=γ.1 h;obtain⟨f2,a3,h⟩:=γ.1 h;obtain⟨⟨f4,σ4⟩,b1,h⟩:=γ.1 h
 split at h
 ·rename_i hb;cases h;simp only [ε] at hb;exact wR hc a1 (mV hc a2 ⟨oO hc hb.1,wR hc a3 ⟨Yl hc hb.2,pO hc b1 hQ⟩⟩)
 ·cases h
def zh : DC->Bool
 | .jL ..=>false
 | .seq a b=>zh a&&zh b
 | .cond _ a b=>zh a&&zh b
 | .block _ c=>zh c
 | .loop c=>zh c
 | _=>true
def jj (b:Fr->St->Option St) (xZ:List (List D)) (f:Fr) (p0 p1:Nat):Nat->St->Option St
 | 0,σ=>some σ
 | m+1,σ=>match b ((f.put (some p0) (.int .i64 (m:Int))).put (some p1) (.agg (xZ.getD m []))) σ with
  | some σ2=>jj b xZ f p0 p1 m σ2
  | none=>none
def fZ (bk:Nat->Bool) (N:Nat) (call:yN):DC->Nat->Fr->St->Option (Ex × Fr × St)
 | .skip,_,f,σ=>some (.normal,f,σ)
 | .wN pre post,_,f,σ=>match rG call σ pre f with
  | some f1=>match eF call post f1 σ with
   | some (f2,σ2)=>some (.normal,f2,σ2)
   | none=>none
  | none=>none
 | .iC pre m mid un post,_,f,σ=>match rG call σ pre f with
  | some f1=>match vE call σ (uX f1) m.k with
   | some (d,σ1)=>match rG call σ1 pre f,rG call σ1 mid (f1.put m.dst d) with
    | some g1,some f2=>match jf g1 f1&&Q2 call σ mid (f1.put m.dst d) un f2 with
     | true=>match eF call post f2 σ1 with
      | some (f3,σ3)=>some (.normal,f3,σ3)
      | none=>none
     | false=>none
    | _,_=>none
   | none=>none
  | none=>none
 | .iB pre m1 mid1 m2 mid2 post,_,f,σ=>match rG call σ pre f with
  | some f1=>match vE call σ (uX f1) m1.k with
   | some (d1,σ1)=>match rG call σ1 pre f,rG call σ1 mid1 (f1.put m1.dst d1) with
    | some g1,some f2=>match jf g1 f1,vE call σ1 (uX f2) m2.k with
     | true,some (d2,σ2)=>match rG call σ2 pre f,rG call σ2 mid1 (f1.put m1.dst d1),rG call σ2 mid2 (f2.put m2.dst d2) with
      | some x1,some x2,some f3=>match jf x1 f1&&jf x2 f2 with
       | true=>match eF call post f3 σ2 with
        | some (f4,σ4)=>some (.normal,f4,σ4)
        | none=>none
       | false=>none
      | _,_,_=>none
     | _,_=>none
    | _,_=>none
   | none=>none
  | none=>none
 | .seq a b,n,f,σ=>match fZ bk N call a n f σ with
  | some (.normal,f1,σ1)=>fZ bk N call b n f1 σ1
  | r=>r
 | .cond c a b,n,f,σ=>match uX f c with
  | .bool t=>if t=true then fZ bk N call a n f σ else fZ bk N call b n f σ
  | _=>none
 | .block id c,n,f,σ=>match fZ bk N call c n f σ with
  | some (.exit i,f1,σ1)=>if i=id then some (.normal,f1,σ1) else some (.exit i,f1,σ1)
  | r=>r
 | .loop c,n,f,σ=>xa (fZ bk N call c n) n f σ
 | .jJ pre m1 mid1 m2 mid2 post free,_,f,σ=>(XB call pre m1 mid1 m2 mid2 post free f σ).map λr=>(.normal,r.1,r.2)
 | .mY ms l s xs y,_,f,σ=>(XC call ms l s xs y f σ).map λr=>(.normal,r.1,r.2)
 | .iD pre m mid un post fl,_,f,σ=>(XD call pre m mid un post fl f σ).map λr=>(.normal,r.1,r.2)
 | .jL g ps dx dy,n,f,σ=>match ps,uX f g with
  | [p0,p1],.fn gi [.ptr [.xU]]=>if (bk gi&&decide (p0<N)&& decide (p1<N))= true then some (.normal,f,σ) else none
  | [p0,p1],.fn gi [.ptr [.sl 2 xZ]]=>if (bk gi&&zh dx&&zh dy&&decide (p0<N)&& decide (p1<N))= true then(jj (λf0 σ0=>match fZ bk N call dx n f0 σ0 with
    | some (.normal,f1,σ1)=>match fZ bk N call dy n f1 σ1 with
     | some (.normal,_,σ2)=>some σ2
     | _=>none
    | _=>none) xZ f p0 p1 xZ.length σ).map λσ'=>(.normal,f,σ') else none
  | _,_=>none
 | .exit id,_,f,σ=>some (.exit id,f,σ)
 | .ret,_,f,σ=>some (.ret,f,σ)
 | _,_,_,_=>none
theorem ZB {C:Cx} (hm:C.P.follows .mixedOrders=true) {c:DC} {body:Fr->St->Option (Ex × Fr × St)} (hb:∀ f σ e f' σ',body f σ=some (e,f',σ')->∀ Q:Exit->Fr->St->Prop,Q e.to f' σ'->oY C c f σ Q) {n:Nat} {f:Fr} {σ:St} {e:Ex} {f':Fr} {σ':St}
  (h:xa body n f σ=some (e,f',σ')) {Q:Exit->Fr->St->Prop} (hQ:Q e.to f' σ'):wpS C (.loop c) f σ Q:=by
 refine zC (α:=Nat × Fr × St) (λa=>a.2.1) (λa=>a.2.2) (λa=>xa body a.1 a.2.1 a.2.2=some (e,f',σ')) (λa=>a.1) (n,f,σ) h yV.refl ?_;rintro ⟨k,f0,σ0⟩ hI
 match k,hI with
 | 0,hI=>simp [xa] at hI
 | k+1,hI=>
  simp only at hI ⊢;unfold xa at hI;refine dR hm ?_
  split at hI
  ·rename_i f1 σ1 h1;exact hb _ _ _ _ _ h1 _ ⟨(k,Pd.dd 0 f1,σ1),hI,yV.dd,Nat.lt_succ_self k⟩
  ·rename_i hne;refine hb _ _ _ _ _ hI _ ?_
   cases e with
   | normal=>exact absurd hI (hne _ _)
   | exit i=>exact hQ
   | ret=>exact hQ
theorem Ux {b:Fr->St->Option St} {xZ:List (List D)} {f:Fr} {p0 p1 m:Nat} {σ σ':St} (h:jj b xZ f p0 p1 (m+1) σ=some σ'):∃ σ2,b ((f.put (some p0) (.int .i64 (m:Int))).put (some p1) (.agg (xZ.getD m []))) σ=some σ2/\jj b xZ f p0 p1 m σ2=some σ':=by
 simp only [jj] at h
 split at h
 ·rename_i σ2 h2; exact⟨σ2,h2,h⟩
 ·cases h
theorem qO {bk:Nat->Bool} {C:Cx} (hm:C.P.follows .mixedOrders=true) (hB:∀ g,bk g=true->Yq C.P g) {call:yN} (hc:uZ C.P call):∀ (c:DC),(C.rd=none\/zh c=true)->∀ (n:Nat) (f:Fr) (σ:St) (e:Ex) (f':Fr) (σ':St),fZ bk C.N call c n f σ=some (e,f',σ')->∀ Q:Exit->Fr->St->Prop,Q e.to f' σ'->oY C c f σ Q
 | .skip,hr,n,f,σ,e,f',σ',h,Q,hQ=>by simp [fZ] at h; obtain⟨rfl,rfl,rfl⟩:=h; exact hQ
 | .exit id,hr,n,f,σ,e,f',σ',h,Q,hQ=>by simp [fZ] at h; obtain⟨rfl,rfl,rfl⟩:=h; exact hQ
 | .ret,hr,n,f,σ,e,f',σ',h,Q,hQ=>by simp [fZ] at h; obtain⟨rfl,rfl,rfl⟩:=h; exact hQ
 | .wN pre post,hr,n,f,σ,e,f',σ',h,Q,hQ=>by
  unfold fZ at h;unfold oY
  split at h
  ·rename_i f1 h1
   split at h
   ·rename_i f2 σ2 h2;simp only [Option.some.injEq,Prod.mk.injEq] at h;obtain⟨rfl,rfl,rfl⟩:=h;exact wR hc h1 (pO hc h2 hQ)
   ·cases h
  ·cases h
 | .seq a b,hr,n,f,σ,e,f',σ',h,Q,hQ=>by
  unfold fZ at h;unfold oY
  split at h
  ·rename_i f1 σ1 h1;exact qO hm hB hc a (hr.imp (λx=>x) λh=>by simp only [zh,ε] at h; exact h.1) n _ _ _ _ _ h1 _ (qO hm hB hc b (hr.imp (λx=>x) λh=>by simp only [zh,ε] at h; exact h.2) n _ _ _ _ _ h Q hQ)
  ·rename_i hne;refine qO hm hB hc a (hr.imp (λx=>x) λh=>by simp only [zh,ε] at h; exact h.1) n _ _ _ _ _ h _ ?_
   cases e with
   | normal=>exact absurd h (hne _ _)
   | exit i=>exact hQ
   | ret=>exact hQ
 | .cond c a b,hr,n,f,σ,e,f',σ',h,Q,hQ=>by
  unfold fZ at h;unfold oY
  split at h
  ·rename_i t ht;rw [ht];simp only
   split at h
   ·rename_i e1; rw [if_pos e1]; exact qO hm hB hc a (hr.imp (λx=>x) λh=>by simp only [zh,ε] at h; exact h.1) n _ _ _ _ _ h Q hQ
   ·rename_i e1; rw [if_neg e1]; exact qO hm hB hc b (hr.imp (λx=>x) λh=>by simp only [zh,ε] at h; exact h.2) n _ _ _ _ _ h Q hQ
  ·cases h
 | .block id c,hr,n,f,σ,e,f',σ',h,Q,hQ=>by
  unfold fZ at h;unfold oY
  split at h
  ·rename_i i f1 σ1 h1;refine qO hm hB hc c (hr.imp (λx=>x) λh=>by simpa only [zh] using h) n _ _ _ _ _ h1 _ ?_;show if i=id then Q .normal f1 σ1 else Q (.exit i) f1 σ1
   split at h
   ·rename_i e1;simp only [Option.some.injEq,Prod.mk.injEq] at h;obtain⟨rfl,rfl,rfl⟩:=h;rw [if_pos e1]; exact hQ
   ·rename_i e1;simp only [Option.some.injEq,Prod.mk.injEq] at h;obtain⟨rfl,rfl,rfl⟩:=h;rw [if_neg e1]; exact hQ
  ·rename_i hne;refine qO hm hB hc c (hr.imp (λx=>x) λh=>by simpa only [zh] using h) n _ _ _ _ _ h _ ?_
   cases e with
   | normal=>exact hQ
   | exit i=>exact absurd h (hne _ _ _)
   | ret=>exact hQ
 | .loop c,hr,n,f,σ,e,f',σ',h,Q,hQ=>by unfold fZ at h;unfold oY;exact ZB hm (λf σ e f' σ' h Q hQ=>qO hm hB hc c (hr.imp (λx=>x) λh=>by simpa only [zh] using h) n f σ e f' σ' h Q hQ) h hQ
 | .iC pre m mid un post,hr,n,f,σ,e,f',σ',h,Q,hQ=>by
  unfold fZ at h;unfold oY
  split at h
  ·rename_i f1 h1
   split at h
   ·rename_i d σ1 h2
    split at h
    ·rename_i g1 f2 h3 h4
     split at h
     ·rename_i h5;rw [ε] at h5
      split at h
      ·rename_i f3 σ3 h6;simp only [Option.some.injEq,Prod.mk.injEq] at h;obtain⟨rfl,rfl,rfl⟩:=h;exact wR hc h1 (mV hc h2 ⟨wR hc h3 (lG h5.1),wR hc h4 ⟨Yl hc h5.2,pO hc h6 hQ⟩⟩)
      ·cases h
     ·cases h
    ·cases h
   ·cases h
  ·cases h
 | .iB pre m1 mid1 m2 mid2 post,hr,n,f,σ,e,f',σ',h,Q,hQ=>by
  unfold fZ at h;unfold oY
  split at h
  ·rename_i f1 h1
   split at h
   ·rename_i d1 σ1 h2
    split at h
    ·rename_i g1 f2 h3 h4
     split at h
     ·rename_i d2 σ2 h5 h6
      split at h
      ·rename_i x1 x2 f3 h7 h8 h9
       split at h
       ·rename_i h10;rw [ε] at h10
        split at h
        ·rename_i f4 σ4 h11;simp only [Option.some.injEq,Prod.mk.injEq] at h;obtain⟨rfl,rfl,rfl⟩:=h;exact wR hc h1 (mV hc h2 ⟨wR hc h3 (lG h5),wR hc h4 (mV hc h6 ⟨wR hc h7 (lG h10.1),wR hc h8 (lG h10.2),wR hc h9 (pO hc h11 hQ)⟩)⟩)
        ·cases h
       ·cases h
      ·cases h
     ·cases h
    ·cases h
   ·cases h
  ·cases h
 | .aq ..,hr,n,f,σ,e,f',σ',h,Q,hQ | .XX ..,hr,n,f,σ,e,f',σ',h,Q,hQ | .XW ..,hr,n,f,σ,e,f',σ',h,Q,hQ | .kP ..,hr,n,f,σ,e,f',σ',h,Q,hQ=>by simp [fZ] at h
 | .jJ pre m1 mid1 m2 mid2 post free,hr,n,f,σ,e,f',σ',h,Q,hQ=>by unfold fZ at h;unfold oY;obtain⟨⟨f4,σ4⟩,h1,h2⟩:=δ.1 h;cases h2;exact Zo hm hc h1 hQ
 | .mY ms l s xs y,hr,n,f,σ,e,f',σ',h,Q,hQ=>by unfold fZ at h;unfold oY;obtain⟨⟨f4,σ4⟩,h1,h2⟩:=δ.1 h;cases h2;exact Zp hm hc h1 hQ
 | .iD pre m mid un post fl,hr,n,f,σ,e,f',σ',h,Q,hQ=>by unfold fZ at h;unfold oY;obtain⟨⟨f4,σ4⟩,h1,h2⟩:=δ.1 h;cases h2;exact Zq hm hc h1 hQ
 | .jL g ps dx dy,hr,n,f,σ,e,f',σ',h,Q,hQ=>by
  unfold fZ at h;unfold oY
  split at h
  ·rename_i p0 p1 gi hg
   split at h
   ·rename_i hb;simp only [ε,decide_eq_true_eq] at hb;obtain⟨⟨b1,b4⟩,b5⟩:=hb;cases h;have hrd:C.rd=none:=hr.resolve_right (by simp [zh]);exact rk hrd (hB _ b1) hg (.inr ⟨rfl,rfl⟩) ⟨b4,b5⟩ (λk s=>s=σ) rfl (λl k σk hk _=>absurd hk (by simp)) (λs hs=>by subst hs; exact hQ)
   ·cases h
  ·rename_i p0 p1 gi xZ hg
   split at h
   ·rename_i hb;simp only [ε,decide_eq_true_eq] at hb;obtain⟨⟨⟨⟨b1,b2⟩,b3⟩,b4⟩,b5⟩:=hb;obtain⟨σ2,h1,h2⟩:=δ.1 h;cases h2;have hrd:C.rd=none:=hr.resolve_right (by simp [zh])
    refine rk hrd (hB _ b1) hg (.inl rfl) ⟨b4,b5⟩ (λk s=>k<=xZ.length/\jj _ xZ f p0 p1 (xZ.length-k) s=some σ') ⟨Nat.zero_le _,h1⟩ (λl k σk hk hJ=>?_) (λs hs=>?_)
    ·obtain⟨_,hJ⟩:=hJ;rw [show xZ.length-k=(xZ.length-1-k)+ 1 by omega] at hJ;obtain⟨σ3,g1,g2⟩:=Ux hJ;simp only at g1
     split at g1
     ·rename_i f1 σ1 g3
      split at g1
      ·rename_i f5 σ5 g4;cases g1;refine dR (C:={ C with n0:=σ.nx,rd:=some l }) hm (qO (C:={ C with n0:=σ.nx,rd:=some l }) hm hB hc dx (.inr b2) n _ _ _ _ _ g3 _ ?_);exact dR (C:={ C with n0:=σ.nx,rd:=some l }) hm (qO (C:={ C with n0:=σ.nx,rd:=some l }) hm hB hc dy (.inr b3) n _ _ _ _ _ g4 _ ⟨rfl,_,_,yV.refl,by omega,by rw [show xZ.length-(k+1)= xZ.length-1-k by omega]; exact g2⟩)
      ·cases g1
     ·cases g1
    ·have h0:=hs.2;rw [Nat.sub_self] at h0;simp only [jj] at h0;cases h0;exact hQ
   ·cases h
  ·cases h
mutual
def Yz : D->List Nat->List Nat
 | .ref k _ _ _,l=>k :: l
 | .xP k _ _,l=>k :: l
 | .sub k _ _ _,l=>k :: l
 | .xG k,l=>k :: l
 | .agg cs,l=>sb cs l
 | .xI cs,l=>sb cs l
 | .fn _ cs,l=>sb cs l
 | _,l=>l
def sb : List D->List Nat->List Nat
 | [],l=>l
 | d :: r,l=>Yz d (sb r l)
end
def Yy : List (List D)->List Nat->List Nat
 | [],l=>l
 | e :: r,l=>sb e (Yy r l)
def se (n0:Nat) (xY:List (Nat × Ob)):Nat->List Nat->Nat->Nat
 | 0,_,m=>m
 | _+1,[],m=>m
 | n+1,k :: todo,m=>if k<n0\/m.testBit k=true then se n0 xY n todo m else match St.look xY k with
  | some o=>se n0 xY n (Yy o.xZ todo) (m ||| 2 ^ k)
  | none=>se n0 xY n todo m
def wv (n0:Nat):List (Nat × Ob)->List Nat
 | []=>[]
 | (k,o) :: r=>if k<n0 then Yy o.xZ (wv n0 r) else wv n0 r
def Px (n0:Nat) (d:D) (σ:St):List (Nat × Ob):=
 if σ.nx=n0 then σ.xY else
  let m:=se n0 σ.xY 100000 (Yz d (wv n0 σ.xY)) 0
  σ.xY.filter λp=>decide (p.1<n0) || m.testBit p.1
theorem jR {φ:Nat->Bool} {k:Nat} {o:Ob}:∀ {l:List (Nat × Ob)},St.look (l.filter λp=>φ p.1) k=some o->St.look l k=some o
 | [],h=>by cases h
 | (j, o') :: r,h=>by
  rw [θ] at h
  split at h
  ·rw [xX] at h ⊢
   split at h
   ·rename_i e; rw [if_pos e]; exact h
   ·rename_i e; rw [if_neg e]; exact jR h
  ·rename_i hf;have h':=jR h;rw [xX]
   split
   ·rename_i e;subst e;exfalso
    have:∀ {l:List (Nat × Ob)},St.look (l.filter λp=>φ p.1) j≠some o:=by
     intro l
     induction l with
     | nil=>simp [St.look]
     | cons p l ih=>
      rw [θ]
      split
      ·rename_i hp;rw [xX]
       split
       ·rename_i e; rw [e] at hp; exact absurd hp hf
       ·exact ih
      ·exact ih
    exact this h
   ·exact h'
theorem SI {n0:Nat} {d:D} {σ:St}:∀ k o,St.look (Px n0 d σ) k=some o->σ.get k=some o:=λk o h=>by
 unfold Px at h
 split at h
 ·exact h
 ·exact jR (φ:=λj=>decide (j<n0) || (se n0 σ.xY 100000 (Yz d (wv n0 σ.xY)) 0).testBit j) h
def nF (f:Fr) (σ:St):oV->Option D
 | .tmp t=>some (f.get t)
 | .cell t n ag=>dh σ n ag (f.get t)
def ze (f:Fr) (σ:St):List oV->Option D
 | []=>some (.xI [])
 | [a]=>nF f σ a
 | [a,b]=>match nF f σ a,nF f σ b with
  | some x,some y=>some (.xI [x,y])
  | _,_=>none
 | [a,b,c]=>match nF f σ a,nF f σ b,nF f σ c with
  | some x,some y,some z=>some (.xI [x,y,z])
  | _,_,_=>none
 | [a,b,c,d]=>match nF f σ a,nF f σ b,nF f σ c,nF f σ d with
  | some x,some y,some z,some u=>some (.xI [x,y,z,u])
  | _,_,_,_=>none
 | _=>none
theorem tJ {C:Cx} {f:Fr} {σ:St} {r:oV} {d:D} (h:nF f σ r=some d) {K:D->Prop} (hK:K d):rM C r f σ K:=by
 cases r with
 | tmp t=>simp only [nF,Option.some.injEq] at h; subst h; exact hK
 | cell t n ag=>exact qq (C:=C) (ev:=uX f) (x:=.t t) h hK
theorem Uw {C:Cx} {f:Fr} {σ:St}:∀ {rs:List oV} {d:D},ze f σ rs=some d->∀ {K:D->Prop},K d->pS C rs f σ K
 | [],d,h,K,hK=>by simp only [ze,Option.some.injEq] at h; subst h; exact hK
 | [a],d,h,K,hK=>tJ (by simpa only [ze] using h) hK
 | [a,b],d,h,K,hK=>by
  simp only [ze] at h;simp only [pS]
  split at h
  ·rename_i h1 h2;simp only [Option.some.injEq] at h; subst h;exact tJ h1 (K:=λx=>rM C b f σ λy=>K (.xI [x,y])) (tJ h2 hK)
  ·cases h
 | [a,b,c],d,h,K,hK=>by
  simp only [ze] at h;simp only [pS]
  split at h
  ·rename_i h1 h2 h3;simp only [Option.some.injEq] at h; subst h;exact tJ h1 (K:=λx=>rM C b f σ λy=>rM C c f σ λz=>K (.xI [x,y,z])) (tJ h2 (K:=λy=>rM C c f σ λz=>K (.xI [_,y,z])) (tJ h3 hK))
  ·cases h
 | [a,b,c,e],d,h,K,hK=>by
  simp only [ze] at h;simp only [pS]
  split at h
  ·rename_i h1 h2 h3 h4;simp only [Option.some.injEq] at h; subst h;exact tJ h1 (K:=λx=>rM C b f σ λy=>rM C c f σ λz=>rM C e f σ λu=>K (.xI [x,y,z,u])) (tJ h2 (K:=λy=>rM C c f σ λz=>rM C e f σ λu=>K (.xI [_,y,z,u])) (tJ h3 (K:=λz=>rM C e f σ λu=>K (.xI [_,_,z,u])) (tJ h4 hK)))
  ·cases h
 | _ :: _ :: _ :: _ :: _ :: _,d,h,K,hK=>by simp [ze] at h
abbrev Table :=List (Nat × Fn)
def dk : Table->Nat->Option Fn
 | [],_=>none
 | (k,F) :: r,g=>if k=g then some F else dk r g
def nS (P:Program) (T:Table):Prop:=∀ g F,dk T g=some F->∃ fn,P.funcs[g]?=some fn/\xV P F.own fn=some (F.n,F.code,F.res)
theorem nS.nil {P:Program}:nS P []:=λg F h=>by cases h
theorem nS.cons {P:Program} {T:Table} {g:Nat} {fn:Func} {own:List Nat} {c:Nat × DC × List oV} (hf:P.funcs[g]?=some fn) (hc:xV P own fn=some c) (h:nS P T):nS P ((g,⟨c.1,c.2.1,c.2.2,own⟩) :: T):=λk F hk=>by
 unfold dk at hk
 split at hk
 ·rename_i e;subst e;simp only [Option.some.injEq] at hk;subst hk;exact⟨fn,hf,hc⟩
 ·exact h k F hk
abbrev nV :=yN
def oH (P:Program) (O:nV):Prop:=uZ P O
def WM (fr:Nat->Bool) (call:yN):yN:=λg args σ=>if (fr g&&D.xJ args)= true then(match call g args tQ with
 | some (d,σ1)=>(fz σ1 30 d).map λd'=>(d',σ)
 | none=>none) else call g args σ
theorem US {P:Program} {fr:Nat->Bool} {call:yN} (hc:uZ P call):uZ P (WM fr call):=λg args σ d σ' h=>by
 unfold WM at h
 split at h
 ·rename_i hp;rw [ε] at hp
  split at h
  ·rename_i d1 σ1 h1;obtain⟨d2,h2,h3⟩:=δ.1 h;cases h3;exact xW.vZ ((hc _ _ _ _ _ h1).eO (jD 30 _ _ h2)) hp.2
  ·cases h
 ·exact hc _ _ _ _ _ h
def U1 (bk fr:Nat->Bool) (T:Table) (O:nV):Nat->yN
 | 0,_,_,_=>none
 | n + 1,g,args,σ=>match O g args σ with
  | some r=>some r
  | none=>match dk T g with
   | some F=>if args.length<=F.n then(match fZ bk F.n (WM fr (U1 bk fr T O n)) F.code 100000 (oS 0 args) σ with
    | some (.exit _,_,_)=>none
    | some (_,f,σ1)=>match ze f σ1 F.res with
     | some d=>some (d,⟨σ1.nx,Px σ.nx d σ1⟩)
     | none=>none
    | none=>none) else none
   | none=>none
theorem wk {bk fr:Nat->Bool} {P:Program} (hm:P.follows .mixedOrders=true) (hB:∀ g,bk g=true->Yq P g) {T:Table} (hT:nS P T) {O:nV} (hO:oH P O):∀ n,uZ P (U1 bk fr T O n)
 | 0=>λg args σ d σ' h=>by simp [U1] at h
 | n + 1=>λg args σ d σ' h=>by
  have ih:=wk (fr:=fr) hm hB hT hO n;unfold U1 at h
  split at h
  ·rename_i r h1;cases h;exact hO _ _ _ _ _ h1
  split at h
  ·rename_i F hF;obtain⟨fn,hf,hc⟩:=hT g F hF
   split at h
   ·rename_i hl
    have key:∀ e f σ1,fZ bk F.n (WM fr (U1 bk fr T O n)) F.code 100000 (oS 0 args) σ=some (e,f,σ1)->(e.to = .ret\/e.to = .normal)->(match ze f σ1 F.res with | some d=>some (d,(⟨σ1.nx,Px σ.nx d σ1⟩:St)) | none=>none)= some (d,σ')->xW P g args σ d σ':=by
     intro e f σ1 h1 he h2
     split at h2
     ·rename_i d1 h3;simp only [Option.some.injEq,Prod.mk.injEq] at h2;obtain⟨rfl,rfl⟩:=h2;refine xW.gc (σ1:=σ1) ?_ SI;refine xW.Tv hm hf hc hl λ_=>?_;exact qO (C:=⟨P,F.n,σ.nx,F.own,none⟩) hm hB (US ih) F.code (.inl rfl) 100000 _ _ _ _ _ h1 _ ⟨he,Uw h3 (.inl ⟨rfl,rfl⟩)⟩
     ·cases h2
    split at h
    ·cases h
    ·rename_i e f σ1 hne h1;refine key e f σ1 h1 ?_ h
     cases e with
     | normal=>exact .inr rfl
     | exit i=>exact absurd rfl (hne i)
     | ret=>exact .inl rfl
    ·cases h
   ·cases h
  ·cases h
end Go.Pd
