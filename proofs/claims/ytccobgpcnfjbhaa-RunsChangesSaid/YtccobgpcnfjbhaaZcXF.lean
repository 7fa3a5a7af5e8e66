/- Part XF. -/
import Derived.Test.YtccobgpcnfjbhaaZcXE
import Derived.Test.YtccobgpcnfjbhaaZcXA
set_option linter.unusedSectionVars false
set_option linter.unusedVariables false
set_option linter.unusedSimpArgs false
set_option linter.defProp false
set_option maxRecDepth 20000
set_option maxHeartbeats 1000000
open Option renaming bind_eq_some_iff->γ,map_eq_some_iff->δ
open Bool renaming and_eq_true->ε
open List renaming all_eq_true->ζ,filter_cons->η
namespace Go.Pd
open Go
variable [vZ]
def Vz (σ:St) (sz bytes:Nat) (x:D) (rows:List (List D)):Option (D × St):=
 match x with
 | .xZ=>if rows.length*bytes<=140737488355328/\rows.length<=8000000000000 then(match rows with
  | []=>some (.xZ,σ)
  | _ :: _=>some (.yW σ.nx sz rows.length,σ.new ⟨sz,rows⟩)) else none
 | .yW key sz' n=>match σ.get key with
  | some ob=>if sz=sz'/\ob.sz=sz/\n<=ob.xX.length/\(n+rows.length)* bytes<=140737488355328/\n+rows.length<=8000000000000 then some (.yW σ.nx sz (n+rows.length),(σ.erase key).new ⟨sz,ob.xX.take n++rows⟩) else none
  | none=>none
 | _=>none
def Vx (σ:St) (zero:D) (x:D):Option (D × St):=
 match x with
 | .xZ=>some (.yE [],σ)
 | .emp=>some (.yE [],σ)
 | .yW key sz n=>match σ.get key with
  | some ob=>if sz=1/\ob.sz=1/\0<n/\n<=ob.xX.length/\zero.one=true then some (.yE [],σ.set key ⟨1,List.replicate n [zero]++ob.xX.drop n⟩) else none
  | none=>none
 | .sub key sz lo n=>match σ.get key with
  | some ob=>if sz=1/\ob.sz=1/\0<n/\lo+n<=ob.xX.length/\zero.one=true then some (.yE [],σ.set key ⟨1,ob.xX.take lo++(List.replicate n [zero]++ob.xX.drop (lo+n))⟩) else none
  | none=>none
 | _=>none
def W0 (σ:St) (x:D) (rows:List (List D)):Option (D × St):=
 match x with
 | .yW key sz n=>match σ.get key with
  | some ob=>if sz=1/\ob.sz=1/\n<=ob.xX.length/\0<min n rows.length then some (.int .i64 ((min n rows.length:Nat):Int),σ.set key ⟨1,rows.take (min n rows.length)++ ob.xX.drop (min n rows.length)⟩) else none
  | none=>none
 | .sub key sz lo n=>match σ.get key with
  | some ob=>if sz=1/\ob.sz=1/\lo+n<=ob.xX.length/\0<min n rows.length then some (.int .i64 ((min n rows.length:Nat):Int),σ.set key ⟨1,ob.xX.take lo++(rows.take (min n rows.length)++ ob.xX.drop (lo+min n rows.length))⟩) else none
  | none=>none
 | _=>none
def o6 (σ:St) (m k:D) (f:St->Nat->Ob->IntKind->Int->Option (D × St)):Option (D × St):=
 match m,k with
 | .zZ key,.int kk y=>match σ.get key with
  | some o=>if o.sz=0/\yi kk o.xX=true then f σ key o kk y else none
  | none=>none
 | _,_=>none
def vE (call:zI) (σ:St) (ev:wY->D) (k:DK):Option (D × St):=
 match k with
 | .box x=>match (ev x).cells with
  | some cs=>if yI cs=true/\0<cs.length then some (.ref σ.nx cs.length 0 0,σ.new ⟨cs.length,[cs]⟩) else none
  | none=>none
 | .alloc zero=>if yI zero=true/\0<zero.length then some (.ref σ.nx zero.length 0 0,σ.new ⟨zero.length,[zero]⟩) else none
 | .store n a x=>match ev a,(ev x).cells with
  | .ref key sz i off,some ds=>match σ.get key with
   | some ob=>if ob.sz=sz/\i<ob.xX.length/\ds.length=n/\off+n<=sz/\yI ds=true then some (.vB,σ.set key ⟨sz,ob.xX.set i (qE (ob.xX.getD i []) off ds)⟩) else none
   | none=>none
  | _,_=>none
 | .app sz bytes x y=>match rowsOf σ sz (ev y) with
  | some rows=>if rows.all yI=true then Vz σ sz bytes (ev x) rows else none
  | none=>none
 | .pA sz bytes zero len cap=>match ev len,ev cap with
  | .int .i64 n,.int .i64 m=>if n=m/\0<=n/\bytes*n<=281474976710656/\yI zero=true then some (.yW σ.nx sz n.toNat,σ.new ⟨sz,List.replicate n.toNat zero⟩) else none
  | _,_=>none
 | .sV sz len zero parts=>match mM sz (List.replicate len zero) (parts.map λp=>(p.1,ev p.2)) with
  | some es=>if es.all yI=true then some (.yW σ.nx sz len,σ.new ⟨sz,es⟩) else none
  | none=>none
 | .yx zero x=>Vx σ zero (ev x)
 | .xa x y=>match rowsOf σ 1 (ev y) with
  | some rows=>if rows.all yI=true then W0 σ (ev x) rows else none
  | none=>none
 | .call fn args=>match ev fn with
  | .fn g caps=>gp call σ g (args.map ev++caps)
  | _=>none
 | .iD=>some (.zZ σ.nx,σ.new ⟨0,[]⟩)
 | .qQ m k x=>o6 σ (ev m) (ev k) λσ key o kk y=>some (.vB,σ.set key ⟨0,jG kk o.xX y (ev x)⟩)
 | .rR n m k x=>match ev m,ev k with
  | .zZ key,.agg cs=>match σ.get key,qD cs with
   | some o,some y=>match cO o.xX with
    | some l=>if o.sz=0/\y.length=n/\(l.all λp=>p.1.length==n)= true then some (.vB,σ.set key ⟨0,lK (gN y (ev x) l)⟩) else none
    | none=>none
   | _,_=>none
  | _,_=>none
 | .mF zero m k=>o6 σ (ev m) (ev k) λσ key o kk y=>if o.xX.length<=1000000000 then(match tE y o.xX 0 with
  | some (i,d)=>some (.yE [d,.int .i64 i],σ.set key ⟨0,o.xX⟩)
  | none=>some (.yE [zero,.int .i64 o.xX.length],σ.set key ⟨0,o.xX ++ [[.int kk y,zero]]⟩)) else none
 | .mE m s x=>match ev m,ev s with
  | .zZ key,.int _ i=>match σ.get key with
   | some o=>if o.sz=0/\0<=i/\i<o.xX.length then(match o.xX.getD i.toNat [] with
    | [.int kk y,_]=>some (.vB,σ.set key ⟨0,o.xX.set i.toNat [.int kk y,ev x]⟩)
    | _=>none) else none
   | none=>none
  | _,_=>none
 | k=>(pE call σ ev k).map λd=>(d,σ)
theorem xu {rows:List (List D)} (h:rows.all yI=true):∀ r ∈ rows,yI r=true:=ζ.1 h
theorem lJ {C:Cx} {call:zI} (hc:tC C.P call) {σ:St} {ev:wY->D}:∀ {k:DK} {d:D} {σ':St},vE call σ ev k=some (d,σ')->∀ {K:D->St->Prop},K d σ'->vO C σ ev k K
 | .box x,d,σ',h,K,hK=>by
  simp only [vE] at h;simp only [vO]
  split at h
  ·rename_i h1;rw [h1];simp only
   split at h
   ·rename_i h2;simp only [Option.some.injEq,Prod.mk.injEq] at h;obtain⟨rfl,rfl⟩:=h;exact⟨h2.1,h2.2,hK⟩
   ·cases h
  ·cases h
 | .alloc zero,d,σ',h,K,hK=>by
  simp only [vE] at h
  split at h
  ·rename_i h2;simp only [Option.some.injEq,Prod.mk.injEq] at h;obtain⟨rfl,rfl⟩:=h;exact⟨h2.1,h2.2,hK⟩
  ·cases h
 | .store n a x,d,σ',h,K,hK=>by
  simp only [vE] at h;simp only [vO]
  split at h
  ·rename_i h1 h2;rw [h1,h2];simp only
   split at h
   ·rename_i h3;rw [h3];simp only
    split at h
    ·rename_i h4;simp only [Option.some.injEq,Prod.mk.injEq] at h;obtain⟨rfl,rfl⟩:=h;exact⟨h4.1,h4.2.1,h4.2.2.1,h4.2.2.2.1,h4.2.2.2.2,hK⟩
    ·cases h
   ·cases h
  ·cases h
 | .app sz bytes x y,d,σ',h,K,hK=>by
  simp only [vE] at h;simp only [vO]
  split at h
  ·rename_i rows h1;rw [h1];simp only
   split at h
   ·rename_i h2;refine⟨xu h2,?_⟩;unfold Vz at h
    split at h
    ·rename_i h3;rw [h3];simp only
     split at h
     ·rename_i h4
      refine⟨h4.1,h4.2,λe=>?_,λe=>?_⟩
      ·subst e;simp only [Option.some.injEq,Prod.mk.injEq] at h;obtain⟨rfl,rfl⟩:=h;exact hK
      ·match rows,e,h with
       | r :: rs,_,h=> simp only [Option.some.injEq,Prod.mk.injEq] at h;obtain⟨rfl,rfl⟩:=h;exact hK
     ·cases h
    ·rename_i h3;rw [h3];simp only
     split at h
     ·rename_i h5;rw [h5];simp only
      split at h
      ·rename_i h4;simp only [Option.some.injEq,Prod.mk.injEq] at h;obtain⟨rfl,rfl⟩:=h;exact⟨h4.1,h4.2.1,h4.2.2.1,h4.2.2.2.1,h4.2.2.2.2,hK⟩
      ·cases h
     ·cases h
    ·cases h
   ·cases h
  ·cases h
 | .pA sz bytes zero len cap,d,σ',h,K,hK=>by
  simp only [vE] at h;simp only [vO]
  split at h
  ·rename_i h1 h2;rw [h1,h2];simp only
   split at h
   ·rename_i h4;simp only [Option.some.injEq,Prod.mk.injEq] at h;obtain⟨rfl,rfl⟩:=h;exact⟨h4.1,h4.2.1,h4.2.2.1,h4.2.2.2,hK⟩
   ·cases h
  ·cases h
 | .sV sz len zero parts,d,σ',h,K,hK=>by
  simp only [vE] at h;simp only [vO]
  split at h
  ·rename_i h1;rw [h1];simp only
   split at h
   ·rename_i h4;simp only [Option.some.injEq,Prod.mk.injEq] at h;obtain⟨rfl,rfl⟩:=h;exact⟨xu h4,hK⟩
   ·cases h
  ·cases h
 | .yx zero x,d,σ',h,K,hK=>by
  simp only [vE] at h;simp only [vO];unfold Vx at h
  split at h
  ·rename_i h1;rw [h1];simp only [Option.some.injEq,Prod.mk.injEq] at h;obtain⟨rfl,rfl⟩:=h;exact hK
  ·rename_i h1;rw [h1];simp only [Option.some.injEq,Prod.mk.injEq] at h;obtain⟨rfl,rfl⟩:=h;exact hK
  ·rename_i h1;rw [h1];simp only
   split at h
   ·rename_i h2;rw [h2];simp only
    split at h
    ·rename_i h4;simp only [Option.some.injEq,Prod.mk.injEq] at h;obtain⟨rfl,rfl⟩:=h;exact⟨h4.1,h4.2.1,h4.2.2.1,h4.2.2.2.1,h4.2.2.2.2,hK⟩
    ·cases h
   ·cases h
  ·rename_i h1;rw [h1];simp only
   split at h
   ·rename_i h2;rw [h2];simp only
    split at h
    ·rename_i h4;simp only [Option.some.injEq,Prod.mk.injEq] at h;obtain⟨rfl,rfl⟩:=h;exact⟨h4.1,h4.2.1,h4.2.2.1,h4.2.2.2.1,h4.2.2.2.2,hK⟩
    ·cases h
   ·cases h
  ·cases h
 | .xa x y,d,σ',h,K,hK=>by
  simp only [vE] at h;simp only [vO]
  split at h
  ·rename_i rows hr;rw [hr];simp only
   split at h
   ·rename_i hall;refine⟨xu hall,?_⟩;unfold W0 at h
    split at h
    ·rename_i h1;rw [h1];simp only
     split at h
     ·rename_i h2;rw [h2];simp only
      split at h
      ·rename_i h4;simp only [Option.some.injEq,Prod.mk.injEq] at h;obtain⟨rfl,rfl⟩:=h;exact⟨h4.1,h4.2.1,h4.2.2.1,h4.2.2.2,hK⟩
      ·cases h
     ·cases h
    ·rename_i h1;rw [h1];simp only
     split at h
     ·rename_i h2;rw [h2];simp only
      split at h
      ·rename_i h4;simp only [Option.some.injEq,Prod.mk.injEq] at h;obtain⟨rfl,rfl⟩:=h;exact⟨h4.1,h4.2.1,h4.2.2.1,h4.2.2.2,hK⟩
      ·cases h
     ·cases h
    ·cases h
   ·cases h
  ·cases h
 | .call fn args,d,σ',h,K,hK=>by
  simp only [vE] at h;simp only [vO]
  split at h
  ·rename_i h1;rw [h1];exact⟨d,σ',al hc h,hK⟩
  ·cases h
 | .iD,d,σ',h,K,hK=>by simp only [vE,Option.some.injEq,Prod.mk.injEq] at h;obtain⟨rfl,rfl⟩:=h;exact hK
 | .qQ m k x,d,σ',h,K,hK=>by
  simp only [vE] at h;simp only [vO];unfold o6 at h
  split at h
  ·rename_i h1 h2;rw [h1,h2];simp only
   split at h
   ·rename_i h3;rw [h3];simp only
    split at h
    ·rename_i h4;simp only [Option.some.injEq,Prod.mk.injEq] at h;obtain⟨rfl,rfl⟩:=h;exact⟨h4.1,kV h4.2,hK⟩
    ·cases h
   ·cases h
  ·cases h
 | .rR n m k x,d,σ',h,K,hK=>by
  simp only [vE] at h;simp only [vO]
  split at h
  ·rename_i key cs h1 h2;rw [h1,h2];simp only
   split at h
   ·rename_i o y h3 h4;rw [h3];simp only
    split at h
    ·rename_i l h5
     split at h
     ·rename_i h6;simp only [Option.some.injEq,Prod.mk.injEq] at h;obtain⟨rfl,rfl⟩:=h;exact⟨h6.1,y,l,⟨tN h4,fU h5,h6.2.1,λp hp=>by have:=ζ.1 h6.2.2 p hp; simpa using this⟩,hK⟩
     ·cases h
    ·cases h
   ·cases h
  ·cases h
 | .mF zero m k,d,σ',h,K,hK=>by
  simp only [vE] at h;simp only [vO];unfold o6 at h
  split at h
  ·rename_i h1 h2;rw [h1,h2];simp only
   split at h
   ·rename_i h3;rw [h3];simp only
    split at h
    ·rename_i h4;simp only at h
     split at h
     ·rename_i h5;refine⟨h4.1,kV h4.2,h5,?_⟩
      split at h
      ·rename_i h6;rw [h6];simp only [Option.some.injEq,Prod.mk.injEq] at h;obtain⟨rfl,rfl⟩:=h;exact hK
      ·rename_i h6;rw [h6];simp only [Option.some.injEq,Prod.mk.injEq] at h;obtain⟨rfl,rfl⟩:=h;exact hK
     ·cases h
    ·cases h
   ·cases h
  ·cases h
 | .mE m s x,d,σ',h,K,hK=>by
  simp only [vE] at h;simp only [vO]
  split at h
  ·rename_i h1 h2;rw [h1,h2];simp only
   split at h
   ·rename_i h3;rw [h3];simp only
    split at h
    ·rename_i h4
     split at h
     ·rename_i kk y dd h6;simp only [Option.some.injEq,Prod.mk.injEq] at h;obtain⟨rfl,rfl⟩:=h;exact⟨h4.1,h4.2.1,h4.2.2,kk,y,dd,h6,hK⟩
     ·cases h
    ·cases h
   ·cases h
  ·cases h
 | .mv _,d,σ',h,K,hK | .jb _,d,σ',h,K,hK | .pick ..,d,σ',h,K,hK | .bin ..,d,σ',h,K,hK | .beq ..,d,σ',h,K,hK | .geq ..,d,σ',h,K,hK | .nt _,d,σ',h,K,hK | .neg _,d,σ',h,K,hK | .ZX _,d,σ',h,K,hK
 | .conv ..,d,σ',h,K,hK | .il ..,d,σ',h,K,hK | .um ..,d,σ',h,K,hK | .yu ..,d,σ',h,K,hK | .iP ..,d,σ',h,K,hK | .mn ..,d,σ',h,K,hK | .mx ..,d,σ',h,K,hK | .build ..,d,σ',h,K,hK | .idx ..,d,σ',h,K,hK
 | .len _,d,σ',h,K,hK | .pR ..,d,σ',h,K,hK | .yw _,d,σ',h,K,hK | .load ..,d,σ',h,K,hK | .cR ..,d,σ',h,K,hK | .zG ..,d,σ',h,K,hK | .oC ..,d,σ',h,K,hK | .nY ..,d,σ',h,K,hK=>by simp only [vE,δ,Prod.mk.injEq] at h;obtain⟨d0,h0,rfl,rfl⟩:=h;exact Zz hc h0 (K:=λd=>K d σ) hK
def aK (o:xR) (f:Fr):Option Bool:=
 match o.guard with
 | none=>some true
 | some (j,want)=>match f.get j with
  | .bool b=>if b=want then some true else some false
  | .vB=>some false
  | _=>none
theorem mY {o:xR} {f:Fr} {b:Bool} (h:aK o f=some b) {yes no:Prop} (h1:b=true->yes) (h2:b=false->no):xA o f yes no:=by
 unfold aK at h;unfold xA
 split at h
 ·rename_i e; rw [e]; simp only [Option.some.injEq] at h; exact h1 h.symm
 ·rename_i j want e;rw [e];simp only
  split at h
  ·rename_i b' e2;rw [e2];simp only
   split at h
   ·rename_i e3; rw [if_pos e3]; simp only [Option.some.injEq] at h; exact h1 h.symm
   ·rename_i e3; rw [if_neg e3]; simp only [Option.some.injEq] at h; exact h2 h.symm
  ·rename_i e2; rw [e2]; simp only [Option.some.injEq] at h; exact h2 h.symm
  ·cases h
def rP (call:zI) (σ:St):List xR->Fr->Option Fr
 | [],f=>some f
 | o :: r,f=>match aK o f with
  | some true=>match pE call σ (uX f) o.k with
   | some d=>rP call σ r (f.put o.dst d)
   | none=>none
  | some false=>rP call σ r (f.put o.dst .vB)
  | none=>none
theorem zF {C:Cx} {call:zI} (hc:tC C.P call) {σ:St}:∀ {l:List xR} {f f':Fr},rP call σ l f=some f'->∀ {K:Fr->Prop},K f'->zY C σ l f K
 | [],f,f',h,K,hK=>by simp [rP] at h; subst h; exact hK
 | o :: r,f,f',h,K,hK=>by
  unfold rP at h;unfold zY
  split at h
  ·rename_i hg
   split at h
   ·rename_i d hd;exact mY hg (λ_=>Zz hc hd (zF hc h hK)) λe=>by cases e
   ·cases h
  ·rename_i hg;exact mY hg (λe=>by cases e) λ_=>zF hc h hK
  ·cases h
def gQ (call:zI):List xR->Fr->St->Option (Fr × St)
 | [],f,σ=>some (f,σ)
 | o :: r,f,σ=>match aK o f with
  | some true=>match vE call σ (uX f) o.k with
   | some (d,σ')=>gQ call r (f.put o.dst d) σ'
   | none=>none
  | some false=>gQ call r (f.put o.dst .vB) σ
  | none=>none
theorem qL {C:Cx} {call:zI} (hc:tC C.P call):∀ {l:List xR} {f f':Fr} {σ σ':St},gQ call l f σ=some (f',σ')->∀ {K:Fr->St->Prop},K f' σ'->vM C l f σ K
 | [],f,f',σ,σ',h,K,hK=>by simp [gQ] at h; obtain⟨rfl,rfl⟩:=h; exact hK
 | o :: r,f,f',σ,σ',h,K,hK=>by
  unfold gQ at h;unfold vM
  split at h
  ·rename_i hg
   split at h
   ·rename_i d σ1 hd;exact mY hg (λ_=>lJ hc hd (qL hc h hK)) λe=>by cases e
   ·cases h
  ·rename_i hg;exact mY hg (λe=>by cases e) λ_=>qL hc h hK
  ·cases h
def dd (mask:Nat):Fr->Fr
 | []=>[]
 | (t,d) :: r=>if mask.testBit t=true then dd mask r else(t,d) :: dd (mask ||| 2 ^ t) r
theorem ub : ∀ (f:Fr) (mask t:Nat),mask.testBit t=false->(dd mask f).get t=f.get t
 | [],mask,t,h=>rfl
 | (s,d) :: r,mask,t,h=>by
  unfold dd
  split
  ·rename_i hs;rw [ub r mask t h];have:s≠t:=λe=>by rw [e,h] at hs; cases hs
   simp [Fr.get,this]
  ·by_cases e:s=t
   ·simp [Fr.get,e]
   ·rw [Fr.get,if_neg e,Fr.get,if_neg e];refine ub r _ t ?_;rw [Nat.testBit_or,h,Nat.testBit_two_pow_of_ne e]; rfl
theorem yO.dd {C:Cx} {f:Fr} {σ:St}:yO C f σ (Pd.dd 0 f) σ:=yO.frame λt=>.inr (ub f 0 t (Nat.zero_testBit t))
def cF (body:Fr->St->Option (Ex × Fr × St)):Nat->Fr->St->Option (Ex × Fr × St)
 | 0,_,_=>none
 | k+1,f,σ=>match body f σ with
  | some (.normal,f1,σ1)=>cF body k (dd 0 f1) σ1
  | r=>r
def VU (call:zI) (σ:St) (mid:List xR) (f:Fr) (un:Bool) (f2:Fr):Bool:=
 match un with
 | true=>match rP call σ mid f with
  | some g2=>uk g2 f2
  | none=>false
 | false=>true
theorem fy {C:Cx} {call:zI} (hc:tC C.P call) {σ:St} {mid:List xR} {f f2:Fr} {un:Bool} (h:VU call σ mid f un f2=true):if un=true then zY C σ mid f (λg=>g=f2) else True:=by
 unfold VU at h
 split at h
 ·rw [if_pos rfl]
  split at h
  ·rename_i g2 h8;exact zF hc h8 (nF h)
  ·cases h
 ·rw [if_neg (by simp)]; trivial
def r8 (nx:Nat) (ρ:Nat->Nat):Nat->D->D->Bool
 | _,.ref k s i o,.ref k' s' i' o'=>decide (k'<nx)&& decide (k=ρ k')&& decide (s=s')&& decide (i=i')&& decide (o=o')
 | _,.yW k s n,.yW k' s' n'=>decide (k'<nx)&& decide (k=ρ k')&& decide (s=s')&& decide (n=n')
 | _,.sub k s l n,.sub k' s' l' n'=>decide (k'<nx)&& decide (k=ρ k')&& decide (s=s')&& decide (l=l')&& decide (n=n')
 | _,.zZ k,.zZ k'=>decide (k'<nx)&& decide (k=ρ k')
 | n+1,.agg a,.agg b=>iC (r8 nx ρ n) a b
 | n+1,.yE a,.yE b=>iC (r8 nx ρ n) a b
 | n+1,.fn f a,.fn g b=>decide (f=g)&& iC (r8 nx ρ n) a b
 | n,d,d'=>d'.xJ&&ja n d d'
theorem xp {σ σ':St} {ρ:Nat->Nat} {d:D} (h:d.xJ=true):vw σ σ' ρ d d:=by have:=fW (σ:=σ) (σ':=σ') (ρ:=ρ) (a:=[d]) (by simp [D.xT,h]);simp only [tV] at this;exact this.1
theorem gW {σ σ':St} {ρ:Nat->Nat} {e:D->D->Bool} (he:∀ a b,e a b=true->vw σ σ' ρ a b):∀ {xs bs:List D},iC e xs bs=true->xs.length=bs.length/\tV σ σ' ρ xs bs
 | [],[],_=>⟨rfl,by simp only [tV]⟩
 | [],_ :: _,h=>by simp [iC] at h
 | _ :: _,[],h=>by simp [iC] at h
 | a :: xs,b :: bs,h=>by simp only [iC,ε] at h;obtain⟨h1,h2⟩:=gW he (xs:=xs) (bs:=bs) h.2;exact⟨by simp [h1],by simp only [tV]; exact⟨he _ _ h.1,h2⟩⟩
theorem fi {σ σ':St} {ρ:Nat->Nat}:∀ (n:Nat) (a b:D),r8 σ'.nx ρ n a b=true->vw σ σ' ρ a b:=by
 have key:∀ (n:Nat) (a b:D),(b.xJ&&ja n a b)= true->vw σ σ' ρ a b:=λn a b h=>by rw [ε] at h;have:=aJ _ _ _ h.2;subst this;exact xp h.1
 intro n
 induction n with
 | zero=>
  intro a b h
  cases a <;> cases b <;> simp only [r8] at h <;> first
   | exact key _ _ _ h
   | (simp only [vw]; simp only [ε,decide_eq_true_eq] at h; simp_all)
 | succ n ih=>
  intro a b h
  cases a <;> cases b <;> simp only [r8] at h <;> first
   | exact key _ _ _ h
   | (simp only [vw]; exact gW ih h)
   | (simp only [vw]; simp only [ε,decide_eq_true_eq] at h; exact⟨h.1,gW ih h.2⟩)
   | (simp only [vw]; simp only [ε,decide_eq_true_eq] at h; simp_all)
def ia (nx:Nat) (ρ:Nat->Nat) (a b:List (List D)):Bool:=iC (iC (r8 nx ρ 30)) a b
theorem pb {σ σ':St} {ρ:Nat->Nat}:∀ {a b:List (List D)},ia σ'.nx ρ a b=true->dC σ σ' ρ a b
 | [],[],_=>.nil
 | [],_ :: _,h=>by simp [ia,iC] at h
 | _ :: _,[],h=>by simp [ia,iC] at h
 | a :: xs,b :: bs,h=>by simp only [ia,iC,ε] at h;obtain⟨h1,h2⟩:=gW (fi (σ:=σ) (σ':=σ') (ρ:=ρ) 30) h.1;exact .cons h1 h2 (pb h.2)
def iz (n0 n1:Nat) (k:Nat):Nat:=if k<n0 then k else if k=n1 then n0 else if k<n1 then k+1 else k
theorem wh (n0 n1 k:Nat):(k<n0/\iz n0 n1 k=k)\/(n0<=k/\k=n1/\iz n0 n1 k=n0)\/(n0<=k/\k<n1/\iz n0 n1 k=k+1)\/(n0<=k/\n1<k/\iz n0 n1 k=k):=by
 unfold iz
 by_cases h1:k<n0
 ·rw [if_pos h1]; omega
 ·rw [if_neg h1]
  by_cases h2:k=n1
  ·rw [if_pos h2]; omega
  ·rw [if_neg h2]
   by_cases h3:k<n1
   ·rw [if_pos h3]; omega
   ·rw [if_neg h3]; omega
def gx (n0 n1:Nat) (f4:Fr) (σ4:St) (g4:Fr) (σ5:St):Bool:= decide (n0<=σ4.nx)&& decide (n0<=n1)&& (f4.all λp=>r8 σ4.nx (iz n0 n1) 30 (g4.get p.1) p.2)&& σ4.xW.all λp=>decide (p.1<σ4.nx)&& (match σ5.get (iz n0 n1 p.1) with | some ob=>decide (ob.sz=p.2.sz)&& ia σ4.nx (iz n0 n1) ob.xX p.2.xX | none=>false)
theorem ea {C:Cx} {n0 n1:Nat} {f4 g4:Fr} {σ4 σ5:St} (h:gx n0 n1 f4 σ4 g4 σ5=true) (hn:C.n0<=n0):yO C g4 σ5 f4 σ4:=by
 simp only [gx,ε,decide_eq_true_eq,ζ] at h;obtain⟨⟨⟨h1,h2⟩,h3⟩,h4⟩:=h
 refine yO.view (iz n0 n1) (by omega) (λk hk=>by unfold iz; rw [if_pos (by omega)]) ?_ (λp hp=>?_) (λp _ q _ e=>?_)
 ·have:∀ l:Fr,(∀ p ∈ l,r8 σ4.nx (iz n0 n1) 30 (g4.get p.1) p.2=true)->xd σ5 σ4 (iz n0 n1) g4 l:=by
   intro l
   induction l with
   | nil=>intro _; simp only [xd]
   | cons p l ih=>intro hl; simp only [xd]; exact⟨fi _ _ _ (hl p (by simp)),ih λq hq=>hl q (by simp [hq])⟩
  exact this f4 h3
 ·obtain⟨g1,g2⟩:=h4 p hp;refine⟨g1,?_⟩
  split at g2
  ·rename_i ob hob;simp only [ε,decide_eq_true_eq] at g2;exact⟨ob,hob,g2.1,pb g2.2⟩
  ·cases g2
 ·have:=wh n0 n1 p.1;have:=wh n0 n1 q.1;omega
def jH (call:zI) (σ:St) (l:List xR) (f g:Fr):Bool:=match rP call σ l f with
 | some g'=>uk g' g
 | none=>false
theorem pJ {C:Cx} {call:zI} (hc:tC C.P call) {σ:St} {l:List xR} {f g:Fr} (h:jH call σ l f g=true):zY C σ l f λx=>x=g:=by
 unfold jH at h
 split at h
 ·rename_i g' h8; exact zF hc h8 (nF h)
 ·cases h
def Vb (free:List Nat) (f g:Fr):Bool:=free.all λt=>ja 30 (f.get t) (g.get t)
def gv (call:zI) (pre:List xR) (m1:xR) (mid1:List xR) (m2:xR) (mid2 post:List xR) (free:List Nat) (f:Fr) (σ:St):Option (Fr × St):=
 (rP call σ pre f).bind λf1=>(vE call σ (uX f1) m1.k).bind λx=>(rP call x.2 mid1 (f1.put m1.dst x.1)).bind λf2=>(vE call x.2 (uX f2) m2.k).bind λy=>(rP call y.2 mid2 (f2.put m2.dst y.1)).bind λf3=>
 (vE call σ (uX f) m2.k).bind λA=>(rP call A.2 pre f).bind λg1=>(vE call A.2 (uX g1) m1.k).bind λz=>(rP call z.2 (mid1++⟨m2.dst,none,.mv (.c A.1)⟩ :: mid2) (g1.put m1.dst z.1)).bind λg3=>
 (gQ call post f3 y.2).bind λr=>(gQ call post g3 z.2).bind λs=>
 if (jH call σ (xb pre m1.dst x.1 mid1 m2.dst y.1 mid2) f f3&&jH call x.2 (xb pre m1.dst x.1 mid1 m2.dst y.1 mid2) f f3&&jH call y.2 (xb pre m1.dst x.1 mid1 m2.dst y.1 mid2) f f3 &&
  jH call A.2 (xb pre m1.dst z.1 mid1 m2.dst A.1 mid2) f g3&&jH call z.2 (xb pre m1.dst z.1 mid1 m2.dst A.1 mid2) f g3&&Vb free r.1 s.1&&gx σ.nx x.2.nx r.1 r.2 s.1 s.2)= true then some r else none
theorem ZK {C:Cx} {dc:DC} {f:Fr} {σ:St} {Q:Exit->Fr->St->Prop} (h:C.n0<=σ.nx->wpS C dc f σ Q):wpS C dc f σ Q:=λcode hc E a w G=>by obtain⟨ι,G'⟩:=G;exact h G'.nx code hc E a w ⟨ι,G'⟩
theorem ck {C:Cx} (hm:C.P.follows .mixedOrders=true) {call:zI} (hc:tC C.P call) {pre:List xR} {m1:xR} {mid1:List xR} {m2:xR} {mid2 post:List xR} {free:List Nat} {f f':Fr} {σ σ':St}
  (h:gv call pre m1 mid1 m2 mid2 post free f σ=some (f',σ')) {Q:Exit->Fr->St->Prop} (hQ:Q .normal f' σ'):wpS C (.oD pre m1 mid1 m2 mid2 post free) f σ Q:=by
 refine ZK λhn=>zy hm ?_;unfold gv at h;obtain⟨f1,a1,h⟩:=γ.1 h;obtain⟨⟨dx,σ1⟩,a2,h⟩:=γ.1 h;obtain⟨f2,a3,h⟩:=γ.1 h;obtain⟨⟨dy,σ2⟩,a4,h⟩:=γ.1 h;obtain⟨f3,a5,h⟩:=γ.1 h;obtain⟨⟨dA,σA⟩,a6,h⟩:=γ.1 h;obtain⟨g1,a7,h⟩:=γ.1 h;obtain⟨⟨dz,σB⟩,a8,h⟩:=γ.1 h;obtain⟨g3,a9,h⟩:=γ.1 h;obtain⟨⟨f4,σ4⟩,b1,h⟩:=γ.1 h;obtain⟨⟨g4,σ5⟩,b2,h⟩:=γ.1 h
 split at h
 ·rename_i hb;cases h;simp only [ε] at hb;obtain⟨⟨⟨⟨⟨⟨c1,c2⟩,c3⟩,c4⟩,c5⟩,c6⟩,c7⟩:=hb;exact zF hc a1 (lJ hc a2 (zF hc a3 (lJ hc a4 (zF hc a5 ⟨pJ hc c1,pJ hc c2,pJ hc c3,lJ hc a6 (zF hc a7 (lJ hc a8 (zF hc a9 ⟨pJ hc c4,pJ hc c5,qL hc b1 (qL hc b2 ⟨λt ht=>aJ _ _ _ (ζ.1 c6 t ht),ea c7 hn,hQ⟩)⟩)))⟩))))
 ·cases h
def gw (call:zI) (pre:List xR) (m:xR) (mid:List xR) (un:Bool) (post:List xR) (fl:List Bool) (f:Fr) (σ:St):Option (Fr × St):=
 (rP call σ pre f).bind λf1=>(vE call σ (uX f1) m.k).bind λx=>(rP call x.2 mid (f1.put m.dst x.1)).bind λf2=>(gQ call post f2 x.2).bind λr=>
 if (jH call x.2 (mQ fl pre f1) f f1&&VU call σ mid (f1.put m.dst x.1) un f2)= true then some r else none
theorem cn {C:Cx} (hm:C.P.follows .mixedOrders=true) {call:zI} (hc:tC C.P call) {pre:List xR} {m:xR} {mid:List xR} {un:Bool} {post:List xR} {fl:List Bool} {f f':Fr} {σ σ':St}
  (h:gw call pre m mid un post fl f σ=some (f',σ')) {Q:Exit->Fr->St->Prop} (hQ:Q .normal f' σ'):wpS C (.kM pre m mid un post fl) f σ Q:=by
 refine eb hm ?_;unfold gw at h;obtain⟨f1,a1,h⟩:=γ.1 h;obtain⟨⟨d,σ1⟩,a2,h⟩:=γ.1 h;obtain⟨f2,a3,h⟩:=γ.1 h;obtain⟨⟨f4,σ4⟩,b1,h⟩:=γ.1 h
 split at h
 ·rename_i hb;cases h;simp only [ε] at hb;exact zF hc a1 (lJ hc a2 ⟨pJ hc hb.1,zF hc a3 ⟨fy hc hb.2,qL hc b1 hQ⟩⟩)
 ·cases h
def aZ : DC->Bool
 | .lQ ..=>false
 | .seq a b=>aZ a&&aZ b
 | .cond _ a b=>aZ a&&aZ b
 | .block _ c=>aZ c
 | .loop c=>aZ c
 | _=>true
def uq (b:Fr->St->Option St) (xX:List (List D)) (f:Fr) (p0 p1:Nat):Nat->St->Option St
 | 0,σ=>some σ
 | m+1,σ=>match b ((f.put (some p0) (.int .i64 (m:Int))).put (some p1) (.agg (xX.getD m []))) σ with
  | some σ2=>uq b xX f p0 p1 m σ2
  | none=>none
def iO (bk:Nat->Bool) (N:Nat) (call:zI):DC->Nat->Fr->St->Option (Ex × Fr × St)
 | .skip,_,f,σ=>some (.normal,f,σ)
 | .wS pre post,_,f,σ=>match rP call σ pre f with
  | some f1=>match gQ call post f1 σ with
   | some (f2,σ2)=>some (.normal,f2,σ2)
   | none=>none
  | none=>none
 | .iL pre m mid un post,_,f,σ=>match rP call σ pre f with
  | some f1=>match vE call σ (uX f1) m.k with
   | some (d,σ1)=>match rP call σ1 pre f,rP call σ1 mid (f1.put m.dst d) with
    | some g1,some f2=>match uk g1 f1&&VU call σ mid (f1.put m.dst d) un f2 with
     | true=>match gQ call post f2 σ1 with
      | some (f3,σ3)=>some (.normal,f3,σ3)
      | none=>none
     | false=>none
    | _,_=>none
   | none=>none
  | none=>none
 | .kK pre m1 mid1 m2 mid2 post,_,f,σ=>match rP call σ pre f with
  | some f1=>match vE call σ (uX f1) m1.k with
   | some (d1,σ1)=>match rP call σ1 pre f,rP call σ1 mid1 (f1.put m1.dst d1) with
    | some g1,some f2=>match uk g1 f1,vE call σ1 (uX f2) m2.k with
     | true,some (d2,σ2)=>match rP call σ2 pre f,rP call σ2 mid1 (f1.put m1.dst d1),rP call σ2 mid2 (f2.put m2.dst d2) with
      | some x1,some x2,some f3=>match uk x1 f1&&uk x2 f2 with
       | true=>match gQ call post f3 σ2 with
        | some (f4,σ4)=>some (.normal,f4,σ4)
        | none=>none
       | false=>none
      | _,_,_=>none
     | _,_=>none
    | _,_=>none
   | none=>none
  | none=>none
 | .seq a b,n,f,σ=>match iO bk N call a n f σ with
  | some (.normal,f1,σ1)=>iO bk N call b n f1 σ1
  | r=>r
 | .cond c a b,n,f,σ=>match uX f c with
  | .bool t=>if t=true then iO bk N call a n f σ else iO bk N call b n f σ
  | _=>none
 | .block id c,n,f,σ=>match iO bk N call c n f σ with
  | some (.exit i,f1,σ1)=>if i=id then some (.normal,f1,σ1) else some (.exit i,f1,σ1)
  | r=>r
 | .loop c,n,f,σ=>cF (iO bk N call c n) n f σ
 | .oD pre m1 mid1 m2 mid2 post free,_,f,σ=>(gv call pre m1 mid1 m2 mid2 post free f σ).map λr=>(.normal,r.1,r.2)
 | .kM pre m mid un post fl,_,f,σ=>(gw call pre m mid un post fl f σ).map λr=>(.normal,r.1,r.2)
 | .lQ g ps dx dy,n,f,σ=>match ps,uX f g with
  | [p0,p1],.fn gi [.ptr [.xZ]]=>if (bk gi&&decide (p0<N)&& decide (p1<N))= true then some (.normal,f,σ) else none
  | [p0,p1],.fn gi [.ptr [.sl 2 xX]]=>if (bk gi&&aZ dx&&aZ dy&&decide (p0<N)&& decide (p1<N))= true then(uq (λf0 σ0=>match iO bk N call dx n f0 σ0 with
    | some (.normal,f1,σ1)=>match iO bk N call dy n f1 σ1 with
     | some (.normal,_,σ2)=>some σ2
     | _=>none
    | _=>none) xX f p0 p1 xX.length σ).map λσ'=>(.normal,f,σ') else none
  | _,_=>none
 | .exit id,_,f,σ=>some (.exit id,f,σ)
 | .ret,_,f,σ=>some (.ret,f,σ)
 | _,_,_,_=>none
theorem ak {C:Cx} (hm:C.P.follows .mixedOrders=true) {c:DC} {body:Fr->St->Option (Ex × Fr × St)} (hb:∀ f σ e f' σ',body f σ=some (e,f',σ')->∀ Q:Exit->Fr->St->Prop,Q e.to f' σ'->pY C c f σ Q) {n:Nat} {f:Fr} {σ:St} {e:Ex} {f':Fr} {σ':St}
  (h:cF body n f σ=some (e,f',σ')) {Q:Exit->Fr->St->Prop} (hQ:Q e.to f' σ'):wpS C (.loop c) f σ Q:=by
 refine xO (α:=Nat × Fr × St) (λa=>a.2.1) (λa=>a.2.2) (λa=>cF body a.1 a.2.1 a.2.2=some (e,f',σ')) (λa=>a.1) (n,f,σ) h yO.refl ?_;rintro ⟨k,f0,σ0⟩ hI
 match k,hI with
 | 0,hI=>simp [cF] at hI
 | k+1,hI=>
  simp only at hI ⊢;unfold cF at hI;refine gM hm ?_
  split at hI
  ·rename_i f1 σ1 h1;exact hb _ _ _ _ _ h1 _ ⟨(k,Pd.dd 0 f1,σ1),hI,yO.dd,Nat.lt_succ_self k⟩
  ·rename_i hne;refine hb _ _ _ _ _ hI _ ?_
   cases e with
   | normal=>exact absurd hI (hne _ _)
   | exit i=>exact hQ
   | ret=>exact hQ
theorem Yt {b:Fr->St->Option St} {xX:List (List D)} {f:Fr} {p0 p1 m:Nat} {σ σ':St} (h:uq b xX f p0 p1 (m+1) σ=some σ'):∃ σ2,b ((f.put (some p0) (.int .i64 (m:Int))).put (some p1) (.agg (xX.getD m []))) σ=some σ2/\uq b xX f p0 p1 m σ2=some σ':=by
 simp only [uq] at h
 split at h
 ·rename_i σ2 h2; exact⟨σ2,h2,h⟩
 ·cases h
theorem qY {bk:Nat->Bool} {C:Cx} (hm:C.P.follows .mixedOrders=true) (hB:∀ g,bk g=true->qa C.P g) {call:zI} (hc:tC C.P call):∀ (c:DC),(C.rd=none\/aZ c=true)->∀ (n:Nat) (f:Fr) (σ:St) (e:Ex) (f':Fr) (σ':St),iO bk C.N call c n f σ=some (e,f',σ')->∀ Q:Exit->Fr->St->Prop,Q e.to f' σ'->pY C c f σ Q
 | .skip,hr,n,f,σ,e,f',σ',h,Q,hQ=>by simp [iO] at h; obtain⟨rfl,rfl,rfl⟩:=h; exact hQ
 | .exit id,hr,n,f,σ,e,f',σ',h,Q,hQ=>by simp [iO] at h; obtain⟨rfl,rfl,rfl⟩:=h; exact hQ
 | .ret,hr,n,f,σ,e,f',σ',h,Q,hQ=>by simp [iO] at h; obtain⟨rfl,rfl,rfl⟩:=h; exact hQ
 | .wS pre post,hr,n,f,σ,e,f',σ',h,Q,hQ=>by
  unfold iO at h;unfold pY
  split at h
  ·rename_i f1 h1
   split at h
   ·rename_i f2 σ2 h2;simp only [Option.some.injEq,Prod.mk.injEq] at h;obtain⟨rfl,rfl,rfl⟩:=h;exact zF hc h1 (qL hc h2 hQ)
   ·cases h
  ·cases h
 | .seq a b,hr,n,f,σ,e,f',σ',h,Q,hQ=>by
  unfold iO at h;unfold pY
  split at h
  ·rename_i f1 σ1 h1;exact qY hm hB hc a (hr.imp (λx=>x) λh=>by simp only [aZ,ε] at h; exact h.1) n _ _ _ _ _ h1 _ (qY hm hB hc b (hr.imp (λx=>x) λh=>by simp only [aZ,ε] at h; exact h.2) n _ _ _ _ _ h Q hQ)
  ·rename_i hne;refine qY hm hB hc a (hr.imp (λx=>x) λh=>by simp only [aZ,ε] at h; exact h.1) n _ _ _ _ _ h _ ?_
   cases e with
   | normal=>exact absurd h (hne _ _)
   | exit i=>exact hQ
   | ret=>exact hQ
 | .cond c a b,hr,n,f,σ,e,f',σ',h,Q,hQ=>by
  unfold iO at h;unfold pY
  split at h
  ·rename_i t ht;rw [ht];simp only
   split at h
   ·rename_i e1; rw [if_pos e1]; exact qY hm hB hc a (hr.imp (λx=>x) λh=>by simp only [aZ,ε] at h; exact h.1) n _ _ _ _ _ h Q hQ
   ·rename_i e1; rw [if_neg e1]; exact qY hm hB hc b (hr.imp (λx=>x) λh=>by simp only [aZ,ε] at h; exact h.2) n _ _ _ _ _ h Q hQ
  ·cases h
 | .block id c,hr,n,f,σ,e,f',σ',h,Q,hQ=>by
  unfold iO at h;unfold pY
  split at h
  ·rename_i i f1 σ1 h1;refine qY hm hB hc c (hr.imp (λx=>x) λh=>by simpa only [aZ] using h) n _ _ _ _ _ h1 _ ?_;show if i=id then Q .normal f1 σ1 else Q (.exit i) f1 σ1
   split at h
   ·rename_i e1;simp only [Option.some.injEq,Prod.mk.injEq] at h;obtain⟨rfl,rfl,rfl⟩:=h;rw [if_pos e1]; exact hQ
   ·rename_i e1;simp only [Option.some.injEq,Prod.mk.injEq] at h;obtain⟨rfl,rfl,rfl⟩:=h;rw [if_neg e1]; exact hQ
  ·rename_i hne;refine qY hm hB hc c (hr.imp (λx=>x) λh=>by simpa only [aZ] using h) n _ _ _ _ _ h _ ?_
   cases e with
   | normal=>exact hQ
   | exit i=>exact absurd h (hne _ _ _)
   | ret=>exact hQ
 | .loop c,hr,n,f,σ,e,f',σ',h,Q,hQ=>by unfold iO at h;unfold pY;exact ak hm (λf σ e f' σ' h Q hQ=>qY hm hB hc c (hr.imp (λx=>x) λh=>by simpa only [aZ] using h) n f σ e f' σ' h Q hQ) h hQ
 | .iL pre m mid un post,hr,n,f,σ,e,f',σ',h,Q,hQ=>by
  unfold iO at h;unfold pY
  split at h
  ·rename_i f1 h1
   split at h
   ·rename_i d σ1 h2
    split at h
    ·rename_i g1 f2 h3 h4
     split at h
     ·rename_i h5;rw [ε] at h5
      split at h
      ·rename_i f3 σ3 h6;simp only [Option.some.injEq,Prod.mk.injEq] at h;obtain⟨rfl,rfl,rfl⟩:=h;exact zF hc h1 (lJ hc h2 ⟨zF hc h3 (nF h5.1),zF hc h4 ⟨fy hc h5.2,qL hc h6 hQ⟩⟩)
      ·cases h
     ·cases h
    ·cases h
   ·cases h
  ·cases h
 | .kK pre m1 mid1 m2 mid2 post,hr,n,f,σ,e,f',σ',h,Q,hQ=>by
  unfold iO at h;unfold pY
  split at h
  ·rename_i f1 h1
   split at h
   ·rename_i d1 σ1 h2
    split at h
    ·rename_i g1 f2 h3 h4
     split at h
     ·rename_i d2 σ2 h5 h6
      split at h
      ·rename_i x1 x2 f3 h7 h8 h9
       split at h
       ·rename_i h10;rw [ε] at h10
        split at h
        ·rename_i f4 σ4 h11;simp only [Option.some.injEq,Prod.mk.injEq] at h;obtain⟨rfl,rfl,rfl⟩:=h;exact zF hc h1 (lJ hc h2 ⟨zF hc h3 (nF h5),zF hc h4 (lJ hc h6 ⟨zF hc h7 (nF h10.1),zF hc h8 (nF h10.2),zF hc h9 (qL hc h11 hQ)⟩)⟩)
        ·cases h
       ·cases h
      ·cases h
     ·cases h
    ·cases h
   ·cases h
  ·cases h
 | .og ..,hr,n,f,σ,e,f',σ',h,Q,hQ | .jc ..,hr,n,f,σ,e,f',σ',h,Q,hQ | .ix ..,hr,n,f,σ,e,f',σ',h,Q,hQ | .mO ..,hr,n,f,σ,e,f',σ',h,Q,hQ=>by simp [iO] at h
 | .oD pre m1 mid1 m2 mid2 post free,hr,n,f,σ,e,f',σ',h,Q,hQ=>by unfold iO at h;unfold pY;obtain⟨⟨f4,σ4⟩,h1,h2⟩:=δ.1 h;cases h2;exact ck hm hc h1 hQ
 | .kM pre m mid un post fl,hr,n,f,σ,e,f',σ',h,Q,hQ=>by unfold iO at h;unfold pY;obtain⟨⟨f4,σ4⟩,h1,h2⟩:=δ.1 h;cases h2;exact cn hm hc h1 hQ
 | .lQ g ps dx dy,hr,n,f,σ,e,f',σ',h,Q,hQ=>by
  unfold iO at h;unfold pY
  split at h
  ·rename_i p0 p1 gi hg
   split at h
   ·rename_i hb;simp only [ε,decide_eq_true_eq] at hb;obtain⟨⟨b1,b4⟩,b5⟩:=hb;cases h;have hrd:C.rd=none:=hr.resolve_right (by simp [aZ]);exact zx hrd (hB _ b1) hg (.inr ⟨rfl,rfl⟩) ⟨b4,b5⟩ (λk s=>s=σ) rfl (λl k σk hk _=>absurd hk (by simp)) (λs hs=>by subst hs; exact hQ)
   ·cases h
  ·rename_i p0 p1 gi xX hg
   split at h
   ·rename_i hb;simp only [ε,decide_eq_true_eq] at hb;obtain⟨⟨⟨⟨b1,b2⟩,b3⟩,b4⟩,b5⟩:=hb;obtain⟨σ2,h1,h2⟩:=δ.1 h;cases h2;have hrd:C.rd=none:=hr.resolve_right (by simp [aZ])
    refine zx hrd (hB _ b1) hg (.inl rfl) ⟨b4,b5⟩ (λk s=>k<=xX.length/\uq _ xX f p0 p1 (xX.length-k) s=some σ') ⟨Nat.zero_le _,h1⟩ (λl k σk hk hJ=>?_) (λs hs=>?_)
    ·obtain⟨_,hJ⟩:=hJ;rw [show xX.length-k=(xX.length-1-k)+ 1 by omega] at hJ;obtain⟨σ3,g1,g2⟩:=Yt hJ;simp only at g1
     split at g1
     ·rename_i f1 σ1 g3
      split at g1
      ·rename_i f5 σ5 g4;cases g1;refine gM (C:={ C with n0:=σ.nx,rd:=some l }) hm (qY (C:={ C with n0:=σ.nx,rd:=some l }) hm hB hc dx (.inr b2) n _ _ _ _ _ g3 _ ?_);exact gM (C:={ C with n0:=σ.nx,rd:=some l }) hm (qY (C:={ C with n0:=σ.nx,rd:=some l }) hm hB hc dy (.inr b3) n _ _ _ _ _ g4 _ ⟨rfl,_,_,yO.refl,by omega,by rw [show xX.length-(k+1)= xX.length-1-k by omega]; exact g2⟩)
      ·cases g1
     ·cases g1
    ·have h0:=hs.2;rw [Nat.sub_self] at h0;simp only [uq] at h0;cases h0;exact hQ
   ·cases h
  ·cases h
mutual
def gm : D->List Nat->List Nat
 | .ref k _ _ _,l=>k :: l
 | .yW k _ _,l=>k :: l
 | .sub k _ _ _,l=>k :: l
 | .zZ k,l=>k :: l
 | .agg cs,l=>yj cs l
 | .yE cs,l=>yj cs l
 | .fn _ cs,l=>yj cs l
 | _,l=>l
def yj : List D->List Nat->List Nat
 | [],l=>l
 | d :: r,l=>gm d (yj r l)
end
def gn : List (List D)->List Nat->List Nat
 | [],l=>l
 | e :: r,l=>yj e (gn r l)
def ym (n0:Nat) (xW:List (Nat × Ob)):Nat->List Nat->Nat->Nat
 | 0,_,m=>m
 | _+1,[],m=>m
 | n+1,k :: todo,m=>if k<n0\/m.testBit k=true then ym n0 xW n todo m else match St.look xW k with
  | some o=>ym n0 xW n (gn o.xX todo) (m ||| 2 ^ k)
  | none=>ym n0 xW n todo m
def aO (n0:Nat):List (Nat × Ob)->List Nat
 | []=>[]
 | (k,o) :: r=>if k<n0 then gn o.xX (aO n0 r) else aO n0 r
def VP (n0:Nat) (d:D) (σ:St):List (Nat × Ob):=
 if σ.nx=n0 then σ.xW else
  let m:=ym n0 σ.xW 100000 (gm d (aO n0 σ.xW)) 0
  σ.xW.filter λp=>decide (p.1<n0) || m.testBit p.1
theorem lW {φ:Nat->Bool} {k:Nat} {o:Ob}:∀ {l:List (Nat × Ob)},St.look (l.filter λp=>φ p.1) k=some o->St.look l k=some o
 | [],h=>by cases h
 | (j, o') :: r,h=>by
  rw [η] at h
  split at h
  ·rw [yZ] at h ⊢
   split at h
   ·rename_i e; rw [if_pos e]; exact h
   ·rename_i e; rw [if_neg e]; exact lW h
  ·rename_i hf;have h':=lW h;rw [yZ]
   split
   ·rename_i e;subst e;exfalso
    have:∀ {l:List (Nat × Ob)},St.look (l.filter λp=>φ p.1) j≠some o:=by
     intro l
     induction l with
     | nil=>simp [St.look]
     | cons p l ih=>
      rw [η]
      split
      ·rename_i hp;rw [yZ]
       split
       ·rename_i e; rw [e] at hp; exact absurd hp hf
       ·exact ih
      ·exact ih
    exact this h
   ·exact h'
theorem Wm {n0:Nat} {d:D} {σ:St}:∀ k o,St.look (VP n0 d σ) k=some o->σ.get k=some o:=λk o h=>by
 unfold VP at h
 split at h
 ·exact h
 ·exact lW (φ:=λj=>decide (j<n0) || (ym n0 σ.xW 100000 (gm d (aO n0 σ.xW)) 0).testBit j) h
def oH (f:Fr) (σ:St):pT->Option D
 | .tmp t=>some (f.get t)
 | .cell t n ag=>qe σ n ag (f.get t)
def aV (f:Fr) (σ:St):List pT->Option D
 | []=>some (.yE [])
 | [a]=>oH f σ a
 | [a,b]=>match oH f σ a,oH f σ b with
  | some x,some y=>some (.yE [x,y])
  | _,_=>none
 | [a,b,c]=>match oH f σ a,oH f σ b,oH f σ c with
  | some x,some y,some z=>some (.yE [x,y,z])
  | _,_,_=>none
 | [a,b,c,d]=>match oH f σ a,oH f σ b,oH f σ c,oH f σ d with
  | some x,some y,some z,some u=>some (.yE [x,y,z,u])
  | _,_,_,_=>none
 | _=>none
theorem uG {C:Cx} {f:Fr} {σ:St} {r:pT} {d:D} (h:oH f σ r=some d) {K:D->Prop} (hK:K d):rV C r f σ K:=by
 cases r with
 | tmp t=>simp only [oH,Option.some.injEq] at h; subst h; exact hK
 | cell t n ag=>exact wz (C:=C) (ev:=uX f) (x:=.t t) h hK
theorem Yq {C:Cx} {f:Fr} {σ:St}:∀ {rs:List pT} {d:D},aV f σ rs=some d->∀ {K:D->Prop},K d->qO C rs f σ K
 | [],d,h,K,hK=>by simp only [aV,Option.some.injEq] at h; subst h; exact hK
 | [a],d,h,K,hK=>uG (by simpa only [aV] using h) hK
 | [a,b],d,h,K,hK=>by
  simp only [aV] at h;simp only [qO]
  split at h
  ·rename_i h1 h2;simp only [Option.some.injEq] at h; subst h;exact uG h1 (K:=λx=>rV C b f σ λy=>K (.yE [x,y])) (uG h2 hK)
  ·cases h
 | [a,b,c],d,h,K,hK=>by
  simp only [aV] at h;simp only [qO]
  split at h
  ·rename_i h1 h2 h3;simp only [Option.some.injEq] at h; subst h;exact uG h1 (K:=λx=>rV C b f σ λy=>rV C c f σ λz=>K (.yE [x,y,z])) (uG h2 (K:=λy=>rV C c f σ λz=>K (.yE [_,y,z])) (uG h3 hK))
  ·cases h
 | [a,b,c,e],d,h,K,hK=>by
  simp only [aV] at h;simp only [qO]
  split at h
  ·rename_i h1 h2 h3 h4;simp only [Option.some.injEq] at h; subst h;exact uG h1 (K:=λx=>rV C b f σ λy=>rV C c f σ λz=>rV C e f σ λu=>K (.yE [x,y,z,u])) (uG h2 (K:=λy=>rV C c f σ λz=>rV C e f σ λu=>K (.yE [_,y,z,u])) (uG h3 (K:=λz=>rV C e f σ λu=>K (.yE [_,_,z,u])) (uG h4 hK)))
  ·cases h
 | _ :: _ :: _ :: _ :: _ :: _,d,h,K,hK=>by simp [aV] at h
abbrev Table :=List (Nat × Fn)
def qf : Table->Nat->Option Fn
 | [],_=>none
 | (k,F) :: r,g=>if k=g then some F else qf r g
def rN (P:Program) (T:Table):Prop:=∀ g F,qf T g=some F->∃ fn,P.funcs[g]?=some fn/\xY P F.own fn=some (F.n,F.code,F.res)
theorem rN.nil {P:Program}:rN P []:=λg F h=>by cases h
theorem rN.cons {P:Program} {T:Table} {g:Nat} {fn:Func} {own:List Nat} {c:Nat × DC × List pT} (hf:P.funcs[g]?=some fn) (hc:xY P own fn=some c) (h:rN P T):rN P ((g,⟨c.1,c.2.1,c.2.2,own⟩) :: T):=λk F hk=>by
 unfold qf at hk
 split at hk
 ·rename_i e;subst e;simp only [Option.some.injEq] at hk;subst hk;exact⟨fn,hf,hc⟩
 ·exact h k F hk
abbrev jY :=FuncId->List D->Option D
def kR (P:Program) (O:jY):Prop:=∀ g args d,O g args=some d->∀ σ,xS P g args σ d σ
def o5 (fr:Nat->Bool) (call:zI):zI:=λg args σ=>if (fr g&&D.xT args)= true then(match call g args mR with
 | some (d,σ1)=>(fz σ1 30 d).map λd'=>(d',σ)
 | none=>none) else call g args σ
theorem YN {P:Program} {fr:Nat->Bool} {call:zI} (hc:tC P call):tC P (o5 fr call):=λg args σ d σ' h=>by
 unfold o5 at h
 split at h
 ·rename_i hp;rw [ε] at hp
  split at h
  ·rename_i d1 σ1 h1;obtain⟨d2,h2,h3⟩:=δ.1 h;cases h3;exact xS.vV ((hc _ _ _ _ _ h1).pz (qd 30 _ _ h2)) hp.2
  ·cases h
 ·exact hc _ _ _ _ _ h
def Za (bk fr:Nat->Bool) (T:Table) (O:jY):Nat->zI
 | 0,_,_,_=>none
 | n + 1,g,args,σ=>match O g args with
  | some d=>some (d,σ)
  | none=>match qf T g with
   | some F=>if args.length<=F.n then(match iO bk F.n (o5 fr (Za bk fr T O n)) F.code 100000 (pO 0 args) σ with
    | some (.exit _,_,_)=>none
    | some (_,f,σ1)=>match aV f σ1 F.res with
     | some d=>some (d,⟨σ1.nx,VP σ.nx d σ1⟩)
     | none=>none
    | none=>none) else none
   | none=>none
theorem fj {bk fr:Nat->Bool} {P:Program} (hm:P.follows .mixedOrders=true) (hB:∀ g,bk g=true->qa P g) {T:Table} (hT:rN P T) {O:jY} (hO:kR P O):∀ n,tC P (Za bk fr T O n)
 | 0=>λg args σ d σ' h=>by simp [Za] at h
 | n + 1=>λg args σ d σ' h=>by
  have ih:=fj (fr:=fr) hm hB hT hO n;unfold Za at h
  split at h
  ·rename_i d1 h1;simp only [Option.some.injEq,Prod.mk.injEq] at h;obtain⟨rfl,rfl⟩:=h;exact hO _ _ _ h1 σ
  split at h
  ·rename_i F hF;obtain⟨fn,hf,hc⟩:=hT g F hF
   split at h
   ·rename_i hl
    have key:∀ e f σ1,iO bk F.n (o5 fr (Za bk fr T O n)) F.code 100000 (pO 0 args) σ=some (e,f,σ1)->(e.to = .ret\/e.to = .normal)->(match aV f σ1 F.res with | some d=>some (d,(⟨σ1.nx,VP σ.nx d σ1⟩:St)) | none=>none)= some (d,σ')->xS P g args σ d σ':=by
     intro e f σ1 h1 he h2
     split at h2
     ·rename_i d1 h3;simp only [Option.some.injEq,Prod.mk.injEq] at h2;obtain⟨rfl,rfl⟩:=h2;refine xS.gc (σ1:=σ1) ?_ Wm;refine xS.Zw hm hf hc hl λ_=>?_;exact qY (C:=⟨P,F.n,σ.nx,F.own,none⟩) hm hB (YN ih) F.code (.inl rfl) 100000 _ _ _ _ _ h1 _ ⟨he,Yq h3 (.inl ⟨rfl,rfl⟩)⟩
     ·cases h2
    split at h
    ·cases h
    ·rename_i e f σ1 hne h1;refine key e f σ1 h1 ?_ h
     cases e with
     | normal=>exact .inr rfl
     | exit i=>exact absurd rfl (hne i)
     | ret=>exact .inl rfl
    ·cases h
   ·cases h
  ·cases h
theorem Ym {bk fr:Nat->Bool} {P:Program} (hm:P.follows .mixedOrders=true) (hB:∀ g,bk g=true->qa P g) {T:Table} (hT:rN P T) {O:jY} (hO:kR P O) (n:Nat) {g:FuncId} {args:List D} {d:D} (hd:d.xJ=true) (h:(Za bk fr T O n g args mR).map (·.1)= some d):yA P g args d:=by rw [δ] at h;obtain⟨⟨d1,σ1⟩,h1,rfl⟩:=h;exact(fj hm hB hT hO n _ _ _ _ _ h1).aR hd
theorem reckon {P:Program} (hm:P.follows .mixedOrders=true) {T:Table} (hT:rN P T) {O:jY} (hO:kR P O) (n:Nat) {g:FuncId} {args:List D} {d:D} (hd:d.xJ=true) (h:(Za (λ_=>false) (λ_=>false) T O n g args mR).map (·.1)= some d):yA P g args d:= Ym hm (λ_ h=>by cases h) hT hO n hd h
end Go.Pd
