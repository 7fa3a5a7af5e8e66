/- Part X9. -/
import Derived.Test.YtndfaefmmcoapaaGreatUeX8
import Derived.Test.YtndfaefmmcoapaaGreatUeCode
set_option linter.unusedSectionVars false
set_option linter.unusedVariables false
set_option linter.unusedSimpArgs false
set_option linter.defProp false
set_option maxRecDepth 20000
set_option maxHeartbeats 1000000
namespace Go.Pd
open Go Go.Proofs
theorem bXc {n:Nat} (hn:n<=61):aJr .i64 1 (n:Int)= ((2 ^ n:Nat):Int):=aVq (by omega)
theorem aDl {n:Nat} (hn:n<=1000000):IntKind.u64.wrap (n:Int)= (n:Int):=wrap_u64 (by omega)
theorem aIt {k:Nat} (h:k<18446744073709551616):ui (BitVec.ofNat 64 k)= (k:Int):=by unfold ui; rw [BitVec.toNat_ofNat,Nat.mod_eq_of_lt h]
theorem yB {α:Type} {l:List α} {k:Nat} {d:α} (h:k<l.length):l.take (k+1)= l.take k ++ [l.getD k d]:=by rw [List.take_add_one]; simp [List.getD,h]
theorem drop_cons {α:Type} {l:List α} {k:Nat} {d:α} (h:k<l.length):l.drop k=l.getD k d :: l.drop (k+1):=by simp [List.getD,h]
theorem xN {α:Type} {l:List α} {k:Nat} {d:α} (h:k<l.length):l.getD k d ∈ l:=by simp [List.getD,h]
theorem iN {α:Type} {l:List α} {k:Nat} (h:k=l.length):l.take k=l:=by rw [h,List.take_length]
theorem bYq (x y:Int):(if x<y then y else x)= max x y:=by rw [Int.max_def]; split <;> split <;> omega
theorem aHh (k:IntKind) (l:List Int) (i:Nat) (n:Int):(rows k l).set i [.int k n]=rows k (l.set i n):=by simp [rows,List.map_set]
variable [sL]
theorem xX.bWs {P:Program} {g:FuncId} {args:List D} {σ:St} {sz len:Nat} {els:List (List D)} (hc:xX P g args St0 (.osl 0 sz len) ⟨1,[(0,⟨sz,els⟩)]⟩) (hp:D.xU args=true) (he:∀ e ∈ els,D.xU e=true) :
  xX P g args σ (.osl σ.nx sz len) ⟨σ.nx+1,(σ.nx,⟨sz,els⟩) :: σ.xS⟩:=by
 have h:=xX.own (σ:=σ) hc hp;simpa [yM,Ob.shift,nJ _ he,D.shift] using h
theorem aSh {key m n sz len:Nat} {els:List (List D)} (hs:0<sz) (hp:∀ e ∈ els,D.xU e=true) (hl:len=els.length) {ρ:Nat->Nat} {r:List (Nat × Ob)}:vw ⟨m,(key,⟨sz,els⟩) :: r⟩ ⟨n,[]⟩ ρ (.osl key sz len) (.sl sz els):=by subst hl;simp only [vw];exact⟨trivial,hs,by simp,⟨sz,els⟩,by simp [St.get,St.look],rfl,Nat.le_refl _,by simp,hp⟩
theorem aXv {key m n sz len:Nat} {els els':List (List D)} (hs:0<sz) (hp:∀ e ∈ els',D.xU e=true) (hl:len<=els.length) (he:els.take len=els') {ρ:Nat->Nat} {r:List (Nat × Ob)}:vw ⟨m,(key,⟨sz,els⟩) :: r⟩ ⟨n,[]⟩ ρ (.osl key sz len) (.sl sz els'):=by subst he;simp only [vw];exact⟨trivial,hs,by simp,⟨sz,els⟩,by simp [St.get,St.look],rfl,hl,rfl,hp⟩
theorem xX.ret {P:Program} {g:FuncId} {args:List D} {σ σ1 σ':St} {d1 d:D} (hc:xX P g args σ d1 σ1) (hr:nB σ.nx σ1 d1 σ' d):xX P g args σ d σ':=by
 refine⟨hc.ord,fun M0 w ι vals hS hl hv=>(hc.run M0 w ι vals hS hl hv).mono fun e w' hh=>?_⟩;obtain⟨v,ι1,he,kept,sim,nx,stay,oA,hR⟩:=hh
 rcases hr with ⟨rfl,rfl⟩ | ⟨ρ,r1,r2,r3,r4,r5⟩
 ·exact⟨v,ι1,he,kept,sim,nx,stay,oA,hR⟩
 ·have hlive:∀ p ∈ σ'.xS,∃ ob,σ1.get (ρ p.1)= some ob:=fun p hp=>by obtain⟨_,ob,h,_⟩:=r4 p hp;exact⟨ob,h⟩
  refine⟨v,fun k=>ι1 (ρ k),he,kept,sim.view r4 r5,r1,fun k hk=>?_,fun k o hk=>?_,oY sim hlive _ _ hR r3⟩
  ·show ι1 (ρ k)= ι k;rw [r2 k hk]; exact stay k hk
  ·obtain⟨ob,h⟩:=hlive _ (zB hk);exact oA _ _ h
theorem aS6 {k s:Nat} {els:List (List D)} (h:els ≠ []):yX k s els = .osl k s els.length:=by cases els with
 | nil=>exact absurd rfl h
 | cons e r=>rfl
theorem aS5 {k s:Nat} {els:List (List D)} (h:els ≠ []):yW k s els = [(k,⟨s,els⟩)]:=by cases els with
 | nil=>exact absurd rfl h
 | cons e r=>rfl
def rl (ll:List (List Int)):List (List D):=ll.map fun l=>[.sl 1 (rows .i64 l)]
theorem zA (l:List (List Int)):(rl l).length=l.length:=by simp [rl]
theorem nY (l:List (List Int)) {i:Nat} (h:i<l.length):(rl l).getD i [] = [.sl 1 (rows .i64 (l.getD i []))]:=by simp [rl,List.getD,h]
theorem aCc (l:List (List Int)) (r:List Int):rl l ++ [[.sl 1 (rows .i64 r)]]=rl (l ++ [r]):=by simp [rl]
theorem bYh : rl [] = []:=rfl
theorem aCd (l:List (List Int)):∀ e ∈ rl l,D.xU e=true:=by intro e he;simp only [rl,List.mem_map] at he;obtain⟨r,_,rfl⟩:=he;have h:∀ e ∈ rows .i64 r,D.xU e=true:=uS _ r;have:(rows .i64 r).all D.xU=true:=List.all_eq_true.2 h;simp [D.xU,D.xG,this]
theorem mK (l:List (List Int)):uO (rl l):=aCd l
theorem xX.aEk {P:Program} {g:FuncId} {fn:Func} {own:List Nat} {N:Nat} {dc:DC} {rs:List yS} {args:List D} {σ:St} {d:D} {σ':St} (hm:P.follows .mixedOrders=true) (hf:P.funcs[g]?=some fn)
  (hc:xT P own fn=some (N,dc,rs)) (hla:args.length<=N)
  (h:D.tE args->wpS ⟨P,N,σ.nx,own,none⟩ dc (gT 0 args) σ (aO5 ⟨P,N,σ.nx,own,none⟩ rs d σ')):xX P g args σ d σ':=by
 unfold xT at hc
 split at hc
 ·cases hc
 ·rename_i c hb
  split at hc
  ·cases hc
  ·rename_i hname
   split at hc
   ·rename_i dc' rs' h1 h2;simp at hc;obtain⟨rfl,rfl,rfl⟩:=hc;refine xX.facts ⟨fn,hf,by simpa using hname,by rw [hb]; rfl⟩ fun hfa=>?_;exact xX.aN1 hm hf hb (by simpa using hname) h1 h2 hla (h hfa)
   ·cases hc
theorem aZ {C} {x y:DC} {f σ Q} (f0:Fr) (σ0:St) (h:wpS C x f σ (kT (fun f' σ'=>xI C f' σ' f0 σ0) Q)) (h2:wpS C y f0 σ0 Q):wpS C (.seq x y) f σ Q:= wpS_seq (aIo h fun e f' σ' hq=>by cases e with | normal=>exact aIk hq h2 | _=>exact hq)
section
variable [sL]
end
section
variable [sL]
mutual
/-- All objects that a datum names are below n. -/
def D.under (n:Nat):D->Prop
 | .ref k _ _ _=>k<n
 | .osl k _ _=>k<n
 | .sub k _ _ _=>k<n
 | .vJ k=>k<n
 | .agg cs=>D.qP n cs
 | .tup cs=>D.qP n cs
 | .fn _ cs=>D.qP n cs
 | _=>True
def D.qP (n:Nat):List D->Prop
 | []=>True
 | d :: r=>d.under n/\D.qP n r
end
theorem uB {n:Nat}:∀ {cs:List D},(∀ j,j<cs.length->(cs.getD j .top).under n)->D.qP n cs
 | [],_=>by simp only [D.qP]
 | d :: r,h=>by simp only [D.qP];exact⟨by simpa using h 0 (by simp),uB fun j hj=>by simpa using h (j+1) (by simpa using hj)⟩
theorem RP.under {M:Nat->Prop} {w:World} {n:Nat} {v:Value} {d:D} (h:RP M w v d):d.under n:=by
 induction h with
 | agg _ _ ih=>simp only [D.under]; exact uB ih
 | tup _ _ ih=>simp only [D.under]; exact uB ih
 | fn _ _ ih=>simp only [D.under]; exact uB ih
 | _=>simp only [D.under]
theorem R.under {M:Nat->Prop} {w:World} {ι:Nat->Nat} {n:Nat} {v:Value} {d:D} (h:R M w ι n v d):d.under n:=by
 induction h with
 | pure h=>exact h.under
 | ref hk _=>simp only [D.under]; exact hk
 | osl hk _ _ _ _=>simp only [D.under]; exact hk
 | sub hk _ _ _ _=>simp only [D.under]; exact hk
 | vJ hk=>simp only [D.under]; exact hk
 | agg _ _ ih=>simp only [D.under]; exact uB ih
 | tup _ _ ih=>simp only [D.under]; exact uB ih
 | fn _ _ ih=>simp only [D.under]; exact uB ih
def aM (σ:St):Prop:=∀ k o,σ.get k=some o->k<σ.nx/\∀ e ∈ o.els,D.qP σ.nx e
theorem vU.under {M0:Nat->Prop} {w:World} {σ:St} {ι:Nat->Nat} (h:vU M0 w σ ι):aM σ:=by
 intro k o hk;obtain⟨h1,h2⟩:=h.holds k o hk;refine⟨h1,fun e he=>?_⟩;obtain⟨i,hi,rfl⟩:=List.getElem_of_mem he;have e2:o.els.getD i []=o.els[i]:=by simp [List.getD,hi]
 rcases h2 with ⟨_,cur,_,_,c2,_,c4⟩ | ⟨_,es,_,_,c3⟩
 ·have hl:=c2 _ (List.getElem_mem hi);refine uB fun j hj=>?_;have:=(c4 i hi j (by omega)).2.under;rw [e2] at this;exact this
 ·obtain⟨kv,v,x,d,r1,_,r3,r4⟩:=c3 i hi;rw [e2] at r1;rw [r1];simp only [D.qP];exact⟨r3.under,r4.under,trivial⟩
theorem xX.aO8 {P:Program} {g:FuncId} {args:List D} {σ:St} {d:D} {σ':St} (ho:tO P g) (h:aM σ->xX P g args σ d σ'):xX P g args σ d σ':=⟨ho,fun M0 w ι vals hS hl hv=>(h hS.under).run M0 w ι vals hS hl hv⟩
mutual
theorem aDs {σ σ':St}:∀ {d:D},d.under σ'.nx->vw σ σ' (fun k=>k) d d
 | .top,_=>by simp only [vw]
 | .und,_=>by simp only [vw]
 | .int _ _,_=>by simp only [vw]
 | .bool _,_=>by simp only [vw]
 | .str _,_=>by simp only [vw]
 | .sl _ _,_=>by simp only [vw]; exact⟨trivial,trivial⟩
 | .xH,_=>by simp only [vw]
 | .emp,_=>by simp only [vw]
 | .agg cs,h=>by simp only [vw]; simp only [D.under] at h; exact⟨trivial,mN h⟩
 | .tup cs,h=>by simp only [vw]; simp only [D.under] at h; exact⟨trivial,mN h⟩
 | .fn _ cs,h=>by simp only [vw]; simp only [D.under] at h; exact⟨trivial,trivial,mN h⟩
 | .ref _ _ _ _,h=>by simp only [vw]; simp only [D.under] at h; exact⟨h,trivial⟩
 | .osl _ _ _,h=>by simp only [vw]; simp only [D.under] at h; exact⟨h,trivial⟩
 | .sub _ _ _ _,h=>by simp only [vw]; simp only [D.under] at h; exact⟨h,trivial⟩
 | .ptr _,_=>by simp [vw]
 | .vJ _,h=>by simp only [vw]; simp only [D.under] at h; exact⟨h,trivial⟩
 | .oE,_=>by simp only [vw]
 | .kV,_=>by simp only [vw]
 | .hZ,_=>by simp only [vw]
 | .adr _,_=>by simp only [vw]
theorem mN {σ σ':St}:∀ {cs:List D},D.qP σ'.nx cs->vwL σ σ' (fun k=>k) cs cs
 | [],_=>by simp only [vwL]
 | d :: r,h=>by simp only [vwL]; simp only [D.qP] at h; exact⟨aDs h.1,mN h.2⟩
end
theorem aTu {σ σ':St}:∀ {els:List (List D)},(∀ e ∈ els,D.qP σ'.nx e)->vwE σ σ' (fun k=>k) els els
 | [],_=>.nil
 | e :: r,h=>.cons rfl (mN (h e (by simp))) (aTu fun x hx=>h x (List.mem_cons_of_mem _ hx))
def cln : List (Nat × Ob)->List (Nat × Ob)
 | []=>[]
 | (k,o) :: r=>(k,o) :: (cln r).filter fun p=>p.1 != k
theorem nG {k k':Nat} (h:¬ k'=k):∀ l:List (Nat × Ob),St.look (l.filter fun p=>p.1 != k) k'=St.look l k'
 | []=>rfl
 | (j,o) :: r=>by
  rw [List.filter_cons]
  by_cases e:j=k
  ·rw [if_neg (by simp [e]),nG h r,xY,if_neg (by omega)]
  ·rw [if_pos (by simpa using e),xY,xY,nG h r]
theorem aSw (k:Nat):∀ l:List (Nat × Ob),St.look (cln l) k=St.look l k
 | []=>rfl
 | (j,o) :: r=>by
  unfold cln;rw [xY,xY]
  by_cases e:j=k
  ·rw [if_pos e,if_pos e]
  ·rw [if_neg e,if_neg e,nG (fun h=>e h.symm),aSw k r]
theorem aMj : ∀ {l:List (Nat × Ob)} {p:Nat × Ob},p ∈ cln l->St.look l p.1=some p.2
 | [],p,h=>by cases h
 | (j,o) :: r,p,h=>by
  unfold cln at h;rw [xY]
  rcases List.mem_cons.1 h with e | e
  ·rw [e,if_pos rfl]
  ·rw [List.mem_filter] at e;have hne:¬ j=p.1:=fun h=>by have:=e.2; simp [h] at this
   rw [if_neg hne];exact aMj e.1
theorem xX.clean {P:Program} {g:FuncId} {args:List D} {σ:St} {d:D} {nx:Nat} {xS:List (Nat × Ob)} (h:xX P g args σ d ⟨nx,cln xS⟩):xX P g args σ d ⟨nx,xS⟩:=by
 refine⟨h.ord,fun M0 w ι vals hS hl hv=>(h.run M0 w ι vals hS hl hv).mono fun e w' hh=>?_⟩;obtain⟨v,ι',h1,h2,h3,h4,h5,h6,h7⟩:=hh;have hg:∀ k,St.get ⟨nx,xS⟩ k=St.get ⟨nx,cln xS⟩ k:=fun k=>(aSw k xS).symm
 have hM:Mof M0 ι' ⟨nx,xS⟩= Mof M0 ι' ⟨nx,cln xS⟩:=by funext b;unfold Mof;simp only [hg]
 refine⟨v,ι',h1,h2,⟨h3.old,fun k o hk=>?_,fun k k' o o' a b=>?_,fun k o hk=>?_,?_⟩,h4,h5,fun k o hk=>h6 k o (by rw [<- hg]; exact hk),by rw [hM]; exact h7⟩
 ·rw [hM]; exact h3.holds k o (by rw [<- hg]; exact hk)
 ·exact h3.inj k k' o o' (by rw [<- hg]; exact a) (by rw [<- hg]; exact b)
 ·exact h3.notM k o (by rw [<- hg]; exact hk)
 ·rw [hM]; exact h3.jO
theorem nB.gone {n0:Nat} {xS:List (Nat × Ob)} {σ1:St} {d1 d:D} (hu:aM ⟨n0,xS⟩) (hk:∀ k o,St.look xS k=some o->σ1.get k=some o) (hd:vw σ1 ⟨n0,cln xS⟩ (fun k=>k) d1 d):nB n0 σ1 d1 ⟨n0,cln xS⟩ d:=
 .inr ⟨fun k=>k,Nat.le_refl _,fun _ _=>rfl,hd,fun p hp=>by have h:=aMj hp;obtain⟨h1,h2⟩:=hu p.1 p.2 h;exact⟨h1,p.2,hk _ _ h,rfl,aTu h2⟩,fun p _ q _ e=>e⟩
end
theorem mixed : Tryz.prog.follows .mixedOrders=true:=by kernel_rfl
instance : sL := ⟨[]⟩
theorem jK (v w:Nat) (hw:w<=60):aJy .i64 (v:Int) (w:Int)= ((v / 2 ^ w:Nat):Int):=by
 unfold aJy
 have e:min (w:Int).toNat IntKind.i64.bits=w:=by have:IntKind.i64.bits=64:=rfl;rw [this,Int.toNat_natCast]; omega
 rw [e,Int.fdiv_eq_ediv_of_nonneg _ (by have:(0:Int)<2 ^ w:=Int.pow_pos (by decide); omega)];simp
theorem aAb {a:Nat} (h:a<2 ^ 62):qI .and .i64 (a:Int) 1=((a % 2:Nat):Int):=by show IntKind.i64.wrap ((BitVec.ofInt 64 (a:Int)&&& BitVec.ofInt 64 1).toNat:Int)= _;rw [BitVec.ofInt_natCast,BitVec.toNat_and,BitVec.toNat_ofNat,Nat.mod_eq_of_lt (by omega)];have:(BitVec.ofInt 64 1).toNat=1:=rfl;rw [this,Nat.and_one_is_mod];exact wrap_i64 (by omega)
theorem bXl (a:Nat):((a:Int)).tmod 2=((a % 2:Nat):Int):=by rw [Int.tmod_eq_emod_of_nonneg (by omega)]; omega
theorem aEp (v w:Nat):(((v / 2 ^ w % 2:Nat):Int)== 1)= v.testBit w:=by rw [Nat.testBit_eq_decide_div_mod_eq,Bool.eq_iff_iff,beq_iff_eq,decide_eq_true_iff]; omega
namespace Rs
theorem aSi : ∀ (n:Nat) (l:List Nat),l.Nodup->(∀ x ∈ l,x<n)->l.length<=n
 | 0,[],_,_=>Nat.le_refl _
 | 0,x :: l,_,h=>by have:=h x (by simp); omega
 | n + 1,l,hn,h=>by
  have h1:=aSi n (l.filter fun x=>x != n) (hn.filter _) fun x hx=>by
   rw [List.mem_filter] at hx;have:=h x hx.1;have:x≠n:=by simpa using hx.2
   omega
  have h2:l.length<=(l.filter fun x=>x != n).length+1:=by
   clear h1
   induction l with
   | nil=>simp
   | cons y l ih=>
    rw [List.nodup_cons] at hn
    by_cases e:y=n
    ·subst e
     have:l.filter (fun x=>x != y)= l:=List.filter_eq_self.2 fun x hx=>by have:x≠y:=fun e=>hn.1 (e ▸ hx);simpa using this
     rw [List.filter_cons,if_neg (by simp),this]; simp
    ·rw [List.filter_cons,if_pos (by simpa using e)];have:=ih hn.2 fun x hx=>h x (by simp [hx]);simp; omega
  omega
def mo (u:List (Int × Int)):List (Int × D):=u.map fun p=>(p.1,.int .i64 p.2)
def wR (x:Int):List (Int × Int)->Option Int
 | []=>none
 | (k,y) :: r=>if x=k then some y else wR x r
theorem lZ (x:Int):∀ (u:List (Int × Int)) (i:Nat),(wR x u=none/\uQ x (mo u) i=none)\/∃ y j,wR x u=some y/\uQ x (mo u) i=some (j,.int .i64 y)
 | [],i=>.inl ⟨rfl,rfl⟩
 | (k,y) :: r,i=>by
  show (wR x ((k,y) :: r)= none/\uQ x ((k,.int .i64 y) :: mo r) i=none)\/∃ y' j,wR x ((k,y) :: r)= some y'/\uQ x ((k,.int .i64 y) :: mo r) i=some (j,.int .i64 y');unfold wR uQ
  by_cases h:x=k
  ·rw [if_pos h,if_pos h]; exact .inr ⟨y,i,rfl,rfl⟩
  ·rw [if_neg h,if_neg h]; exact lZ x r (i+1)
theorem oK {nx n key sz:Nat} {xS:List (Nat × Ob)} {els:List (List D)} (hs:0<sz) (hp:∀ e ∈ els,D.xU e=true) (h:St.look xS key=vS sz els) {ρ:Nat->Nat}:vw ⟨nx,xS⟩ ⟨n,[]⟩ ρ (yX key sz els) (.sl sz els):=by
 cases els with
 | nil=>simp [yX,vw]
 | cons e t=> simp only [yX,vw];exact⟨trivial,hs,by simp,⟨sz,e :: t⟩,h,rfl,Nat.le_refl _,by simp,hp⟩
end Rs
end Go.Pd

/- Part F4. -/
namespace Go.Pd
open Go Go.Proofs
open BitVec renaming isValue -> ZA
open Rs
namespace Fm
structure Use where
 x:Bool
 y:Bool
 fa:Bool
 ag:Bool
 gr:Bool
 ev:Bool
 fr:Int
def Use.row (u:Use):List D:=[.bool u.x,.bool u.y,.bool u.fa,.bool u.ag,.bool u.gr,.bool u.ev,.int .i64 u.fr]
def tF : Use:=⟨false,false,false,false,false,false,0⟩
def xZ (op:Int):Use × Bool:=
 if op<1\/21<op then(tF,false) else if op<=2 then(tF,true) else if op=3 then(⟨false,false,true,false,false,false,0⟩,true) else if op=4 then(⟨true,false,false,false,false,false,0⟩,true)
 else if op<=8 then(⟨true,true,false,false,false,false,0⟩,true) else if op<=10 then(⟨true,false,false,true,false,false,1⟩,true) else if op=11 then(⟨true,false,false,false,true,false,2⟩,true)
 else if op=12 then(⟨true,false,false,false,true,false,4⟩,true) else if op=13 then(⟨true,true,false,false,true,false,8⟩,true) else if op=14 then(⟨true,true,false,true,false,false,16⟩,true)
 else if op=15 then(⟨true,false,false,true,false,false,32⟩,true) else if op=16 then(⟨true,true,false,false,false,false,64⟩,true) else if op=17 then(⟨true,false,false,false,false,true,128⟩,true)
 else if op=18\/op=20 then(⟨true,false,false,false,false,false,256⟩,true) else(⟨true,true,false,false,false,false,256⟩,true)
end Fm
open Fm
theorem cW (op:Int):yV Tryz.prog 141 [.int .i64 op] (.tup [.agg (xZ op).1.row,.bool (xZ op).2]):=by
 have hc:op=1\/op=2\/op=3\/op=4\/op=5\/op=6\/op=7\/op=8\/op=9\/op=10\/op=11\/op=12\/op=13\/op=14\/op=15\/op=16\/op=17\/op=18\/op=19\/op=20\/op=21\/(op<1\/21<op):=by omega
 rcases hc with rfl | rfl | rfl | rfl | rfl | rfl | rfl | rfl | rfl | rfl | rfl | rfl | rfl | rfl | rfl | rfl | rfl | rfl | rfl | rfl | rfl | hc
 rotate_right
 ·have e:∀ i:Int,1<=i->i<=21->(op==i)= false:=fun i h1 h2=>by simp; omega
  refine xX.xP mixed Tryz.func141 bVn (by simp) fun hf=>?_;simp only [simprocAttr,-ZA,↓zU,↓zD,zV,zT,zW,e 1 (by omega) (by omega),e 2 (by omega) (by omega),e 3 (by omega) (by omega),e 4 (by omega) (by omega),e 5 (by omega) (by omega),e 6 (by omega) (by omega),e 7 (by omega) (by omega),e 8 (by omega) (by omega),e 9 (by omega) (by omega),e 10 (by omega) (by omega),e 11 (by omega) (by omega),e 12 (by omega) (by omega),e 13 (by omega) (by omega),e 14 (by omega) (by omega),e 15 (by omega) (by omega),e 16 (by omega) (by omega),e 17 (by omega) (by omega),e 18 (by omega) (by omega),e 19 (by omega) (by omega),e 20 (by omega) (by omega),e 21 (by omega) (by omega)];rw [show xZ op=(tF,false) from if_pos hc];exact .drop (by simp) (by simp [vw,vwL,Use.row,tF])
 all_goals
  refine xX.xP mixed Tryz.func141 bVn (by simp) fun hf=>?_;simp only [simprocAttr,-ZA,↓zU,↓zD,zV,zT,zW];exact .drop (by simp) (by simp [vw,vwL,xZ,Use.row,tF])
open Rs Fm
namespace Fm
structure Nd where
 op:Int
 i:Int
 e:Int
 g:Int
 x:Int
 y:Int
 deriving DecidableEq
def Nd.row (p:Nd):List D:=[.int .i64 p.op,.int .i64 p.i,.int .i64 p.e,.int .i64 p.g,.int .i64 p.x,.int .i64 p.y]
def xD (u:Bool) (f at_:Int):Bool:=if u=true then decide (0<=f)&& decide (f<at_) else decide (f=0)
def xM (u:Bool) (v lo hi:Int):Bool:=u&&(decide (v<lo) || decide (hi<v))
def yA (p:Nd) (k:Int):Int:=
 if (xZ p.op).2=false then 10 else
 if (xD (xZ p.op).1.x p.x k&&xD (xZ p.op).1.y p.y k)= false then 3 else
 if ((!((xZ p.op).1.fa || (xZ p.op).1.ag || (xZ p.op).1.ev)&& decide (p.i≠0)) || (!(xZ p.op).1.ev&&decide (p.e≠0)) || (!(xZ p.op).1.gr&&decide (p.g≠0)))= true then 3 else
 if (xM (xZ p.op).1.fa p.i 0 7 || xM (xZ p.op).1.ag p.i 0 3 || xM (xZ p.op).1.ev p.i 0 7 || xM (xZ p.op).1.ev p.e 0 7 || xM (xZ p.op).1.gr p.g 1 15)= true then 2 else 0
theorem jZ (op:Int):((xZ op).1.fa=false/\(xZ op).1.ag=false/\(xZ op).1.gr=false/\(xZ op).1.ev=false)\/((xZ op).1.fa=true/\(xZ op).1.ag=false/\(xZ op).1.gr=false/\(xZ op).1.ev=false) \/
  ((xZ op).1.fa=false/\(xZ op).1.ag=true/\(xZ op).1.gr=false/\(xZ op).1.ev=false)\/((xZ op).1.fa=false/\(xZ op).1.ag=false/\(xZ op).1.gr=true/\(xZ op).1.ev=false)\/((xZ op).1.fa=false/\(xZ op).1.ag=false/\(xZ op).1.gr=false/\(xZ op).1.ev=true):=by
 have hc:op=1\/op=2\/op=3\/op=4\/op=5\/op=6\/op=7\/op=8\/op=9\/op=10\/op=11\/op=12\/op=13\/op=14\/op=15\/op=16\/op=17\/op=18\/op=19\/op=20\/op=21\/(op<1\/21<op):=by omega
 rcases hc with rfl | rfl | rfl | rfl | rfl | rfl | rfl | rfl | rfl | rfl | rfl | rfl | rfl | rfl | rfl | rfl | rfl | rfl | rfl | rfl | rfl | hc
 rotate_right
 ·rw [show xZ op=(tF,false) from if_pos hc]; exact .inl ⟨rfl,rfl,rfl,rfl⟩
 all_goals simp [xZ,tF]
end Fm
theorem aZc (u:Bool) (f k:Int):yV Tryz.prog 200 [.bool u,.int .i64 f,.int .i64 k] (.bool (xD u f k)):=by
 refine xX.xP mixed Tryz.func200 bUs (by simp) fun hf=>?_
 cases u
 ·simp only [simprocAttr,-ZA,↓zU,↓zD,zV,zT,zW]
  by_cases h:f=0
  ·have e:(f==0)= true:=by simpa using h
   exact .drop (by simp) (by simp [vw,xD,e,h])
  ·have e:(f==0)= false:=by simpa using h
   exact .drop (by simp) (by simp [vw,xD,e,h])
 ·by_cases h1:0<=f
  ·by_cases h2:f<k
   ·simp only [simprocAttr,-ZA,↓zU,↓zD,zV,zT,zW,h1,h2];exact .drop (by simp) (by simp [vw,xD,h1,h2])
   ·simp only [simprocAttr,-ZA,↓zU,↓zD,zV,zT,zW,h1,h2];exact .drop (by simp) (by simp [vw,xD,h1,h2])
  ·simp only [simprocAttr,-ZA,↓zU,↓zD,zV,zT,zW,h1];exact .drop (by simp) (by simp [vw,xD,h1])
theorem yU (u:Bool) (v lo hi:Int):yV Tryz.prog 201 [.bool u,.int .i64 v,.int .i64 lo,.int .i64 hi] (.bool (xM u v lo hi)):=by
 refine xX.xP mixed Tryz.func201 bUr (by simp) fun hf=>?_
 cases u
 ·simp only [simprocAttr,-ZA,↓zU,↓zD,zV,zT,zW];exact .drop (by simp) (by simp [vw,xM])
 ·by_cases h1:v<lo
  ·simp only [simprocAttr,-ZA,↓zU,↓zD,zV,zT,zW,h1];exact .drop (by simp) (by simp [vw,xM,h1])
  ·by_cases h2:hi<v
   ·simp only [simprocAttr,-ZA,↓zU,↓zD,zV,zT,zW,h1,h2];exact .drop (by simp) (by simp [vw,xM,h1,h2])
   ·simp only [simprocAttr,-ZA,↓zU,↓zD,zV,zT,zW,h1,h2];exact .drop (by simp) (by simp [vw,xM,h1,h2])
theorem eO (p:Nd) (k:Int):yV Tryz.prog 142 [.agg p.row,.int .i64 k] (.int .i64 (yA p k)):=by
 have hk:=jZ p.op;have hu:=cW p.op
 have en:yA p k=if (xZ p.op).2=false then 10 else
  if (xD (xZ p.op).1.x p.x k&&xD (xZ p.op).1.y p.y k)= false then 3 else
  if ((!((xZ p.op).1.fa || (xZ p.op).1.ag || (xZ p.op).1.ev)&& decide (p.i≠0)) || (!(xZ p.op).1.ev&&decide (p.e≠0)) || (!(xZ p.op).1.gr&&decide (p.g≠0)))= true then 3 else
  if (xM (xZ p.op).1.fa p.i 0 7 || xM (xZ p.op).1.ag p.i 0 3 || xM (xZ p.op).1.ev p.i 0 7 || xM (xZ p.op).1.ev p.e 0 7 || xM (xZ p.op).1.gr p.g 1 15)= true then 2 else 0:=rfl
 rw [en];generalize xZ p.op=q at hk hu;obtain⟨⟨ux,uy,fa,ag,gr,ev,fr⟩,ok⟩:=q;simp only [Use.row] at hk hu ⊢;refine xX.xP mixed Tryz.func142 bTh (by simp) fun hf=>?_;simp only [simprocAttr,-ZA,↓zU,↓zD,zV,zT,zW,Nd.row]
 (repeat refine sd ?_)
 refine .go (cq hu) ?_
 cases ok
 ·simp only [simprocAttr,-ZA,↓zU,↓zD,zV,zT,zW];exact .dv
 simp only [simprocAttr,-ZA,↓zU,↓zD,zV,zT,zW];refine .go (cq (aZc ux p.x k)) ?_
 cases hx:xD ux p.x k
 ·simp only [simprocAttr,-ZA,↓zU,↓zD,zV,zT,zW];exact .dv
 simp only [simprocAttr,-ZA,↓zU,↓zD,zV,zT,zW];refine .go (cq (aZc uy p.y k)) ?_
 cases hy:xD uy p.y k
 ·simp only [simprocAttr,-ZA,↓zU,↓zD,zV,zT,zW];exact .dv
 have ob:∀ v lo hi,xM false v lo hi=false:=fun _ _ _=>rfl
 rcases hk with ⟨rfl,rfl,rfl,rfl⟩ | ⟨rfl,rfl,rfl,rfl⟩ | ⟨rfl,rfl,rfl,rfl⟩ | ⟨rfl,rfl,rfl,rfl⟩ | ⟨rfl,rfl,rfl,rfl⟩
 ·skip;by_cases hi:p.i=0
  case neg=> have ei:(p.i != 0)= true:=bne_iff_ne.2 hi;simp only [simprocAttr,-ZA,↓zU,↓zD,zV,zT,zW,ei];exact .drop (by simp) (by simp [vw,hi])
  have ei:(p.i != 0)= false:=by simpa using hi
  by_cases he:p.e=0
  case neg=> have ee:(p.e != 0)= true:=bne_iff_ne.2 he;simp only [simprocAttr,-ZA,↓zU,↓zD,zV,zT,zW,ei,ee];exact .drop (by simp) (by simp [vw,he,hi])
  have ee:(p.e != 0)= false:=by simpa using he
  by_cases hg:p.g=0
  case neg=> have eg:(p.g != 0)= true:=bne_iff_ne.2 hg;simp only [simprocAttr,-ZA,↓zU,↓zD,zV,zT,zW,ei,ee,eg];exact .drop (by simp) (by simp [vw,hg,hi,he])
  have eg:(p.g != 0)= false:=by simpa using hg
  simp only [simprocAttr,-ZA,↓zU,↓zD,zV,zT,zW,ei,ee,eg];refine .go (cq (yU false p.i 0 7)) ?_;simp only [simprocAttr,-ZA,↓zU,↓zD,zV,zT,zW,ob];refine .go (cq (yU false p.i 0 3)) ?_;simp only [simprocAttr,-ZA,↓zU,↓zD,zV,zT,zW,ob];refine .go (cq (yU false p.i 0 7)) ?_;simp only [simprocAttr,-ZA,↓zU,↓zD,zV,zT,zW,ob];refine .go (cq (yU false p.e 0 7)) ?_;simp only [simprocAttr,-ZA,↓zU,↓zD,zV,zT,zW,ob];refine .go (cq (yU false p.g 1 15)) ?_;simp only [simprocAttr,-ZA,↓zU,↓zD,zV,zT,zW,ob];exact .drop (by simp) (by simp [vw,ob,hi,he,hg])
 ·skip;by_cases he:p.e=0
  case neg=> have ee:(p.e != 0)= true:=bne_iff_ne.2 he;simp only [simprocAttr,-ZA,↓zU,↓zD,zV,zT,zW,ee];exact .drop (by simp) (by simp [vw,he])
  have ee:(p.e != 0)= false:=by simpa using he
  by_cases hg:p.g=0
  case neg=> have eg:(p.g != 0)= true:=bne_iff_ne.2 hg;simp only [simprocAttr,-ZA,↓zU,↓zD,zV,zT,zW,ee,eg];exact .drop (by simp) (by simp [vw,hg,he])
  have eg:(p.g != 0)= false:=by simpa using hg
  simp only [simprocAttr,-ZA,↓zU,↓zD,zV,zT,zW,ee,eg];refine .go (cq (yU true p.i 0 7)) ?_;cases oi:xM true p.i 0 7
  case true=> simp only [simprocAttr,-ZA,↓zU,↓zD,zV,zT,zW];exact .drop (by simp) (by simp [vw,ob,he,hg,oi])
  simp only [simprocAttr,-ZA,↓zU,↓zD,zV,zT,zW];refine .go (cq (yU false p.i 0 3)) ?_;simp only [simprocAttr,-ZA,↓zU,↓zD,zV,zT,zW,ob];refine .go (cq (yU false p.i 0 7)) ?_;simp only [simprocAttr,-ZA,↓zU,↓zD,zV,zT,zW,ob];refine .go (cq (yU false p.e 0 7)) ?_;simp only [simprocAttr,-ZA,↓zU,↓zD,zV,zT,zW,ob];refine .go (cq (yU false p.g 1 15)) ?_;simp only [simprocAttr,-ZA,↓zU,↓zD,zV,zT,zW,ob];exact .drop (by simp) (by simp [vw,ob,he,hg,oi])
 ·skip;by_cases he:p.e=0
  case neg=> have ee:(p.e != 0)= true:=bne_iff_ne.2 he;simp only [simprocAttr,-ZA,↓zU,↓zD,zV,zT,zW,ee];exact .drop (by simp) (by simp [vw,he])
  have ee:(p.e != 0)= false:=by simpa using he
  by_cases hg:p.g=0
  case neg=> have eg:(p.g != 0)= true:=bne_iff_ne.2 hg;simp only [simprocAttr,-ZA,↓zU,↓zD,zV,zT,zW,ee,eg];exact .drop (by simp) (by simp [vw,hg,he])
  have eg:(p.g != 0)= false:=by simpa using hg
  simp only [simprocAttr,-ZA,↓zU,↓zD,zV,zT,zW,ee,eg];refine .go (cq (yU false p.i 0 7)) ?_;simp only [simprocAttr,-ZA,↓zU,↓zD,zV,zT,zW,ob];refine .go (cq (yU true p.i 0 3)) ?_;cases oi:xM true p.i 0 3
  case true=> simp only [simprocAttr,-ZA,↓zU,↓zD,zV,zT,zW];exact .drop (by simp) (by simp [vw,ob,he,hg,oi])
  simp only [simprocAttr,-ZA,↓zU,↓zD,zV,zT,zW];refine .go (cq (yU false p.i 0 7)) ?_;simp only [simprocAttr,-ZA,↓zU,↓zD,zV,zT,zW,ob];refine .go (cq (yU false p.e 0 7)) ?_;simp only [simprocAttr,-ZA,↓zU,↓zD,zV,zT,zW,ob];refine .go (cq (yU false p.g 1 15)) ?_;simp only [simprocAttr,-ZA,↓zU,↓zD,zV,zT,zW,ob];exact .drop (by simp) (by simp [vw,ob,he,hg,oi])
 ·skip;by_cases hi:p.i=0
  case neg=> have ei:(p.i != 0)= true:=bne_iff_ne.2 hi;simp only [simprocAttr,-ZA,↓zU,↓zD,zV,zT,zW,ei];exact .drop (by simp) (by simp [vw,hi])
  have ei:(p.i != 0)= false:=by simpa using hi
  by_cases he:p.e=0
  case neg=> have ee:(p.e != 0)= true:=bne_iff_ne.2 he;simp only [simprocAttr,-ZA,↓zU,↓zD,zV,zT,zW,ei,ee];exact .drop (by simp) (by simp [vw,he,hi])
  have ee:(p.e != 0)= false:=by simpa using he
  simp only [simprocAttr,-ZA,↓zU,↓zD,zV,zT,zW,ei,ee];refine .go (cq (yU false p.i 0 7)) ?_;simp only [simprocAttr,-ZA,↓zU,↓zD,zV,zT,zW,ob];refine .go (cq (yU false p.i 0 3)) ?_;simp only [simprocAttr,-ZA,↓zU,↓zD,zV,zT,zW,ob];refine .go (cq (yU false p.i 0 7)) ?_;simp only [simprocAttr,-ZA,↓zU,↓zD,zV,zT,zW,ob];refine .go (cq (yU false p.e 0 7)) ?_;simp only [simprocAttr,-ZA,↓zU,↓zD,zV,zT,zW,ob];refine .go (cq (yU true p.g 1 15)) ?_;cases og:xM true p.g 1 15
  case true=> simp only [simprocAttr,-ZA,↓zU,↓zD,zV,zT,zW];exact .drop (by simp) (by simp [vw,ob,hi,he,og])
  simp only [simprocAttr,-ZA,↓zU,↓zD,zV,zT,zW];exact .drop (by simp) (by simp [vw,ob,hi,he,og])
 ·skip;by_cases hg:p.g=0
  case neg=> have eg:(p.g != 0)= true:=bne_iff_ne.2 hg;simp only [simprocAttr,-ZA,↓zU,↓zD,zV,zT,zW,eg];exact .drop (by simp) (by simp [vw,hg])
  have eg:(p.g != 0)= false:=by simpa using hg
  simp only [simprocAttr,-ZA,↓zU,↓zD,zV,zT,zW,eg];refine .go (cq (yU false p.i 0 7)) ?_;simp only [simprocAttr,-ZA,↓zU,↓zD,zV,zT,zW,ob];refine .go (cq (yU false p.i 0 3)) ?_;simp only [simprocAttr,-ZA,↓zU,↓zD,zV,zT,zW,ob];refine .go (cq (yU true p.i 0 7)) ?_;cases oi:xM true p.i 0 7
  case true=> simp only [simprocAttr,-ZA,↓zU,↓zD,zV,zT,zW];exact .drop (by simp) (by simp [vw,ob,hg,oi])
  simp only [simprocAttr,-ZA,↓zU,↓zD,zV,zT,zW];refine .go (cq (yU true p.e 0 7)) ?_;cases oe:xM true p.e 0 7
  case true=> simp only [simprocAttr,-ZA,↓zU,↓zD,zV,zT,zW];exact .drop (by simp) (by simp [vw,ob,hg,oi,oe])
  simp only [simprocAttr,-ZA,↓zU,↓zD,zV,zT,zW];refine .go (cq (yU false p.g 1 15)) ?_;simp only [simprocAttr,-ZA,↓zU,↓zD,zV,zT,zW,ob];exact .drop (by simp) (by simp [vw,ob,hg,oi,oe])
open Rs Fm
namespace Fm
def nd0 : Nd:=⟨0,0,0,0,0,0⟩
def ndR (l:List Nd):List (List D):=l.map Nd.row
theorem xJ (l:List Nd):(ndR l).length=l.length:=by simp [ndR]
theorem uN (l:List Nd) {i:Nat} (h:i<l.length):(ndR l).getD i []=(l.getD i nd0).row:=by simp [ndR,List.getD,h]
theorem iJ (l:List Nd):∀ e ∈ ndR l,D.xU e=true:=by intro e he;simp only [ndR,List.mem_map] at he;obtain⟨p,_,rfl⟩:=he;simp [Nd.row,D.xU,D.xG]
def aTf : List Nd->Int->Int
 | [],_=>0
 | p :: r,i=>if yA p i≠0 then yA p i else aTf r (i+1)
def yY (f:List Nd):Int:=if f = [] then 3 else if 200<f.length then 8 else aTf f 0
theorem aK2 {f:List Nd}:∀ {i:Int},aTf f i=0->∀ k,k<f.length->yA (f.getD k nd0) (i+k)= 0:=by
 induction f with
 | nil=>intro i _ k hk; simp at hk
 | cons p r ih=>
  intro i h k hk;unfold aTf at h
  by_cases hp:yA p i≠0
  ·rw [if_pos hp] at h; exact absurd h hp
  ·rw [if_neg hp] at h
   cases k with
   | zero=>simpa using hp
   | succ k=> have:=ih h k (by simpa using hk);rw [List.getD_cons_succ,show i+((k+1:Nat):Int)= i+1+k by omega];exact this
end Fm
theorem mB (f:List Nd):yV Tryz.prog 100 [.sl 6 (ndR f)] (.int .i64 (yY f)):=by
 refine xX.xP mixed Tryz.func100 bT8 (by simp) fun hf=>?_;simp only [D.tE,D.fact,xJ] at hf;have hlen:=hf.1.1
 by_cases h1:f.length=0
 ·have e1:((f.length:Int)== 0)= true:=by simpa using h1
  simp only [simprocAttr,-ZA,↓zU,↓zD,zV,zT,zW,xJ,e1];rw [show yY f=3 from if_pos (List.length_eq_zero_iff.1 h1)];exact .same
 have e1:((f.length:Int)== 0)= false:=by simpa using h1
 have hne:f ≠ []:=fun e=>h1 (by rw [e]; rfl)
 by_cases h2:200<f.length
 ·have h2':(200:Int)<(f.length:Int):=by omega
  simp only [simprocAttr,-ZA,↓zU,↓zD,zV,zT,zW,xJ,e1,h2'];rw [show yY f=8 by rw [yY,if_neg hne,if_pos h2]];exact .same
 have h2':¬ (200:Int)<(f.length:Int):=by omega
 rw [show yY f=aTf f 0 by rw [yY,if_neg hne,if_neg h2]];simp only [simprocAttr,-ZA,↓zU,↓zD,zV,zT,zW,xJ,e1,h2']
 refine xW (fun k:Nat=>[(14,.int .i64 k),(13,.int .i64 f.length),(12,.sl 6 (ndR f))]) (fun _=>⟨0,[]⟩) (fun k=>k<=f.length/\aTf f 0=aTf (f.drop k) k) (fun k=>f.length-k) 0 ⟨Nat.zero_le _,rfl⟩ ?_ ?_
 ·(refine xI.same ?_; simp [xR,Fr.get])
 intro k ⟨hk,hi⟩;refine xQ mixed ?_;by_cases h:k<f.length
 case neg=>
  have hd:¬ ((k:Int)<(f.length:Int)):=by omega
  rw [List.drop_eq_nil_of_le (by omega),aTf] at hi;simp only [simprocAttr,-ZA,↓zU,↓zD,zV,zT,zW,hd];rw [hi];exact .same
 have hd:((k:Int)<(f.length:Int)):=by omega
 rw [drop_cons (d:=nd0) h,aTf] at hi;have hg:=uN f h;generalize f.getD k nd0=p at hg hi;simp only [simprocAttr,-ZA,↓zU,↓zD,zV,zT,zW,hd,xJ,hg,Nd.row]
 (repeat refine sd ?_)
 refine .go (xX.yN (eO p k) (by simp [D.xU,D.xG,Nd.row])) ?_
 by_cases he:yA p k=0
 ·have e:(yA p k != 0)= false:=by simpa using he
  rw [if_neg (by simpa using he)] at hi;simp only [simprocAttr,-ZA,↓zU,↓zD,zV,zT,zW,e];refine⟨k+1,⟨by omega,hi⟩,?_,by omega⟩
  (refine xI.view (fun k=>k) (by simp) (by simp) ?_ (by simp [stays]) (by simp [vC]); simp [vwF,vw,vwL,Fr.get])
  exact wrap_i64 (by omega)
 ·have e:(yA p k != 0)= true:=bne_iff_ne.2 he;rw [if_pos he] at hi;simp only [simprocAttr,-ZA,↓zU,↓zD,zV,zT,zW,e];rw [hi];exact .dv
open Rs Fm
namespace Fm
end Fm
theorem aBr (p:Nd) (u:Use):yV Tryz.prog 112 [.agg p.row,.agg u.row] (.int .i64 u.fr):=by
 refine xX.xP mixed Tryz.func112 bT4 (by simp) fun hf=>?_;simp only [simprocAttr,-ZA,↓zU,↓zD,zV,zT,zW,Nd.row,Use.row]
 (repeat refine sd ?_)
 exact .dv
theorem aBs (p:Nd) (u:Use) (h:u.fa=true->0<=p.i/\p.i<=7):yV Tryz.prog 204 [.agg p.row,.agg u.row] (.int .i64 (if u.fa=true then((2 ^ p.i.toNat:Nat):Int) else 0)):=by
 refine xX.xP mixed Tryz.func204 bUp (by simp) fun hf=>?_
 cases hu:u.fa
 ·simp only [simprocAttr,-ZA,↓zU,↓zD,zV,zT,zW,Nd.row,Use.row,hu]
  (repeat refine sd ?_)
  exact .dv
 ·obtain⟨i,hi⟩:=Int.eq_ofNat_of_zero_le (h hu).1;have hi7:=(h hu).2;simp only [simprocAttr,-ZA,↓zU,↓zD,zV,zT,zW,Nd.row,Use.row,hu,hi,bXc (show i<=61 by omega)]
  (repeat refine sd ?_)
  exact .dv
theorem aFu (p:Nd) (u:Use) (h:u.ag=true->0<=p.i/\p.i<=7):yV Tryz.prog 203 [.agg p.row,.agg u.row] (.int .i64 (if u.ag=true then((2 ^ p.i.toNat:Nat):Int) else p.g)):=by
 refine xX.xP mixed Tryz.func203 bUq (by simp) fun hf=>?_
 cases hu:u.ag
 ·simp only [simprocAttr,-ZA,↓zU,↓zD,zV,zT,zW,Nd.row,Use.row,hu]
  (repeat refine sd ?_)
  exact .dv
 ·obtain⟨i,hi⟩:=Int.eq_ofNat_of_zero_le (h hu).1;have hi7:=(h hu).2;simp only [simprocAttr,-ZA,↓zU,↓zD,zV,zT,zW,Nd.row,Use.row,hu,hi,bXc (show i<=61 by omega)]
  (repeat refine sd ?_)
  exact .dv
end Go.Pd
