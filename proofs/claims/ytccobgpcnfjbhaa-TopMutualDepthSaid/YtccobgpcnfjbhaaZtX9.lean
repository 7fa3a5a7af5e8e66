/- Part X9. -/
import Derived.Test.YtccobgpcnfjbhaaZtXS
import Derived.Test.YtccobgpcnfjbhaaZtCode
set_option linter.unusedSectionVars false
set_option linter.unusedVariables false
set_option linter.unusedSimpArgs false
set_option linter.defProp false
set_option maxRecDepth 20000
set_option maxHeartbeats 1000000
open Go.Proofs.Try
namespace Go.Pd
open Go Go.Proofs
theorem RQ {n:Nat} (hn:n<=61):ud .i64 1 (n:Int)= ((2 ^ n:Nat):Int):=V1 (by omega)
theorem u6 {α:Type} {l:List α} {k:Nat} {d:α} (h:k<l.length):l.take (k+1)= l.take k ++ [l.getD k d]:=by rw [List.take_add_one]; simp [List.getD,h]
theorem drop_cons {α:Type} {l:List α} {k:Nat} {d:α} (h:k<l.length):l.drop k=l.getD k d :: l.drop (k+1):=by simp [List.getD,h]
theorem zH {α:Type} {l:List α} {k:Nat} {d:α} (h:k<l.length):l.getD k d ∈ l:=by simp [List.getD,h]
theorem bR {α:Type} {l:List α} {k:Nat} (h:k=l.length):l.take k=l:=by rw [h,List.take_length]
theorem SW (x y:Int):(if x<y then y else x)= max x y:=by rw [Int.max_def]; split <;> split <;> omega
section
variable [vU]
theorem xW.ret {P:Program} {g:FuncId} {args:List D} {σ σ1 σ':St} {d1 d:D} (hc:xW P g args σ d1 σ1) (hr:eU σ.nx σ1 d1 σ' d):xW P g args σ d σ':=by
 refine⟨hc.ord,λM0 w ι vals hS hl hv=>(hc.run M0 w ι vals hS hl hv).mono λe w' hh=>?_⟩;obtain⟨v,ι1,he,kept,pY,nx,stay,sW,hR⟩:=hh
 rcases hr with ⟨rfl,rfl⟩ | ⟨ρ,r1,r2,r3,r4,r5⟩
 ·exact⟨v,ι1,he,kept,pY,nx,stay,sW,hR⟩
 ·have hlive:∀ p ∈ σ'.xY,∃ ob,σ1.get (ρ p.1)= some ob:=λp hp=>by obtain⟨_,ob,h,_⟩:=r4 p hp;exact⟨ob,h⟩
  refine⟨v,λk=>ι1 (ρ k),he,kept,pY.view r4 r5,r1,λk hk=>?_,λk o hk=>?_,oP pY hlive _ _ hR r3⟩
  ·show ι1 (ρ k)= ι k;rw [r2 k hk]; exact stay k hk
  ·obtain⟨ob,h⟩:=hlive _ (wT hk);exact sW _ _ h
theorem mH {k s:Nat} {xZ:List (List D)} (h:xZ ≠ []):yH k s xZ = .xP k s xZ.length:=by cases xZ with
 | nil=>exact absurd rfl h
 | cons e r=>rfl
theorem Z0 {k s:Nat} {xZ:List (List D)} (h:xZ ≠ []):yD k s xZ = [(k,⟨s,xZ⟩)]:=by cases xZ with
 | nil=>exact absurd rfl h
 | cons e r=>rfl
def rl (ll:List (List Int)):List (List D):=ll.map λl=>[.sl 1 (rows .i64 l)]
theorem pB (l:List (List Int)):(rl l).length=l.length:=by simp [rl]
theorem wu (l:List (List Int)) {i:Nat} (h:i<l.length):(rl l).getD i [] = [.sl 1 (rows .i64 (l.getD i []))]:=by simp [rl,List.getD,h]
end
section
variable [vU]
end
section
variable [vU]
mutual
/-- All objects that a datum names are below n. -/
def D.under (n:Nat):D->Prop
 | .ref k _ _ _=>k<n
 | .xP k _ _=>k<n
 | .sub k _ _ _=>k<n
 | .xG k=>k<n
 | .agg cs=>D.wE n cs
 | .xI cs=>D.wE n cs
 | .fn _ cs=>D.wE n cs
 | _=>True
def D.wE (n:Nat):List D->Prop
 | []=>True
 | d :: r=>d.under n/\D.wE n r
end
theorem sX {n:Nat}:∀ {cs:List D},(∀ j,j<cs.length->(cs.getD j .top).under n)->D.wE n cs
 | [],_=>by simp only [D.wE]
 | d :: r,h=>by simp only [D.wE];exact⟨by simpa using h 0 (by simp),sX λj hj=>by simpa using h (j+1) (by simpa using hj)⟩
theorem RP.under {M:Nat->Prop} {w:World} {n:Nat} {v:Value} {d:D} (h:RP M w v d):d.under n:=by
 induction h with
 | agg _ _ ih=>simp only [D.under]; exact sX ih
 | xI _ _ ih=>simp only [D.under]; exact sX ih
 | fn _ _ ih=>simp only [D.under]; exact sX ih
 | _=>simp only [D.under]
theorem R.under {M:Nat->Prop} {w:World} {ι:Nat->Nat} {n:Nat} {v:Value} {d:D} (h:R M w ι n v d):d.under n:=by
 induction h with
 | pure h=>exact h.under
 | ref hk _=>simp only [D.under]; exact hk
 | xP hk _ _ _ _=>simp only [D.under]; exact hk
 | sub hk _ _ _ _=>simp only [D.under]; exact hk
 | xG hk=>simp only [D.under]; exact hk
 | agg _ _ ih=>simp only [D.under]; exact sX ih
 | xI _ _ ih=>simp only [D.under]; exact sX ih
 | fn _ _ ih=>simp only [D.under]; exact sX ih
def lB (σ:St):Prop:=∀ k o,σ.get k=some o->k<σ.nx/\∀ e ∈ o.xZ,D.wE σ.nx e
theorem yC.under {M0:Nat->Prop} {w:World} {σ:St} {ι:Nat->Nat} (h:yC M0 w σ ι):lB σ:=by
 intro k o hk;obtain⟨h1,h2⟩:=h.holds k o hk;refine⟨h1,λe he=>?_⟩;obtain⟨i,hi,rfl⟩:=List.getElem_of_mem he;have e2:o.xZ.getD i []=o.xZ[i]:=by simp [List.getD,hi]
 rcases h2 with ⟨_,cur,_,_,c2,_,c4⟩ | ⟨_,es,_,_,c3⟩
 ·have hl:=c2 _ (List.getElem_mem hi);refine sX λj hj=>?_;have:=(c4 i hi j (by omega)).2.under;rw [e2] at this;exact this
 ·obtain⟨kv,v,x,d,r1,_,r3,r4⟩:=c3 i hi;rw [e2] at r1;rw [r1];simp only [D.wE];exact⟨r3.under,r4.under,trivial⟩
theorem xW.wV {P:Program} {g:FuncId} {args:List D} {σ:St} {d:D} {σ':St} (ho:oI P g) (h:lB σ->xW P g args σ d σ'):xW P g args σ d σ':=⟨ho,λM0 w ι vals hS hl hv=>(h hS.under).run M0 w ι vals hS hl hv⟩
mutual
theorem VC {σ σ':St}:∀ {d:D},d.under σ'.nx->vw σ σ' (λk=>k) d d
 | .top,_=>by simp only [vw]
 | .vP,_=>by simp only [vw]
 | .int _ _,_=>by simp only [vw]
 | .bool _,_=>by simp only [vw]
 | .str _,_=>by simp only [vw]
 | .sl _ _,_=>by simp only [vw]; exact⟨trivial,trivial⟩
 | .xU,_=>by simp only [vw]
 | .emp,_=>by simp only [vw]
 | .agg cs,h=>by simp only [vw]; simp only [D.under] at h; exact⟨trivial,mN h⟩
 | .xI cs,h=>by simp only [vw]; simp only [D.under] at h; exact⟨trivial,mN h⟩
 | .fn _ cs,h=>by simp only [vw]; simp only [D.under] at h; exact⟨trivial,trivial,mN h⟩
 | .ref _ _ _ _,h=>by simp only [vw]; simp only [D.under] at h; exact⟨h,trivial⟩
 | .xP _ _ _,h=>by simp only [vw]; simp only [D.under] at h; exact⟨h,trivial⟩
 | .sub _ _ _ _,h=>by simp only [vw]; simp only [D.under] at h; exact⟨h,trivial⟩
 | .ptr _,_=>by simp [vw]
 | .xG _,h=>by simp only [vw]; simp only [D.under] at h; exact⟨h,trivial⟩
 | .sY,_=>by simp only [vw]
 | .uA,_=>by simp only [vw]
 | .uL,_=>by simp only [vw]
 | .kI _,_=>by simp only [vw]
theorem mN {σ σ':St}:∀ {cs:List D},D.wE σ'.nx cs->rN σ σ' (λk=>k) cs cs
 | [],_=>by simp only [rN]
 | d :: r,h=>by simp only [rN]; simp only [D.wE] at h; exact⟨VC h.1,mN h.2⟩
end
theorem mM {σ σ':St}:∀ {xZ:List (List D)},(∀ e ∈ xZ,D.wE σ'.nx e)->jr σ σ' (λk=>k) xZ xZ
 | [],_=>.nil
 | e :: r,h=>.cons rfl (mN (h e (by simp))) (mM λx hx=>h x (List.mem_cons_of_mem _ hx))
def uj : List (Nat × Ob)->List (Nat × Ob)
 | []=>[]
 | (k,o) :: r=>(k,o) :: (uj r).filter λp=>p.1 != k
theorem lZ {k k':Nat} (h:¬ k'=k):∀ l:List (Nat × Ob),St.look (l.filter λp=>p.1 != k) k'=St.look l k'
 | []=>rfl
 | (j,o) :: r=>by
  rw [List.filter_cons]
  by_cases e:j=k
  ·rw [if_neg (by simp [e]),lZ h r,xX,if_neg (by omega)]
  ·rw [if_pos (by simpa using e),xX,xX,lZ h r]
theorem mJ (k:Nat):∀ l:List (Nat × Ob),St.look (uj l) k=St.look l k
 | []=>rfl
 | (j,o) :: r=>by
  unfold uj;rw [xX,xX]
  by_cases e:j=k
  ·rw [if_pos e,if_pos e]
  ·rw [if_neg e,if_neg e,lZ (λh=>e h.symm),mJ k r]
theorem rS : ∀ {l:List (Nat × Ob)} {p:Nat × Ob},p ∈ uj l->St.look l p.1=some p.2
 | [],p,h=>by cases h
 | (j,o) :: r,p,h=>by
  unfold uj at h;rw [xX]
  rcases List.mem_cons.1 h with e | e
  ·rw [e,if_pos rfl]
  ·rw [List.mem_filter] at e;have hne:¬ j=p.1:=λh=>by have:=e.2; simp [h] at this
   rw [if_neg hne];exact rS e.1
theorem xW.clean {P:Program} {g:FuncId} {args:List D} {σ:St} {d:D} {nx:Nat} {xY:List (Nat × Ob)} (h:xW P g args σ d ⟨nx,uj xY⟩):xW P g args σ d ⟨nx,xY⟩:=by
 refine⟨h.ord,λM0 w ι vals hS hl hv=>(h.run M0 w ι vals hS hl hv).mono λe w' hh=>?_⟩;obtain⟨v,ι',h1,h2,h3,h4,h5,h6,h7⟩:=hh;have hg:∀ k,St.get ⟨nx,xY⟩ k=St.get ⟨nx,uj xY⟩ k:=λk=>(mJ k xY).symm
 have hM:yR M0 ι' ⟨nx,xY⟩= yR M0 ι' ⟨nx,uj xY⟩:=by funext b;unfold yR;simp only [hg]
 refine⟨v,ι',h1,h2,⟨h3.uJ,λk o hk=>?_,λk k' o o' a b=>?_,λk o hk=>?_,?_⟩,h4,h5,λk o hk=>h6 k o (by rw [<- hg]; exact hk),by rw [hM]; exact h7⟩
 ·rw [hM]; exact h3.holds k o (by rw [<- hg]; exact hk)
 ·exact h3.inj k k' o o' (by rw [<- hg]; exact a) (by rw [<- hg]; exact b)
 ·exact h3.notM k o (by rw [<- hg]; exact hk)
 ·rw [hM]; exact h3.tN
theorem eU.gone {n0:Nat} {xY:List (Nat × Ob)} {σ1:St} {d1 d:D} (hu:lB ⟨n0,xY⟩) (hk:∀ k o,St.look xY k=some o->σ1.get k=some o) (hd:vw σ1 ⟨n0,uj xY⟩ (λk=>k) d1 d):eU n0 σ1 d1 ⟨n0,uj xY⟩ d:=
 .inr ⟨λk=>k,Nat.le_refl _,λ_ _=>rfl,hd,λp hp=>by have h:=rS hp;obtain⟨h1,h2⟩:=hu p.1 p.2 h;exact⟨h1,p.2,hk _ _ h,rfl,mM h2⟩,λp _ q _ e=>e⟩
end
theorem mixed : prog.follows .mixedOrders=true:=by kernel_rfl
instance : vU := ⟨[], []⟩
theorem zJ {g:FuncId} {fn:Func} {own:List Nat} {N:Nat} {dc:DC} {rs:List oV} {args:List D} {σ:St} {d:D} {σ':St} (hf:prog.funcs[g]?=some fn) (hc:xV prog own fn=some (N,dc,rs))
  (h:D.nE args->aD ⟨prog,N,σ.nx,own,none⟩ dc (rn ⟨prog,N,σ.nx,own,none⟩ rs d σ') (oS 0 args) σ) (hla:args.length<=N:=by simp):xW prog g args σ d σ':=xW.QJ mixed hf hc hla h
theorem Yj (v w:Nat) (hw:w<=60):ue .i64 (v:Int) (w:Int)= ((v / 2 ^ w:Nat):Int):=by
 unfold ue
 have e:min (w:Int).toNat IntKind.i64.bits=w:=by have:IntKind.i64.bits=64:=rfl;rw [this,Int.toNat_natCast]; omega
 rw [e,Int.fdiv_eq_ediv_of_nonneg _ (by have:(0:Int)<2 ^ w:=Int.pow_pos (by decide); omega)];simp
theorem UF {a:Nat} (h:a<2 ^ 62):rL .and .i64 (a:Int) 1=((a % 2:Nat):Int):=by show IntKind.i64.wrap ((BitVec.ofInt 64 (a:Int)&&& BitVec.ofInt 64 1).toNat:Int)= _;rw [BitVec.ofInt_natCast,BitVec.toNat_and,BitVec.toNat_ofNat,Nat.mod_eq_of_lt (by omega)];have:(BitVec.ofInt 64 1).toNat=1:=rfl;rw [this,Nat.and_one_is_mod];exact wrap_i64 (by omega)
namespace Rs
theorem qv : ∀ (n:Nat) (l:List Nat),l.Nodup->(∀ x ∈ l,x<n)->l.length<=n
 | 0,[],_,_=>Nat.le_refl _
 | 0,x :: l,_,h=>by have:=h x (by simp); omega
 | n + 1,l,hn,h=>by
  have h1:=qv n (l.filter λx=>x != n) (hn.filter _) λx hx=>by
   rw [List.mem_filter] at hx;have:=h x hx.1;have:x≠n:=by simpa using hx.2
   omega
  have h2:l.length<=(l.filter λx=>x != n).length+1:=by
   clear h1
   induction l with
   | nil=>simp
   | cons y l ih=>
    rw [List.nodup_cons] at hn
    by_cases e:y=n
    ·subst e
     have:l.filter (λx=>x != y)= l:=List.filter_eq_self.2 λx hx=>by have:x≠y:=λe=>hn.1 (e ▸ hx);simpa using this
     rw [List.filter_cons,if_neg (by simp),this]; simp
    ·rw [List.filter_cons,if_pos (by simpa using e)];have:=ih hn.2 λx hx=>h x (by simp [hx]);simp; omega
  omega
def mo (u:List (Int × Int)):List (Int × D):=u.map λp=>(p.1,.int .i64 p.2)
def wM (x:Int):List (Int × Int)->Option Int
 | []=>none
 | (k,y) :: r=>if x=k then some y else wM x r
theorem mA (x:Int):∀ (u:List (Int × Int)) (i:Nat),(wM x u=none/\wD x (mo u) i=none)\/∃ y j,wM x u=some y/\wD x (mo u) i=some (j,.int .i64 y)
 | [],i=>.inl ⟨rfl,rfl⟩
 | (k,y) :: r,i=>by
  show (wM x ((k,y) :: r)= none/\wD x ((k,.int .i64 y) :: mo r) i=none)\/∃ y' j,wM x ((k,y) :: r)= some y'/\wD x ((k,.int .i64 y) :: mo r) i=some (j,.int .i64 y');unfold wM wD
  by_cases h:x=k
  ·rw [if_pos h,if_pos h]; exact .inr ⟨y,i,rfl,rfl⟩
  ·rw [if_neg h,if_neg h]; exact mA x r (i+1)
theorem jQ {nx n key sz:Nat} {xY:List (Nat × Ob)} {xZ:List (List D)} (hs:0<sz) (hp:∀ e ∈ xZ,D.xJ e=true) (h:St.look xY key=vF sz xZ) {ρ:Nat->Nat}:vw ⟨nx,xY⟩ ⟨n,[]⟩ ρ (yH key sz xZ) (.sl sz xZ):=by
 cases xZ with
 | nil=>simp [yH,vw]
 | cons e t=> simp only [yH,vw];exact⟨trivial,hs,by simp,⟨sz,e :: t⟩,h,rfl,Nat.le_refl _,by simp,hp⟩
end Rs
end Go.Pd
