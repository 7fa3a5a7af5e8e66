/- Part XH. -/
import Derived.Test.YtjklmijiccabfaaGreatRX9
set_option linter.unusedSectionVars false
set_option linter.unusedVariables false
set_option linter.unusedSimpArgs false
set_option linter.defProp false
set_option maxRecDepth 20000
set_option maxHeartbeats 1000000
namespace Go.Pd
open Go Go.Proofs
section
variable [Tabs]
mutual
/-- All objects that a datum names are below n. -/
def D.under (n:Nat):D->Prop
 | .ref k _ _ _=>k<n
 | .osl k _ _=>k<n
 | .sub k _ _ _=>k<n
 | .mref k=>k<n
 | .agg cs=>D.underL n cs
 | .tup cs=>D.underL n cs
 | .fn _ cs=>D.underL n cs
 | _=>True
def D.underL (n:Nat):List D->Prop
 | []=>True
 | d :: r=>d.under n/\D.underL n r
end
theorem underL_of {n:Nat}:∀ {cs:List D},(∀ j,j<cs.length->(cs.getD j .top).under n)->D.underL n cs
 | [],_=>by simp only [D.underL]
 | d :: r,h=>by
  simp only [D.underL]
  exact⟨by simpa using h 0 (by simp),underL_of fun j hj=>by simpa using h (j+1) (by simpa using hj)⟩
theorem RP.under {M:Nat->Prop} {w:World} {n:Nat} {v:Value} {d:D} (h:RP M w v d):d.under n:=by
 induction h with
 | agg _ _ ih=>simp only [D.under]; exact underL_of ih
 | tup _ _ ih=>simp only [D.under]; exact underL_of ih
 | fn _ _ ih=>simp only [D.under]; exact underL_of ih
 | _=>simp only [D.under]
theorem R.under {M:Nat->Prop} {w:World} {ι:Nat->Nat} {n:Nat} {v:Value} {d:D} (h:R M w ι n v d):d.under n:=by
 induction h with
 | pure h=>exact h.under
 | ref hk _=>simp only [D.under]; exact hk
 | osl hk _ _ _ _=>simp only [D.under]; exact hk
 | sub hk _ _ _ _=>simp only [D.under]; exact hk
 | mref hk=>simp only [D.under]; exact hk
 | agg _ _ ih=>simp only [D.under]; exact underL_of ih
 | tup _ _ ih=>simp only [D.under]; exact underL_of ih
 | fn _ _ ih=>simp only [D.under]; exact underL_of ih
def UnderSt (σ:St):Prop:=∀ k o,σ.get k=some o->k<σ.nx/\∀ e ∈ o.els,D.underL σ.nx e
theorem SimS.under {M0:Nat->Prop} {w:World} {σ:St} {ι:Nat->Nat} (h:SimS M0 w σ ι):UnderSt σ:=by
 intro k o hk
 obtain⟨h1,h2⟩:=h.holds k o hk
 refine⟨h1,fun e he=>?_⟩
 obtain⟨i,hi,rfl⟩:=List.getElem_of_mem he
 have e2:o.els.getD i []=o.els[i]:=by simp [List.getD,hi]
 rcases h2 with ⟨_,cur,_,_,c2,_,c4⟩ | ⟨_,es,_,_,c3⟩
 ·have hl:=c2 _ (List.getElem_mem hi)
  refine underL_of fun j hj=>?_
  have:=(c4 i hi j (by omega)).2.under
  rw [e2] at this
  exact this
 ·obtain⟨kv,v,x,d,r1,_,r3,r4⟩:=c3 i hi
  rw [e2] at r1
  rw [r1]
  simp only [D.underL]
  exact⟨r3.under,r4.under,trivial⟩
theorem CallT.unders {P:Program} {g:FuncId} {args:List D} {σ:St} {d:D} {σ':St} (ho:Ordinary P g) (h:UnderSt σ->CallT P g args σ d σ'):CallT P g args σ d σ':=
 ⟨ho,fun M0 w ι vals hS hl hv=>(h hS.under).run M0 w ι vals hS hl hv⟩
mutual
theorem vw_self {σ σ':St}:∀ {d:D},d.under σ'.nx->vw σ σ' (fun k=>k) d d
 | .top,_=>by simp only [vw]
 | .und,_=>by simp only [vw]
 | .int _ _,_=>by simp only [vw]
 | .bool _,_=>by simp only [vw]
 | .str _,_=>by simp only [vw]
 | .sl _ _,_=>by simp only [vw]; exact⟨trivial,trivial⟩
 | .nils,_=>by simp only [vw]
 | .emp,_=>by simp only [vw]
 | .agg cs,h=>by simp only [vw]; simp only [D.under] at h; exact⟨trivial,vwL_self h⟩
 | .tup cs,h=>by simp only [vw]; simp only [D.under] at h; exact⟨trivial,vwL_self h⟩
 | .fn _ cs,h=>by simp only [vw]; simp only [D.under] at h; exact⟨trivial,trivial,vwL_self h⟩
 | .ref _ _ _ _,h=>by simp only [vw]; simp only [D.under] at h; exact⟨h,trivial⟩
 | .osl _ _ _,h=>by simp only [vw]; simp only [D.under] at h; exact⟨h,trivial⟩
 | .sub _ _ _ _,h=>by simp only [vw]; simp only [D.under] at h; exact⟨h,trivial⟩
 | .ptr _,_=>by simp only [vw]
 | .mref _,h=>by simp only [vw]; simp only [D.under] at h; exact⟨h,trivial⟩
 | .nilp,_=>by simp only [vw]
 | .nilm,_=>by simp only [vw]
 | .nilf,_=>by simp only [vw]
 | .adr _,_=>by simp only [vw]
theorem vwL_self {σ σ':St}:∀ {cs:List D},D.underL σ'.nx cs->vwL σ σ' (fun k=>k) cs cs
 | [],_=>by simp only [vwL]
 | d :: r,h=>by simp only [vwL]; simp only [D.underL] at h; exact⟨vw_self h.1,vwL_self h.2⟩
end
theorem vwE_self {σ σ':St}:∀ {els:List (List D)},(∀ e ∈ els,D.underL σ'.nx e)->vwE σ σ' (fun k=>k) els els
 | [],_=>.nil
 | e :: r,h=>.cons rfl (vwL_self (h e (by simp))) (vwE_self fun x hx=>h x (List.mem_cons_of_mem _ hx))
def cln : List (Nat × Ob)->List (Nat × Ob)
 | []=>[]
 | (k,o) :: r=>(k,o) :: (cln r).filter fun p=>p.1 != k
theorem look_filter {k k':Nat} (h:¬ k'=k):∀ l:List (Nat × Ob),St.look (l.filter fun p=>p.1 != k) k'=St.look l k'
 | []=>rfl
 | (j,o) :: r=>by
  rw [List.filter_cons]
  by_cases e:j=k
  ·rw [if_neg (by simp [e]),look_filter h r,look_cons,if_neg (by omega)]
  ·rw [if_pos (by simpa using e),look_cons,look_cons,look_filter h r]
theorem look_cln (k:Nat):∀ l:List (Nat × Ob),St.look (cln l) k=St.look l k
 | []=>rfl
 | (j,o) :: r=>by
  unfold cln
  rw [look_cons,look_cons]
  by_cases e:j=k
  ·rw [if_pos e,if_pos e]
  ·rw [if_neg e,if_neg e,look_filter (fun h=>e h.symm),look_cln k r]
theorem cln_mem : ∀ {l:List (Nat × Ob)} {p:Nat × Ob},p ∈ cln l->St.look l p.1=some p.2
 | [],p,h=>by cases h
 | (j,o) :: r,p,h=>by
  unfold cln at h
  rw [look_cons]
  rcases List.mem_cons.1 h with e | e
  ·rw [e,if_pos rfl]
  ·rw [List.mem_filter] at e
   have hne:¬ j=p.1:=fun h=>by have:=e.2; simp [h] at this
   rw [if_neg hne]
   exact cln_mem e.1
theorem CallT.clean {P:Program} {g:FuncId} {args:List D} {σ:St} {d:D} {nx:Nat} {objs:List (Nat × Ob)} (h:CallT P g args σ d ⟨nx,cln objs⟩):CallT P g args σ d ⟨nx,objs⟩:=by
 refine⟨h.ord,fun M0 w ι vals hS hl hv=>(h.run M0 w ι vals hS hl hv).mono fun e w' hh=>?_⟩
 obtain⟨v,ι',h1,h2,h3,h4,h5,h6,h7⟩:=hh
 have hg:∀ k,St.get ⟨nx,objs⟩ k=St.get ⟨nx,cln objs⟩ k:=fun k=>(look_cln k objs).symm
 have hM:Mof M0 ι' ⟨nx,objs⟩= Mof M0 ι' ⟨nx,cln objs⟩:=by
  funext b
  unfold Mof
  simp only [hg]
 refine⟨v,ι',h1,h2,⟨h3.old,fun k o hk=>?_,fun k k' o o' a b=>?_,fun k o hk=>?_,?_⟩,h4,h5,fun k o hk=>h6 k o (by rw [<- hg]; exact hk),by rw [hM]; exact h7⟩
 ·rw [hM]; exact h3.holds k o (by rw [<- hg]; exact hk)
 ·exact h3.inj k k' o o' (by rw [<- hg]; exact a) (by rw [<- hg]; exact b)
 ·exact h3.notM k o (by rw [<- hg]; exact hk)
 ·rw [hM]; exact h3.tabs
theorem Weak.queue {C:Cx} {f f':Fr} {σ:St} (hf:∀ t,f'.get t = .top\/f'.get t=f.get t\/∃ k sz n,f.get t = .osl k sz n/\f'.get t = .sub k sz 0 n):Weak C f σ f' σ:=by
 rintro E a w ⟨ι,G⟩
 refine⟨ι,G.size,G.defers,G.nx,G.kept,G.sim,G.old,G.mine,G.stay,fun t=>?_⟩
 rcases hf t with h | h | ⟨k,sz,n,h1,h2⟩
 ·rw [h]; exact R.top _
 ·rw [h]; exact G.fr t
 ·rw [h2]
  have:=G.fr t
  rw [h1] at this
  obtain⟨cap,cur,e,e1,k1,k2,k3,k4,k5⟩:=this.osl_inv
  rw [e1]
  exact .sub k1 k2 k3 k4 (.inr ⟨(Nat.zero_mul _).symm,by rw [Nat.zero_add]; exact k5⟩)
theorem RetV.gone {n0:Nat} {objs:List (Nat × Ob)} {σ1:St} {d1 d:D} (hu:UnderSt ⟨n0,objs⟩) (hk:∀ k o,St.look objs k=some o->σ1.get k=some o) (hd:vw σ1 ⟨n0,cln objs⟩ (fun k=>k) d1 d):RetV n0 σ1 d1 ⟨n0,cln objs⟩ d:=
 .inr ⟨fun k=>k,Nat.le_refl _,fun _ _=>rfl,hd,fun p hp=>by
  have h:=cln_mem hp
  obtain⟨h1,h2⟩:=hu p.1 p.2 h
  exact⟨h1,p.2,hk _ _ h,rfl,vwE_self h2⟩,fun p _ q _ e=>e⟩
end
end Go.Pd

/- Part F0. -/
set_option linter.unusedSectionVars false
set_option linter.unusedVariables false
set_option linter.unusedSimpArgs false
set_option linter.defProp false
set_option maxRecDepth 20000
set_option maxHeartbeats 1000000
namespace Go.Pd
open Go Go.Proofs
theorem mixed : Tryz.prog.follows .mixedOrders=true:=by kernel_rfl
instance : Tabs := ⟨[]⟩
theorem shrNat (v w:Nat) (hw:w<=60):shrI .i64 (v:Int) (w:Int)= ((v / 2 ^ w:Nat):Int):=by
 unfold shrI
 have e:min (w:Int).toNat IntKind.i64.bits=w:=by
  have:IntKind.i64.bits=64:=rfl
  rw [this,Int.toNat_natCast]; omega
 rw [e,Int.fdiv_eq_ediv_of_nonneg _ (by have:(0:Int)<2 ^ w:=Int.pow_pos (by decide); omega)]
 simp
theorem and1Nat {a:Nat} (h:a<2 ^ 62):bitI .and .i64 (a:Int) 1=((a % 2:Nat):Int):=by
 show IntKind.i64.wrap ((BitVec.ofInt 64 (a:Int)&&& BitVec.ofInt 64 1).toNat:Int)= _
 rw [BitVec.ofInt_natCast,BitVec.toNat_and,BitVec.toNat_ofNat,Nat.mod_eq_of_lt (by omega)]
 have:(BitVec.ofInt 64 1).toNat=1:=rfl
 rw [this,Nat.and_one_is_mod]
 exact wrap_i64 (by omega)
theorem tmod2 (a:Nat):((a:Int)).tmod 2=((a % 2:Nat):Int):=by
 rw [Int.tmod_eq_emod_of_nonneg (by omega)]; omega
theorem bitNat (v w:Nat):(((v / 2 ^ w % 2:Nat):Int)== 1)= v.testBit w:=by
 rw [Nat.testBit_eq_decide_div_mod_eq,Bool.eq_iff_iff,beq_iff_eq,decide_eq_true_iff]; omega
namespace Rs
theorem nodup_le : ∀ (n:Nat) (l:List Nat),l.Nodup->(∀ x ∈ l,x<n)->l.length<=n
 | 0,[],_,_=>Nat.le_refl _
 | 0,x :: l,_,h=>by have:=h x (by simp); omega
 | n + 1,l,hn,h=>by
  have h1:=nodup_le n (l.filter fun x=>x != n) (hn.filter _) fun x hx=>by
   rw [List.mem_filter] at hx
   have:=h x hx.1
   have:x≠n:=by simpa using hx.2
   omega
  have h2:l.length<=(l.filter fun x=>x != n).length+1:=by
   clear h1
   induction l with
   | nil=>simp
   | cons y l ih=>
    rw [List.nodup_cons] at hn
    by_cases e:y=n
    ·subst e
     have:l.filter (fun x=>x != y)= l:=List.filter_eq_self.2 fun x hx=>by
      have:x≠y:=fun e=>hn.1 (e ▸ hx)
      simpa using this
     rw [List.filter_cons,if_neg (by simp),this]; simp
    ·rw [List.filter_cons,if_pos (by simpa using e)]
     have:=ih hn.2 fun x hx=>h x (by simp [hx])
     simp; omega
  omega
def mo (u:List (Int × Int)):List (Int × D):=u.map fun p=>(p.1,.int .i64 p.2)
def ulook (x:Int):List (Int × Int)->Option Int
 | []=>none
 | (k,y) :: r=>if x=k then some y else ulook x r
theorem afind_mo (x:Int):∀ (u:List (Int × Int)) (i:Nat),(ulook x u=none/\afind x (mo u) i=none)\/∃ y j,ulook x u=some y/\afind x (mo u) i=some (j,.int .i64 y)
 | [],i=>.inl ⟨rfl,rfl⟩
 | (k,y) :: r,i=>by
  show (ulook x ((k,y) :: r)= none/\afind x ((k,.int .i64 y) :: mo r) i=none)\/∃ y' j,ulook x ((k,y) :: r)= some y'/\afind x ((k,.int .i64 y) :: mo r) i=some (j,.int .i64 y')
  unfold ulook afind
  by_cases h:x=k
  ·rw [if_pos h,if_pos h]; exact .inr ⟨y,i,rfl,rfl⟩
  ·rw [if_neg h,if_neg h]; exact afind_mo x r (i+1)
theorem grow_viewL {nx n key sz:Nat} {objs:List (Nat × Ob)} {els:List (List D)} (hs:0<sz) (hp:∀ e ∈ els,D.isPureL e=true) (h:St.look objs key=growG sz els) {ρ:Nat->Nat}:vw ⟨nx,objs⟩ ⟨n,[]⟩ ρ (growD key sz els) (.sl sz els):=by
 cases els with
 | nil=>simp [growD,vw]
 | cons e t=>
  simp only [growD,vw]
  exact⟨trivial,hs,by simp,⟨sz,e :: t⟩,h,rfl,Nat.le_refl _,by simp,hp⟩
end Rs
end Go.Pd
