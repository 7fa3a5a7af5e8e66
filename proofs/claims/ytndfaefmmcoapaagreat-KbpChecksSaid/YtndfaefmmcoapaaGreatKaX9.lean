/- Part X9. -/
import Derived.Test.YtndfaefmmcoapaaGreatKaX8
import Derived.Test.YtndfaefmmcoapaaGreatKaCode
set_option linter.unusedSectionVars false
set_option linter.unusedVariables false
set_option linter.unusedSimpArgs false
set_option linter.defProp false
set_option maxRecDepth 20000
set_option maxHeartbeats 1000000
namespace Go.Pd
open Go Go.Proofs
theorem aEt {n:Nat} (hn:n<=61):aNq .i64 1 (n:Int)= ((2 ^ n:Nat):Int):=aY1 (by omega)
theorem aI3 {n:Nat} (hn:n<=1000000):IntKind.u64.wrap (n:Int)= (n:Int):=wrap_u64 (by omega)
theorem aMp {k:Nat} (h:k<18446744073709551616):ui (BitVec.ofNat 64 k)= (k:Int):=by
 unfold ui; rw [BitVec.toNat_ofNat,Nat.mod_eq_of_lt h]
theorem yE {α:Type} {l:List α} {k:Nat} {d:α} (h:k<l.length):l.take (k+1)= l.take k ++ [l.getD k d]:=by
 rw [List.take_add_one]; simp [List.getD,h]
theorem drop_cons {α:Type} {l:List α} {k:Nat} {d:α} (h:k<l.length):l.drop k=l.getD k d :: l.drop (k+1):=by simp [List.getD,h]
theorem xN {α:Type} {l:List α} {k:Nat} {d:α} (h:k<l.length):l.getD k d ∈ l:=by simp [List.getD,h]
theorem kX {α:Type} {l:List α} {k:Nat} (h:k=l.length):l.take k=l:=by rw [h,List.take_length]
theorem aD2 (x y:Int):(if x<y then y else x)= max x y:=by rw [Int.max_def]; split <;> split <;> omega
theorem aLd (k:IntKind) (l:List Int) (i:Nat) (n:Int):(rows k l).set i [.int k n]=rows k (l.set i n):=by simp [rows,List.map_set]
variable [tP]
theorem xX.own1' {P:Program} {g:FuncId} {args:List D} {σ:St} {sz len:Nat} {els:List (List D)} (hc:xX P g args St0 (.osl 0 sz len) ⟨1,[(0,⟨sz,els⟩)]⟩) (hp:D.isPureL args=true) (he:∀ e ∈ els,D.isPureL e=true) :
  xX P g args σ (.osl σ.nx sz len) ⟨σ.nx+1,(σ.nx,⟨sz,els⟩) :: σ.objs⟩:=by
 have h:=xX.own (σ:=σ) hc hp;simpa [yZ,Ob.shift,pC _ he,D.shift] using h
theorem aVg {key m n sz len:Nat} {els:List (List D)} (hs:0<sz) (hp:∀ e ∈ els,D.isPureL e=true) (hl:len=els.length) {ρ:Nat->Nat} {r:List (Nat × Ob)}:vw ⟨m,(key,⟨sz,els⟩) :: r⟩ ⟨n,[]⟩ ρ (.osl key sz len) (.sl sz els):=by
 subst hl;simp only [vw];exact⟨trivial,hs,by simp,⟨sz,els⟩,by simp [St.get,St.look],rfl,Nat.le_refl _,by simp,hp⟩
theorem cQ {key m n sz len:Nat} {els els':List (List D)} (hs:0<sz) (hp:∀ e ∈ els',D.isPureL e=true) (hl:len<=els.length) (he:els.take len=els') {ρ:Nat->Nat} {r:List (Nat × Ob)}:vw ⟨m,(key,⟨sz,els⟩) :: r⟩ ⟨n,[]⟩ ρ (.osl key sz len) (.sl sz els'):=by
 subst he;simp only [vw];exact⟨trivial,hs,by simp,⟨sz,els⟩,by simp [St.get,St.look],rfl,hl,rfl,hp⟩
theorem xX.ret {P:Program} {g:FuncId} {args:List D} {σ σ1 σ':St} {d1 d:D} (hc:xX P g args σ d1 σ1) (hr:nA σ.nx σ1 d1 σ' d):xX P g args σ d σ':=by
 refine⟨hc.ord,fun M0 w ι vals hS hl hv=>(hc.run M0 w ι vals hS hl hv).mono fun e w' hh=>?_⟩;obtain⟨v,ι1,he,kept,sim,nx,stay,mine,hR⟩:=hh
 rcases hr with ⟨rfl,rfl⟩ | ⟨ρ,r1,r2,r3,r4,r5⟩
 ·exact⟨v,ι1,he,kept,sim,nx,stay,mine,hR⟩
 ·have hlive:∀ p ∈ σ'.objs,∃ ob,σ1.get (ρ p.1)= some ob:=fun p hp=>by
   obtain⟨_,ob,h,_⟩:=r4 p hp;exact⟨ob,h⟩
  refine⟨v,fun k=>ι1 (ρ k),he,kept,sim.view r4 r5,r1,fun k hk=>?_,fun k o hk=>?_,qN sim hlive _ _ hR r3⟩
  ·show ι1 (ρ k)= ι k;rw [r2 k hk]; exact stay k hk
  ·obtain⟨ob,h⟩:=hlive _ (zX hk);exact mine _ _ h
theorem aV4 {k s:Nat} {els:List (List D)} (h:els ≠ []):xG k s els = .osl k s els.length:=by cases els with
 | nil=>exact absurd rfl h
 | cons e r=>rfl
theorem aV3 {k s:Nat} {els:List (List D)} (h:els ≠ []):xE k s els = [(k,⟨s,els⟩)]:=by cases els with
 | nil=>exact absurd rfl h
 | cons e r=>rfl
def rl (ll:List (List Int)):List (List D):=ll.map fun l=>[.sl 1 (rows .i64 l)]
theorem vL (l:List (List Int)):(rl l).length=l.length:=by simp [rl]
theorem gE (l:List (List Int)) {i:Nat} (h:i<l.length):(rl l).getD i [] = [.sl 1 (rows .i64 (l.getD i []))]:=by simp [rl,List.getD,h]
theorem aHs (l:List (List Int)) (r:List Int):rl l ++ [[.sl 1 (rows .i64 r)]]=rl (l ++ [r]):=by simp [rl]
theorem aDt : rl [] = []:=rfl
theorem aHt (l:List (List Int)):∀ e ∈ rl l,D.isPureL e=true:=by
 intro e he;simp only [rl,List.mem_map] at he;obtain⟨r,_,rfl⟩:=he;have h:∀ e ∈ rows .i64 r,D.isPureL e=true:=uY _ r;have:(rows .i64 r).all D.isPureL=true:=List.all_eq_true.2 h;simp [D.isPureL,D.isPure,this]
theorem oG (l:List (List Int)):uN (rl l):=aHt l
theorem xX.go_fnS {P:Program} {g:FuncId} {fn:Func} {own:List Nat} {N:Nat} {dc:DC} {rs:List yW} {args:List D} {σ:St} {d:D} {σ':St} (hm:P.follows .mixedOrders=true) (hf:P.funcs[g]?=some fn)
  (hc:xU P own fn=some (N,dc,rs)) (hla:args.length<=N)
  (h:D.factL args->wpS ⟨P,N,σ.nx,own,none⟩ dc (kA 0 args) σ (aRn ⟨P,N,σ.nx,own,none⟩ rs d σ')):xX P g args σ d σ':=by
 unfold xU at hc
 split at hc
 ·cases hc
 ·rename_i c hb
  split at hc
  ·cases hc
  ·rename_i hname
   split at hc
   ·rename_i dc' rs' h1 h2;simp at hc;obtain⟨rfl,rfl,rfl⟩:=hc;refine xX.facts ⟨fn,hf,by simpa using hname,by rw [hb]; rfl⟩ fun hfa=>?_;exact xX.of_body hm hf hb (by simpa using hname) h1 h2 hla (h hfa)
   ·cases hc
theorem eK {C} {x y:DC} {f σ Q} (f0:Fr) (σ0:St) (h:wpS C x f σ (mZ (fun f' σ'=>xM C f' σ' f0 σ0) Q)) (h2:wpS C y f0 σ0 Q):wpS C (.seq x y) f σ Q:=
 wpS_seq (aMk h fun e f' σ' hq=>by cases e with | normal=>exact aMg hq h2 | _=>exact hq)
section
variable [tP]
end
section
variable [tP]
mutual
/-- All objects that a datum names are below n. -/
def D.under (n:Nat):D->Prop
 | .ref k _ _ _=>k<n
 | .osl k _ _=>k<n
 | .sub k _ _ _=>k<n
 | .mref k=>k<n
 | .agg cs=>D.underL n cs
 | .tup cs=>D.underL n cs
 | .fn _ cs=>D.underL n cs
 | _=>True
def D.underL (n:Nat):List D->Prop
 | []=>True
 | d :: r=>d.under n/\D.underL n r
end
theorem uX {n:Nat}:∀ {cs:List D},(∀ j,j<cs.length->(cs.getD j .top).under n)->D.underL n cs
 | [],_=>by simp only [D.underL]
 | d :: r,h=>by
  simp only [D.underL];exact⟨by simpa using h 0 (by simp),uX fun j hj=>by simpa using h (j+1) (by simpa using hj)⟩
theorem RP.under {M:Nat->Prop} {w:World} {n:Nat} {v:Value} {d:D} (h:RP M w v d):d.under n:=by
 induction h with
 | agg _ _ ih=>simp only [D.under]; exact uX ih
 | tup _ _ ih=>simp only [D.under]; exact uX ih
 | fn _ _ ih=>simp only [D.under]; exact uX ih
 | _=>simp only [D.under]
theorem R.under {M:Nat->Prop} {w:World} {ι:Nat->Nat} {n:Nat} {v:Value} {d:D} (h:R M w ι n v d):d.under n:=by
 induction h with
 | pure h=>exact h.under
 | ref hk _=>simp only [D.under]; exact hk
 | osl hk _ _ _ _=>simp only [D.under]; exact hk
 | sub hk _ _ _ _=>simp only [D.under]; exact hk
 | mref hk=>simp only [D.under]; exact hk
 | agg _ _ ih=>simp only [D.under]; exact uX ih
 | tup _ _ ih=>simp only [D.under]; exact uX ih
 | fn _ _ ih=>simp only [D.under]; exact uX ih
def eB (σ:St):Prop:=∀ k o,σ.get k=some o->k<σ.nx/\∀ e ∈ o.els,D.underL σ.nx e
theorem wN.under {M0:Nat->Prop} {w:World} {σ:St} {ι:Nat->Nat} (h:wN M0 w σ ι):eB σ:=by
 intro k o hk;obtain⟨h1,h2⟩:=h.holds k o hk;refine⟨h1,fun e he=>?_⟩;obtain⟨i,hi,rfl⟩:=List.getElem_of_mem he;have e2:o.els.getD i []=o.els[i]:=by simp [List.getD,hi]
 rcases h2 with ⟨_,cur,_,_,c2,_,c4⟩ | ⟨_,es,_,_,c3⟩
 ·have hl:=c2 _ (List.getElem_mem hi);refine uX fun j hj=>?_;have:=(c4 i hi j (by omega)).2.under;rw [e2] at this;exact this
 ·obtain⟨kv,v,x,d,r1,_,r3,r4⟩:=c3 i hi;rw [e2] at r1;rw [r1];simp only [D.underL];exact⟨r3.under,r4.under,trivial⟩
theorem xX.unders {P:Program} {g:FuncId} {args:List D} {σ:St} {d:D} {σ':St} (ho:uL P g) (h:eB σ->xX P g args σ d σ'):xX P g args σ d σ':=
 ⟨ho,fun M0 w ι vals hS hl hv=>(h hS.under).run M0 w ι vals hS hl hv⟩
mutual
theorem aHa {σ σ':St}:∀ {d:D},d.under σ'.nx->vw σ σ' (fun k=>k) d d
 | .top,_=>by simp only [vw]
 | .und,_=>by simp only [vw]
 | .int _ _,_=>by simp only [vw]
 | .bool _,_=>by simp only [vw]
 | .str _,_=>by simp only [vw]
 | .sl _ _,_=>by simp only [vw]; exact⟨trivial,trivial⟩
 | .nils,_=>by simp only [vw]
 | .emp,_=>by simp only [vw]
 | .agg cs,h=>by simp only [vw]; simp only [D.under] at h; exact⟨trivial,oI h⟩
 | .tup cs,h=>by simp only [vw]; simp only [D.under] at h; exact⟨trivial,oI h⟩
 | .fn _ cs,h=>by simp only [vw]; simp only [D.under] at h; exact⟨trivial,trivial,oI h⟩
 | .ref _ _ _ _,h=>by simp only [vw]; simp only [D.under] at h; exact⟨h,trivial⟩
 | .osl _ _ _,h=>by simp only [vw]; simp only [D.under] at h; exact⟨h,trivial⟩
 | .sub _ _ _ _,h=>by simp only [vw]; simp only [D.under] at h; exact⟨h,trivial⟩
 | .ptr _,_=>by simp [vw]
 | .mref _,h=>by simp only [vw]; simp only [D.under] at h; exact⟨h,trivial⟩
 | .nilp,_=>by simp only [vw]
 | .nilm,_=>by simp only [vw]
 | .nilf,_=>by simp only [vw]
 | .adr _,_=>by simp only [vw]
theorem oI {σ σ':St}:∀ {cs:List D},D.underL σ'.nx cs->vwL σ σ' (fun k=>k) cs cs
 | [],_=>by simp only [vwL]
 | d :: r,h=>by simp only [vwL]; simp only [D.underL] at h; exact⟨aHa h.1,oI h.2⟩
end
theorem aWz {σ σ':St}:∀ {els:List (List D)},(∀ e ∈ els,D.underL σ'.nx e)->vwE σ σ' (fun k=>k) els els
 | [],_=>.nil
 | e :: r,h=>.cons rfl (oI (h e (by simp))) (aWz fun x hx=>h x (List.mem_cons_of_mem _ hx))
def cln : List (Nat × Ob)->List (Nat × Ob)
 | []=>[]
 | (k,o) :: r=>(k,o) :: (cln r).filter fun p=>p.1 != k
theorem pA {k k':Nat} (h:¬ k'=k):∀ l:List (Nat × Ob),St.look (l.filter fun p=>p.1 != k) k'=St.look l k'
 | []=>rfl
 | (j,o) :: r=>by
  rw [List.filter_cons]
  by_cases e:j=k
  ·rw [if_neg (by simp [e]),pA h r,xY,if_neg (by omega)]
  ·rw [if_pos (by simpa using e),xY,xY,pA h r]
theorem aVv (k:Nat):∀ l:List (Nat × Ob),St.look (cln l) k=St.look l k
 | []=>rfl
 | (j,o) :: r=>by
  unfold cln;rw [xY,xY]
  by_cases e:j=k
  ·rw [if_pos e,if_pos e]
  ·rw [if_neg e,if_neg e,pA (fun h=>e h.symm),aVv k r]
theorem aQr : ∀ {l:List (Nat × Ob)} {p:Nat × Ob},p ∈ cln l->St.look l p.1=some p.2
 | [],p,h=>by cases h
 | (j,o) :: r,p,h=>by
  unfold cln at h;rw [xY]
  rcases List.mem_cons.1 h with e | e
  ·rw [e,if_pos rfl]
  ·rw [List.mem_filter] at e;have hne:¬ j=p.1:=fun h=>by have:=e.2; simp [h] at this
   rw [if_neg hne];exact aQr e.1
theorem xX.clean {P:Program} {g:FuncId} {args:List D} {σ:St} {d:D} {nx:Nat} {objs:List (Nat × Ob)} (h:xX P g args σ d ⟨nx,cln objs⟩):xX P g args σ d ⟨nx,objs⟩:=by
 refine⟨h.ord,fun M0 w ι vals hS hl hv=>(h.run M0 w ι vals hS hl hv).mono fun e w' hh=>?_⟩;obtain⟨v,ι',h1,h2,h3,h4,h5,h6,h7⟩:=hh;have hg:∀ k,St.get ⟨nx,objs⟩ k=St.get ⟨nx,cln objs⟩ k:=fun k=>(aVv k objs).symm
 have hM:Mof M0 ι' ⟨nx,objs⟩= Mof M0 ι' ⟨nx,cln objs⟩:=by
  funext b;unfold Mof;simp only [hg]
 refine⟨v,ι',h1,h2,⟨h3.old,fun k o hk=>?_,fun k k' o o' a b=>?_,fun k o hk=>?_,?_⟩,h4,h5,fun k o hk=>h6 k o (by rw [<- hg]; exact hk),by rw [hM]; exact h7⟩
 ·rw [hM]; exact h3.holds k o (by rw [<- hg]; exact hk)
 ·exact h3.inj k k' o o' (by rw [<- hg]; exact a) (by rw [<- hg]; exact b)
 ·exact h3.notM k o (by rw [<- hg]; exact hk)
 ·rw [hM]; exact h3.tabs
theorem nA.gone {n0:Nat} {objs:List (Nat × Ob)} {σ1:St} {d1 d:D} (hu:eB ⟨n0,objs⟩) (hk:∀ k o,St.look objs k=some o->σ1.get k=some o) (hd:vw σ1 ⟨n0,cln objs⟩ (fun k=>k) d1 d):nA n0 σ1 d1 ⟨n0,cln objs⟩ d:=
 .inr ⟨fun k=>k,Nat.le_refl _,fun _ _=>rfl,hd,fun p hp=>by
  have h:=aQr hp;obtain⟨h1,h2⟩:=hu p.1 p.2 h;exact⟨h1,p.2,hk _ _ h,rfl,aWz h2⟩,fun p _ q _ e=>e⟩
end
theorem mixed : Tryz.prog.follows .mixedOrders=true:=by kernel_rfl
instance : tP := ⟨[]⟩
theorem lS (v w:Nat) (hw:w<=60):aNv .i64 (v:Int) (w:Int)= ((v / 2 ^ w:Nat):Int):=by
 unfold aNv
 have e:min (w:Int).toNat IntKind.i64.bits=w:=by
  have:IntKind.i64.bits=64:=rfl;rw [this,Int.toNat_natCast]; omega
 rw [e,Int.fdiv_eq_ediv_of_nonneg _ (by have:(0:Int)<2 ^ w:=Int.pow_pos (by decide); omega)];simp
theorem aFr {a:Nat} (h:a<2 ^ 62):rQ .and .i64 (a:Int) 1=((a % 2:Nat):Int):=by
 show IntKind.i64.wrap ((BitVec.ofInt 64 (a:Int)&&& BitVec.ofInt 64 1).toNat:Int)= _;rw [BitVec.ofInt_natCast,BitVec.toNat_and,BitVec.toNat_ofNat,Nat.mod_eq_of_lt (by omega)];have:(BitVec.ofInt 64 1).toNat=1:=rfl;rw [this,Nat.and_one_is_mod];exact wrap_i64 (by omega)
theorem aEz (a:Nat):((a:Int)).tmod 2=((a % 2:Nat):Int):=by
 rw [Int.tmod_eq_emod_of_nonneg (by omega)]; omega
theorem aIf (v w:Nat):(((v / 2 ^ w % 2:Nat):Int)== 1)= v.testBit w:=by
 rw [Nat.testBit_eq_decide_div_mod_eq,Bool.eq_iff_iff,beq_iff_eq,decide_eq_true_iff]; omega
namespace Rs
theorem aVh : ∀ (n:Nat) (l:List Nat),l.Nodup->(∀ x ∈ l,x<n)->l.length<=n
 | 0,[],_,_=>Nat.le_refl _
 | 0,x :: l,_,h=>by have:=h x (by simp); omega
 | n + 1,l,hn,h=>by
  have h1:=aVh n (l.filter fun x=>x != n) (hn.filter _) fun x hx=>by
   rw [List.mem_filter] at hx;have:=h x hx.1;have:x≠n:=by simpa using hx.2
   omega
  have h2:l.length<=(l.filter fun x=>x != n).length+1:=by
   clear h1
   induction l with
   | nil=>simp
   | cons y l ih=>
    rw [List.nodup_cons] at hn
    by_cases e:y=n
    ·subst e
     have:l.filter (fun x=>x != y)= l:=List.filter_eq_self.2 fun x hx=>by
      have:x≠y:=fun e=>hn.1 (e ▸ hx);simpa using this
     rw [List.filter_cons,if_neg (by simp),this]; simp
    ·rw [List.filter_cons,if_pos (by simpa using e)];have:=ih hn.2 fun x hx=>h x (by simp [hx]);simp; omega
  omega
def mo (u:List (Int × Int)):List (Int × D):=u.map fun p=>(p.1,.int .i64 p.2)
def zL (x:Int):List (Int × Int)->Option Int
 | []=>none
 | (k,y) :: r=>if x=k then some y else zL x r
theorem nZ (x:Int):∀ (u:List (Int × Int)) (i:Nat),(zL x u=none/\tB x (mo u) i=none)\/∃ y j,zL x u=some y/\tB x (mo u) i=some (j,.int .i64 y)
 | [],i=>.inl ⟨rfl,rfl⟩
 | (k,y) :: r,i=>by
  show (zL x ((k,y) :: r)= none/\tB x ((k,.int .i64 y) :: mo r) i=none)\/∃ y' j,zL x ((k,y) :: r)= some y'/\tB x ((k,.int .i64 y) :: mo r) i=some (j,.int .i64 y');unfold zL tB
  by_cases h:x=k
  ·rw [if_pos h,if_pos h]; exact .inr ⟨y,i,rfl,rfl⟩
  ·rw [if_neg h,if_neg h]; exact nZ x r (i+1)
theorem mB {nx n key sz:Nat} {objs:List (Nat × Ob)} {els:List (List D)} (hs:0<sz) (hp:∀ e ∈ els,D.isPureL e=true) (h:St.look objs key=wL sz els) {ρ:Nat->Nat}:vw ⟨nx,objs⟩ ⟨n,[]⟩ ρ (xG key sz els) (.sl sz els):=by
 cases els with
 | nil=>simp [xG,vw]
 | cons e t=>
  simp only [xG,vw];exact⟨trivial,hs,by simp,⟨sz,e :: t⟩,h,rfl,Nat.le_refl _,by simp,hp⟩
end Rs
end Go.Pd
