/- Part XA. -/
import Derived.Test.YtndfaefmmcoapaaGreatUfX6
import Derived.Test.YtndfaefmmcoapaaGreatUfC2
import Derived.Test.YtndfaefmmcoapaaGreatUfX9
import Derived.Test.YtndfaefmmcoapaaGreatUfSC
set_option linter.unusedSectionVars false
set_option linter.unusedVariables false
set_option linter.unusedSimpArgs false
set_option linter.defProp false
open Go.Proofs.Tryz
open List renaming take_append_of_le_length->γ,getElem?_append_left->δ,getElem?_append_right->ε,getElem?_eq_getElem->ζ,getElem?_cons_succ->η,take_length_add_append->θ,mem_singleton->κ,mem_of_mem_take->μ,take_succ_cons->ν,getElem_mem->ξ,length_take->ο,take_length->π,length_cons->τ,filter_cons->υ,mem_cons_of_mem->χ,length_append->ω,nil_append->Aa,mem_range->Ab,map_cons->Ac,eq_of_mem_replicate->Ad,take_append_drop->Ae,filterMap_cons->Af,drop_replicate->Ag,mem_filterMap->Ah,append_assoc->Ai,any_eq_false->Aj,any_eq_true->Ak
open Nat renaming lt_or_ge->Al,le_refl->Am,lt_trichotomy->An,min_eq_right->Ao,zero_le->Ap,mod_eq_of_lt->Aq,and_or_distrib_right->Ar
open Option renaming bind_eq_some_iff->As,getD_some->Au,bind_eq_bind->Av,map_some->Aw
open Bool renaming and_eq_true->Ax,not_eq_true->Ay
open BitVec renaming ofInt_natCast->Az,toNat_ofNat->A0
open Int renaming toNat_natCast->A3
namespace Go.Pd
open Go
section
variable [uC]
def TY (pre:List xB) (o1:Option Nat) (dx:D) (mid1:List xB) (o2:Option Nat) (dy:D) (mid2:List xB):List xB:=pre++⟨o1,none,.mv (.c dx)⟩ :: (mid1++⟨o2,none,.mv (.c dy)⟩ :: mid2)
def Wd (C:Cx) (pre:List xB) (m1:xB) (mid1:List xB) (m2:xB) (mid2 post:List xB) (free:List Nat) (f:Fr) (σ:St) (K:Fr->St->Prop):Prop:=
 vG C σ pre f λf1=>rP C σ (qE f1) m1.k λdx σ1=>vG C σ1 mid1 (f1.put m1.dst dx) λf2=>rP C σ1 (qE f2) m2.k λdy σ2=>vG C σ2 mid2 (f2.put m2.dst dy) λf3=>
  vG C σ (TY pre m1.dst dx mid1 m2.dst dy mid2) f (λg=>g=f3)/\ vG C σ1 (TY pre m1.dst dx mid1 m2.dst dy mid2) f (λg=>g=f3)/\ vG C σ2 (TY pre m1.dst dx mid1 m2.dst dy mid2) f (λg=>g=f3)/\
  rP C σ (qE f) m2.k λdA σA=>vG C σA pre f λg1=>rP C σA (qE g1) m1.k λdz σB=>vG C σB (mid1++⟨m2.dst,none,.mv (.c dA)⟩ :: mid2) (g1.put m1.dst dz) λg3=>
   vG C σA (TY pre m1.dst dz mid1 m2.dst dA mid2) f (λg=>g=g3)/\ vG C σB (TY pre m1.dst dz mid1 m2.dst dA mid2) f (λg=>g=g3)/\
   sJ C post f3 σ2 λf4 σ4=>sJ C post g3 σB λg4 σ5=>(∀ t ∈ free,f4.get t=g4.get t)/\ xT C g4 σ5 f4 σ4/\K f4 σ4
theorem pw : ∀ {ds ds':List xB} {t:List (D × St)} {f:Fr},ds.map (·.dst)= ds'.map (·.dst)->vM ds t f=vM ds' t f
 | [],[],_,_,_=>rfl
 | [],_ :: _,_,_,h=>by simp at h
 | _ :: _,[],_,_,h=>by simp at h
 | o :: ds,o' :: ds',[],f,_=>rfl
 | o :: ds,o' :: ds',p :: t,f,h=>by simp only [Ac,List.cons.injEq] at h;simp only [vM];rw [h.1];exact pw h.2
theorem nq {l l':List xB} (h:l.map (·.dst)= l'.map (·.dst)):uU l=uU l':=by
 unfold uU;rw [h];have e:∀ l:List xB,(l.all λo=>o.dst.isSome)= (l.map (·.dst)).all (·.isSome):=λl=>by rw [List.all_map]; rfl
 rw [e l,e l',h]
theorem fE {C:Cx} {hd qs:List xB} {f:Fr} {t:List (D × St)} {st:St} (hdst:qs.map (·.dst)= hd.map (·.dst)) (hok:uU hd=true) (hl:t.length=hd.length) (h:vG C st qs f λg=>g=vM hd t f) {i:Nat} {dop:xB} (hi:qs[i]?=some dop) :
  yG dop (vM (hd.take i) (t.take i) f) (rP C st (qE (vM (hd.take i) (t.take i) f)) dop.k λx y=>x=vF t i/\y=st) (.sS=vF t i):=by
 obtain⟨t',q1,q2,q3,q4⟩:=zY _ _ h;have hlen:qs.length=hd.length:=by have:=congrArg List.length hdst; simpa using this
 have hv:=oZ ((nq hdst).trans hok) q3 (by omega:t.length=qs.length) (q2.trans (pw hdst.symm));have:=uL q1 q3 hv q4 hi
 rwa [pw (ds:=qs.take i) (ds':=hd.take i) (by rw [List.map_take,List.map_take,hdst])] at this
theorem yg : ∀ {l:List xB},(l.filterMap (·.dst)).Nodup->∀ {i j t:Nat},vE l i=some t->vE l j=some t->i=j
 | [],_,i,j,t,h,_=>by simp [vE] at h
 | o :: l,hn,i,j,t,hi,hj=>by
  have hm:∀ k,vE l k=some t->t ∈ l.filterMap (·.dst):=λk hk=>by unfold vE at hk;obtain⟨d,h1,h2⟩:=As.1 hk;exact Ah.2 ⟨d,List.mem_of_getElem? h1,h2⟩
  have hn2:(l.filterMap (·.dst)).Nodup/\∀ d,o.dst=some d->d ∉ l.filterMap (·.dst):=by
   rw [Af] at hn
   cases e:o.dst with
   | none=>rw [e] at hn; exact⟨hn,λd h=>by cases h⟩
   | some d=>rw [e] at hn; exact⟨(List.nodup_cons.1 hn).2,λd' h=>by cases h; exact(List.nodup_cons.1 hn).1⟩
  match i,j with
  | 0,0=>rfl
  | 0,j+1=>exact absurd (hm j hj) (hn2.2 t hi)
  | i+1,0=>exact absurd (hm i hi) (hn2.2 t hj)
  | i+1,j+1=>exact congrArg (·+1) (yg (l:=l) hn2.1 hi hj)
theorem VX {ds:List xB} {tr:List (D × St)} {f:Fr} (hl:tr.length=ds.length) (hn:(ds.filterMap (·.dst)).Nodup) {j t:Nat} (hj:j<ds.length) (hd:vE ds j=some t):(vM ds tr f).get t=vF tr j:=by have:=iR (f:=f) hl ds.length (Am _) t;rw [π,<- hl,π,hl] at this;rw [this];exact iQ rfl hd ds.length hj λk h1 h2 h3=>by have:=yg hn hd h3; omega
theorem Vc {ds ds':List xB} {tr tr':List (D × St)} {f:Fr} {T T':Nat->Bool} {t:Nat} (hd:∀ j,vE ds' j=vE ds j):∀ (n:Nat),(∀ j,j<n->vE ds j=some t->T' j=T j/\(T j=true->vF tr' j=vF tr j))->LV ds' tr' f T' n t=LV ds tr f T n t
 | 0,_=>rfl
 | n+1,h=>by
  simp only [LV,hd];rw [Vc hd n λj hj=>h j (by omega)]
  by_cases e:vE ds n=some t
  ·obtain⟨h1,h2⟩:=h n (by omega) e;rw [h1]
   split
   ·rename_i hc; rw [h2 hc.1]
   ·rfl
  ·rw [if_neg (λh=>e h.2),if_neg (λh=>e h.2)]
theorem QX {P:Program} {N:Nat} {own:List Nat} {code:Code} {pre:List xB} {m1:xB} {mid1:List xB} {m2:xB} {mid2 post:List xB} {free:List Nat} (h:tE P N own code=some (.cT pre m1 mid1 m2 mid2 post free)) :
  ∃ id ops l,code = .region id ops true/\uV (jD P N own ops) ops.toList=some l/\own.contains 77777=false/\post=l.drop (tH own l)/\ KT own ops.toList l (tH own l) pre m1 mid1 m2 mid2 free:=by
 cases code with
 | region id ops draw=>
  simp only [tE] at h
  split at h
  ·rename_i d hd;cases h
   rcases iL hd with ⟨_,h2 | h2 | h2⟩ | ⟨_,h2,_⟩
   ·obtain⟨_,_,_,_,_,_,_,_,_,_,_,_,_,_,_,e⟩:=rN h2; cases e
   ·obtain⟨_,_,_,_,_,_,_,_,_,_,_,_,_,_,e⟩:=jP h2; cases e
   ·obtain⟨_,_,_,_,_,_,_,_,_,_,_,e⟩:=jO h2; cases e
   ·obtain⟨_,_,_,_,_,_,_,_,_,_,_,_,_,_,_,e⟩:=rN h2; cases e
  ·simp only [Av,As] at h;obtain⟨l,hl,h⟩:=h
   split at h
   ·rename_i hdr
    split at h
    ·split at h
     ·rename_i d hv;cases h;obtain⟨_,_,_,_,_,_,e,_⟩:=iN hv;cases e
     ·rcases lI h with ⟨e,_⟩ | ⟨_,_,_,_,_,e,_⟩ | ⟨_,_,_,_,_,_,_,_,_,_,_,e,_⟩ <;> cases e
    ·split at h
     ·rename_i hq;obtain⟨_,_,_,_,_,_,_,e,hp,hR⟩:=iM h;cases e;subst hdr;exact⟨id,ops,l,rfl,hl,hq,hp,hR⟩
     ·cases h
   ·simp at h
 | rangeFunc g0 ps0 a c=> simp [tE,As] at h
 | seq a b=> simp only [tE,zO] at h;obtain⟨dx,hx,dy,hy,h⟩:=h;rcases vQ dx dy with e | ⟨_,_,_,_,_,_,_,_,_,_,_,_,e,_⟩ <;> rw [e] at h <;> cases h
 | _=>simp [tE,As] at h
theorem Yh {k:DK} (h:um k=true):k.YF = []/\k.wI=false:=by cases k <;> simp_all [um,DK.YF,DK.wI]
theorem cg {A B:List xB} {b c:xB} {i:Nat} (h:i≠A.length):(A++b :: B)[i]?=(A++c :: B)[i]?:=by
 rcases Al i A.length with h1 | h1
 ·rw [δ h1,δ h1]
 ·obtain⟨k,rfl⟩:∃ k,i=A.length+(k+1):=⟨i-A.length-1,by omega⟩;rw [ε (by omega),ε (by omega),show A.length+(k+1)-A.length=k+1 by omega,η,η]
theorem Zz {α:Type} {A B:List α} {b:α}:(A++b :: B)[A.length]?=some b:=by rw [ε (Am _),Nat.sub_self]; rfl
theorem Wo {a b x:xB} (hd:a.dst=b.dst) (hn:a.names=b.names):kR a x=kR b x:=by unfold kR; rw [hd,hn]
theorem YW {a b x:xB} (hd:a.dst=b.dst) (hn:a.names=b.names):kR x a=kR x b:=by unfold kR; rw [hd,hn]
theorem S8 {C:Cx} (hm:C.P.follows .mixedOrders=true) {pre:List xB} {m1:xB} {mid1:List xB} {m2:xB} {mid2 post:List xB} {free:List Nat} {f:Fr} {σ:St} {Q:Exit->Fr->St->Prop}
  (h:Wd C pre m1 mid1 m2 mid2 post free f σ (Q .normal)):wpS C (.cT pre m1 mid1 m2 mid2 post free) f σ Q:=by
 intro code hc E a w G;obtain⟨id,ops,l,rfl,hd,hq,hpost,R⟩:=QX hc;have hg1:=qH R.n2;have hg2:=qH R.n4;obtain⟨hal,hal2⟩:=Yh R.alloc;unfold Wd at h;obtain⟨t1,a1,h,a3,a4⟩:=zY _ _ h;obtain⟨dx,σ1,hx,h⟩:=mZ hq h;obtain⟨t2,b1,h,b3,b4⟩:=zY _ _ h;obtain⟨dy,σ2,hy,h⟩:=mZ hq h;obtain⟨t3,c1,h,c3,c4⟩:=zY _ _ h;obtain⟨q0,q1,q2,h⟩:=h;obtain⟨dA,σA,hA,h⟩:=mZ hq h;obtain⟨u1,d1,h,d3,d4⟩:=zY _ _ h;obtain⟨dz,σB,hz,h⟩:=mZ hq h;obtain⟨u2,e1,h,e3,e4⟩:=zY _ _ h;obtain⟨qA,qB,h⟩:=h;obtain⟨t4,f1,h,f3⟩:=qR hq _ _ _ h;obtain⟨u4,g1,h,g3⟩:=qR hq _ _ _ h;obtain⟨hfree,hweak,hQ⟩:=h;have s0:vB t1 σ=σ:=zB a4;have s1:vB t2 σ1=σ1:=zB b4;have s2:vB t3 σ2=σ2:=zB c4;have sA:vB u1 σA=σA:=zB d4;have sB:vB u2 σB=σB:=zB e4
 have hls:l=pre++m1 :: (mid1++m2 :: (mid2++post)):=by
  conv=>lhs; rw [<- Ae (tH C.own l) l,R.eq,<- hpost]
  simp
 have hsl:tH C.own l<=l.length:=by
  have:∀ ks:List xB,tH C.own ks<=ks.length:=by
   intro ks
   induction ks with
   | nil=>simp [tH]
   | cons k ks ih=>simp only [tH]; split <;> simp <;> omega
  exact this l
 have hs:tH C.own l=pre.length+1+mid1.length+1+mid2.length:=by have:=congrArg List.length R.eq;rw [ο,Nat.min_eq_left hsl] at this;simp at this; omega
 generalize tH C.own l=s at *;obtain⟨x,hx0⟩:∃ x,x=pre.length:=⟨_,rfl⟩;obtain⟨y,hy0⟩:∃ y,y=pre.length+1+mid1.length:=⟨_,rfl⟩;have T3:Trace C (mid2++post) _ σ2 (t3++t4)/\ _/\_:=Trace.append c1 c3 (by rw [s2]; exact f1);have T2:Trace C (m2 :: (mid2++post)) (vM mid1 t2 ((vM pre t1 f).put m1.dst dx)) (vB t2 σ1) ((dy,σ2) :: (t3++t4)):=.cons (by simp only [yG,hg2]; rw [s1]; exact hy) T3.1;have T1:=Trace.append b1 b3 T2;have T0:Trace C (m1 :: (mid1++m2 :: (mid2++post))) (vM pre t1 f) (vB t1 σ) ((dx,σ1) :: (t2++(dy,σ2) :: (t3++t4))):=.cons (by simp only [yG,hg1]; rw [s0]; exact hx) T1.1;obtain⟨k1,k2,k3⟩:=Trace.append a1 a3 T0
 have k2':vM l (t1++(dx,σ1) :: (t2++(dy,σ2) :: (t3++t4))) f=vM post t4 (vM mid2 t3 ((vM mid1 t2 ((vM pre t1 f).put m1.dst dx)).put m2.dst dy)):=by rw [hls,k2];show vM (mid1++m2 :: (mid2++post)) _ _=_;rw [T1.2.1];exact T3.2.1
 have k3':vB (t1++(dx,σ1) :: (t2++(dy,σ2) :: (t3++t4))) σ=vB t4 σ2:=by rw [k3,s0];show vB (t2++(dy,σ2) :: (t3++t4)) σ1=_;rw [T1.2.2,s1];show vB (t3++t4) σ2=_;rw [T3.2.2,s2]
 rw [<- hls] at k1;have U2:Trace C ((mid1++⟨m2.dst,none,.mv (.c dA)⟩ :: mid2)++ post) _ σB (u2++u4)/\ _/\_:=Trace.append e1 e3 (by rw [sB]; exact g1);have U0:Trace C (m1 :: ((mid1++⟨m2.dst,none,.mv (.c dA)⟩ :: mid2)++ post)) (vM pre u1 f) (vB u1 σA) ((dz,σB) :: (u2++u4)):=.cons (by simp only [yG,hg1]; rw [sA]; exact hz) U2.1;obtain⟨j1,j2,j3⟩:=Trace.append d1 d3 U0;obtain⟨l',hl'⟩:∃ l',l'=pre++m1 :: ((mid1++⟨m2.dst,none,.mv (.c dA)⟩ :: mid2)++ post):=⟨_,rfl⟩
 have j2':vM l' (u1++(dz,σB) :: (u2++u4)) f=vM post u4 (vM (mid1++⟨m2.dst,none,.mv (.c dA)⟩ :: mid2) u2 ((vM pre u1 f).put m1.dst dz)):=by rw [hl',j2];show vM ((mid1++⟨m2.dst,none,.mv (.c dA)⟩ :: mid2)++ post) _ _=_;exact U2.2.1
 have j3':vB (u1++(dz,σB) :: (u2++u4)) σA=vB u4 σB:=by rw [j3,sA];show vB (u2++u4) σB=_;rw [U2.2.2,sB]
 rw [<- hl'] at j1;rw [<- k2',<- j2'] at hfree;rw [<- k2',<- k3',<- j2',<- j3'] at hweak;rw [<- k2',<- k3'] at hQ
 have hlen:(t1++(dx,σ1) :: (t2++(dy,σ2) :: (t3++t4))).length=l.length:=by rw [hls]; simp only [ω,τ,a3,b3,c3,f3]
 have hlen':(u1++(dz,σB) :: (u2++u4)).length=l'.length:=by rw [hl']; simp only [ω,τ,d3,e3,g3]
 have hll:l'.length=l.length:=by rw [hl',hls]; simp only [ω,τ,Ai,List.cons_append]
 have hx:x<s:=by omega
 have hy:y<s:=by omega
 have hxy:x<y:=by omega
 obtain⟨hd_,hhd⟩:∃ hd_,hd_=pre++m1 :: (mid1++m2 :: mid2):=⟨_,rfl⟩;obtain⟨tr,htr⟩:∃ tr,tr=t1++(dx,σ1) :: (t2++(dy,σ2) :: (t3++t4)):=⟨_,rfl⟩;obtain⟨th,hth⟩:∃ th,th=t1++(dx,σ1) :: (t2++(dy,σ2) :: t3):=⟨_,rfl⟩;obtain⟨tr',htr'⟩:∃ tr',tr'=u1++(dz,σB) :: (u2++u4):=⟨_,rfl⟩;obtain⟨th',hth'⟩:∃ th',th'=u1++(dz,σB) :: u2:=⟨_,rfl⟩;obtain⟨hd',hhd'⟩:∃ hd',hd'=pre++m1 :: (mid1++⟨m2.dst,none,.mv (.c dA)⟩ :: mid2):=⟨_,rfl⟩;rw [<- htr] at k1 hfree hweak hQ hlen;rw [<- htr'] at j1 hfree hweak hlen';have lhd:l=hd_++post:=by rw [hls,hhd]; simp
 have lhd':l'=hd'++post:=by rw [hl',hhd']; simp
 have tth:tr=th++t4:=by rw [htr,hth]; simp
 have tth':tr'=th'++u4:=by rw [htr',hth']; simp
 have nhd:hd_.length=s:=by rw [hhd]; simp; omega
 have nhd':hd'.length=s:=by rw [hhd']; simp; omega
 have nth:th.length=s:=by rw [hth]; simp [a3,b3,c3]; omega
 have nth':th'.length=s:=by rw [hth']; simp [d3,e3]; omega
 have hF3:vM hd_ th f=vM mid2 t3 ((vM mid1 t2 ((vM pre t1 f).put m1.dst dx)).put m2.dst dy):=by rw [hhd,hth,nN _ _ _ a3];show vM (mid1++m2 :: mid2) (t2++(dy,σ2) :: t3) _=_;rw [nN _ _ _ b3]; rfl
 have hG3:vM hd' th' f=vM (mid1++⟨m2.dst,none,.mv (.c dA)⟩ :: mid2) u2 ((vM pre u1 f).put m1.dst dz):=by rw [hhd',hth',nN _ _ _ d3]; rfl
 rw [<- hF3] at q0 q1 q2;rw [<- hG3] at qA qB;have dq:∀ dx dy,(TY pre m1.dst dx mid1 m2.dst dy mid2).map (·.dst)= hd_.map (·.dst):=λdx dy=>by rw [hhd]; simp [TY]
 have dq':∀ dx dy,(TY pre m1.dst dx mid1 m2.dst dy mid2).map (·.dst)= hd'.map (·.dst):=λdx dy=>by rw [hhd']; simp [TY]
 have dok:uU hd_=true:=by have:=R.He; rw [R.eq,<- hhd] at this; exact this
 have dok':uU hd'=true:=(nq ((dq' dx dy).symm.trans (dq dx dy))).trans dok
 have qat:∀ dx dy i,i≠x->i≠y->(TY pre m1.dst dx mid1 m2.dst dy mid2)[i]?=hd_[i]?:=λdx dy i h1 h2=>by rw [hhd];show (pre++_ :: (mid1++_ :: mid2))[i]?=_;rw [cg (c:=m1) (by omega),show pre++m1 :: (mid1++⟨m2.dst,none,DK.mv (.c dy)⟩ :: mid2)= (pre++m1 :: mid1)++ ⟨m2.dst,none,DK.mv (.c dy)⟩ :: mid2 by simp,cg (c:=m2) (by simp; omega)];simp
 have hat:∀ i,i≠y->hd'[i]?=hd_[i]?:=λi h2=>by rw [hhd,hhd',show pre++m1 :: (mid1++⟨m2.dst,none,DK.mv (.c dA)⟩ :: mid2)= (pre++m1 :: mid1)++ ⟨m2.dst,none,DK.mv (.c dA)⟩ :: mid2 by simp,cg (c:=m2) (by simp; omega)];simp
 have lat:∀ i,i≠y->l'[i]?=l[i]?:=λi h2=>by rw [hls,hl',show pre++m1 :: ((mid1++⟨m2.dst,none,DK.mv (.c dA)⟩ :: mid2)++ post)= (pre++m1 :: mid1)++ ⟨m2.dst,none,DK.mv (.c dA)⟩ :: (mid2++post) by simp,cg (c:=m2) (by simp; omega)];simp
 have ly:l[y]?=some m2:=by have:=Zz (A:=pre++m1 :: mid1) (B:=mid2++post) (b:=m2);rw [hls,hy0];rw [show (pre++m1 :: mid1).length=pre.length+1+mid1.length by simp; omega] at this;rw [<- this]; simp
 have ly':l'[y]?=some ⟨m2.dst,none,.mv (.c dA)⟩:=by have:=Zz (A:=pre++m1 :: mid1) (B:=mid2++post) (b:=(⟨m2.dst,none,.mv (.c dA)⟩:xB));rw [hl',hy0];rw [show (pre++m1 :: mid1).length=pre.length+1+mid1.length by simp; omega] at this;rw [<- this]; simp
 have lx:l[x]?=some m1:=by rw [hls,hx0]; exact Zz
 have ldst:∀ j,vE l' j=vE l j:=λj=>by
  unfold vE
  by_cases h:j=y
  ·subst h; rw [ly,ly']; rfl
  ·rw [lat j h]
 have tdy:vF tr' y=dA:=by have hjt:=j1.at y _ ly';obtain⟨d,σ',h1,h2⟩:=hjt;simp only [yG,rP,pW,qE] at h2;simp only [vF,h1,Aw,Au];exact h2.1.symm
 have muh:∀ i,i<s->(qD C.own l i=true ↔ i=x\/i=y):=λi hi=>by
  have hli:l[i]?=hd_[i]?:=by rw [lhd,δ (by omega)]
  rcases An i x with h | h | h
  ·have:hd_[i]?=pre[i]?:=by rw [hhd,δ (by omega)]
   rw [uA (hli.trans (this.trans (ζ (by omega)))),R.n1 _ (ξ _)];simp; omega
  ·subst h; rw [uA lx,R.n2]; simp
  ·rcases An i y with g | g | g
   ·obtain⟨k,rfl⟩:∃ k,i=pre.length+(k+1):=⟨i-pre.length-1,by omega⟩
    have:hd_[pre.length+(k+1)]?=mid1[k]?:=by rw [hhd,ε (by omega),show pre.length+(k+1)-pre.length=k+1 by omega,η,δ (by omega)]
    rw [uA (hli.trans (this.trans (ζ (by omega)))),R.n3 _ (ξ _)];simp; omega
   ·subst g; rw [uA ly,R.n4]; simp
   ·obtain⟨k,rfl⟩:∃ k,i=pre.length+1+mid1.length+(k+1):=⟨i-(pre.length+1+mid1.length)-1,by omega⟩
    have:hd_[pre.length+1+mid1.length+(k+1)]?=mid2[k]?:=by rw [hhd,ε (by omega),show pre.length+1+mid1.length+(k+1)-pre.length=(mid1.length+(k+1))+ 1 by omega,η,ε (by omega),show mid1.length+(k+1)-mid1.length=k+1 by omega,η]
    rw [uA (hli.trans (this.trans (ζ (by omega)))),R.n5 _ (ξ _)];simp; omega
 have st0:∀ p,p<=x->vB (tr.take p) σ=σ:=λp hp=>by rw [htr,γ (by omega)];exact zB λx hx=>a4 x (μ hx)
 have st1:∀ p,x<p->p<=y->vB (tr.take p) σ=σ1:=λp h1 h2=>by obtain⟨k,rfl⟩:∃ k,p=t1.length+(k+1):=⟨p-t1.length-1,by omega⟩;rw [htr,θ,ν,γ (by omega),oP];exact zB (t:=t2.take k) λx hx=>b4 x (μ hx)
 have st2:∀ p,y<p->p<=s->vB (tr.take p) σ=σ2:=λp h1 h2=>by obtain⟨k,rfl⟩:∃ k,p=t1.length+((t2.length+(k+1))+ 1):=⟨p-t1.length-1-t2.length-1,by omega⟩;rw [htr,θ,ν,θ,ν,γ (by omega),oP];show vB (t2++(dy,σ2) :: t3.take k) σ1=σ2;rw [oP];exact zB (t:=t3.take k) λx hx=>c4 x (μ hx)
 have stA:∀ p,p<=x->vB (tr'.take p) σA=σA:=λp hp=>by rw [htr',γ (by omega)];exact zB λx hx=>d4 x (μ hx)
 have stB:∀ p,x<p->p<=s->vB (tr'.take p) σA=σB:=λp h1 h2=>by
  have hu2:u2.length=mid1.length+1+mid2.length:=by rw [e3]; simp; omega
  obtain⟨k,rfl⟩:∃ k,p=u1.length+(k+1):=⟨p-u1.length-1,by omega⟩;rw [htr',θ,ν,γ (by omega),oP];exact zB (t:=u2.take k) λx hx=>e4 x (μ hx)
 have sp:Zt ops l s (qD C.own l) (λi j=>i==pre.length&&j==pre.length+1+mid1.length):=vz R.ok;have bk:Zs ops:=vv R.ok;have hal3:m2.names=(⟨m2.dst,none,.mv (.c dA)⟩:xB).names:=by unfold xB.names; rw [hal,hg2]; rfl
 obtain⟨hdl,hdg⟩:=vC hd;have hdl2:l.length=ops.size:=by simpa using hdl
 have G':Good C E a { w with drawn:=w.drawn+1 } f σ:=by obtain⟨ι,G⟩:=G;have hk:Kept w w.drew λ_=>False:=(Kept.refl _ _).drew;have hS:=G.nJ.ext hk;exact⟨ι,⟨G.size,G.defers.yJ rfl (Am _) λD hD=>hD,G.nx,G.kept.drew,hS,G.tV,G.rD,G.stay,G.fr.yJ (λb hb _=>rfl) (λ_ _ h=>h) hk.shape (λ_ _=>rfl) (Am _)⟩⟩
 have hf0:∀ j,(Array.replicate ops.size false).getD j false=false:=getD_replicate_false ops.size
 refine wpIn_region_any hm (qg (ds:=l) (tr:=tr) (s:=s) (mu:=qD C.own l) (f:=f) (σ:=σ) (xo:=λi j=>i==pre.length&&j==pre.length+1+mid1.length) (l0:=λ_=>false) hdl (λi o h=>by obtain⟨dop,h1,h2⟩:=hdg i o h; exact⟨dop,h1,λ_=>h2⟩) sp bk (λi j h=>by simp at h; omega) k1 hlen hsl (λm hms hmm=>?_) (λi hi him=>?_) (λi dop p YU him hps hdop hns hor=>?_) (λa w G'=>⟨_,_,G',hQ⟩) (λfuel listed a w i j hfew I hi hxo hlj=>?_) _ _ _ _ ?_ ⟨by simp,(λ_ j _ h=>by rw [hf0] at h; cases h),(λ_ h=>by cases h),(λj o _ hT=>by rw [hf0] at hT; cases hT),f,λt=>?_,?_⟩)
 ·rcases(muh m hms).1 hmm with rfl | rfl
  ·rw [tZ lx]; exact R.TJ
  ·rw [tZ ly]; exact hal2
 ·have hne:i≠x/\i≠y:=by
   refine⟨λh=>?_,λh=>?_⟩
   ·rw [(muh i hi).2 (.inl h)] at him; cases him
   ·rw [(muh i hi).2 (.inr h)] at him; cases him
  rcases Al i x with h | h
  ·rw [st0 (i+1) (by omega),st0 i (by omega)]
  ·rcases Al i y with g | g
   ·rw [st1 (i+1) (by omega) (by omega),st1 i (by omega) (by omega)]
   ·rw [st2 (i+1) (by omega) (by omega),st2 i (by omega) (by omega)]
 ·have hne:i≠x/\i≠y:=by
   refine⟨λh=>?_,λh=>?_⟩
   ·rw [(muh i YU).2 (.inl h)] at him; cases him
   ·rw [(muh i YU).2 (.inr h)] at him; cases him
  have z1:l.take i=hd_.take i:=by rw [lhd,γ (by omega)]
  have z2:tr.take i=th.take i:=by rw [tth,γ (by omega)]
  have z3:vF tr i=vF th i:=by unfold vF; rw [tth,δ (by omega)]
  have z4:hd_[i]?=some dop:=by rw [<- hdop,lhd,δ (by omega)]
  rw [z1,z2,z3]
  rcases Al x p with h | h
  ·rcases Al y p with g | g
   ·rw [st2 p g hps]; exact fE (dq dx dy) dok (by omega) q2 ((qat dx dy i hne.1 hne.2).trans z4)
   ·rw [st1 p h g]; exact fE (dq dx dy) dok (by omega) q1 ((qat dx dy i hne.1 hne.2).trans z4)
  ·rw [st0 p h]; exact fE (dq dx dy) dok (by omega) q0 ((qat dx dy i hne.1 hne.2).trans z4)
 ·-- THE OBJECT COMES FIRST
  simp only [Ax,beq_iff_eq] at hxo;obtain⟨rfl,rfl⟩:j=x/\i=y:=by omega
  obtain⟨hun,o,ho,hall⟩:=mem_ready.1 hi;have hlt:i<ops.size:=(Array.getElem?_eq_some_iff.1 ho).1;have hTi:listed.getD i false=false:=getD_both hun;have hol:ops.toList[i]?=some o:=by simpa using ho
  obtain⟨dop,hdop,hmk⟩:=hdg i o hol;obtain rfl:dop=m2:=by rw [ly] at hdop; exact(Option.some.inj hdop).symm
  have hTlen:∀ j,listed.getD j false=true->j<ops.toList.length:=by
   intro j hj
   rcases Al j listed.size with h | h
   ·simp; rw [<- I.size]; exact h
   ·simp [Array.getElem?_eq_none h] at hj
  have late:∀ k,listed.getD k false=false->∀ m,ordered (wZ ops.toList []) k m=true->listed.getD m false=false:=by
   intro k hk m hm2
   by_cases h:listed.getD m false=true
   ·have this:listed.getD k false=true:=pK (T:=λj=>listed.getD j false) I.closed hTlen m h k hm2;rw [hk] at this;cases this
   ·simpa using h
  have hopsj:∀ j,j<l.length->ops.toList[j]?=some (ops.toList.getD j o):=λj hj=>by
   have:j<ops.toList.length:=by omega
   simp only [List.getD,ζ this,Au]
  have hdsj:∀ j,j<l.length->l[j]?=some (l.getD j dop):=λj hj=>by simp [List.getD,hj]
  have post0:∀ k,k<l.length->s<=k->uW l k=false->listed.getD k false=false:=by
   intro k hk hks hns;rw [tZ (hdsj k hk)] at hns
   rcases sp (hopsj k hk) (hdsj k hk) ly (by omega:i<k) with h | ⟨_,h | h | h | h⟩
   ·exact late i hTi k h
   ·omega
   ·rw [hal2] at h; cases h
   ·rw [hns] at h; cases h
   ·simp at h; omega
  have hT':∀ k,(listed.setIfInBounds i true).getD k false=if i=k then true else listed.getD k false:=by
   intro k
   by_cases h:i=k
   ·subst h;have:i<listed.size:=by rw [I.size]; exact hlt
    simp [this]
   ·rw [if_neg h];exact getD_set_ne false h
  obtain⟨g,hg,G2⟩:=I.VK
  have hsil:∀ (ds:List xB) (tr:List (D × St)) (f:Fr) (σ:St) (mu:Nat->Bool),Trace C ds f σ tr->(∀ i,i<s->mu i=false->vB (tr.take (i+1)) σ=vB (tr.take i) σ)->∀ j,j<ds.length->quiet ds mu s j=true->vB (tr.take (j+1)) σ=vB (tr.take j) σ:=by
   intro ds tr f σ mu ht hpre j hj hs
   by_cases hsj:uW ds j=true
   ·have ho:ds[j]?=some ds[j]:=ζ hj;obtain⟨d,σ',h1,h2⟩:=ht.at j _ ho;rw [aB tr σ j _ h1];simp only [uW,ho,Aw,Au] at hsj;unfold yG at h2
    split at h2
    ·exact(mI hsj h2).1
    ·split at h2
     ·exact(Classical.em _).elim (λhbw=>(mI hsj ((uG h2).1 hbw)).1) (λhbw=>((uG h2).2 hbw).2)
     ·exact h2.2
     ·exact h2.elim
   ·simp only [quiet,Bool.or_eq_true,hsj,false_or,Ax,decide_eq_true_eq,Bool.false_eq_true,Bool.not_eq_true'] at hs;exact hpre j hs.1 hs.2
  have preT:∀ i',i'<s->qD C.own l i'=false->vB (tr.take (i'+1)) σ=vB (tr.take i') σ:=λk hk him=>by
   have hne:k≠j/\k≠i:=by
    refine⟨λh=>?_,λh=>?_⟩
    ·rw [(muh k hk).2 (.inl h)] at him; cases him
    ·rw [(muh k hk).2 (.inr h)] at him; cases him
   rcases Al k j with h | h
   ·rw [st0 (k+1) (by omega),st0 k (by omega)]
   ·rcases Al k i with g | g
    ·rw [st1 (k+1) (by omega) (by omega),st1 k (by omega) (by omega)]
    ·rw [st2 (k+1) (by omega) (by omega),st2 k (by omega) (by omega)]
  have hst:SV (quiet l (qD C.own l) s) tr σ (λi=>listed.getD i false) l.length=σ:=by
   rw [cI (i:=0) (hsil l tr f σ _ k1 preT) l.length (Am _) λk hk hq=>⟨λhT=>?_,λh=>by omega⟩]
   ·simp [vB]
   ·exfalso;obtain⟨h1,h2⟩:=tW.1 hq
    rcases Al k s with h | h
    ·rcases(muh k h).1 (h2.resolve_right (by omega)) with rfl | rfl
     ·rw [hlj] at hT; cases hT
     ·rw [hTi] at hT; cases hT
    ·rw [post0 k hk h h1] at hT; cases hT
  rw [hst] at G2
  have key:yG dop g (rP C σ (qE g) dop.k λx y=>x=dA/\y=σA) (D.sS=dA/\σ=σA):=by simp only [yG,hg2];exact eN (λx hx=>by rw [hal] at hx; cases hx) hA
  have hstep:=yi (next:=wpAnyIn C.F 0 C.P .any ops (LQ C E Q) fuel (listed.setIfInBounds i true)) (Q:=LQ C E Q) (K:=λx y=>x=dA/\y=σA) hmk G2 (qG key (λh=>h) (λh=>h)) (λa' w' d' σ'' G3 hk=>by
   obtain⟨rfl,rfl⟩:=hk
   refine qg (ds:=l') (tr:=tr') (s:=s) (mu:=λi=>decide (i=j)) (f:=f) (σ:=σ'') (xo:=λ_ _=>false) (l0:=λk=>decide (k=i)) (by omega) (λk o' h=>?_) (λ{i1 j1 oj di dj} h1 h2 h3 h4=>?_) bk (λ_ _ h=>by cases h) j1 hlen' (by omega) (λm hms hmm=>?_) (λk hk him=>?_) (λk dop2 p YU him hps hdq hns hor=>?_) (λa w G'=>⟨_,_,hweak E a w G',hQ⟩) (λ_ _ _ _ _ _ _ _ _ h=>by cases h) _ _ _ _ hfew ⟨by simp [I.size],(λ_ _ h=>by cases h),λk hk=>?_,λk ok hk hT e he hb=>?_,g.put dop.dst d',λt=>?_,?_⟩
   ·obtain⟨dop3,g1,g2⟩:=hdg k o' h
    by_cases hki:k=i
    ·subst hki; exact⟨_,ly',λh=>by simp at h⟩
    ·exact⟨dop3,(lat k hki).trans g1,λ_=>g2⟩
   ·by_cases hj1:j1=i
    ·subst hj1;rw [ly'] at h2; cases h2;rw [lat i1 (by omega)] at h3
     rcases sp h1 ly h3 h4 with h | ⟨h,_⟩
     ·exact .inl h
     ·exact .inr ⟨(YW (a:=⟨dop.dst,none,.mv (.c d')⟩) (b:=dop) rfl hal3.symm).trans h,.inr (.inr (.inl rfl))⟩
    ·rw [lat j1 hj1] at h2
     by_cases hi1:i1=i
     ·subst hi1;rw [ly'] at h3; cases h3
      rcases sp h1 h2 ly h4 with h | ⟨h,_⟩
      ·exact .inl h
      ·exact .inr ⟨(Wo (a:=⟨dop.dst,none,.mv (.c d')⟩) (b:=dop) rfl hal3.symm).trans h,.inr (.inl rfl)⟩
     ·rw [lat i1 hi1] at h3
      rcases sp h1 h2 h3 h4 with h | ⟨h,h5 | h5 | h5 | h5⟩
      ·exact .inl h
      ·exact .inr ⟨h,.inl ⟨h5.1,λ⟨q1,q2⟩=>by simp at q1 q2; omega⟩⟩
      ·exact .inr ⟨h,.inr (.inl h5)⟩
      ·exact .inr ⟨h,.inr (.inr (.inl h5))⟩
      ·simp at h5; omega
   ·obtain rfl:m=j:=by simpa using hmm
    rw [tZ ((lat m (by omega)).trans lx)]; exact R.TJ
   ·have hkj:k≠j:=by simpa using him
    rcases Al k j with h | h
    ·rw [stA (k+1) (by omega),stA k (by omega)]
    ·rw [stB (k+1) (by omega) (by omega),stB k (by omega) (by omega)]
   ·have hkj:k≠j:=by simpa using him
    have hki:k≠i:=λh=>by subst h; rw [ly'] at hdq; cases hdq; cases hns
    have z1:l'.take k=hd'.take k:=by rw [lhd',γ (by omega)]
    have z2:tr'.take k=th'.take k:=by rw [tth',γ (by omega)]
    have z3:vF tr' k=vF th' k:=by unfold vF; rw [tth',δ (by omega)]
    have z4:hd_[k]?=some dop2:=by rw [<- hat k hki,<- hdq,lhd',δ (by omega)]
    rw [z1,z2,z3]
    rcases Al j p with h | h
    ·rw [stB p h hps]; exact fE (dq' dz d') dok' (by omega) qB ((qat dz d' k hkj hki).trans z4)
    ·rw [stA p h]; exact fE (dq' dz d') dok' (by omega) qA ((qat dz d' k hkj hki).trans z4)
   ·obtain rfl:k=i:=by simpa using hk
    rw [hT',if_pos rfl]
   ·by_cases h:i=k
    ·subst h;rw [hol] at hk;simp at hk; subst hk;exact getD_set_true (hall e he hb)
    ·rw [hT',if_neg h] at hT;exact getD_set_true (I.closed k ok hk hT e he hb)
   ·have hnd:(l'.filterMap (·.dst)).Nodup:=by
     have:l'.filterMap (·.dst)= l.filterMap (·.dst):=by rw [hls,hl']; simp [List.filterMap_append,Af]
     rw [this]; exact R.nodup
    by_cases hdt:dop.dst=some t
    ·rw [hdt,Fr.eZ,if_pos rfl,iQ (i:=i) (by rw [hT' i]; simp) (by rw [ldst,vE,ly]; exact hdt) l'.length (by omega) λk h1 h2 h3=>?_]
     ·exact tdy.symm
     ·have:=yg hnd h3 (by rw [ldst,vE,ly]; exact hdt:vE l' i=some t);omega
    ·have e1:(g.put dop.dst d').get t=g.get t:=by
      cases hdd:dop.dst with
      | none=>rfl
      | some u=>rw [Fr.eZ,if_neg (λe=>by subst e; exact hdt hdd)]
     rw [e1,hg t,hll];refine(Vc ldst l.length λk hk hkt=>?_).symm;have hki:k≠i:=λe=>by subst e; rw [vE,ly] at hkt; exact hdt hkt
     refine⟨by rw [hT',if_neg (λe=>hki e.symm)],λhT=>?_⟩;have hkj:k≠j:=λe=>by subst e; rw [hlj] at hT; cases hT
     have hfr:t ∈ free:=by
      rw [R.fr];unfold T6;refine Ah.2 ⟨k,Ab.2 hk,?_⟩
      have o1:ordered (wZ ops.toList []) pre.length k=false:=by
       cases h:ordered (wZ ops.toList []) pre.length k with
       | false=>rfl
       | true=>rw [<- hx0] at h; rw [late j hlj k h] at hT; cases hT
      have o2:ordered (wZ ops.toList []) (pre.length+1+mid1.length) k=false:=by
       cases h:ordered (wZ ops.toList []) (pre.length+1+mid1.length) k with
       | false=>rfl
       | true=>rw [<- hy0] at h; rw [late i hTi k h] at hT; cases hT
      rw [if_neg (by simp [o1,o2]; omega)];exact hkt
     have:=hfree t hfr;rw [VX hlen R.nodup hk hkt,VX hlen' hnd (by omega:k<l'.length) ((ldst k).trans hkt)] at this;exact this.symm
   ·have:SV (quiet l' (λi=>decide (i=j)) s) tr' σ'' (λk=>(listed.setIfInBounds i true).getD k false) l'.length=σ'':=by
     rw [cI (i:=0) (hsil l' tr' f σ'' _ j1 (λk hk him=>by
      have hkj:k≠j:=by simpa using him
      rcases Al k j with h | h
      ·rw [stA (k+1) (by omega),stA k (by omega)]
      ·rw [stB (k+1) (by omega) (by omega),stB k (by omega) (by omega)])) l'.length (Am _) λk hk hq=>⟨λhT=>?_,λh=>by omega⟩]
     ·simp [vB]
     ·exfalso;obtain⟨h1,h2⟩:=tW.1 hq;have hki:k≠i:=λh=>by subst h; rw [tZ ly'] at h1; cases h1
      rw [hT',if_neg (λh=>hki h.symm)] at hT
      rcases h2 with h2 | h2
      ·obtain rfl:k=j:=by simpa using h2
       rw [hlj] at hT; cases hT
      ·rw [post0 k (by omega) h2 (by unfold uW at h1 ⊢; rw [<- lat k hki]; exact h1)] at hT; cases hT
    rw [this];exact G3)
  unfold wpOpIn;simp only [ho];exact hstep
 ·exact Nat.le_trans (List.length_filter_le _ _) (by simp)
 ·rw [ry (i:=0) l.length λj _ _=>⟨(λh=>by rw [hf0] at h; cases h),λh=>by omega⟩];simp [LV]
 ·have:SV (quiet l (qD C.own l) s) tr σ (λi=>(Array.replicate ops.size false).getD i false) l.length=σ:=by refine(Zw (k:=0) _ λj _ _ (hT:(Array.replicate ops.size false).getD j false=true)=>by rw [hf0] at hT; cases hT).trans (if_neg λh=>?_);have h2:(Array.replicate ops.size false).getD 0 false=true:=h.2.1;rw [hf0] at h2; cases h2
  rw [this];exact G'
def gH : List Nat->Fr->Fr->Prop
 | [],_,_=>True
 | t :: r,f,g=>f.get t=g.get t/\gH r f g
theorem nv : ∀ {l:List Nat} {f g:Fr},gH l f g=∀ t ∈ l,f.get t=g.get t
 | [],f,g=>by simp [gH]
 | t :: r,f,g=>by simp [gH,nv (l:=r)]
theorem iI (f g:Fr):gH [] f g=True:=rfl
theorem lG (t:Nat) (r:List Nat) (f g:Fr):gH (t :: r) f g=(f.get t=g.get t/\gH r f g):=rfl
def tz (C:Cx) (σ:St) (pre:List xB) (o1:Option Nat) (dx:D) (mid1:List xB) (o2:Option Nat) (dy:D) (mid2:List xB) (g f:Fr):Prop:= pG C σ pre (pG C σ (⟨o1,none,.mv (.c dx)⟩ :: mid1) (pG C σ (⟨o2,none,.mv (.c dy)⟩ :: mid2) (Mc g))) f
def L5 (C:Cx) (free:List Nat) (K:Fr->St->Prop) (f4:Fr) (σ4:St) (g4:Fr) (σ5:St):Prop:=gH free f4 g4/\xT C g4 σ5 f4 σ4/\K f4 σ4
def L4 (C:Cx) (post:List xB) (free:List Nat) (K:Fr->St->Prop) (g3:Fr) (σB:St) (f4:Fr) (σ4:St):Prop:=bN C post (L5 C free K f4 σ4) g3 σB
def L3 (C:Cx) (pre:List xB) (o1:Option Nat) (dz:D) (mid1:List xB) (o2:Option Nat) (dA:D) (mid2 post:List xB) (free:List Nat) (K:Fr->St->Prop) (f f3:Fr) (σ2 σA σB:St) (g3:Fr):Prop:= tz C σA pre o1 dz mid1 o2 dA mid2 g3 f/\tz C σB pre o1 dz mid1 o2 dA mid2 g3 f/\bN C post (L4 C post free K g3 σB) f3 σ2
def L2 (C:Cx) (pre:List xB) (o1:Option Nat) (mid1:List xB) (o2:Option Nat) (dA:D) (mid2 post:List xB) (free:List Nat) (K:Fr->St->Prop) (f f3:Fr) (σ2 σA:St) (g1:Fr) (dz:D) (σB:St):Prop:= pG C σB mid1 (pG C σB (⟨o2,none,.mv (.c dA)⟩ :: mid2) (L3 C pre o1 dz mid1 o2 dA mid2 post free K f f3 σ2 σA σB)) (g1.put o1 dz)
def L1 (C:Cx) (pre:List xB) (o1:Option Nat) (k1:DK) (mid1:List xB) (o2:Option Nat) (mid2 post:List xB) (free:List Nat) (K:Fr->St->Prop) (f f3:Fr) (σ2:St) (dA:D) (σA:St):Prop:= pG C σA pre (bC C k1 (L2 C pre o1 mid1 o2 dA mid2 post free K f f3 σ2 σA) σA) f
def L0 (C:Cx) (pre:List xB) (o1:Option Nat) (k1:DK) (dx:D) (mid1:List xB) (o2:Option Nat) (k2:DK) (dy:D) (mid2 post:List xB) (free:List Nat) (K:Fr->St->Prop) (f:Fr) (σ σ1 σ2:St) (f3:Fr):Prop:= tz C σ pre o1 dx mid1 o2 dy mid2 f3 f/\tz C σ1 pre o1 dx mid1 o2 dy mid2 f3 f/\tz C σ2 pre o1 dx mid1 o2 dy mid2 f3 f/\mr C σ (qE f) k2 (L1 C pre o1 k1 mid1 o2 mid2 post free K f f3 σ2)
def VS (C:Cx) (pre:List xB) (o1:Option Nat) (k1:DK) (dx:D) (mid1:List xB) (o2:Option Nat) (k2:DK) (mid2 post:List xB) (free:List Nat) (K:Fr->St->Prop) (f:Fr) (σ σ1:St) (f2:Fr) (dy:D) (σ2:St):Prop:= pG C σ2 mid2 (L0 C pre o1 k1 dx mid1 o2 k2 dy mid2 post free K f σ σ1 σ2) (f2.put o2 dy)
def VR (C:Cx) (pre:List xB) (o1:Option Nat) (k1:DK) (mid1:List xB) (o2:Option Nat) (k2:DK) (mid2 post:List xB) (free:List Nat) (K:Fr->St->Prop) (f:Fr) (σ:St) (f1:Fr) (dx:D) (σ1:St):Prop:= pG C σ1 mid1 (bC C k2 (VS C pre o1 k1 dx mid1 o2 k2 mid2 post free K f σ σ1) σ1) (f1.put o1 dx)
def o9 (C:Cx) (pre:List xB) (o1:Option Nat) (k1:DK) (mid1:List xB) (o2:Option Nat) (k2:DK) (mid2 post:List xB) (free:List Nat) (K:Fr->St->Prop) (f:Fr) (σ:St):Prop:= pG C σ pre (bC C k1 (VR C pre o1 k1 mid1 o2 k2 mid2 post free K f σ) σ) f
theorem sM {C:Cx} {σ:St} {l:List xB} {f:Fr} {K K':Fr->Prop} (h:∀ g,K g=K' g):pG C σ l K f=vG C σ l f K':=by rw [iZ,iW,funext h]
theorem sq {C:Cx} {σ:St} {ev:uF->D} {k:DK} {K K':D->St->Prop} (h:∀ d σ',K d σ'=K' d σ'):mr C σ ev k K=rP C σ ev k K':=by rw [Y6,show K=K' from funext λd=>funext λσ'=>h d σ']
theorem az {C:Cx} {l:List xB} {f:Fr} {σ:St} {K K':Fr->St->Prop} (h:∀ g s,K g s=K' g s):bN C l K f σ=sJ C l f σ K':=by rw [iU,fC,show K=K' from funext λd=>funext λσ'=>h d σ']
theorem oB {C:Cx} {σ:St} {K:Fr->Prop} {l2:List xB}:∀ {l1:List xB} {f:Fr},vG C σ (l1++l2) f K=vG C σ l1 f λg=>vG C σ l2 g K
 | [],f=>rfl
 | o :: r,f=>by have ih:(λg=>vG C σ (r++l2) g K)= λg=>vG C σ r g λg=>vG C σ l2 g K:=funext λg=>oB (l1:=r);show vG C σ (o :: (r++l2)) f K=_;simp only [vG];have:∀ g,vG C σ (r++l2) g K=vG C σ r g λg=>vG C σ l2 g K:=λg=>congrFun ih g;simp only [this]
theorem aY {C:Cx} {σ:St} {pre:List xB} {o1:Option Nat} {dx:D} {mid1:List xB} {o2:Option Nat} {dy:D} {mid2:List xB} {g f:Fr}:tz C σ pre o1 dx mid1 o2 dy mid2 g f=vG C σ (TY pre o1 dx mid1 o2 dy mid2) f λx=>x=g:=by unfold tz TY;rw [oB];refine sM λg1=>?_;rw [show (⟨o1,none,DK.mv (.c dx)⟩:xB) :: (mid1++⟨o2,none,DK.mv (.c dy)⟩ :: mid2)= (⟨o1,none,DK.mv (.c dx)⟩ :: mid1)++ ⟨o2,none,DK.mv (.c dy)⟩ :: mid2 from rfl,oB];exact sM λg2=>sM λg3=>rfl
theorem RF {C:Cx} {pre:List xB} {o1:Option Nat} {g1:Option (Nat × Bool)} {k1:DK} {mid1:List xB} {o2:Option Nat} {g2:Option (Nat × Bool)} {k2:DK} {mid2 post:List xB} {free:List Nat} {K:Fr->St->Prop} {f:Fr} {σ:St} :
  o9 C pre o1 k1 mid1 o2 k2 mid2 post free K f σ=Wd C pre ⟨o1,g1,k1⟩ mid1 ⟨o2,g2,k2⟩ mid2 post free f σ K:=by
 unfold o9 Wd;refine sM λf1=>sq λdx σ1=>?_;unfold VR;refine sM λf2=>sq λdy σ2=>?_;unfold VS;refine sM λf3=>?_;unfold L0;refine congr (congrArg And aY) (congr (congrArg And aY) (congr (congrArg And aY) (sq λdA σA=>?_)));unfold L1;refine sM λh1=>sq λdz σB=>?_;unfold L2;rw [oB];refine sM λh2=>sM λg3=>?_;unfold L3;refine congr (congrArg And aY) (congr (congrArg And aY) (az λf4 σ4=>?_));unfold L4;refine az λg4 σ5=>?_;unfold L5;rw [nv]
theorem jk {C:Cx} (hm:C.P.follows .mixedOrders=true) {pre:List xB} {o1:Option Nat} {g1:Option (Nat × Bool)} {k1:DK} {mid1:List xB} {o2:Option Nat} {g2:Option (Nat × Bool)} {k2:DK} {mid2 post:List xB} {free:List Nat} {f:Fr} {σ:St} {Q:Exit->Fr->St->Prop}
  (h:o9 C pre o1 k1 mid1 o2 k2 mid2 post free (gX Q) f σ):wpS C (.cT pre ⟨o1,g1,k1⟩ mid1 ⟨o2,g2,k2⟩ mid2 post free) f σ Q:=
 S8 hm (RF ▸ h)
theorem l6 {C:Cx} {pre:List xB} {m1:xB} {mid1:List xB} {m2:xB} {mid2 post:List xB} {free:List Nat} {f:Fr} {σ:St} {Q:Exit->Fr->St->Prop}:mw C (.cT pre m1 mid1 m2 mid2 post free) Q f σ=wpS C (.cT pre m1 mid1 m2 mid2 post free) f σ Q:=by rw [qU]; rfl
def gL : List Bool->List xB->Fr->List xB
 | true :: fl,o :: r,f1=>⟨o.dst,none,.mv (.c (match o.dst with | some t=>f1.get t | none=>.top))⟩ :: gL fl r f1
 | false :: fl,o :: r,f1=>o :: gL fl r f1
 | [],l,_=>l
 | _,[],_=>[]
theorem yq : ∀ {fl:List Bool} {l:List xB} {f1:Fr},(gL fl l f1).map (·.dst)= l.map (·.dst)
 | true :: fl,o :: r,f1=>by simp only [gL,Ac,yq (l:=r)]
 | false :: fl,o :: r,f1=>by simp only [gL,Ac,yq (l:=r)]
 | [],l,f1=>by cases l <;> rfl
 | true :: fl,[],f1=>rfl
 | false :: fl,[],f1=>rfl
theorem rf : ∀ {fl:List Bool} {l:List xB} {f1:Fr} {i:Nat},fl.getD i false=false->(gL fl l f1)[i]?=l[i]?
 | true :: fl,o :: r,f1,0,h=>by simp at h
 | false :: fl,o :: r,f1,0,h=>rfl
 | true :: fl,o :: r,f1,i+1,h=>by simp only [gL,η]; exact rf (by simpa using h)
 | false :: fl,o :: r,f1,i+1,h=>by simp only [gL,η]; exact rf (by simpa using h)
 | [],l,f1,i,h=>by cases l <;> rfl
 | true :: fl,[],f1,i,h=>rfl
 | false :: fl,[],f1,i,h=>rfl
def We (C:Cx) (pre:List xB) (m:xB) (mid:List xB) (un:Bool) (post:List xB) (fl:List Bool) (f:Fr) (σ:St) (K:Fr->St->Prop):Prop:= vG C σ pre f λf1=>rP C σ (qE f1) m.k λd σ1=>vG C σ1 (gL fl pre f1) f (λg=>g=f1)/\ vG C σ1 mid (f1.put m.dst d) λf2=>(if un=true then vG C σ mid (f1.put m.dst d) (λg=>g=f2) else True)/\ sJ C post f2 σ1 K
theorem Qa {P:Program} {N:Nat} {own:List Nat} {code:Code} {pre:List xB} {m:xB} {mid:List xB} {un:Bool} {post:List xB} {fl:List Bool} (h:tE P N own code=some (.bP pre m mid un post fl)) :
  ∃ id ops l,code = .region id ops true/\uV (jD P N own ops) ops.toList=some l/\own.contains 77777=false/\sc ops.toList l (tH own l) (qD own l)= true/\post=l.drop (tH own l)/\ KZ own ops.toList l (tH own l) pre m mid un fl:=by
 cases code with
 | region id ops draw=>
  simp only [tE] at h
  split at h
  ·rename_i d hd;cases h
   rcases iL hd with ⟨_,h2 | h2 | h2⟩ | ⟨_,h2,_⟩
   ·obtain⟨_,_,_,_,_,_,_,_,_,_,_,_,_,_,_,e⟩:=rN h2; cases e
   ·obtain⟨_,_,_,_,_,_,_,_,_,_,_,_,_,_,e⟩:=jP h2; cases e
   ·obtain⟨_,_,_,_,_,_,_,_,_,_,_,e⟩:=jO h2; cases e
   ·obtain⟨_,_,_,_,_,_,_,_,_,_,_,_,_,_,_,e⟩:=rN h2; cases e
  ·simp only [Av,As] at h;obtain⟨l,hl,h⟩:=h
   split at h
   ·rename_i hdr
    split at h
    ·rename_i hok
     split at h
     ·rename_i d hv;cases h;obtain⟨_,_,_,_,_,_,e,hp,hR⟩:=iN hv;cases e;subst hdr;exact⟨id,ops,l,rfl,hl,hok.1,hok.2,hp,hR⟩
     ·rcases lI h with ⟨e,_⟩ | ⟨_,_,_,_,_,e,_⟩ | ⟨_,_,_,_,_,_,_,_,_,_,_,e,_⟩ <;> cases e
    ·split at h
     ·obtain⟨_,_,_,_,_,_,_,e,_⟩:=iM h;cases e
     ·cases h
   ·simp at h
 | rangeFunc g0 ps0 a c=> simp [tE,As] at h
 | seq a b=> simp only [tE,zO] at h;obtain⟨dx,hx,dy,hy,h⟩:=h;rcases vQ dx dy with e | ⟨_,_,_,_,_,_,_,_,_,_,_,_,e,_⟩ <;> rw [e] at h <;> cases h
 | _=>simp [tE,As] at h
theorem SA {C:Cx} (hm:C.P.follows .mixedOrders=true) {pre:List xB} {o:xB} {mid:List xB} {un:Bool} {post:List xB} {fl:List Bool} {f:Fr} {σ:St} {Q:Exit->Fr->St->Prop}
  (h:We C pre o mid un post fl f σ (Q .normal)):wpS C (.bP pre o mid un post fl) f σ Q:=by
 intro code hc E a w G;obtain⟨id,ops,l,rfl,hd,hq,hok,hpost,R⟩:=Qa hc;obtain⟨⟨heq,d1,d2,n1,n2,n3,hloud⟩,hw,hfl⟩:=R;have hg:=qH n2
 have hsl:tH C.own l<=l.length:=by
  have:∀ ks:List xB,tH C.own ks<=ks.length:=by
   intro ks
   induction ks with
   | nil=>simp [tH]
   | cons k ks ih=>simp only [tH]; split <;> simp <;> omega
  exact this l
 have hl:l=pre++o :: (mid++post):=by
  conv=>lhs; rw [<- Ae (tH C.own l) l,heq,<- hpost]
  simp
 have hs:tH C.own l=pre.length+1+mid.length:=by have:=congrArg List.length heq;rw [ο,Nat.min_eq_left hsl] at this;simp at this; omega
 generalize tH C.own l=s at *;unfold We at h;obtain⟨t1,h1,h2,h3,h4⟩:=zY _ _ h;obtain⟨d,σ1,g1,p1,p2⟩:=mZ hq h2;obtain⟨t3,r1,r2,r3,r4⟩:=zY _ _ p2;obtain⟨ru,r2⟩:=r2;obtain⟨t2,s1,s2,s3⟩:=qR hq _ _ _ r2;have e0:vB t1 σ=σ:=zB h4;have e3:vB t3 σ1=σ1:=zB r4;have c2:Trace C (mid++post) ((vM pre t1 f).put o.dst d) σ1 (t3++t2)/\ _/\_:=Trace.append r1 r3 (by rw [e3]; exact s1);have c1:Trace C (o :: (mid++post)) (vM pre t1 f) (vB t1 σ) ((d,σ1) :: (t3++t2)):=.cons (by simp only [yG,hg]; rw [e0]; exact g1) c2.1;obtain⟨k1,k2,k3⟩:=Trace.append h1 h3 c1;rw [<- hl] at k1 k2
 have hlen:(t1++(d,σ1) :: (t3++t2)).length=l.length:=by rw [hl]; simp [h3,r3,s3]
 have lpre:∀ i,i<pre.length->l[i]?=pre[i]?:=λi hi=>by rw [hl,δ hi]
 have lo:l[pre.length]?=some o:=by rw [hl,ε (by omega),Nat.sub_self]; rfl
 have lmid:∀ k,k<mid.length->l[pre.length+1+k]?=mid[k]?:=λk hk=>by rw [hl,ε (by omega),show pre.length+1+k-pre.length=k+1 by omega,η,δ hk]
 have mpre:∀ i,i<pre.length->qD C.own l i=false:=λi hi=>by rw [uA ((lpre i hi).trans (ζ hi))]; exact n1 _ (ξ _)
 have mo:qD C.own l pre.length=true:=by rw [uA lo]; exact n2
 have mmid:∀ k,k<mid.length->qD C.own l (pre.length+1+k)= false:=λk hk=>by rw [uA ((lmid k hk).trans (ζ hk))]; exact n3 _ (ξ _)
 have st0:∀ p,p<=pre.length->vB ((t1++(d,σ1) :: (t3++t2)).take p) σ=σ:=λp hp=>by rw [γ (by omega)];exact zB λx hx=>h4 x (μ hx)
 have st1:∀ k,k<=mid.length->vB ((t1++(d,σ1) :: (t3++t2)).take (pre.length+1+k)) σ=σ1:=λk hk=>by rw [<- h3,show t1.length+1+k=t1.length+(k+1) by omega,θ,ν,γ (by omega),oP];exact zB λx hx=>r4 x (μ hx)
 refine iH (mu:=qD C.own l) (E:=E) (Q:=LQ C E Q) hm hd hok k1 hlen (by omega) (λm hms hmm=>?_) (λi hi him=>?_) (λi dop p YU him hps hdop hns hor=>?_) (λa w G'=>⟨_,_,G',?_⟩) G
 ·rcases An m pre.length with h | h | h
  ·rw [mpre m h] at hmm; cases hmm
  ·subst h; rw [tZ lo]; exact hloud
  ·obtain⟨k,rfl⟩:∃ k,m=pre.length+1+k:=⟨m-(pre.length+1),by omega⟩;rw [mmid k (by omega)] at hmm; cases hmm
 ·rcases An i pre.length with h | h | h
  ·rw [st0 (i+1) (by omega),st0 i (by omega)]
  ·subst h; rw [mo] at him; cases him
  ·obtain⟨k,rfl⟩:∃ k,i=pre.length+1+k:=⟨i-(pre.length+1),by omega⟩;rw [show pre.length+1+k+1=pre.length+1+(k+1) by omega,st1 (k+1) (by omega),st1 k (by omega)]
 ·have hor:=hor pre.length (by omega) mo
  have hp:(p<=pre.length/\vB ((t1++(d,σ1) :: (t3++t2)).take p) σ=σ)\/(pre.length<p/\vB ((t1++(d,σ1) :: (t3++t2)).take p) σ=σ1):=by
   rcases Al pre.length p with h | h
   ·obtain⟨k,rfl⟩:∃ k,p=pre.length+1+k:=⟨p-(pre.length+1),by omega⟩;exact .inr ⟨h,st1 k (by omega)⟩
   ·exact .inl ⟨h,st0 p h⟩
  rcases An i pre.length with h | h | h
  ·have hdp:pre[i]?=some dop:=(lpre i h).symm.trans hdop;have x5:vF (t1++(d,σ1) :: (t3++t2)) i=vF t1 i:=by simp only [vF]; rw [δ (by omega)]
   have x6:vM (l.take i) ((t1++(d,σ1) :: (t3++t2)).take i) f=vM (pre.take i) (t1.take i) f:=by rw [hl,γ (by omega),γ (by omega)]
   rw [x5,x6]
   rcases hp with ⟨_,hp⟩ | ⟨hp0,hp⟩
   ·rw [hp]; exact uL h1 h3 rfl h4 hdp
   ·rw [hp]
    have hfi:fl.getD i false=false:=by
     cases hx:fl.getD i false with
     | false=>rfl
     | true=>have:=hfl i hx; rw [hor.1 hp0] at this; cases this
    exact fE yq d1 h3 p1 ((rf hfi).trans hdp)
  ·subst h; rw [mo] at him; cases him
  ·obtain⟨k,rfl⟩:∃ k,i=pre.length+1+k:=⟨i-(pre.length+1),by omega⟩;have hk:k<mid.length:=by omega
   have hdp:mid[k]?=some dop:=(lmid k hk).symm.trans hdop
   have x5:vF (t1++(d,σ1) :: (t3++t2)) (pre.length+1+k)= vF t3 k:=by simp only [vF];rw [ε (by omega),h3,show pre.length+1+k-pre.length=k+1 by omega,η,δ (by omega)]
   have x6:vM (l.take (pre.length+1+k)) ((t1++(d,σ1) :: (t3++t2)).take (pre.length+1+k)) f=vM (mid.take k) (t3.take k) ((vM pre t1 f).put o.dst d):=by
    have y1:l.take (pre.length+1+k)= pre++o :: mid.take k:=by rw [hl,show pre.length+1+k=pre.length+(k+1) by omega,θ,ν,γ (by omega)]
    have y2:(t1++(d,σ1) :: (t3++t2)).take (pre.length+1+k)= t1++(d,σ1) :: t3.take k:=by rw [<- h3,show t1.length+1+k=t1.length+(k+1) by omega,θ,ν,γ (by omega)]
    rw [y1,y2,nN _ _ _ h3]; rfl
   rw [x5,x6]
   rcases hp with ⟨hp0,hp⟩ | ⟨_,hp⟩
   ·rw [hp]
    cases un with
    | false=> exfalso;have h2:=rM (hw rfl) k dop hdp hns;rw [hor.2 hp0] at h2; cases h2
    | true=> simp only [if_true] at ru;obtain⟨t3',u1,u2,u3,u4⟩:=zY _ _ ru;exact uL u1 u3 (oZ d2 u3 r3 u2) u4 hdp
   ·rw [hp]; exact uL r1 r3 rfl r4 hdp
 ·rw [k2,k3,e0];show Q .normal (vM (mid++post) (t3++t2) ((vM pre t1 f).put o.dst d)) (vB (t3++t2) σ1);rw [c2.2.1,c2.2.2,e3];exact s2
def tu (C:Cx) (σ1:St) (f1:Fr):List Bool->List xB->(Fr->Prop)->Fr->Prop
 | true :: fl,o :: r,K,f=>tu C σ1 f1 fl r K (f.put o.dst (match o.dst with | some t=>f1.get t | none=>.top))
 | false :: fl,o :: r,K,f=>pG C σ1 [o] (tu C σ1 f1 fl r K) f
 | [],l,K,f=>pG C σ1 l K f
 | _,[],K,f=>K f
theorem bd {C:Cx} {σ1:St} {f1:Fr}:∀ {fl:List Bool} {l:List xB} {K:Fr->Prop} {f:Fr},tu C σ1 f1 fl l K f=vG C σ1 (gL fl l f1) f K
 | true :: fl,o :: r,K,f=>by show tu C σ1 f1 fl r K _=_;rw [bd]; rfl
 | false :: fl,o :: r,K,f=>by show pG C σ1 [o] (tu C σ1 f1 fl r K) f=vG C σ1 ([o]++gL fl r f1) f K;rw [oB];exact sM λg=>bd
 | [],l,K,f=>by cases l <;> exact sM λg=>rfl
 | true :: fl,[],K,f=>rfl
 | false :: fl,[],K,f=>rfl
theorem iw {C:Cx} {σ1:St} {f1:Fr} {fl:List Bool} {t:Nat} {g:Option (Nat × Bool)} {k:DK} {r:List xB} {K:Fr->Prop} {f:Fr}:tu C σ1 f1 (true :: fl) (⟨some t,g,k⟩ :: r) K f=tu C σ1 f1 fl r K (f.put (some t) (f1.get t)):=rfl
theorem pg {C:Cx} {σ1:St} {f1:Fr} {fl:List Bool} {o:xB} {r:List xB} {K:Fr->Prop} {f:Fr}:tu C σ1 f1 (false :: fl) (o :: r) K f=pG C σ1 [o] (tu C σ1 f1 fl r K) f:=rfl
theorem Xu {C:Cx} {σ1:St} {f1:Fr} {K:Fr->Prop} {f:Fr}:tu C σ1 f1 [] [] K f=K f:=by show pG C σ1 [] K f=K f;rw [Xv]
def Kp (C:Cx) (pre:List xB) (dst:Option Nat) (mid:List xB) (un:Bool) (post:List xB) (fl:List Bool) (K:Fr->St->Prop) (f:Fr) (σ:St) (f1:Fr) (d:D) (σ1:St):Prop:= tu C σ1 f1 fl pre (Mc f1) f/\pG C σ1 mid (L6 C un mid (f1.put dst d) σ (bN C post K) σ1) (f1.put dst d)
theorem VA {C:Cx} (hm:C.P.follows .mixedOrders=true) {pre:List xB} {dst:Option Nat} {g1:Option (Nat × Bool)} {k1:DK} {mid:List xB} {un:Bool} {post:List xB} {fl:List Bool} {f:Fr} {σ:St} {Q:Exit->Fr->St->Prop}
  (h:pG C σ pre (bC C k1 (Kp C pre dst mid un post fl (gX Q) f σ) σ) f):wpS C (.bP pre ⟨dst,g1,k1⟩ mid un post fl) f σ Q:=by
 refine SA hm ?_
 have:pG C σ pre (bC C k1 (Kp C pre dst mid un post fl (gX Q) f σ) σ) f=We C pre ⟨dst,g1,k1⟩ mid un post fl f σ (gX Q):=by
  unfold We;refine sM λf1=>sq λd σ1=>?_;unfold Kp;refine congr (congrArg And bd) (sM λf2=>?_);unfold L6;refine congr (congrArg And ?_) (az λ_ _=>rfl)
  split
  ·exact sM λg=>rfl
  ·rfl
 exact this ▸ h
theorem SM {C:Cx} {pre:List xB} {m:xB} {mid:List xB} {un:Bool} {post:List xB} {fl:List Bool} {f:Fr} {σ:St} {Q:Exit->Fr->St->Prop}:mw C (.bP pre m mid un post fl) Q f σ=wpS C (.bP pre m mid un post fl) f σ Q:=by rw [qU]; rfl
end
end Go.Pd

/- Part KI. -/
set_option maxRecDepth 20000
set_option maxHeartbeats 1000000
namespace Go.Pd
open Go Go.Proofs
open BitVec renaming isValue -> ZA
open Rs Fm Ru Te Kb
structure KS (p : yF) (F : Nat) (sts : List (List (BitVec 64))) (t : Nat) : Prop where
 fe:p.F=(F:Int)
 hF:F<=8
 hA:p.xN.length<=4
 hR:sts.length<=64
 len:∀ st ∈ sts,t<st.length
 ht:t<=1000
theorem Ng {a b:List (BitVec 64)}:yW prog 74 [.sl 1 (us a),.sl 1 (us b)] (.bool (decide (a.map ui=b.map ui))):=by rw [vc,vc];exact XQ _ _
theorem Qd {p:yF} {F:Nat} {sts:List (List (BitVec 64))} {t:Nat} (ok:KS p F sts t):yW prog 130 [vr p sts,.int .i64 t] (Wg p.xN sts t F):=by
 have hF:=ok.hF;have hA:=ok.hA;have hR:=ok.hR;have ht:=ok.ht;have hl:∀ i,i<sts.length->t<(vN sts i).length:=λi hi=>ok.len _ (xK hi);have hist:∀ a w,a<p.xN.length->w<sts.length->yW prog 75 [vr p sts,.int .i64 a,.int .i64 w,.int .i64 t] (.sl 1 (us (tN p.xN (vN sts w) a t))):=λa w ha hw=>yj (zt p ha hw (hl w hw) ht);have hkey:=λa v w (ha:a<p.xN.length) (hv:v<sts.length) (hw:w<sts.length)=>Nu (xN:=p.xN) (t:=t) ha hv hw;have hfac:=λw (hw:w<sts.length)=>j7 (xN:=p.xN) (t:=t) hw;unfold Wg VO;have hll:(uO sts.length 0).length=sts.length:=ji _ _;have hlg:∀ i,i<sts.length->(uO sts.length 0).getD i (0,0)= (i,0):=λi hi=>jR hi;generalize wD p.xN sts t=rs at *;generalize uO sts.length 0=l at *;unfold vr Pb at *;rw [ok.fe] at *;refine xY.xQ mixed func130 I3 (by simp) λhf=>?_
 have hz:List.replicate F [D.int .u64 (ui 0#64)]=us ((List.range F).map λf=>mA rs l f 0):=by simp only [mA,us,List.map_map];refine List.ext_getElem (by simp) λi h1 h2=>?_;simp
 simp only [simprocAttr,-ZA,↓zU,↓zD,zV,zT,zW,wO,↓l6]
 (refine jk mixed ?_; unfold o9; simp only [simprocAttr,-ZA,↓zU,↓zD,zV,zT,zW,↓VR,↓VS,↓L0,↓L1,↓L2,↓L3,↓L4,↓L5,↓tz,lG,iI,wO])
 refine⟨by omega,by omega,by omega,by omega,?_,?_⟩
 ·rw [hz]
  (refine xT.sZ [(1,2),(2,1)] [2,1,0] (by simp) (by simp) (by decide) ?_; simp only [yT,zQ,simprocAttr,-ZA,exists_eq_left',ne_eq,zR,wU])
 refine xO (λw:Nat=>[(31,.int .i64 w),(30,.int .i64 sts.length),(29,.sl 1 (rr sts)),(5,.ref 2 3 0 0),(4,.ref 0 3 0 0),(1,.int .i64 t),(0,.ptr [.int .i64 F,.sl 1 (us p.init),.sl 1 (us p.xN),.sl 1 (qY p.xM),.sl 1 (qZ p.code),.sl 1 (rr sts)])])
  (λw=>⟨3,[(2,⟨3,[[.int .i64 sts.length,.yD 1 1 F,.xJ]]⟩),(1,⟨1,us ((List.range F).map λf=>mA rs l f w)⟩),(0,⟨3,[[.int .i64 0,.xJ,.xJ]]⟩)]⟩)
  (λw=>w<=sts.length) (λw=>sts.length-w) 0 (Ap _) ?_ ?_
 ·rw [<- hz]
  (refine xT.same ?_; simp [xR,Fr.get])
 intro w hw;refine xL mixed ?_
 by_cases hwl:w<sts.length
 ·have hd:((w:Int)<(sts.length:Int)):=by omega
  have hg:=kY sts hwl
  have hv:∀ f,mA rs l f (w+1)= mA rs l f w ||| (if ((vN sts w).getD t 0).getLsbD f then 1#64 <<< w else 0#64):=λf=>by rw [<- hfac w hwl,<- hlg w hwl]; rfl
  have hlw:=hl w hwl;unfold vN at hv hlw;generalize sts.getD w []=st at hg hv hlw;have hg2:=vL st hlw;have hd0:((t:Int)<(st.length:Int)):=by omega
  generalize st.getD t 0=x at hg2 hv;simp only [simprocAttr,-ZA,↓zU,↓zD,zV,zT,zW,hd,wO,hg]
  (repeat refine sd ?_)
  refine xO (λi:Nat=>[(39,.int .i64 i),(38,.int .i64 F),(31,.int .i64 w),(30,.int .i64 sts.length),(29,.sl 1 (rr sts)),(7,.sl 1 (us st)),(6,.int .i64 w),(5,.ref 2 3 0 0),(4,.ref 0 3 0 0),(1,.int .i64 t),(0,.ptr [.int .i64 F,.sl 1 (us p.init),.sl 1 (us p.xN),.sl 1 (qY p.xM),.sl 1 (qZ p.code),.sl 1 (rr sts)])])
   (λi=>⟨3,[(2,⟨3,[[.int .i64 sts.length,.yD 1 1 F,.xJ]]⟩),(1,⟨1,us (gT F (λf=>mA rs l f (w+1)) (λf=>mA rs l f w) i)⟩),(0,⟨3,[[.int .i64 0,.xJ,.xJ]]⟩)]⟩)
   (λi=>i<=F) (λi=>F-i) 0 (Ap _) ?_ ?_
  ·rw [il]
   (refine xT.same ?_; simp [xR,Fr.get])
  intro i hi;refine xL mixed ?_
  by_cases hil:i<F
  ·have hd2:((i:Int)<(F:Int)):=by omega
   have hmg:=vL (gT F (λf=>mA rs l f (w+1)) (λf=>mA rs l f w) i) (show i<_ by rw [qv]; exact hil);rw [Xi _ _ hil] at hmg;have hms:=Xj F (λf=>mA rs l f (w+1)) (λf=>mA rs l f w) i;simp only [hv i] at hms;have hml:=qv F (λf=>mA rs l f (w+1)) (λf=>mA rs l f w) i;generalize gT F (λf=>mA rs l f (w+1)) (λf=>mA rs l f w) i=M at hmg hms hml;simp only [simprocAttr,-ZA,↓zU,↓zD,zV,zT,zW,hd2,xH,hml,hmg,hd0,hg2,NT,jC,hms]
   (repeat refine sd ?_)
   refine⟨i+1,by omega,?_,by omega⟩
   (refine xT.same ?_; simp only [xR,Fr.get,simprocAttr,-ZA,zS])
   exact wrap_i64 (by omega)
  ·have hd2:¬ ((i:Int)<(F:Int)):=by omega
   rw [Xh _ _ _ (by omega:F<=i)];simp only [simprocAttr,-ZA,↓zU,↓zD,zV,zT,zW,hd2]
   (repeat refine sd ?_)
   refine⟨w+1,by omega,?_,by omega⟩
   (refine xT.sZ [] [2,1,0] (by simp) (by simp) (by decide) ?_; simp only [yT,zQ,simprocAttr,-ZA,exists_eq_left',ne_eq,zR,wU])
   exact wrap_i64 (by omega)
 have hd:¬ ((w:Int)<(sts.length:Int)):=by omega
 obtain rfl:w=sts.length:=by omega
 rw [show ((List.range F).map λf=>mA rs l f sts.length)= jI rs l F by rw [<- hll]; rfl];simp only [simprocAttr,-ZA,↓zU,↓zD,zV,zT,zW,hd]
 refine xO (λa:Nat=>[(66,.int .i64 a),(65,.int .i64 p.xN.length),(5,.ref 2 3 0 0),(4,.ref 0 3 0 0),(1,.int .i64 t),(0,.ptr [.int .i64 F,.sl 1 (us p.init),.sl 1 (us p.xN),.sl 1 (qY p.xM),.sl 1 (qZ p.code),.sl 1 (rr sts)])])
  (λa=>⟨4,yV 3 1 (rr (qC rs l a))++ [(2,⟨3,[[.int .i64 sts.length,.yD 1 1 F,xA 3 1 (rr (qC rs l a))]]⟩),(1,⟨1,us (jI rs l F)⟩),(0,⟨3,[[.int .i64 0,.xJ,.xJ]]⟩)]⟩)
  (λa=>a<=p.xN.length) (λa=>p.xN.length-a) 0 (Ap _) ?_ ?_
 ·(refine xT.sZ [] [2,1,0] (by simp) (by simp) (by decide) ?_; simp only [yT,zQ,simprocAttr,-ZA,exists_eq_left',ne_eq,zR,qC,List.range_zero,List.map_nil,vU,vV,Aa,wU,show rr [] = [] from rfl])
 intro a ha;refine xL mixed ?_;by_cases hal:a<p.xN.length
 case neg=>
  have hd2:¬ ((a:Int)<(p.xN.length:Int)):=by omega
  obtain rfl:a=p.xN.length:=by omega
  have hvl:(us (jI rs l F)).length=F:=by simp [us,jI]
  rw [hll];simp only [simprocAttr,-ZA,↓zU,↓zD,zV,zT,zW,hd2]
  (refine oK.sZ [] [] (by simp) (by simp) (by decide) ?_; simp only [yT,zQ,simprocAttr,-ZA,exists_eq_left',ne_eq,zR,wU,oH])
  exact⟨λ_ h=>h.elim,by omega,(List.take_of_length_le (by omega)).symm,oS _⟩
 have hd2:((a:Int)<(p.xN.length:Int)):=by omega
 have hrel:qC rs l (a+1)= qC rs l a ++ [pH rs l a]:=by unfold qC; rw [List.range_succ,List.map_append]; rfl
 generalize hRL:qC rs l a=RL at hrel;have hrl:(pH rs l a).length=sts.length:=by simp [pH,hll]
 have hrlg:∀ w,w<sts.length->(pH rs l a).getD w 0#64=Ru.jF rs l a (yO rs a (w,0)) sts.length:=λw hw=>by rw [<- hll] at hw ⊢;have:=hlg w (by omega);simp only [List.getD,hw,ζ,Au] at this;simp [pH,List.getD,hw,this]
 simp only [simprocAttr,-ZA,↓zU,↓zD,zV,zT,zW,wO,hd2]
 refine wH (λw:Nat=>[(74,.int .i64 w),(73,.int .i64 sts.length),(66,.int .i64 a),(65,.int .i64 p.xN.length),(10,xA 4 1 (us ((pH rs l a).take w))),(9,.int .i64 a),(5,.ref 2 3 0 0),(4,.ref 0 3 0 0),(1,.int .i64 t),(0,.ptr [.int .i64 F,.sl 1 (us p.init),.sl 1 (us p.xN),.sl 1 (qY p.xM),.sl 1 (qZ p.code),.sl 1 (rr sts)])])
  (λw=>⟨5,yV 4 1 (us ((pH rs l a).take w))++ (yV 3 1 (rr RL)++ [(2,⟨3,[[.int .i64 sts.length,.yD 1 1 F,xA 3 1 (rr RL)]]⟩),(1,⟨1,us (jI rs l F)⟩),(0,⟨3,[[.int .i64 0,.xJ,.xJ]]⟩)])⟩)
  (λw=>w<=sts.length) (λw=>sts.length-w) 0 (Ap _) ?_ ?_
 ·(refine xT.sZ [] [3,2,1,0] (by simp) (by simp) (by decide) ?_; simp only [yT,zQ,simprocAttr,-ZA,exists_eq_left',ne_eq,zR,List.take_zero,cu,vU,vV,Aa,wU,oH])
 intro w hw;refine xL mixed ?_;by_cases hwl:w<sts.length
 case neg=>
  have hd3:¬ ((w:Int)<(sts.length:Int)):=by omega
  rw [show (pH rs l a).take w=pH rs l a by rw [show w=(pH rs l a).length by omega,π]];simp only [simprocAttr,-ZA,↓zU,↓zD,zV,zT,zW,hd3]
  refine .go [(66,.int .i64 a),(65,.int .i64 p.xN.length),(10,.sl 1 (us (pH rs l a))),(9,.int .i64 a),(5,.ref 2 3 0 0),(4,.ref 0 3 0 0),(1,.int .i64 t),(0,.ptr [.int .i64 F,.sl 1 (us p.init),.sl 1 (us p.xN),.sl 1 (qY p.xM),.sl 1 (qZ p.code),.sl 1 (rr sts)])]
   ⟨4,yV 3 1 (rr RL)++ [(2,⟨3,[[.int .i64 sts.length,.yD 1 1 F,xA 3 1 (rr RL)]]⟩),(1,⟨1,us (jI rs l F)⟩),(0,⟨3,[[.int .i64 0,.xJ,.xJ]]⟩)]⟩ ?_ ?_
  ·(refine xT.sZ [] [3,2,1,0] (by simp) (by simp) (by decide) ?_; simp only [yT,zQ,simprocAttr,-ZA,exists_eq_left',ne_eq,zR,wU,oH])
  have hRLl:RL.length=a:=by rw [<- hRL]; simp [qC]
  simp only [simprocAttr,-ZA,↓zU,↓zD,zV,zT,zW,wO,hRLl]
  (repeat refine sd ?_)
  refine⟨a+1,by omega,?_,by omega⟩;rw [hrel]
  (refine xT.sZ [(3,4)] [3,2,1,0] (by simp) (by simp) (by decide) ?_; simp only [yT,zQ,simprocAttr,-ZA,exists_eq_left',ne_eq,zR,wU,oH])
  exact wrap_i64 (by omega)
 have hd3:((w:Int)<(sts.length:Int)):=by omega
 have hrg:(pH rs l a).take (w+1)= (pH rs l a).take w ++ [Ru.jF rs l a (yO rs a (w,0)) sts.length]:=by rw [vW (d:=0#64) (by omega),hrlg w hwl]
 have htl:((pH rs l a).take w).length=w:=by rw [ο]; omega
 generalize (pH rs l a).take w=rw' at hrg htl;simp only [simprocAttr,-ZA,↓zU,↓zD,zV,zT,zW,hd3,wO]
 refine xO (λv:Nat=>[(82,.int .i64 v),(81,.int .i64 sts.length),(74,.int .i64 w),(73,.int .i64 sts.length),(66,.int .i64 a),(65,.int .i64 p.xN.length),(12,.int .u64 (ui (Ru.jF rs l a (yO rs a (w,0)) v))),(11,.int .i64 w),(10,xA 4 1 (us rw')),(9,.int .i64 a),(5,.ref 2 3 0 0),(4,.ref 0 3 0 0),(1,.int .i64 t),(0,.ptr [.int .i64 F,.sl 1 (us p.init),.sl 1 (us p.xN),.sl 1 (qY p.xM),.sl 1 (qZ p.code),.sl 1 (rr sts)])])
  (λ_=>⟨5,yV 4 1 (us rw')++ (yV 3 1 (rr RL)++ [(2,⟨3,[[.int .i64 sts.length,.yD 1 1 F,xA 3 1 (rr RL)]]⟩),(1,⟨1,us (jI rs l F)⟩),(0,⟨3,[[.int .i64 0,.xJ,.xJ]]⟩)])⟩)
  (λv=>v<=sts.length) (λv=>sts.length-v) 0 (Ap _) ?_ ?_
 ·(refine xT.same ?_; simp only [xR,Fr.get,simprocAttr,-ZA,zS,Ru.jF])
  all_goals rfl
 intro v hv;refine xL mixed ?_;by_cases hvl:v<sts.length
 case neg=>
  have hd4:¬ ((v:Int)<(sts.length:Int)):=by omega
  obtain rfl:v=sts.length:=by omega
  simp only [simprocAttr,-ZA,↓zU,↓zD,zV,zT,zW,hd4,xH,htl]
  (repeat refine sd ?_)
  refine⟨w+1,by omega,?_,by omega⟩;rw [hrg]
  (refine xT.sZ [(4,5)] [4,3,2,1,0] (by simp) (by simp) (by decide) ?_; simp only [yT,zQ,simprocAttr,-ZA,exists_eq_left',ne_eq,zR,wU,oH])
  exact wrap_i64 (by omega)
 have hd4:((v:Int)<(sts.length:Int)):=by omega
 have hrk:Ru.jF rs l a (yO rs a (w,0)) (v+1)= Ru.jF rs l a (yO rs a (w,0)) v ||| (if yO rs a (v,0)= yO rs a (w,0) then 1#64 <<< v else 0#64):=by rw [<- hlg v hvl]; rfl
 have heq:=Ng (a:=tN p.xN (vN sts w) a t) (b:=tN p.xN (vN sts v) a t);rw [hkey a v w hal hvl hwl] at heq;have h1:=hist a w hal hwl;have h2:=hist a v hal hvl;generalize tN p.xN (vN sts w) a t=x1 at heq h1;generalize tN p.xN (vN sts v) a t=x2 at heq h2;simp only [simprocAttr,-ZA,↓zU,↓zD,zV,zT,zW,hd4];refine .go (cr h1) ?_;simp only [simprocAttr,-ZA,↓zU,↓zD,zV,zT,zW];refine .go (cr h2) ?_;simp only [simprocAttr,-ZA,↓zU,↓zD,zV,zT,zW];refine .go (cr heq) ?_
 by_cases c:yO rs a (v,0)= yO rs a (w,0)
 ·rw [if_pos c] at hrk;rw [decide_eq_true c];simp only [simprocAttr,-ZA,↓zU,↓zD,zV,zT,zW]
  (repeat refine sd ?_)
  refine⟨v+1,by omega,?_,by omega⟩
  (refine xT.same ?_; simp only [xR,Fr.get,simprocAttr,-ZA,zS,hrk])
  exact wrap_i64 (by omega)
 ·rw [if_neg c,BitVec.or_zero] at hrk;rw [decide_eq_false c];simp only [simprocAttr,-ZA,↓zU,↓zD,zV,zT,zW];refine⟨v+1,by omega,?_,by omega⟩
  (refine xT.same ?_; simp only [xR,Fr.get,simprocAttr,-ZA,zS,hrk])
  exact wrap_i64 (by omega)
end Go.Pd

/- Part KR. -/
namespace Go.Pd
open Go Go.Proofs
open BitVec renaming isValue -> ZA
def TA (x y:BitVec 64):BitVec 64:=
 let x0:=x &&& 4294967295#64
 let x1:=x >>> 32
 let y0:=y &&& 4294967295#64
 let y1:=y >>> 32
 let w0:=x0*y0
 let t:=x1*y0+w0 >>> 32
 let w1:=(t &&& 4294967295#64)+ x0*y1
 let w2:=t >>> 32
 x1*y1+w2+w1 >>> 32
theorem UV : ∀ n:Fin 65,TA 1#64 (BitVec.ofNat 64 n.val)= 0#64:=by decide +kernel
theorem Jt : D.int .u64 4294967295=D.int .u64 (ui 4294967295#64):=rfl
theorem Lj (x y:BitVec 64):yW prog 238 [.int .u64 (ui x),.int .u64 (ui y)] (.wE [.int .u64 (ui (TA x y)),.int .u64 (ui (x*y))]):=by
 refine xY.xQ mixed func238 JI (by simp) λhf=>?_;simp only [simprocAttr,-ZA,↓zU,↓zD,zV,zT,zW,Jt]
 (repeat refine sd ?_)
 exact .same
theorem Sn {n:Nat} (hn:n<=64):yW prog 190 [.int .u64 1,.int .u64 (n:Int)] (.wE [.int .u64 0,.int .u64 (n:Int)]):=by have h:=Lj 1#64 (BitVec.ofNat 64 n);have e1:TA 1#64 (BitVec.ofNat 64 n)= 0#64:=UV ⟨n,by omega⟩;have e2:1#64*BitVec.ofNat 64 n=BitVec.ofNat 64 n:=BitVec.one_mul _;rw [e1,e2,Rv (k:=n) (by omega)] at h;refine xY.xQ mixed func190 Iq (by simp) λhf=>?_;simp only [PQ,PP] at *;simp only [simprocAttr,-ZA,↓zU,↓zD,zV,zT,zW];refine .go (cr h) ?_;simp only [simprocAttr,-ZA,↓zU,↓zD,zV,zT,zW];exact .same
theorem j4 {xV:List (List D)} {n c:Nat} (h:c<=xV.length):rowsOf ⟨n,[(0,⟨1,xV⟩)]⟩ 1 (.yD 0 1 c)= some (xV.take c):=by show (if (1:Nat)= 1 then(if 1=1/\c<=xV.length then some (xV.take c) else none) else none)= _;rw [if_pos rfl,if_pos ⟨rfl,h⟩]
def qP (d z:D) (n c:Nat):List (List D):=List.replicate c [d]++List.replicate (n-c) [z]
theorem fw {d z:D} {n c:Nat} (h:c<=n):(qP d z n c).length=n:=by simp [qP]; omega
theorem cA {d z:D} {n c:Nat}:(qP d z n c).take c=List.replicate c [d]:=by unfold qP;rw [List.take_left' (by simp)]
theorem nu {d z:D} {n c:Nat} (h:c<n):(qP d z n c).take c++(((qP d z n c).take c).take (min (n-c) c)++ (qP d z n c).drop (c+min (n-c) c))= qP d z n (c+min (n-c) c):=by
 rw [cA]
 have e:(qP d z n c).drop (c+min (n-c) c)= List.replicate (n-(c+min (n-c) c)) [z]:=by unfold qP;rw [List.drop_append,List.length_replicate,List.drop_eq_nil_of_le (by simp),Aa,Ag];congr 1;omega
 rw [e,List.take_replicate,show min (min (n-c) c) c=min (n-c) c by omega];unfold qP;rw [<- Ai,List.replicate_append_replicate]
theorem wb {d z:D} {n:Nat} (h:1<=n):[[d]].take (min n 1)++ (List.replicate n [z]).drop (min n 1)= qP d z n 1:=by rw [Ao h,Ag];rfl
theorem Ui {d:D} (hd:d.xD=true) (h1:d.one=true) {n:Nat} (hn:1<=n/\n<=64):xY prog 131 [.sl 1 [[d]],.int .i64 (n:Int)] gR (.yD 0 1 n) ⟨1,[(0,⟨1,List.replicate n [d]⟩)]⟩:=by
 have hM:=Sn hn.2;have hw:=T4 (n:=n) (by omega);have hw1:IntKind.u64.wrap ((1:Nat):Int)= 1:=by decide
 have hw2:IntKind.i64.wrap (n:Int)= (n:Int):=wrap_i64 (by omega);have hneg:¬ ((n:Int)<0):=by omega
 refine xY.xQ mixed func131 I4 (by simp) λhf=>?_;simp only [simprocAttr,-ZA,↓zU,↓zD,zV,zT,zW,hneg,hw1,hw,show (1:Nat)= 1 from rfl];simp only [PQ,PP,show IntKind.u64.wrap 1=1 from by decide] at *;refine .go (cr hM) ?_;have hz:¬ (ui 0#64<ui 0#64):=Int.lt_irrefl _;have hb:¬ ((9223372036854775807:Int)<(n:Int)):=by omega
 have hp1:D.xP [d]=true:=by simp [D.xP,hd]
 simp only [simprocAttr,-ZA,↓zU,↓zD,zV,zT,zW,hz,hb,hw2,h1];refine⟨by omega,by omega,by simp,by omega,?_⟩;rw [Ao hn.1];have hstart:=wb (d:=d) (z:=D.int .i64 0) hn.1;rw [Ao hn.1] at hstart;have hlr:(List.replicate n [D.int .i64 0]).length=n:=by simp
 refine xO (λc:Nat=>[(8,.int .i64 c),(7,.yD 0 1 n)]) (λc=>⟨1,[(0,⟨1,qP d (D.int .i64 0) n c⟩)]⟩) (λc=>1<=c/\c<=n) (λc=>n-c) 1 ⟨Am _,hn.1⟩ ?_ ?_
 ·rw [<- hstart]
  (refine xT.same ?_; simp [xR,Fr.get])
 intro c ⟨hc1,hc2⟩;refine xL mixed ?_;have hL:=fw (d:=d) (z:=D.int .i64 0) hc2
 by_cases hcn:c<n
 ·have hd1:((c:Int)<(n:Int)):=by omega
  simp only [simprocAttr,-ZA,↓zU,↓zD,zV,zT,zW,hd1];have i1:¬ ((c:Int)= 0):=by omega
  have i2:¬ ((c:Int)= (n:Int)):=by omega
  have hst:=nu (d:=d) (z:=D.int .i64 0) hcn;have htk:=cA (d:=d) (z:=D.int .i64 0) (n:=n) (c:=c);generalize qP d (D.int .i64 0) n c=xV at hL hst htk ⊢;refine⟨(c:Int),(n:Int),rfl,rfl,by omega,by omega,by omega,0,(c:Int),rfl,rfl,by omega,by omega,by omega,?_⟩;simp only [↓reduceIte,if_neg i1,if_neg i2,A3];first | rw [if_pos ⟨trivial,by omega⟩] | rw [j4 (by omega)]
  refine⟨λr hr=>?_,trivial,trivial,by omega,?_⟩
  ·rw [htk] at hr;rw [Ad hr];simp [h1]
  have hm:(min (n-c) (xV.take c).length)= min (n-c) c:=by rw [ο]; omega
  rw [hm];have em:(n:Int).toNat-c=n-c:=by omega
  refine⟨by omega,c+min (n-c) c,⟨by omega,by omega⟩,?_,by omega⟩;rw [hst]
  (refine xT.same ?_; simp only [xR,Fr.get,simprocAttr,-ZA,zS])
  rw [wrap_i64 (by omega)];omega
 ·have hd1:¬ ((c:Int)<(n:Int)):=by omega
  obtain rfl:c=n:=by omega
  have he:qP d (D.int .i64 0) c c=List.replicate c [d]:=by simp [qP]
  rw [he];simp only [simprocAttr,-ZA,↓zU,↓zD,zV,zT,zW,hd1];exact .same
theorem Uj {d:D} (hd:d.xD=true) (h1:d.one=true) {n:Nat} (hn:1<=n/\n<=64):xY prog 224 [.sl 1 [[d]],.int .i64 (n:Int)] gR (.yD 0 1 n) ⟨1,[(0,⟨1,List.replicate n [d]⟩)]⟩:=by
 have hM:=Sn hn.2;have hw:=T4 (n:=n) (by omega);have hw1:IntKind.u64.wrap ((1:Nat):Int)= 1:=by decide
 have hw2:IntKind.i64.wrap (n:Int)= (n:Int):=wrap_i64 (by omega);have hneg:¬ ((n:Int)<0):=by omega
 refine xY.xQ mixed func224 JF (by simp) λhf=>?_;simp only [simprocAttr,-ZA,↓zU,↓zD,zV,zT,zW,hneg,hw1,hw,show (1:Nat)= 1 from rfl];simp only [PQ,PP,show IntKind.u64.wrap 1=1 from by decide] at *;refine .go (cr hM) ?_;have hz:¬ (ui 0#64<ui 0#64):=Int.lt_irrefl _;have hb:¬ ((9223372036854775807:Int)<(n:Int)):=by omega
 have hp1:D.xP [d]=true:=by simp [D.xP,hd]
 simp only [simprocAttr,-ZA,↓zU,↓zD,zV,zT,zW,hz,hb,hw2,h1];refine⟨by omega,by omega,by simp,by omega,?_⟩;rw [Ao hn.1];have hstart:=wb (d:=d) (z:=D.xJ) hn.1;rw [Ao hn.1] at hstart;have hlr:(List.replicate n [D.xJ]).length=n:=by simp
 refine xO (λc:Nat=>[(8,.int .i64 c),(7,.yD 0 1 n)]) (λc=>⟨1,[(0,⟨1,qP d (D.xJ) n c⟩)]⟩) (λc=>1<=c/\c<=n) (λc=>n-c) 1 ⟨Am _,hn.1⟩ ?_ ?_
 ·rw [<- hstart]
  (refine xT.same ?_; simp [xR,Fr.get])
 intro c ⟨hc1,hc2⟩;refine xL mixed ?_;have hL:=fw (d:=d) (z:=D.xJ) hc2
 by_cases hcn:c<n
 ·have hd1:((c:Int)<(n:Int)):=by omega
  simp only [simprocAttr,-ZA,↓zU,↓zD,zV,zT,zW,hd1];have i1:¬ ((c:Int)= 0):=by omega
  have i2:¬ ((c:Int)= (n:Int)):=by omega
  have hst:=nu (d:=d) (z:=D.xJ) hcn;have htk:=cA (d:=d) (z:=D.xJ) (n:=n) (c:=c);generalize qP d (D.xJ) n c=xV at hL hst htk ⊢;refine⟨(c:Int),(n:Int),rfl,rfl,by omega,by omega,by omega,0,(c:Int),rfl,rfl,by omega,by omega,by omega,?_⟩;simp only [↓reduceIte,if_neg i1,if_neg i2,A3];first | rw [if_pos ⟨trivial,by omega⟩] | rw [j4 (by omega)]
  refine⟨λr hr=>?_,trivial,trivial,by omega,?_⟩
  ·rw [htk] at hr;rw [Ad hr];simp [h1]
  have hm:(min (n-c) (xV.take c).length)= min (n-c) c:=by rw [ο]; omega
  rw [hm];have em:(n:Int).toNat-c=n-c:=by omega
  refine⟨by omega,c+min (n-c) c,⟨by omega,by omega⟩,?_,by omega⟩;rw [hst]
  (refine xT.same ?_; simp only [xR,Fr.get,simprocAttr,-ZA,zS])
  rw [wrap_i64 (by omega)];omega
 ·have hd1:¬ ((c:Int)<(n:Int)):=by omega
  obtain rfl:c=n:=by omega
  have he:qP d (D.xJ) c c=List.replicate c [d]:=by simp [qP]
  rw [he];simp only [simprocAttr,-ZA,↓zU,↓zD,zV,zT,zW,hd1];exact .same
theorem OK (n:Nat):List.replicate n [D.int .i64 (-1)]=rows .i64 (List.replicate n (-1)):=by simp [rows]
theorem OZ (n:Nat):List.replicate n [D.sl 1 (us [1#64])]=rr (List.replicate n [1#64]):=by simp [rr,VT]
open Rs Fm Ru Te
namespace Te
theorem U7 {A F:Nat} {c:List Nd} (hv:wP c) (h:∀ p ∈ c,rL A F p=true):∀ i,i<c.length->tT A F (tree c i)= true:=by
 intro i
 induction i using Nat.strongRecOn with
 | _ i ih=>
  intro hi;obtain⟨ox,oy,_,_⟩:=uQ (hv i hi);have hs:=h (c.getD i wK) (by rw [List.getD,ζ hi]; exact ξ hi);rw [tR hv hi];show (rL A F _&&(tT A F _&&tT A F _))= true;rw [show rL A F ⟨(c.getD i wK).op,(c.getD i wK).i,(c.getD i wK).e,(c.getD i wK).g,0,0⟩= rL A F (c.getD i wK) from rfl,hs,Bool.true_and,Ax]
  constructor
  ·split
   ·rename_i hx; have:=ox hx; exact ih _ (by omega) (by omega)
   ·rfl
  ·split
   ·rename_i hy; have:=oy hy; exact ih _ (by omega) (by omega)
   ·rfl
theorem Ux {A F:Nat} {p:Nd} {k:Int} (hn:yM p k=0) (ho:Wj A F p=true) (ht:sN p &&& 256=0):rL A F p=true:=by
 unfold Wj at ho;simp only [Ax,decide_eq_true_eq] at ho;obtain⟨⟨h1,h2⟩,h3⟩:=ho
 have hi0:p.op=3\/p.op=9\/p.op=10->0<=p.i:=λh=>by
  rcases h with h | h | h
  ·exact(lQ hn (by rw [h]; rfl)).1
  ·exact(uJ hn (by rw [h]; rfl)).1
  ·exact(uJ hn (by rw [h]; rfl)).1
 have hg0:=jT hn;have hu:=(wN.1 hn).1
 have lt_of:∀ {a b:Nat},2 ^ a / 2 ^ b=0->a<b:=λ{a b} h=>Decidable.byContradiction λhh=>by have:=Nat.pow_le_pow_right (n:=2) (by decide) (show b<=a by omega);have:=Nat.div_pos this (Nat.two_pow_pos b);omega
 obtain⟨op,i,e,g,a,b⟩:=p;simp only at hi0 hg0 hu
 rcases sU op with rfl | rfl | rfl | rfl | rfl | rfl | rfl | rfl | rfl | rfl | rfl | rfl | rfl | rfl | rfl | rfl | rfl | rfl | rfl | rfl | rfl | h | h
 ·rfl
 ·rfl
 ·have h3:2 ^ i.toNat / 2 ^ F=0:=h3;have:=lt_of h3;have h0:=hi0 (.inl rfl);show decide (i<(F:Int))= true;exact decide_eq_true (by omega)
 ·rfl
 ·rfl
 ·rfl
 ·rfl
 ·rfl
 ·have h2:2 ^ i.toNat / 2 ^ A=0:=h2;have:=lt_of h2;have h0:=hi0 (.inr (.inl rfl));show decide (i<(A:Int))= true;exact decide_eq_true (by omega)
 ·have h2:2 ^ i.toNat / 2 ^ A=0:=h2;have:=lt_of h2;have h0:=hi0 (.inr (.inr rfl));show decide (i<(A:Int))= true;exact decide_eq_true (by omega)
 iterate 3
  ·have h2:g.toNat / 2 ^ A=0:=h2;have:=(Nat.div_eq_zero_iff.1 h2).resolve_left (by have:=Nat.two_pow_pos A; omega);show decide (g<((2 ^ A:Nat):Int))= true;exact decide_eq_true (by omega)
 ·exact absurd h1 (show ¬ (16:Nat)&&& 3824=0 by decide)
 ·exact absurd h1 (show ¬ (32:Nat)&&& 3824=0 by decide)
 ·exact absurd h1 (show ¬ (64:Nat)&&& 3824=0 by decide)
 ·exact absurd h1 (show ¬ (128:Nat)&&& 3824=0 by decide)
 iterate 4
  ·exact absurd ht (show ¬ (256:Nat)&&& 256=0 by decide)
 ·rw [vY (.inl h)] at hu; cases hu
 ·rw [vY (.inr h)] at hu; cases hu
theorem LK {a b:Nat} (ha:a<2 ^ 62) (hb:b<2 ^ 62):tS .and .i64 (a:Int) (b:Int)= ((a &&& b:Nat):Int):=by show IntKind.i64.wrap ((BitVec.ofInt 64 (a:Int)&&& BitVec.ofInt 64 (b:Int)).toNat:Int)= _;rw [Az,Az,BitVec.toNat_and,A0,A0,Aq (by omega),Aq (by omega)];have:a &&& b<=a:=Nat.and_le_left;exact wrap_i64 (by omega)
theorem gg {n:Nat} (h:n<4096):(tS .and .i64 (n:Int) 256 != 0)= !decide (n &&& 256=0):=by
 have e:=LK (a:=n) (b:=256) (by omega) (by decide);rw [show ((256:Nat):Int)= 256 from rfl] at e;rw [e];generalize n &&& 256=z
 by_cases hz:z=0
 ·subst hz; rfl
 ·rw [decide_eq_false hz];have:((z:Int) != 0)= true:=by rw [bne_iff_ne]; omega
  rw [this]; rfl
theorem UA {n:Nat} (h:n<4096) (h1:n &&& 3824=0) (h2:n &&& 256=0):(tS .andNot .i64 (n:Int) 15 != 0)= false:=by
 have h16:∀ n:Fin 4096,n.val &&& 3824=0->n.val &&& 256=0->n.val<16:=by decide +kernel
 have:∀ n:Fin 16,(tS .andNot .i64 ((n.val:Nat):Int) 15 != 0)= false:=by decide +kernel
 exact this ⟨n,h16 ⟨n,h⟩ h1 h2⟩
theorem oD (f:List Nd):zH f<4096:=by refine nI λp _=>?_;have:=fF p.op;unfold sN; omega
theorem Ys {s:sC} {A F T:Nat} {rs:List xC} (hs:s=⟨A,F,T,rs⟩) (hz:jK s=0) (ok:kQ rs A F T) {f:List Nd} (hE:jG s f=0) (ht:zH f &&& 256=0) :
  tT A F (uE f)= true/\(tS .andNot .i64 (zH f:Int) 15 != 0)= false/\tU f A F=true:=by
 have hc:=(aI hE).2;have hN:=(bh hs hz ok hc).1 hE
 have hT:∀ p ∈ xE f,sN p &&& 256=0:=by
  have:=ht;unfold zH at this
  rwa [mJ (φ:=λn=>n &&& 256) (by decide) (λa b=>Ar a b 256),rR] at this
 have h38:zH f &&& 3824=0:=by unfold zH;rw [mJ (φ:=λn=>n &&& 3824) (by decide) (λa b=>Ar a b 3824),rR];intro p hp;have:=hN p hp;unfold Wj at this;simp only [Ax,decide_eq_true_eq] at this;exact this.1.1
 refine⟨?_,UA (oD f) h38 ht,?_⟩
 ·have hl:=oU hc;rw [<- (nL hc).1];refine U7 (mY f) (λp hp=>?_) _ (by omega);obtain⟨k,hk⟩:=kZ (jB f _) hp;exact Ux hk (hN p hp) (hT p hp)
 ·unfold jG at hE;rw [if_neg (by simpa using hz),if_neg (by simpa using hc),aD (oD f),if_neg (by simp [h38])] at hE;subst hs
  cases hf:tU f A F with
  | true=>rfl
  | false=>simp only [hf,↓reduceIte] at hE; cases hE
end Te
end Go.Pd

/- Part KQ. -/
namespace Go.Pd
open Go Go.Proofs
namespace Kb
theorem Sg : ∀ n:Fin 4096,(tS .andNot .i64 ((n.val:Nat):Int) 15 != 0)= false->n.val<16:=by decide +kernel
theorem Jq : ∀ n:Fin 4096,(tS .andNot .i64 ((n.val:Nat):Int) 0 != 0)= false->n.val=0:=by decide +kernel
end Kb
open Ru
namespace Ru
def tq (rs:List xC) (a r t:Nat):List Int:=(List.range t).map λi=>yO rs a (r,i)
end Ru
end Go.Pd

/- Part SH. -/
namespace Go.Pd
open Go Go.Proofs
open BitVec renaming isValue -> ZA
open Ru
namespace Ru
theorem zp {α:Type} (a b:List α) (d:α) {n:Nat} (h:n<a.length):(a++b).getD n d=a.getD n d:=by simp [List.getD,δ h]
end Ru
theorem Nb {c:List (BitVec 64)} (hc:c.length<=1000) (h0:0<c.length):yW prog 122 [.sl 1 (us c)] (.sl 1 (us c)):=by
 obtain⟨x,l,rfl⟩:∃ x l,c=x :: l:=by
  cases c with
  | nil=>simp at h0
  | cons x l=>exact⟨x,l,rfl⟩
 refine xY.xQ mixed func122 Kc (by simp) λhf=>?_;have hl:(us (x :: l)).length=l.length+1:=by simp [us]
 have h1:=YA (x :: l);have e:us (x :: l)= [.int .u64 (ui x)] :: us l:=rfl;simp only [τ] at hc;rw [e] at hl h1 ⊢;simp only [simprocAttr,-ZA,↓zU,↓zD,zV,zT,zW];refine⟨by simp,h1,by omega,by omega,.drop (by simp) ?_⟩;have hp:=oS (x :: l);rw [e] at hp;have ht:([D.int .u64 (ui x)] :: us l).take (l.length+1)= [D.int .u64 (ui x)] :: us l:=by rw [<- hl,π]
 simp only [vw];exact⟨trivial,by decide,by simp,⟨1,[D.int .u64 (ui x)] :: us l⟩,rfl,rfl,by simp only; omega,ht.symm,hp⟩
open Ru
namespace Ru
def o8 (kf:Nat->Nat × Nat->List Int) (l:List (Nat × Nat)) (a:Nat) (p:Nat × Nat):Int:=below (dedup (cO (l.map (kf a)))) (kf a p)
def YJ (rs:List xC) (A T:Nat) (num:Nat->Nat × Nat->Int):List xC:=(List.range rs.length).map λi=>⟨(List.range T).map λt=>(List.range A).map λa=>num a (i,t),(rs.getD i rI).cU⟩
end Ru
open Ru
namespace Ru
theorem lU {σ σ':St} {ρ:Nat->Nat} {α:Type} {f g:α->List D}:∀ {l:List α},(∀ i ∈ l,(f i).length=(g i).length/\uR σ σ' ρ (f i) (g i))->s9 σ σ' ρ (l.map f) (l.map g)
 | [],_=>.nil
 | x :: l,h=>.cons (h x (by simp)).1 (h x (by simp)).2 (lU λi hi=>h i (χ _ hi))
end Ru
open Ru
theorem aC {l:List (List Int)}:∀ {k:Nat} {x:List Int},x ∈ uP l k ↔ ∃ i,i<k/\l.getD i []=x
 | 0,x=>by simp [uP]
 | k+1,x=>by
  rw [uP]
  by_cases h:0<k/\l.getD k []=l.getD (k-1) []
  ·rw [if_pos h,aC];refine⟨λ⟨i,hi,e⟩=>⟨i,by omega,e⟩,λ⟨i,hi,e⟩=>?_⟩
   by_cases ei:i=k
   ·exact⟨k-1,by omega,by rw [<- h.2,<- ei]; exact e⟩
   ·exact⟨i,by omega,e⟩
  ·rw [if_neg h,List.mem_append,aC,κ];refine⟨λc=>c.elim (λ⟨i,hi,e⟩=>⟨i,by omega,e⟩) (λe=>⟨k,by omega,e.symm⟩),λ⟨i,hi,e⟩=>?_⟩
   by_cases ei:i=k
   ·exact .inr (by rw [<- e,ei])
   ·exact .inl ⟨i,by omega,e⟩
theorem Zy {l:List (List Int)} (h:r7 l) {i j:Nat} (hij:i<j) (hj:j<l.length):¬ kc (l.getD j []) (l.getD i [])<0:=by have:=List.pairwise_iff_getElem.1 h i j (by omega) hj hij;simpa [List.getD,hj,show i<l.length by omega] using this
theorem fO {l:List (List Int)} (h:r7 l):∀ {k:Nat},k<=l.length->(uP l k).Pairwise λa b=>kc a b<0
 | 0,_=>List.Pairwise.nil
 | k + 1,hk=>by
  rw [uP]
  by_cases c:0<k/\l.getD k []=l.getD (k-1) []
  ·rw [if_pos c]; exact fO h (by omega)
  ·rw [if_neg c];refine List.pairwise_append.2 ⟨fO h (by omega),List.pairwise_singleton _ _,λx hx y hy=>?_⟩;rw [κ] at hy;subst hy;obtain⟨i,hi,rfl⟩:=aC.1 hx;have h1:=Zy h hi (show k<l.length by omega)
   by_cases e:kc (l.getD i []) (l.getD k [])<0
   ·exact e
   ·exfalso;have eq:l.getD i []=l.getD k []:=aq h1 e
    by_cases e2:i=k-1
    ·exact c ⟨by omega,by rw [<- eq,e2]⟩
    ·have h2:=Zy h (show i<k-1 by omega) (show k-1<l.length by omega);have h3:=Zy h (show k-1<k by omega) (show k<l.length by omega);rw [eq] at h2;exact c ⟨by omega,aq h3 h2 |>.symm⟩
theorem U1 {l:List (List Int)} (h:r7 l):r7 (dedup l):=by have:=fO h (Am l.length);exact this.imp λ{a b} h=>by have:=lO a b; omega
theorem U3 {l:List (List Int)} {x:List Int}:x ∈ dedup l ↔ x ∈ l:=by
 unfold dedup;rw [aC]
 constructor
 ·rintro ⟨i,hi,rfl⟩; exact xK hi
 ·intro h;obtain⟨i,hi,e⟩:=List.mem_iff_getElem.1 h;exact⟨i,hi,by simp [List.getD,hi,e]⟩
open Ru
theorem fA {rs:List xC} {A F T:Nat} (ok:kQ rs A F T):jK ⟨A,F,T,rs⟩= 0:=by
 obtain⟨h1,h2,h3,h4,h5,h6,h7,h8,h9⟩:=ok;unfold jK;simp only;have hp:((rs.length*T:Nat):Int)<=512:=by omega
 rw [Int.natCast_mul] at hp
 rw [if_neg (by omega),if_neg (by omega),if_neg (by omega),if_neg,if_neg]
 ·rw [Ay,Aj];intro r hr;simp only [cw,A3,Ak,not_exists,not_and];intro f hf;simp [h9 r hr f hf]
 ·rw [Ay,Aj];intro r hr;have hrow:=h8 r hr;simp only [dU,h6 r hr,h7 r hr,decide_true,Bool.not_true,Bool.false_or,Ak,not_exists,not_and];intro l hl;simp [hrow l hl]
open Ru
namespace Ru
def YI (rs:List xC) (A T:Nat) (kf:Nat->Nat × Nat->List Int):List xC:=YJ rs A T (o8 kf (qF T (rs.length*T)))
theorem RI (rs:List xC) (A T:Nat) (num:Nat->Nat × Nat->Int):(YJ rs A T num).length=rs.length:=by simp [YJ]
theorem b7 {rs:List xC} {A T:Nat} {num:Nat->Nat × Nat->Int} {i:Nat} (h:i<rs.length):(YJ rs A T num).getD i rI=⟨(List.range T).map λt=>(List.range A).map λa=>num a (i,t),(rs.getD i rI).cU⟩:=by simp [YJ,List.getD,h]
theorem b8 {rs:List xC} {A T:Nat} {num:Nat->Nat × Nat->Int} {a:Nat} {p:Nat × Nat} (ha:a<A) (hp:p.1<rs.length/\p.2<T):yO (YJ rs A T num) a p=num a p:=by unfold yO;rw [b7 hp.1];simp [List.getD,hp.2,ha]
theorem filter_le {p q:List Int->Bool}:∀ {m:List (List Int)},(∀ y ∈ m,p y=true->q y=true)->(m.filter p).length<=(m.filter q).length
 | [],_=>Am _
 | y :: m,h=>by
  have ih:=filter_le (p:=p) (q:=q) (m:=m) λz hz=>h z (χ _ hz);have h0:=h y (by simp);rw [υ,υ]
  cases hp:p y
  ·cases hq:q y
   ·simpa using ih
   ·simp; omega
  ·rw [h0 hp]; simpa using ih
theorem filter_lt {p q:List Int->Bool} {x:List Int}:∀ {m:List (List Int)},(∀ y ∈ m,p y=true->q y=true)->x ∈ m->p x=false->q x=true->(m.filter p).length<(m.filter q).length
 | [],_,hx,_,_=>by cases hx
 | y :: m,h,hx,hp,hq=>by
  have h':∀ z ∈ m,p z=true->q z=true:=λz hz=>h z (χ _ hz);rw [υ,υ]
  rcases List.mem_cons.1 hx with e | e
  ·subst e;have:=filter_le h';rw [hp,hq];simp; omega
  ·have ih:=filter_lt h' e hp hq;have h0:=h y (by simp)
   cases hpy:p y
   ·cases hqy:q y
    ·simpa using ih
    ·simp; omega
   ·rw [h0 hpy]; simpa using ih
theorem XI {m:List (List Int)} {x y:List Int} (hx:x ∈ m) (h:kc x y<0):below m x<below m y:=by unfold below;refine filter_lt (x:=x) (λz _ hz=>?_) hx (by rw [Vy]; rfl) (by simpa using h);have:=of_decide_eq_true hz;exact decide_eq_true (qo this h)
theorem Tk {m:List (List Int)} {x y:List Int} (hx:x ∈ m) (hy:y ∈ m):below m x=below m y ↔ x=y:=by
 refine⟨λh=>?_,λh=>by rw [h]⟩;have a:=lO x y
 by_cases h1:kc x y<0
 ·have:=XI hx h1; omega
 ·by_cases h2:kc y x<0
  ·have:=XI hy h2; omega
  ·exact uo (by omega)
theorem Oe {T R:Nat} {p:Nat × Nat} (hp:p.1<R/\p.2<T):p ∈ qF T (R*T):=by obtain⟨r,t⟩:=p;simp only at hp;simp only [qF,List.mem_map,Ab];have hm:=Nat.mul_le_mul_right T (show r+1<=R from hp.1);rw [Nat.succ_mul] at hm;refine⟨r*T+t,by omega,?_⟩;rw [Nat.mul_comm,Nat.mul_add_div (by omega),Nat.div_eq_of_lt hp.2,Nat.mul_add_mod,Aq hp.2];rfl
theorem Vx {kf:Nat->Nat × Nat->List Int} {T R a:Nat} {p:Nat × Nat} (hp:p.1<R/\p.2<T):kf a p ∈ dedup (cO ((qF T (R*T)).map (kf a))):= U3.2 ((eF _).mem_iff.2 (List.mem_map_of_mem (Oe hp)))
theorem RD {kf:Nat->Nat × Nat->List Int} {T R a:Nat} {p q:Nat × Nat} (hp:p.1<R/\p.2<T) (hq:q.1<R/\q.2<T):o8 kf (qF T (R*T)) a p=o8 kf (qF T (R*T)) a q ↔ kf a p=kf a q:=by unfold o8;rw [<- Tk (Vx hp) (Vx hq)];omega
theorem RG (rs:List xC) (A T:Nat) (kf:Nat->Nat × Nat->List Int):(YI rs A T kf).length=rs.length:=RI _ _ _ _
theorem RH {rs:List xC} {A T:Nat} {kf:Nat->Nat × Nat->List Int} {a:Nat} {p q:Nat × Nat} (ha:a<A) (hp:p.1<rs.length/\p.2<T) (hq:q.1<rs.length/\q.2<T):yO (YI rs A T kf) a p=yO (YI rs A T kf) a q ↔ kf a p=kf a q:=by unfold YI;rw [b8 ha hp,b8 ha hq,RD hp hq]
end Ru
open Rs Fm Ru Te Kb
namespace Kb
theorem yx {rs:List xC} {A F T:Nat} (ok:kQ rs A F T) {f:List Nd} (hc:yZ f=0) (hfr:(tS .andNot .i64 (zH f:Int) 15 != 0)= false) (hft:tU f A F=true):tT A F (uE f)= true:=by
 have h16:zH f<16:=Sg ⟨zH f,oD f⟩ hfr;have ha:∀ n:Fin 16,n.val &&& 3824=0/\n.val &&& 256=0:=by decide
 have hE:jG ⟨A,F,T,rs⟩ f=0:=by unfold jG;rw [if_neg (by simpa using fA ok),if_neg (by simpa using hc),aD (oD f),if_neg (by simp [(ha ⟨zH f,h16⟩).1])];simp only;rw [if_neg (by rw [hft]; simp)]
 exact(Ys rfl (fA ok) ok hE (ha ⟨zH f,h16⟩).2).1
theorem aU {p:yF} {f:List Nd} {fr:Int} (h:ze p f fr=0):yZ f=0/\(tS .andNot .i64 (zH f:Int) fr != 0)= false/\tU f p.xN.length p.F=true:=by
 unfold ze at h
 by_cases h1:yZ f=0
 ·rw [if_neg (by simpa using h1)] at h
  cases h2:(tS .andNot .i64 (zH f:Int) fr != 0) with
  | true=>rw [h2,if_pos rfl] at h; cases h
  | false=>
   rw [h2,if_neg (by simp)] at h
   cases h3:tU f p.xN.length p.F with
   | true=>exact⟨h1,rfl,rfl⟩
   | false=>rw [h3] at h; cases h
 ·rw [if_pos h1] at h; exact absurd h h1
structure N8 (p : yF) (F : Nat) (sts : List (List (BitVec 64))) (t : Nat) : Prop where
 fe:p.F=(F:Int)
 hF:F<=8
 hA:1<=p.xN.length/\p.xN.length<=4
 hR:1<=sts.length/\sts.length<=16
 len:∀ st ∈ sts,t<st.length
 ht:t<=1000
 val:∀ st ∈ sts,∀ s ∈ st,s >>> F=0#64
theorem N8.ok {p:yF} {F:Nat} {sts:List (List (BitVec 64))} {t:Nat} (h:N8 p F sts t):KS p F sts t:=⟨h.fe,h.hF,h.hA.2,by have:=h.hR.2; omega,h.len,h.ht⟩
theorem N8.time {p:yF} {F:Nat} {sts:List (List (BitVec 64))} {t:Nat} (h:N8 p F sts t):kQ (wD p.xN sts t) p.xN.length F 1:= Ow h.hA.2 h.hF ⟨h.hR.1,by have:=h.hR.2; omega⟩ λw hw=>h.val _ (xK hw) _ (xK (h.len _ (xK hw)))
def TR (xN:List (BitVec 64)) (sts:List (List (BitVec 64))) (t:Nat) (f:List Nd) (v:Nat):Bool:=eD (wD xN sts t) xN.length 1 (uE f) (v,0)
def uf (xN:List (BitVec 64)) (sts:List (List (BitVec 64))) (t a:Nat) (f:List Nd) (w:Nat):Bool:=(List.range sts.length).all λv=>!decide (tN xN (vN sts v) a t=tN xN (vN sts w) a t) || TR xN sts t f v
def PT (xN:List (BitVec 64)) (sts:List (List (BitVec 64))) (t:Nat) (f:List Nd):BitVec 64:=sW 1 sts.length (eD (wD xN sts t) xN.length 1 (uE f))
def uN (xN:List (BitVec 64)) (sts:List (List (BitVec 64))) (t a w:Nat):List eC->Int
 | []=>-1
 | c :: r=>if uf xN sts t a c.test w=true then c.mv else uN xN sts t a w r
def za (p:yF) (sts:List (List (BitVec 64))) (t a w:Nat):Int:=uN p.xN sts t a w (p.code.getD a [])
def rC (p:yF) (sts:List (List (BitVec 64))) (t:Nat):List (List Int):=(List.range p.xN.length).map λa=>(List.range sts.length).map λw=>za p sts t a w
def vP (A:Nat) (s:BitVec 64):List xC:=[⟨[List.replicate A 0],[s]⟩]
def uc (A:Nat) (f:List Nd) (s:BitVec 64):Bool:=eD (vP A s) A 1 (uE f) (0,0)
def gS (A:Nat) (s0:BitVec 64) (out:BitVec 64) (a:gQ):BitVec 64:=out &&& ~~~(1#64 <<< a.fact.toNat) ||| (if uc A a.to s0=true then 1#64 <<< a.fact.toNat else 0#64)
def kM (p:yF) (s0:BitVec 64) (out:BitVec 64) (k:Int):BitVec 64:=if k<0 then out else(p.xM.getD k.toNat []).foldl (gS p.xN.length s0) out
def mc (p:yF) (s0:BitVec 64) (mv:List Int):BitVec 64:=mv.foldl (kM p s0) s0
theorem Ou {A F:Nat} {s:BitVec 64} (hA:A<=4) (hF:F<=8) (hs:s >>> F=0#64):kQ (vP A s) A F 1 where
 hA:=hA
 hF:=hF
 hT:=⟨by omega,by omega⟩
 hR:=⟨by simp [vP],by simp [vP]⟩
 hP:=by simp [vP]
 loc:=λr hr=>by simp only [vP,κ] at hr; subst hr; rfl
 cU:=λr hr=>by simp only [vP,κ] at hr; subst hr; rfl
 row:=λr hr l hl=>by simp only [vP,κ] at hr; subst hr;simp only [κ] at hl; subst hl;simp
 val:=λr hr x hx=>by simp only [vP,κ] at hr; subst hr;simp only [κ] at hx; subst hx;exact hs
end Kb
theorem Nv {p:yF} {F:Nat} {sts:List (List (BitVec 64))} {t:Nat} (h:N8 p F sts t) {f:List Nd} (hE:ze p f 15=0):yW prog 54 [Wg p.xN sts t F,.sl 6 (zG f)] (.wE [.int .u64 (ui (PT p.xN sts t f)),.int .i64 0]):=by
 obtain⟨h1,h2,h3⟩:=aU hE;rw [h.fe] at h3;have ok:=h.time;have hl:(wD p.xN sts t).length*1=sts.length:=by rw [qM,Nat.mul_one]
 have hh:=XL ok (by rw [hl]; have:=h.hR.2; omega) h1 h2 h3;unfold xq at hh;rw [if_pos (yx ok h1 h2 h3),hl,Rn] at hh;exact hh
theorem Ra {p:yF} {F:Nat} {sts:List (List (BitVec 64))} {t:Nat} (h:N8 p F sts t) {a w:Nat} (ha:a<p.xN.length) (hw:w<sts.length) (f:List Nd) :
  (Ru.jF (wD p.xN sts t) (uO sts.length 0) a (yO (wD p.xN sts t) a (w,0)) sts.length &&& ~~~PT p.xN sts t f==0#64)= uf p.xN sts t a f w:=by
 have hR:=h.hR.2;rw [Bool.eq_iff_iff,WM];unfold uf PT;simp only [List.all_eq_true,Ab]
 constructor
 ·intro hh v hv
  by_cases e:tN p.xN (vN sts v) a t=tN p.xN (vN sts w) a t
  ·have h1:=hh v (by omega);rw [gB _ _ (by omega),jR hv,yI (by omega)] at h1;have h2:=(aO (t:=t) ha hv hw).2 e;simp only [decide_eq_true hv,decide_eq_true h2,Bool.true_and,true_implies] at h1;unfold TR;rw [decide_eq_true e,show pt 1 v=(v,0) by unfold pt; rw [Nat.div_one,Nat.mod_one]] at *;rw [h1]; rfl
  ·rw [decide_eq_false e]; rfl
 ·intro hh v hv hb;rw [gB _ _ (by omega)] at hb;simp only [Ax,decide_eq_true_eq] at hb;obtain⟨hv2,hb⟩:=hb;rw [jR hv2] at hb;have h1:=hh v hv2;rw [decide_eq_true ((aO (t:=t) ha hv2 hw).1 hb)] at h1;rw [yI (by omega),decide_eq_true hv2,show pt 1 v=(v,0) by unfold pt; rw [Nat.div_one,Nat.mod_one]];simpa [TR] using h1
end Go.Pd
