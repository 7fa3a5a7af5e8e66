/- Part XA. -/
import Derived.Test.YtndfaefmmcoapaaGreatUbX6
import Derived.Test.YtndfaefmmcoapaaGreatUbE1
import Derived.Test.YtndfaefmmcoapaaGreatUbX9
import Derived.Test.YtndfaefmmcoapaaGreatUbX8
import Derived.Test.YtndfaefmmcoapaaGreatUbSC
import Derived.Test.YtndfaefmmcoapaaGreatUbKG
set_option linter.unusedSectionVars false
set_option linter.unusedVariables false
set_option linter.unusedSimpArgs false
set_option linter.defProp false
open Go.Proofs.Tryz
open List renaming take_append_of_le_length->γ,getElem?_append_left->δ,getElem?_append_right->ε,getElem?_eq_getElem->ζ,getElem?_cons_succ->η,take_length_add_append->θ,length_append->κ,mem_of_mem_take->μ,take_succ_cons->ν,length_take->ξ,getElem_mem->ο,take_length->π,nil_append->τ,length_cons->υ,map_cons->χ,eq_of_mem_replicate->ω,drop_eq_nil_of_le->Aa,take_append_drop->Ab,length_replicate->Ac,filterMap_cons->Ad,drop_replicate->Ae,mem_filterMap->Af,append_assoc->Ag
open Nat renaming le_refl->Ah,lt_or_ge->Ai,lt_trichotomy->Aj,min_eq_right->Ak,zero_le->Al,min_eq_left->Am,and_or_distrib_right->An
open Option renaming bind_eq_some_iff->Ao,getD_some->Ap,bind_eq_bind->Aq,map_some->Ar
open Int renaming toNat_natCast->As
open Bool renaming and_eq_true->Au
namespace Go.Pd
open Go
section
variable [rL]
def qsA (pre:List DOp) (o1:Option Nat) (dx:D) (mid1:List DOp) (o2:Option Nat) (dy:D) (mid2:List DOp):List DOp:=pre++⟨o1,none,.mv (.c dx)⟩ :: (mid1++⟨o2,none,.mv (.c dy)⟩ :: mid2)
def VX (C:Cx) (pre:List DOp) (m1:DOp) (mid1:List DOp) (m2:DOp) (mid2 post:List DOp) (free:List Nat) (f:Fr) (σ:St) (K:Fr->St->Prop):Prop:=
 uO C σ pre f λf1=>opV C σ (evO f1) m1.k λdx σ1=>uO C σ1 mid1 (f1.put m1.dst dx) λf2=>opV C σ1 (evO f2) m2.k λdy σ2=>uO C σ2 mid2 (f2.put m2.dst dy) λf3=>
  uO C σ (qsA pre m1.dst dx mid1 m2.dst dy mid2) f (λg=>g=f3)/\ uO C σ1 (qsA pre m1.dst dx mid1 m2.dst dy mid2) f (λg=>g=f3)/\ uO C σ2 (qsA pre m1.dst dx mid1 m2.dst dy mid2) f (λg=>g=f3)/\
  opV C σ (evO f) m2.k λdA σA=>uO C σA pre f λg1=>opV C σA (evO g1) m1.k λdz σB=>uO C σB (mid1++⟨m2.dst,none,.mv (.c dA)⟩ :: mid2) (g1.put m1.dst dz) λg3=>
   uO C σA (qsA pre m1.dst dz mid1 m2.dst dA mid2) f (λg=>g=g3)/\ uO C σB (qsA pre m1.dst dz mid1 m2.dst dA mid2) f (λg=>g=g3)/\
   qE C post f3 σ2 λf4 σ4=>qE C post g3 σB λg4 σ5=>(∀ t ∈ free,f4.get t=g4.get t)/\ xN C g4 σ5 f4 σ4/\K f4 σ4
theorem vj : ∀ {ds ds':List DOp} {t:List (D × St)} {f:Fr},ds.map (·.dst)= ds'.map (·.dst)->FAt ds t f=FAt ds' t f
 | [],[],_,_,_=>rfl
 | [],_ :: _,_,_,h=>by simp at h
 | _ :: _,[],_,_,h=>by simp at h
 | o :: ds,o' :: ds',[],f,_=>rfl
 | o :: ds,o' :: ds',p :: t,f,h=>by simp only [χ,List.cons.injEq] at h;simp only [FAt];rw [h.1];exact vj h.2
theorem xt {l l':List DOp} (h:l.map (·.dst)= l'.map (·.dst)):vP l=vP l':=by
 unfold vP;rw [h];have e:∀ l:List DOp,(l.all λo=>o.dst.isSome)= (l.map (·.dst)).all (·.isSome):=λl=>by rw [List.all_map]; rfl
 rw [e l,e l',h]
theorem jD {C:Cx} {hd qs:List DOp} {f:Fr} {t:List (D × St)} {st:St} (hdst:qs.map (·.dst)= hd.map (·.dst)) (hok:vP hd=true) (hl:t.length=hd.length) (h:uO C st qs f λg=>g=FAt hd t f) {i:Nat} {dop:DOp} (hi:qs[i]?=some dop) :
  yK dop (FAt (hd.take i) (t.take i) f) (opV C st (evO (FAt (hd.take i) (t.take i) f)) dop.k λx y=>x=tD t i/\y=st) (.und=tD t i):=by
 obtain⟨t',q1,q2,q3,q4⟩:=yP _ _ h;have hlen:qs.length=hd.length:=by have:=congrArg List.length hdst; simpa using this
 have hv:=rT ((xt hdst).trans hok) q3 (by omega:t.length=qs.length) (q2.trans (vj hdst.symm));have:=wF q1 q3 hv q4 hi
 rwa [vj (ds:=qs.take i) (ds':=hd.take i) (by rw [List.map_take,List.map_take,hdst])] at this
theorem eH : ∀ {l:List DOp},(l.filterMap (·.dst)).Nodup->∀ {i j t:Nat},vG l i=some t->vG l j=some t->i=j
 | [],_,i,j,t,h,_=>by simp [vG] at h
 | o :: l,hn,i,j,t,hi,hj=>by
  have hm:∀ k,vG l k=some t->t ∈ l.filterMap (·.dst):=λk hk=>by unfold vG at hk;obtain⟨d,h1,h2⟩:=Ao.1 hk;exact Af.2 ⟨d,List.mem_of_getElem? h1,h2⟩
  have hn2:(l.filterMap (·.dst)).Nodup/\∀ d,o.dst=some d->d ∉ l.filterMap (·.dst):=by
   rw [Ad] at hn
   cases e:o.dst with
   | none=>rw [e] at hn; exact⟨hn,λd h=>by cases h⟩
   | some d=>rw [e] at hn; exact⟨(List.nodup_cons.1 hn).2,λd' h=>by cases h; exact(List.nodup_cons.1 hn).1⟩
  match i,j with
  | 0,0=>rfl
  | 0,j+1=>exact absurd (hm j hj) (hn2.2 t hi)
  | i+1,0=>exact absurd (hm i hi) (hn2.2 t hj)
  | i+1,j+1=>exact congrArg (·+1) (eH (l:=l) hn2.1 hi hj)
theorem Zb {ds:List DOp} {tr:List (D × St)} {f:Fr} (hl:tr.length=ds.length) (hn:(ds.filterMap (·.dst)).Nodup) {j t:Nat} (hj:j<ds.length) (hd:vG ds j=some t):(FAt ds tr f).get t=tD tr j:=by have:=lU (f:=f) hl ds.length (Ah _) t;rw [π,<- hl,π,hl] at this;rw [this];exact lT rfl hd ds.length hj λk h1 h2 h3=>by have:=eH hn hd h3; omega
theorem Zd {ds ds':List DOp} {tr tr':List (D × St)} {f:Fr} {T T':Nat->Bool} {t:Nat} (hd:∀ j,vG ds' j=vG ds j):∀ (n:Nat),(∀ j,j<n->vG ds j=some t->T' j=T j/\(T j=true->tD tr' j=tD tr j))->LV ds' tr' f T' n t=LV ds tr f T n t
 | 0,_=>rfl
 | n+1,h=>by
  simp only [LV,hd];rw [Zd hd n λj hj=>h j (by omega)]
  by_cases e:vG ds n=some t
  ·obtain⟨h1,h2⟩:=h n (by omega) e;rw [h1]
   split
   ·rename_i hc; rw [h2 hc.1]
   ·rfl
  ·rw [if_neg (λh=>e h.2),if_neg (λh=>e h.2)]
theorem Ts {P:Program} {N:Nat} {own:List Nat} {code:Code} {pre:List DOp} {m1:DOp} {mid1:List DOp} {m2:DOp} {mid2 post:List DOp} {free:List Nat} (h:mkC P N own code=some (.ot pre m1 mid1 m2 mid2 post free)) :
  ∃ id ops l,code = .region id ops true/\sW (xg P N own ops) ops.toList=some l/\own.contains 77777=false/\post=l.drop (tI own l)/\ MP own ops.toList l (tI own l) pre m1 mid1 m2 mid2 free:=by
 cases code with
 | region id ops draw=>
  simp only [mkC] at h
  split at h
  ·rename_i d hd;cases h
   rcases nD hd with ⟨_,h2 | h2 | h2⟩ | ⟨_,h2,_⟩
   ·obtain⟨_,_,_,_,_,_,_,_,_,_,_,_,_,_,_,e⟩:=uB h2; cases e
   ·obtain⟨_,_,_,_,_,_,_,_,_,_,_,_,_,_,e⟩:=oF h2; cases e
   ·obtain⟨_,_,_,_,_,_,_,_,_,_,_,e⟩:=oE h2; cases e
   ·obtain⟨_,_,_,_,_,_,_,_,_,_,_,_,_,_,_,e⟩:=uB h2; cases e
  ·simp only [Aq,Ao] at h;obtain⟨l,hl,h⟩:=h
   split at h
   ·rename_i hdr
    split at h
    ·split at h
     ·rename_i d hv;cases h;obtain⟨_,_,_,_,_,_,e,_⟩:=nF hv;cases e
     ·rcases pN h with ⟨e,_⟩ | ⟨_,_,_,_,_,e,_⟩ | ⟨_,_,_,_,_,_,_,_,_,_,_,e,_⟩ <;> cases e
    ·split at h
     ·rename_i hq;obtain⟨_,_,_,_,_,_,_,e,hp,hR⟩:=nE h;cases e;subst hdr;exact⟨id,ops,l,rfl,hl,hq,hp,hR⟩
     ·cases h
   ·simp at h
 | rangeFunc g0 ps0 a c=> simp [mkC,Ao] at h
 | seq a b=> simp only [mkC,zO] at h;obtain⟨dx,hx,dy,hy,h⟩:=h;rcases zB dx dy with e | ⟨_,_,_,_,_,_,_,_,_,_,_,_,e,_⟩ <;> rw [e] at h <;> cases h
 | _=>simp [mkC,Ao] at h
theorem jk {k:DK} (h:zu k=true):k.SA = []/\k.wZ=false:=by cases k <;> simp_all [zu,DK.SA,DK.wZ]
theorem gq {A B:List DOp} {b c:DOp} {i:Nat} (h:i≠A.length):(A++b :: B)[i]?=(A++c :: B)[i]?:=by
 rcases Ai i A.length with h1 | h1
 ·rw [δ h1,δ h1]
 ·obtain⟨k,rfl⟩:∃ k,i=A.length+(k+1):=⟨i-A.length-1,by omega⟩;rw [ε (by omega),ε (by omega),show A.length+(k+1)-A.length=k+1 by omega,η,η]
theorem Yb {α:Type} {A B:List α} {b:α}:(A++b :: B)[A.length]?=some b:=by rw [ε (Ah _),Nat.sub_self]; rfl
theorem XW {a b x:DOp} (hd:a.dst=b.dst) (hn:a.names=b.names):mJ a x=mJ b x:=by unfold mJ; rw [hd,hn]
theorem iz {a b x:DOp} (hd:a.dst=b.dst) (hn:a.names=b.names):mJ x a=mJ x b:=by unfold mJ; rw [hd,hn]
theorem VH {C:Cx} (hm:C.P.follows .mixedOrders=true) {pre:List DOp} {m1:DOp} {mid1:List DOp} {m2:DOp} {mid2 post:List DOp} {free:List Nat} {f:Fr} {σ:St} {Q:Exit->Fr->St->Prop}
  (h:VX C pre m1 mid1 m2 mid2 post free f σ (Q .normal)):wpS C (.ot pre m1 mid1 m2 mid2 post free) f σ Q:=by
 intro code hc E a w G;obtain⟨id,ops,l,rfl,hd,hq,hpost,R⟩:=Ts hc;have hg1:=tQ R.n2;have hg2:=tQ R.n4;obtain⟨hal,hal2⟩:=jk R.alloc;unfold VX at h;obtain⟨t1,a1,h,a3,a4⟩:=yP _ _ h;obtain⟨dx,σ1,hx,h⟩:=oU hq h;obtain⟨t2,b1,h,b3,b4⟩:=yP _ _ h;obtain⟨dy,σ2,hy,h⟩:=oU hq h;obtain⟨t3,c1,h,c3,c4⟩:=yP _ _ h;obtain⟨q0,q1,q2,h⟩:=h;obtain⟨dA,σA,hA,h⟩:=oU hq h;obtain⟨u1,d1,h,d3,d4⟩:=yP _ _ h;obtain⟨dz,σB,hz,h⟩:=oU hq h;obtain⟨u2,e1,h,e3,e4⟩:=yP _ _ h;obtain⟨qA,qB,h⟩:=h;obtain⟨t4,f1,h,f3⟩:=tT hq _ _ _ h;obtain⟨u4,g1,h,g3⟩:=tT hq _ _ _ h;obtain⟨hfree,hweak,hQ⟩:=h;have s0:SAt t1 σ=σ:=zP a4;have s1:SAt t2 σ1=σ1:=zP b4;have s2:SAt t3 σ2=σ2:=zP c4;have sA:SAt u1 σA=σA:=zP d4;have sB:SAt u2 σB=σB:=zP e4
 have hls:l=pre++m1 :: (mid1++m2 :: (mid2++post)):=by
  conv=>lhs; rw [<- Ab (tI C.own l) l,R.eq,<- hpost]
  simp
 have hsl:tI C.own l<=l.length:=by
  have:∀ ks:List DOp,tI C.own ks<=ks.length:=by
   intro ks
   induction ks with
   | nil=>simp [tI]
   | cons k ks ih=>simp only [tI]; split <;> simp <;> omega
  exact this l
 have hs:tI C.own l=pre.length+1+mid1.length+1+mid2.length:=by have:=congrArg List.length R.eq;rw [ξ,Am hsl] at this;simp at this; omega
 generalize tI C.own l=s at *;obtain⟨x,hx0⟩:∃ x,x=pre.length:=⟨_,rfl⟩;obtain⟨y,hy0⟩:∃ y,y=pre.length+1+mid1.length:=⟨_,rfl⟩;have T3:Trace C (mid2++post) _ σ2 (t3++t4)/\ _/\_:=Trace.append c1 c3 (by rw [s2]; exact f1);have T2:Trace C (m2 :: (mid2++post)) (FAt mid1 t2 ((FAt pre t1 f).put m1.dst dx)) (SAt t2 σ1) ((dy,σ2) :: (t3++t4)):=.cons (by simp only [yK,hg2]; rw [s1]; exact hy) T3.1;have T1:=Trace.append b1 b3 T2;have T0:Trace C (m1 :: (mid1++m2 :: (mid2++post))) (FAt pre t1 f) (SAt t1 σ) ((dx,σ1) :: (t2++(dy,σ2) :: (t3++t4))):=.cons (by simp only [yK,hg1]; rw [s0]; exact hx) T1.1;obtain⟨k1,k2,k3⟩:=Trace.append a1 a3 T0
 have k2':FAt l (t1++(dx,σ1) :: (t2++(dy,σ2) :: (t3++t4))) f=FAt post t4 (FAt mid2 t3 ((FAt mid1 t2 ((FAt pre t1 f).put m1.dst dx)).put m2.dst dy)):=by rw [hls,k2];show FAt (mid1++m2 :: (mid2++post)) _ _=_;rw [T1.2.1];exact T3.2.1
 have k3':SAt (t1++(dx,σ1) :: (t2++(dy,σ2) :: (t3++t4))) σ=SAt t4 σ2:=by rw [k3,s0];show SAt (t2++(dy,σ2) :: (t3++t4)) σ1=_;rw [T1.2.2,s1];show SAt (t3++t4) σ2=_;rw [T3.2.2,s2]
 rw [<- hls] at k1;have U2:Trace C ((mid1++⟨m2.dst,none,.mv (.c dA)⟩ :: mid2)++ post) _ σB (u2++u4)/\ _/\_:=Trace.append e1 e3 (by rw [sB]; exact g1);have U0:Trace C (m1 :: ((mid1++⟨m2.dst,none,.mv (.c dA)⟩ :: mid2)++ post)) (FAt pre u1 f) (SAt u1 σA) ((dz,σB) :: (u2++u4)):=.cons (by simp only [yK,hg1]; rw [sA]; exact hz) U2.1;obtain⟨j1,j2,j3⟩:=Trace.append d1 d3 U0;obtain⟨l',hl'⟩:∃ l',l'=pre++m1 :: ((mid1++⟨m2.dst,none,.mv (.c dA)⟩ :: mid2)++ post):=⟨_,rfl⟩
 have j2':FAt l' (u1++(dz,σB) :: (u2++u4)) f=FAt post u4 (FAt (mid1++⟨m2.dst,none,.mv (.c dA)⟩ :: mid2) u2 ((FAt pre u1 f).put m1.dst dz)):=by rw [hl',j2];show FAt ((mid1++⟨m2.dst,none,.mv (.c dA)⟩ :: mid2)++ post) _ _=_;exact U2.2.1
 have j3':SAt (u1++(dz,σB) :: (u2++u4)) σA=SAt u4 σB:=by rw [j3,sA];show SAt (u2++u4) σB=_;rw [U2.2.2,sB]
 rw [<- hl'] at j1;rw [<- k2',<- j2'] at hfree;rw [<- k2',<- k3',<- j2',<- j3'] at hweak;rw [<- k2',<- k3'] at hQ
 have hlen:(t1++(dx,σ1) :: (t2++(dy,σ2) :: (t3++t4))).length=l.length:=by rw [hls]; simp only [κ,υ,a3,b3,c3,f3]
 have hlen':(u1++(dz,σB) :: (u2++u4)).length=l'.length:=by rw [hl']; simp only [κ,υ,d3,e3,g3]
 have hll:l'.length=l.length:=by rw [hl',hls]; simp only [κ,υ,Ag,List.cons_append]
 have hx:x<s:=by omega
 have hy:y<s:=by omega
 have hxy:x<y:=by omega
 obtain⟨hd_,hhd⟩:∃ hd_,hd_=pre++m1 :: (mid1++m2 :: mid2):=⟨_,rfl⟩;obtain⟨tr,htr⟩:∃ tr,tr=t1++(dx,σ1) :: (t2++(dy,σ2) :: (t3++t4)):=⟨_,rfl⟩;obtain⟨th,hth⟩:∃ th,th=t1++(dx,σ1) :: (t2++(dy,σ2) :: t3):=⟨_,rfl⟩;obtain⟨tr',htr'⟩:∃ tr',tr'=u1++(dz,σB) :: (u2++u4):=⟨_,rfl⟩;obtain⟨th',hth'⟩:∃ th',th'=u1++(dz,σB) :: u2:=⟨_,rfl⟩;obtain⟨hd',hhd'⟩:∃ hd',hd'=pre++m1 :: (mid1++⟨m2.dst,none,.mv (.c dA)⟩ :: mid2):=⟨_,rfl⟩;rw [<- htr] at k1 hfree hweak hQ hlen;rw [<- htr'] at j1 hfree hweak hlen';have lhd:l=hd_++post:=by rw [hls,hhd]; simp
 have lhd':l'=hd'++post:=by rw [hl',hhd']; simp
 have tth:tr=th++t4:=by rw [htr,hth]; simp
 have tth':tr'=th'++u4:=by rw [htr',hth']; simp
 have nhd:hd_.length=s:=by rw [hhd]; simp; omega
 have nhd':hd'.length=s:=by rw [hhd']; simp; omega
 have nth:th.length=s:=by rw [hth]; simp [a3,b3,c3]; omega
 have nth':th'.length=s:=by rw [hth']; simp [d3,e3]; omega
 have hF3:FAt hd_ th f=FAt mid2 t3 ((FAt mid1 t2 ((FAt pre t1 f).put m1.dst dx)).put m2.dst dy):=by rw [hhd,hth,pU _ _ _ a3];show FAt (mid1++m2 :: mid2) (t2++(dy,σ2) :: t3) _=_;rw [pU _ _ _ b3]; rfl
 have hG3:FAt hd' th' f=FAt (mid1++⟨m2.dst,none,.mv (.c dA)⟩ :: mid2) u2 ((FAt pre u1 f).put m1.dst dz):=by rw [hhd',hth',pU _ _ _ d3]; rfl
 rw [<- hF3] at q0 q1 q2;rw [<- hG3] at qA qB;have dq:∀ dx dy,(qsA pre m1.dst dx mid1 m2.dst dy mid2).map (·.dst)= hd_.map (·.dst):=λdx dy=>by rw [hhd]; simp [qsA]
 have dq':∀ dx dy,(qsA pre m1.dst dx mid1 m2.dst dy mid2).map (·.dst)= hd'.map (·.dst):=λdx dy=>by rw [hhd']; simp [qsA]
 have dok:vP hd_=true:=by have:=R.KZ; rw [R.eq,<- hhd] at this; exact this
 have dok':vP hd'=true:=(xt ((dq' dx dy).symm.trans (dq dx dy))).trans dok
 have qat:∀ dx dy i,i≠x->i≠y->(qsA pre m1.dst dx mid1 m2.dst dy mid2)[i]?=hd_[i]?:=λdx dy i h1 h2=>by rw [hhd];show (pre++_ :: (mid1++_ :: mid2))[i]?=_;rw [gq (c:=m1) (by omega),show pre++m1 :: (mid1++⟨m2.dst,none,DK.mv (.c dy)⟩ :: mid2)= (pre++m1 :: mid1)++ ⟨m2.dst,none,DK.mv (.c dy)⟩ :: mid2 by simp,gq (c:=m2) (by simp; omega)];simp
 have hat:∀ i,i≠y->hd'[i]?=hd_[i]?:=λi h2=>by rw [hhd,hhd',show pre++m1 :: (mid1++⟨m2.dst,none,DK.mv (.c dA)⟩ :: mid2)= (pre++m1 :: mid1)++ ⟨m2.dst,none,DK.mv (.c dA)⟩ :: mid2 by simp,gq (c:=m2) (by simp; omega)];simp
 have lat:∀ i,i≠y->l'[i]?=l[i]?:=λi h2=>by rw [hls,hl',show pre++m1 :: ((mid1++⟨m2.dst,none,DK.mv (.c dA)⟩ :: mid2)++ post)= (pre++m1 :: mid1)++ ⟨m2.dst,none,DK.mv (.c dA)⟩ :: (mid2++post) by simp,gq (c:=m2) (by simp; omega)];simp
 have ly:l[y]?=some m2:=by have:=Yb (A:=pre++m1 :: mid1) (B:=mid2++post) (b:=m2);rw [hls,hy0];rw [show (pre++m1 :: mid1).length=pre.length+1+mid1.length by simp; omega] at this;rw [<- this]; simp
 have ly':l'[y]?=some ⟨m2.dst,none,.mv (.c dA)⟩:=by have:=Yb (A:=pre++m1 :: mid1) (B:=mid2++post) (b:=(⟨m2.dst,none,.mv (.c dA)⟩:DOp));rw [hl',hy0];rw [show (pre++m1 :: mid1).length=pre.length+1+mid1.length by simp; omega] at this;rw [<- this]; simp
 have lx:l[x]?=some m1:=by rw [hls,hx0]; exact Yb
 have ldst:∀ j,vG l' j=vG l j:=λj=>by
  unfold vG
  by_cases h:j=y
  ·subst h; rw [ly,ly']; rfl
  ·rw [lat j h]
 have tdy:tD tr' y=dA:=by have hjt:=j1.at y _ ly';obtain⟨d,σ',h1,h2⟩:=hjt;simp only [yK,opV,pW,evO] at h2;simp only [tD,h1,Ar,Ap];exact h2.1.symm
 have muh:∀ i,i<s->(lK C.own l i=true ↔ i=x\/i=y):=λi hi=>by
  have hli:l[i]?=hd_[i]?:=by rw [lhd,δ (by omega)]
  rcases Aj i x with h | h | h
  ·have:hd_[i]?=pre[i]?:=by rw [hhd,δ (by omega)]
   rw [vH (hli.trans (this.trans (ζ (by omega)))),R.n1 _ (ο _)];simp; omega
  ·subst h; rw [vH lx,R.n2]; simp
  ·rcases Aj i y with g | g | g
   ·obtain⟨k,rfl⟩:∃ k,i=pre.length+(k+1):=⟨i-pre.length-1,by omega⟩
    have:hd_[pre.length+(k+1)]?=mid1[k]?:=by rw [hhd,ε (by omega),show pre.length+(k+1)-pre.length=k+1 by omega,η,δ (by omega)]
    rw [vH (hli.trans (this.trans (ζ (by omega)))),R.n3 _ (ο _)];simp; omega
   ·subst g; rw [vH ly,R.n4]; simp
   ·obtain⟨k,rfl⟩:∃ k,i=pre.length+1+mid1.length+(k+1):=⟨i-(pre.length+1+mid1.length)-1,by omega⟩
    have:hd_[pre.length+1+mid1.length+(k+1)]?=mid2[k]?:=by rw [hhd,ε (by omega),show pre.length+1+mid1.length+(k+1)-pre.length=(mid1.length+(k+1))+ 1 by omega,η,ε (by omega),show mid1.length+(k+1)-mid1.length=k+1 by omega,η]
    rw [vH (hli.trans (this.trans (ζ (by omega)))),R.n5 _ (ο _)];simp; omega
 have st0:∀ p,p<=x->SAt (tr.take p) σ=σ:=λp hp=>by rw [htr,γ (by omega)];exact zP λx hx=>a4 x (μ hx)
 have st1:∀ p,x<p->p<=y->SAt (tr.take p) σ=σ1:=λp h1 h2=>by obtain⟨k,rfl⟩:∃ k,p=t1.length+(k+1):=⟨p-t1.length-1,by omega⟩;rw [htr,θ,ν,γ (by omega),qY];exact zP (t:=t2.take k) λx hx=>b4 x (μ hx)
 have st2:∀ p,y<p->p<=s->SAt (tr.take p) σ=σ2:=λp h1 h2=>by obtain⟨k,rfl⟩:∃ k,p=t1.length+((t2.length+(k+1))+ 1):=⟨p-t1.length-1-t2.length-1,by omega⟩;rw [htr,θ,ν,θ,ν,γ (by omega),qY];show SAt (t2++(dy,σ2) :: t3.take k) σ1=σ2;rw [qY];exact zP (t:=t3.take k) λx hx=>c4 x (μ hx)
 have stA:∀ p,p<=x->SAt (tr'.take p) σA=σA:=λp hp=>by rw [htr',γ (by omega)];exact zP λx hx=>d4 x (μ hx)
 have stB:∀ p,x<p->p<=s->SAt (tr'.take p) σA=σB:=λp h1 h2=>by
  have hu2:u2.length=mid1.length+1+mid2.length:=by rw [e3]; simp; omega
  obtain⟨k,rfl⟩:∃ k,p=u1.length+(k+1):=⟨p-u1.length-1,by omega⟩;rw [htr',θ,ν,γ (by omega),qY];exact zP (t:=u2.take k) λx hx=>e4 x (μ hx)
 have sp:YZ ops l s (lK C.own l) (λi j=>i==pre.length&&j==pre.length+1+mid1.length):=cG R.ok;have bk:YW ops:=cF R.ok;have hal3:m2.names=(⟨m2.dst,none,.mv (.c dA)⟩:DOp).names:=by unfold DOp.names; rw [hal,hg2]; rfl
 obtain⟨hdl,hdg⟩:=wN hd;have hdl2:l.length=ops.size:=by simpa using hdl
 have G':Good C E a { w with drawn:=w.drawn+1 } f σ:=by obtain⟨ι,G⟩:=G;have hk:Kept w w.drew λ_=>False:=(Kept.refl _ _).drew;have hS:=G.sim.ext hk;exact⟨ι,⟨G.size,G.defers.zA rfl (Ah _) λD hD=>hD,G.nx,G.kept.drew,hS,G.old,G.mS,G.stay,G.fr.zA (λb hb _=>rfl) (λ_ _ h=>h) hk.shape (λ_ _=>rfl) (Ah _)⟩⟩
 have hf0:∀ j,(Array.replicate ops.size false).getD j false=false:=getD_replicate_false ops.size
 refine wpIn_region_any hm (vz (ds:=l) (tr:=tr) (s:=s) (mu:=lK C.own l) (f:=f) (σ:=σ) (xo:=λi j=>i==pre.length&&j==pre.length+1+mid1.length) (l0:=λ_=>false) hdl (λi o h=>by obtain⟨dop,h1,h2⟩:=hdg i o h; exact⟨dop,h1,λ_=>h2⟩) sp bk (λi j h=>by simp at h; omega) k1 hlen hsl (λm hms hmm=>?_) (λi hi him=>?_) (λi dop p his him hps hdop hns hor=>?_) (λa w G'=>⟨_,_,G',hQ⟩) (λfuel listed a w i j hfew I hi hxo hlj=>?_) _ _ _ _ ?_ ⟨by simp,(λ_ j _ h=>by rw [hf0] at h; cases h),(λ_ h=>by cases h),(λj o _ hT=>by rw [hf0] at hT; cases hT),f,λt=>?_,?_⟩)
 ·rcases(muh m hms).1 hmm with rfl | rfl
  ·rw [wB lx]; exact R.PI
  ·rw [wB ly]; exact hal2
 ·have hne:i≠x/\i≠y:=by
   refine⟨λh=>?_,λh=>?_⟩
   ·rw [(muh i hi).2 (.inl h)] at him; cases him
   ·rw [(muh i hi).2 (.inr h)] at him; cases him
  rcases Ai i x with h | h
  ·rw [st0 (i+1) (by omega),st0 i (by omega)]
  ·rcases Ai i y with g | g
   ·rw [st1 (i+1) (by omega) (by omega),st1 i (by omega) (by omega)]
   ·rw [st2 (i+1) (by omega) (by omega),st2 i (by omega) (by omega)]
 ·have hne:i≠x/\i≠y:=by
   refine⟨λh=>?_,λh=>?_⟩
   ·rw [(muh i his).2 (.inl h)] at him; cases him
   ·rw [(muh i his).2 (.inr h)] at him; cases him
  have z1:l.take i=hd_.take i:=by rw [lhd,γ (by omega)]
  have z2:tr.take i=th.take i:=by rw [tth,γ (by omega)]
  have z3:tD tr i=tD th i:=by unfold tD; rw [tth,δ (by omega)]
  have z4:hd_[i]?=some dop:=by rw [<- hdop,lhd,δ (by omega)]
  rw [z1,z2,z3]
  rcases Ai x p with h | h
  ·rcases Ai y p with g | g
   ·rw [st2 p g hps]; exact jD (dq dx dy) dok (by omega) q2 ((qat dx dy i hne.1 hne.2).trans z4)
   ·rw [st1 p h g]; exact jD (dq dx dy) dok (by omega) q1 ((qat dx dy i hne.1 hne.2).trans z4)
  ·rw [st0 p h]; exact jD (dq dx dy) dok (by omega) q0 ((qat dx dy i hne.1 hne.2).trans z4)
 ·-- THE OBJECT COMES FIRST
  simp only [Au,beq_iff_eq] at hxo;obtain⟨rfl,rfl⟩:j=x/\i=y:=by omega
  obtain⟨hun,o,ho,hall⟩:=mem_ready.1 hi;have hlt:i<ops.size:=(Array.getElem?_eq_some_iff.1 ho).1;have hTi:listed.getD i false=false:=getD_both hun;have hol:ops.toList[i]?=some o:=by simpa using ho
  obtain⟨dop,hdop,hmk⟩:=hdg i o hol;obtain rfl:dop=m2:=by rw [ly] at hdop; exact(Option.some.inj hdop).symm
  have hTlen:∀ j,listed.getD j false=true->j<ops.toList.length:=by
   intro j hj
   rcases Ai j listed.size with h | h
   ·simp; rw [<- I.size]; exact h
   ·simp [Array.getElem?_eq_none h] at hj
  have late:∀ k,listed.getD k false=false->∀ m,ordered (wX ops.toList []) k m=true->listed.getD m false=false:=by
   intro k hk m hm2
   by_cases h:listed.getD m false=true
   ·have this:listed.getD k false=true:=tJ (T:=λj=>listed.getD j false) I.closed hTlen m h k hm2;rw [hk] at this;cases this
   ·simpa using h
  have hopsj:∀ j,j<l.length->ops.toList[j]?=some (ops.toList.getD j o):=λj hj=>by
   have:j<ops.toList.length:=by omega
   simp only [List.getD,ζ this,Ap]
  have hdsj:∀ j,j<l.length->l[j]?=some (l.getD j dop):=λj hj=>by simp [List.getD,hj]
  have post0:∀ k,k<l.length->s<=k->wK l k=false->listed.getD k false=false:=by
   intro k hk hks hns;rw [wB (hdsj k hk)] at hns
   rcases sp (hopsj k hk) (hdsj k hk) ly (by omega:i<k) with h | ⟨_,h | h | h | h⟩
   ·exact late i hTi k h
   ·omega
   ·rw [hal2] at h; cases h
   ·rw [hns] at h; cases h
   ·simp at h; omega
  have hT':∀ k,(listed.setIfInBounds i true).getD k false=if i=k then true else listed.getD k false:=by
   intro k
   by_cases h:i=k
   ·subst h;have:i<listed.size:=by rw [I.size]; exact hlt
    simp [this]
   ·rw [if_neg h];exact getD_set_ne false h
  obtain⟨g,hg,G2⟩:=I.PG
  have hsil:∀ (ds:List DOp) (tr:List (D × St)) (f:Fr) (σ:St) (mu:Nat->Bool),Trace C ds f σ tr->(∀ i,i<s->mu i=false->SAt (tr.take (i+1)) σ=SAt (tr.take i) σ)->∀ j,j<ds.length->quiet ds mu s j=true->SAt (tr.take (j+1)) σ=SAt (tr.take j) σ:=by
   intro ds tr f σ mu ht hpre j hj hs
   by_cases hsj:wK ds j=true
   ·have ho:ds[j]?=some ds[j]:=ζ hj;obtain⟨d,σ',h1,h2⟩:=ht.at j _ ho;rw [gB tr σ j _ h1];simp only [wK,ho,Ar,Ap] at hsj;unfold yK at h2
    split at h2
    ·exact(qK hsj h2).1
    ·split at h2
     ·exact(Classical.em _).elim (λhbw=>(qK hsj ((vQ h2).1 hbw)).1) (λhbw=>((vQ h2).2 hbw).2)
     ·exact h2.2
     ·exact h2.elim
   ·simp only [quiet,Bool.or_eq_true,hsj,false_or,Au,decide_eq_true_eq,Bool.false_eq_true,Bool.not_eq_true'] at hs;exact hpre j hs.1 hs.2
  have preT:∀ i',i'<s->lK C.own l i'=false->SAt (tr.take (i'+1)) σ=SAt (tr.take i') σ:=λk hk him=>by
   have hne:k≠j/\k≠i:=by
    refine⟨λh=>?_,λh=>?_⟩
    ·rw [(muh k hk).2 (.inl h)] at him; cases him
    ·rw [(muh k hk).2 (.inr h)] at him; cases him
   rcases Ai k j with h | h
   ·rw [st0 (k+1) (by omega),st0 k (by omega)]
   ·rcases Ai k i with g | g
    ·rw [st1 (k+1) (by omega) (by omega),st1 k (by omega) (by omega)]
    ·rw [st2 (k+1) (by omega) (by omega),st2 k (by omega) (by omega)]
  have hst:SV (quiet l (lK C.own l) s) tr σ (λi=>listed.getD i false) l.length=σ:=by
   rw [fK (i:=0) (hsil l tr f σ _ k1 preT) l.length (Ah _) λk hk hq=>⟨λhT=>?_,λh=>by omega⟩]
   ·simp [SAt]
   ·exfalso;obtain⟨h1,h2⟩:=wA.1 hq
    rcases Ai k s with h | h
    ·rcases(muh k h).1 (h2.resolve_right (by omega)) with rfl | rfl
     ·rw [hlj] at hT; cases hT
     ·rw [hTi] at hT; cases hT
    ·rw [post0 k hk h h1] at hT; cases hT
  rw [hst] at G2
  have key:yK dop g (opV C σ (evO g) dop.k λx y=>x=dA/\y=σA) (D.und=dA/\σ=σA):=by simp only [yK,hg2];exact kA (λx hx=>by rw [hal] at hx; cases hx) hA
  have hstep:=eJ (next:=wpAnyIn C.F 0 C.P .any ops (LQ C E Q) fuel (listed.setIfInBounds i true)) (Q:=LQ C E Q) (K:=λx y=>x=dA/\y=σA) hmk G2 (tP key (λh=>h) (λh=>h)) (λa' w' d' σ'' G3 hk=>by
   obtain⟨rfl,rfl⟩:=hk
   refine vz (ds:=l') (tr:=tr') (s:=s) (mu:=λi=>decide (i=j)) (f:=f) (σ:=σ'') (xo:=λ_ _=>false) (l0:=λk=>decide (k=i)) (by omega) (λk o' h=>?_) (λ{i1 j1 oj di dj} h1 h2 h3 h4=>?_) bk (λ_ _ h=>by cases h) j1 hlen' (by omega) (λm hms hmm=>?_) (λk hk him=>?_) (λk dop2 p his him hps hdq hns hor=>?_) (λa w G'=>⟨_,_,hweak E a w G',hQ⟩) (λ_ _ _ _ _ _ _ _ _ h=>by cases h) _ _ _ _ hfew ⟨by simp [I.size],(λ_ _ h=>by cases h),λk hk=>?_,λk ok hk hT e he hb=>?_,g.put dop.dst d',λt=>?_,?_⟩
   ·obtain⟨dop3,g1,g2⟩:=hdg k o' h
    by_cases hki:k=i
    ·subst hki; exact⟨_,ly',λh=>by simp at h⟩
    ·exact⟨dop3,(lat k hki).trans g1,λ_=>g2⟩
   ·by_cases hj1:j1=i
    ·subst hj1;rw [ly'] at h2; cases h2;rw [lat i1 (by omega)] at h3
     rcases sp h1 ly h3 h4 with h | ⟨h,_⟩
     ·exact .inl h
     ·exact .inr ⟨(iz (a:=⟨dop.dst,none,.mv (.c d')⟩) (b:=dop) rfl hal3.symm).trans h,.inr (.inr (.inl rfl))⟩
    ·rw [lat j1 hj1] at h2
     by_cases hi1:i1=i
     ·subst hi1;rw [ly'] at h3; cases h3
      rcases sp h1 h2 ly h4 with h | ⟨h,_⟩
      ·exact .inl h
      ·exact .inr ⟨(XW (a:=⟨dop.dst,none,.mv (.c d')⟩) (b:=dop) rfl hal3.symm).trans h,.inr (.inl rfl)⟩
     ·rw [lat i1 hi1] at h3
      rcases sp h1 h2 h3 h4 with h | ⟨h,h5 | h5 | h5 | h5⟩
      ·exact .inl h
      ·exact .inr ⟨h,.inl ⟨h5.1,λ⟨q1,q2⟩=>by simp at q1 q2; omega⟩⟩
      ·exact .inr ⟨h,.inr (.inl h5)⟩
      ·exact .inr ⟨h,.inr (.inr (.inl h5))⟩
      ·simp at h5; omega
   ·obtain rfl:m=j:=by simpa using hmm
    rw [wB ((lat m (by omega)).trans lx)]; exact R.PI
   ·have hkj:k≠j:=by simpa using him
    rcases Ai k j with h | h
    ·rw [stA (k+1) (by omega),stA k (by omega)]
    ·rw [stB (k+1) (by omega) (by omega),stB k (by omega) (by omega)]
   ·have hkj:k≠j:=by simpa using him
    have hki:k≠i:=λh=>by subst h; rw [ly'] at hdq; cases hdq; cases hns
    have z1:l'.take k=hd'.take k:=by rw [lhd',γ (by omega)]
    have z2:tr'.take k=th'.take k:=by rw [tth',γ (by omega)]
    have z3:tD tr' k=tD th' k:=by unfold tD; rw [tth',δ (by omega)]
    have z4:hd_[k]?=some dop2:=by rw [<- hat k hki,<- hdq,lhd',δ (by omega)]
    rw [z1,z2,z3]
    rcases Ai j p with h | h
    ·rw [stB p h hps]; exact jD (dq' dz d') dok' (by omega) qB ((qat dz d' k hkj hki).trans z4)
    ·rw [stA p h]; exact jD (dq' dz d') dok' (by omega) qA ((qat dz d' k hkj hki).trans z4)
   ·obtain rfl:k=i:=by simpa using hk
    rw [hT',if_pos rfl]
   ·by_cases h:i=k
    ·subst h;rw [hol] at hk;simp at hk; subst hk;exact getD_set_true (hall e he hb)
    ·rw [hT',if_neg h] at hT;exact getD_set_true (I.closed k ok hk hT e he hb)
   ·have hnd:(l'.filterMap (·.dst)).Nodup:=by
     have:l'.filterMap (·.dst)= l.filterMap (·.dst):=by rw [hls,hl']; simp [List.filterMap_append,Ad]
     rw [this]; exact R.nodup
    by_cases hdt:dop.dst=some t
    ·rw [hdt,Fr.jA,if_pos rfl,lT (i:=i) (by rw [hT' i]; simp) (by rw [ldst,vG,ly]; exact hdt) l'.length (by omega) λk h1 h2 h3=>?_]
     ·exact tdy.symm
     ·have:=eH hnd h3 (by rw [ldst,vG,ly]; exact hdt:vG l' i=some t);omega
    ·have e1:(g.put dop.dst d').get t=g.get t:=by
      cases hdd:dop.dst with
      | none=>rfl
      | some u=>rw [Fr.jA,if_neg (λe=>by subst e; exact hdt hdd)]
     rw [e1,hg t,hll];refine(Zd ldst l.length λk hk hkt=>?_).symm;have hki:k≠i:=λe=>by subst e; rw [vG,ly] at hkt; exact hdt hkt
     refine⟨by rw [hT',if_neg (λe=>hki e.symm)],λhT=>?_⟩;have hkj:k≠j:=λe=>by subst e; rw [hlj] at hT; cases hT
     have hfr:t ∈ free:=by
      rw [R.fr];unfold Rr;refine Af.2 ⟨k,List.mem_range.2 hk,?_⟩
      have o1:ordered (wX ops.toList []) pre.length k=false:=by
       cases h:ordered (wX ops.toList []) pre.length k with
       | false=>rfl
       | true=>rw [<- hx0] at h; rw [late j hlj k h] at hT; cases hT
      have o2:ordered (wX ops.toList []) (pre.length+1+mid1.length) k=false:=by
       cases h:ordered (wX ops.toList []) (pre.length+1+mid1.length) k with
       | false=>rfl
       | true=>rw [<- hy0] at h; rw [late i hTi k h] at hT; cases hT
      rw [if_neg (by simp [o1,o2]; omega)];exact hkt
     have:=hfree t hfr;rw [Zb hlen R.nodup hk hkt,Zb hlen' hnd (by omega:k<l'.length) ((ldst k).trans hkt)] at this;exact this.symm
   ·have:SV (quiet l' (λi=>decide (i=j)) s) tr' σ'' (λk=>(listed.setIfInBounds i true).getD k false) l'.length=σ'':=by
     rw [fK (i:=0) (hsil l' tr' f σ'' _ j1 (λk hk him=>by
      have hkj:k≠j:=by simpa using him
      rcases Ai k j with h | h
      ·rw [stA (k+1) (by omega),stA k (by omega)]
      ·rw [stB (k+1) (by omega) (by omega),stB k (by omega) (by omega)])) l'.length (Ah _) λk hk hq=>⟨λhT=>?_,λh=>by omega⟩]
     ·simp [SAt]
     ·exfalso;obtain⟨h1,h2⟩:=wA.1 hq;have hki:k≠i:=λh=>by subst h; rw [wB ly'] at h1; cases h1
      rw [hT',if_neg (λh=>hki h.symm)] at hT
      rcases h2 with h2 | h2
      ·obtain rfl:k=j:=by simpa using h2
       rw [hlj] at hT; cases hT
      ·rw [post0 k (by omega) h2 (by unfold wK at h1 ⊢; rw [<- lat k hki]; exact h1)] at hT; cases hT
    rw [this];exact G3)
  unfold wpOpIn;simp only [ho];exact hstep
 ·exact Nat.le_trans (List.length_filter_le _ _) (by simp)
 ·rw [tq (i:=0) l.length λj _ _=>⟨(λh=>by rw [hf0] at h; cases h),λh=>by omega⟩];simp [LV]
 ·have:SV (quiet l (lK C.own l) s) tr σ (λi=>(Array.replicate ops.size false).getD i false) l.length=σ:=by refine(Ya (k:=0) _ λj _ _ (hT:(Array.replicate ops.size false).getD j false=true)=>by rw [hf0] at hT; cases hT).trans (if_neg λh=>?_);have h2:(Array.replicate ops.size false).getD 0 false=true:=h.2.1;rw [hf0] at h2; cases h2
  rw [this];exact G'
def iC : List Nat->Fr->Fr->Prop
 | [],_,_=>True
 | t :: r,f,g=>f.get t=g.get t/\iC r f g
theorem xw : ∀ {l:List Nat} {f g:Fr},iC l f g=∀ t ∈ l,f.get t=g.get t
 | [],f,g=>by simp [iC]
 | t :: r,f,g=>by simp [iC,xw (l:=r)]
theorem nB (f g:Fr):iC [] f g=True:=rfl
theorem pL (t:Nat) (r:List Nat) (f g:Fr):iC (t :: r) f g=(f.get t=g.get t/\iC r f g):=rfl
def XI (C:Cx) (σ:St) (pre:List DOp) (o1:Option Nat) (dx:D) (mid1:List DOp) (o2:Option Nat) (dy:D) (mid2:List DOp) (g f:Fr):Prop:= nT C σ pre (nT C σ (⟨o1,none,.mv (.c dx)⟩ :: mid1) (nT C σ (⟨o2,none,.mv (.c dy)⟩ :: mid2) (eqF g))) f
def rz6 (C:Cx) (free:List Nat) (K:Fr->St->Prop) (f4:Fr) (σ4:St) (g4:Fr) (σ5:St):Prop:=iC free f4 g4/\xN C g4 σ5 f4 σ4/\K f4 σ4
def rz5 (C:Cx) (post:List DOp) (free:List Nat) (K:Fr->St->Prop) (g3:Fr) (σB:St) (f4:Fr) (σ4:St):Prop:=ik C post (rz6 C free K f4 σ4) g3 σB
def rz4 (C:Cx) (pre:List DOp) (o1:Option Nat) (dz:D) (mid1:List DOp) (o2:Option Nat) (dA:D) (mid2 post:List DOp) (free:List Nat) (K:Fr->St->Prop) (f f3:Fr) (σ2 σA σB:St) (g3:Fr):Prop:= XI C σA pre o1 dz mid1 o2 dA mid2 g3 f/\XI C σB pre o1 dz mid1 o2 dA mid2 g3 f/\ik C post (rz5 C post free K g3 σB) f3 σ2
def rz3 (C:Cx) (pre:List DOp) (o1:Option Nat) (mid1:List DOp) (o2:Option Nat) (dA:D) (mid2 post:List DOp) (free:List Nat) (K:Fr->St->Prop) (f f3:Fr) (σ2 σA:St) (g1:Fr) (dz:D) (σB:St):Prop:= nT C σB mid1 (nT C σB (⟨o2,none,.mv (.c dA)⟩ :: mid2) (rz4 C pre o1 dz mid1 o2 dA mid2 post free K f f3 σ2 σA σB)) (g1.put o1 dz)
def rz2 (C:Cx) (pre:List DOp) (o1:Option Nat) (k1:DK) (mid1:List DOp) (o2:Option Nat) (mid2 post:List DOp) (free:List Nat) (K:Fr->St->Prop) (f f3:Fr) (σ2:St) (dA:D) (σA:St):Prop:= nT C σA pre (lX C k1 (rz3 C pre o1 mid1 o2 dA mid2 post free K f f3 σ2 σA) σA) f
def rz1 (C:Cx) (pre:List DOp) (o1:Option Nat) (k1:DK) (dx:D) (mid1:List DOp) (o2:Option Nat) (k2:DK) (dy:D) (mid2 post:List DOp) (free:List Nat) (K:Fr->St->Prop) (f:Fr) (σ σ1 σ2:St) (f3:Fr):Prop:= XI C σ pre o1 dx mid1 o2 dy mid2 f3 f/\XI C σ1 pre o1 dx mid1 o2 dy mid2 f3 f/\XI C σ2 pre o1 dx mid1 o2 dy mid2 f3 f/\opX C σ (evO f) k2 (rz2 C pre o1 k1 mid1 o2 mid2 post free K f f3 σ2)
def Pk (C:Cx) (pre:List DOp) (o1:Option Nat) (k1:DK) (dx:D) (mid1:List DOp) (o2:Option Nat) (k2:DK) (mid2 post:List DOp) (free:List Nat) (K:Fr->St->Prop) (f:Fr) (σ σ1:St) (f2:Fr) (dy:D) (σ2:St):Prop:= nT C σ2 mid2 (rz1 C pre o1 k1 dx mid1 o2 k2 dy mid2 post free K f σ σ1 σ2) (f2.put o2 dy)
def Pj (C:Cx) (pre:List DOp) (o1:Option Nat) (k1:DK) (mid1:List DOp) (o2:Option Nat) (k2:DK) (mid2 post:List DOp) (free:List Nat) (K:Fr->St->Prop) (f:Fr) (σ:St) (f1:Fr) (dx:D) (σ1:St):Prop:= nT C σ1 mid1 (lX C k2 (Pk C pre o1 k1 dx mid1 o2 k2 mid2 post free K f σ σ1) σ1) (f1.put o1 dx)
def Yu (C:Cx) (pre:List DOp) (o1:Option Nat) (k1:DK) (mid1:List DOp) (o2:Option Nat) (k2:DK) (mid2 post:List DOp) (free:List Nat) (K:Fr->St->Prop) (f:Fr) (σ:St):Prop:= nT C σ pre (lX C k1 (Pj C pre o1 k1 mid1 o2 k2 mid2 post free K f σ) σ) f
theorem uJ {C:Cx} {σ:St} {l:List DOp} {f:Fr} {K K':Fr->Prop} (h:∀ g,K g=K' g):nT C σ l K f=uO C σ l f K':=by rw [rA,tU,funext h]
theorem uf {C:Cx} {σ:St} {ev:Opd->D} {k:DK} {K K':D->St->Prop} (h:∀ d σ',K d σ'=K' d σ'):opX C σ ev k K=opV C σ ev k K':=by rw [ue,show K=K' from funext λd=>funext λσ'=>h d σ']
theorem mg {C:Cx} {l:List DOp} {f:Fr} {σ:St} {K K':Fr->St->Prop} (h:∀ g s,K g s=K' g s):ik C l K f σ=qE C l f σ K':=by rw [oN,lY,show K=K' from funext λd=>funext λσ'=>h d σ']
theorem rQ {C:Cx} {σ:St} {K:Fr->Prop} {l2:List DOp}:∀ {l1:List DOp} {f:Fr},uO C σ (l1++l2) f K=uO C σ l1 f λg=>uO C σ l2 g K
 | [],f=>rfl
 | o :: r,f=>by have ih:(λg=>uO C σ (r++l2) g K)= λg=>uO C σ r g λg=>uO C σ l2 g K:=funext λg=>rQ (l1:=r);show uO C σ (o :: (r++l2)) f K=_;simp only [uO];have:∀ g,uO C σ (r++l2) g K=uO C σ r g λg=>uO C σ l2 g K:=λg=>congrFun ih g;simp only [this]
theorem fH {C:Cx} {σ:St} {pre:List DOp} {o1:Option Nat} {dx:D} {mid1:List DOp} {o2:Option Nat} {dy:D} {mid2:List DOp} {g f:Fr}:XI C σ pre o1 dx mid1 o2 dy mid2 g f=uO C σ (qsA pre o1 dx mid1 o2 dy mid2) f λx=>x=g:=by unfold XI qsA;rw [rQ];refine uJ λg1=>?_;rw [show (⟨o1,none,DK.mv (.c dx)⟩:DOp) :: (mid1++⟨o2,none,DK.mv (.c dy)⟩ :: mid2)= (⟨o1,none,DK.mv (.c dx)⟩ :: mid1)++ ⟨o2,none,DK.mv (.c dy)⟩ :: mid2 from rfl,rQ];exact uJ λg2=>uJ λg3=>rfl
theorem UX {C:Cx} {pre:List DOp} {o1:Option Nat} {g1:Option (Nat × Bool)} {k1:DK} {mid1:List DOp} {o2:Option Nat} {g2:Option (Nat × Bool)} {k2:DK} {mid2 post:List DOp} {free:List Nat} {K:Fr->St->Prop} {f:Fr} {σ:St} :
  Yu C pre o1 k1 mid1 o2 k2 mid2 post free K f σ=VX C pre ⟨o1,g1,k1⟩ mid1 ⟨o2,g2,k2⟩ mid2 post free f σ K:=by
 unfold Yu VX;refine uJ λf1=>uf λdx σ1=>?_;unfold Pj;refine uJ λf2=>uf λdy σ2=>?_;unfold Pk;refine uJ λf3=>?_;unfold rz1;refine congr (congrArg And fH) (congr (congrArg And fH) (congr (congrArg And fH) (uf λdA σA=>?_)));unfold rz2;refine uJ λh1=>uf λdz σB=>?_;unfold rz3;rw [rQ];refine uJ λh2=>uJ λg3=>?_;unfold rz4;refine congr (congrArg And fH) (congr (congrArg And fH) (mg λf4 σ4=>?_));unfold rz5;refine mg λg4 σ5=>?_;unfold rz6;rw [xw]
theorem tl {C:Cx} (hm:C.P.follows .mixedOrders=true) {pre:List DOp} {o1:Option Nat} {g1:Option (Nat × Bool)} {k1:DK} {mid1:List DOp} {o2:Option Nat} {g2:Option (Nat × Bool)} {k2:DK} {mid2 post:List DOp} {free:List Nat} {f:Fr} {σ:St} {Q:Exit->Fr->St->Prop}
  (h:Yu C pre o1 k1 mid1 o2 k2 mid2 post free (jH Q) f σ):wpS C (.ot pre ⟨o1,g1,k1⟩ mid1 ⟨o2,g2,k2⟩ mid2 post free) f σ Q:=
 VH hm (UX ▸ h)
theorem gm {C:Cx} {pre:List DOp} {m1:DOp} {mid1:List DOp} {m2:DOp} {mid2 post:List DOp} {free:List Nat} {f:Fr} {σ:St} {Q:Exit->Fr->St->Prop}:wpZ C (.ot pre m1 mid1 m2 mid2 post free) Q f σ=wpS C (.ot pre m1 mid1 m2 mid2 post free) f σ Q:=by rw [sX]; rfl
def fV : List Bool->List DOp->Fr->List DOp
 | true :: fl,o :: r,f1=>⟨o.dst,none,.mv (.c (match o.dst with | some t=>f1.get t | none=>.top))⟩ :: fV fl r f1
 | false :: fl,o :: r,f1=>o :: fV fl r f1
 | [],l,_=>l
 | _,[],_=>[]
theorem eN : ∀ {fl:List Bool} {l:List DOp} {f1:Fr},(fV fl l f1).map (·.dst)= l.map (·.dst)
 | true :: fl,o :: r,f1=>by simp only [fV,χ,eN (l:=r)]
 | false :: fl,o :: r,f1=>by simp only [fV,χ,eN (l:=r)]
 | [],l,f1=>by cases l <;> rfl
 | true :: fl,[],f1=>rfl
 | false :: fl,[],f1=>rfl
theorem za : ∀ {fl:List Bool} {l:List DOp} {f1:Fr} {i:Nat},fl.getD i false=false->(fV fl l f1)[i]?=l[i]?
 | true :: fl,o :: r,f1,0,h=>by simp at h
 | false :: fl,o :: r,f1,0,h=>rfl
 | true :: fl,o :: r,f1,i+1,h=>by simp only [fV,η]; exact za (by simpa using h)
 | false :: fl,o :: r,f1,i+1,h=>by simp only [fV,η]; exact za (by simpa using h)
 | [],l,f1,i,h=>by cases l <;> rfl
 | true :: fl,[],f1,i,h=>rfl
 | false :: fl,[],f1,i,h=>rfl
def Va (C:Cx) (pre:List DOp) (m:DOp) (mid:List DOp) (un:Bool) (post:List DOp) (fl:List Bool) (f:Fr) (σ:St) (K:Fr->St->Prop):Prop:= uO C σ pre f λf1=>opV C σ (evO f1) m.k λd σ1=>uO C σ1 (fV fl pre f1) f (λg=>g=f1)/\ uO C σ1 mid (f1.put m.dst d) λf2=>(if un=true then uO C σ mid (f1.put m.dst d) (λg=>g=f2) else True)/\ qE C post f2 σ1 K
theorem Tt {P:Program} {N:Nat} {own:List Nat} {code:Code} {pre:List DOp} {m:DOp} {mid:List DOp} {un:Bool} {post:List DOp} {fl:List Bool} (h:mkC P N own code=some (.im pre m mid un post fl)) :
  ∃ id ops l,code = .region id ops true/\sW (xg P N own ops) ops.toList=some l/\own.contains 77777=false/\tu ops.toList l (tI own l) (lK own l)= true/\post=l.drop (tI own l)/\ MQ own ops.toList l (tI own l) pre m mid un fl:=by
 cases code with
 | region id ops draw=>
  simp only [mkC] at h
  split at h
  ·rename_i d hd;cases h
   rcases nD hd with ⟨_,h2 | h2 | h2⟩ | ⟨_,h2,_⟩
   ·obtain⟨_,_,_,_,_,_,_,_,_,_,_,_,_,_,_,e⟩:=uB h2; cases e
   ·obtain⟨_,_,_,_,_,_,_,_,_,_,_,_,_,_,e⟩:=oF h2; cases e
   ·obtain⟨_,_,_,_,_,_,_,_,_,_,_,e⟩:=oE h2; cases e
   ·obtain⟨_,_,_,_,_,_,_,_,_,_,_,_,_,_,_,e⟩:=uB h2; cases e
  ·simp only [Aq,Ao] at h;obtain⟨l,hl,h⟩:=h
   split at h
   ·rename_i hdr
    split at h
    ·rename_i hok
     split at h
     ·rename_i d hv;cases h;obtain⟨_,_,_,_,_,_,e,hp,hR⟩:=nF hv;cases e;subst hdr;exact⟨id,ops,l,rfl,hl,hok.1,hok.2,hp,hR⟩
     ·rcases pN h with ⟨e,_⟩ | ⟨_,_,_,_,_,e,_⟩ | ⟨_,_,_,_,_,_,_,_,_,_,_,e,_⟩ <;> cases e
    ·split at h
     ·obtain⟨_,_,_,_,_,_,_,e,_⟩:=nE h;cases e
     ·cases h
   ·simp at h
 | rangeFunc g0 ps0 a c=> simp [mkC,Ao] at h
 | seq a b=> simp only [mkC,zO] at h;obtain⟨dx,hx,dy,hy,h⟩:=h;rcases zB dx dy with e | ⟨_,_,_,_,_,_,_,_,_,_,_,_,e,_⟩ <;> rw [e] at h <;> cases h
 | _=>simp [mkC,Ao] at h
theorem VI {C:Cx} (hm:C.P.follows .mixedOrders=true) {pre:List DOp} {o:DOp} {mid:List DOp} {un:Bool} {post:List DOp} {fl:List Bool} {f:Fr} {σ:St} {Q:Exit->Fr->St->Prop}
  (h:Va C pre o mid un post fl f σ (Q .normal)):wpS C (.im pre o mid un post fl) f σ Q:=by
 intro code hc E a w G;obtain⟨id,ops,l,rfl,hd,hq,hok,hpost,R⟩:=Tt hc;obtain⟨⟨heq,d1,d2,n1,n2,n3,hloud⟩,hw,hfl⟩:=R;have hg:=tQ n2
 have hsl:tI C.own l<=l.length:=by
  have:∀ ks:List DOp,tI C.own ks<=ks.length:=by
   intro ks
   induction ks with
   | nil=>simp [tI]
   | cons k ks ih=>simp only [tI]; split <;> simp <;> omega
  exact this l
 have hl:l=pre++o :: (mid++post):=by
  conv=>lhs; rw [<- Ab (tI C.own l) l,heq,<- hpost]
  simp
 have hs:tI C.own l=pre.length+1+mid.length:=by have:=congrArg List.length heq;rw [ξ,Am hsl] at this;simp at this; omega
 generalize tI C.own l=s at *;unfold Va at h;obtain⟨t1,h1,h2,h3,h4⟩:=yP _ _ h;obtain⟨d,σ1,g1,p1,p2⟩:=oU hq h2;obtain⟨t3,r1,r2,r3,r4⟩:=yP _ _ p2;obtain⟨ru,r2⟩:=r2;obtain⟨t2,s1,s2,s3⟩:=tT hq _ _ _ r2;have e0:SAt t1 σ=σ:=zP h4;have e3:SAt t3 σ1=σ1:=zP r4;have c2:Trace C (mid++post) ((FAt pre t1 f).put o.dst d) σ1 (t3++t2)/\ _/\_:=Trace.append r1 r3 (by rw [e3]; exact s1);have c1:Trace C (o :: (mid++post)) (FAt pre t1 f) (SAt t1 σ) ((d,σ1) :: (t3++t2)):=.cons (by simp only [yK,hg]; rw [e0]; exact g1) c2.1;obtain⟨k1,k2,k3⟩:=Trace.append h1 h3 c1;rw [<- hl] at k1 k2
 have hlen:(t1++(d,σ1) :: (t3++t2)).length=l.length:=by rw [hl]; simp [h3,r3,s3]
 have lpre:∀ i,i<pre.length->l[i]?=pre[i]?:=λi hi=>by rw [hl,δ hi]
 have lo:l[pre.length]?=some o:=by rw [hl,ε (by omega),Nat.sub_self]; rfl
 have lmid:∀ k,k<mid.length->l[pre.length+1+k]?=mid[k]?:=λk hk=>by rw [hl,ε (by omega),show pre.length+1+k-pre.length=k+1 by omega,η,δ hk]
 have mpre:∀ i,i<pre.length->lK C.own l i=false:=λi hi=>by rw [vH ((lpre i hi).trans (ζ hi))]; exact n1 _ (ο _)
 have mo:lK C.own l pre.length=true:=by rw [vH lo]; exact n2
 have mmid:∀ k,k<mid.length->lK C.own l (pre.length+1+k)= false:=λk hk=>by rw [vH ((lmid k hk).trans (ζ hk))]; exact n3 _ (ο _)
 have st0:∀ p,p<=pre.length->SAt ((t1++(d,σ1) :: (t3++t2)).take p) σ=σ:=λp hp=>by rw [γ (by omega)];exact zP λx hx=>h4 x (μ hx)
 have st1:∀ k,k<=mid.length->SAt ((t1++(d,σ1) :: (t3++t2)).take (pre.length+1+k)) σ=σ1:=λk hk=>by rw [<- h3,show t1.length+1+k=t1.length+(k+1) by omega,θ,ν,γ (by omega),qY];exact zP λx hx=>r4 x (μ hx)
 refine mX (mu:=lK C.own l) (E:=E) (Q:=LQ C E Q) hm hd hok k1 hlen (by omega) (λm hms hmm=>?_) (λi hi him=>?_) (λi dop p his him hps hdop hns hor=>?_) (λa w G'=>⟨_,_,G',?_⟩) G
 ·rcases Aj m pre.length with h | h | h
  ·rw [mpre m h] at hmm; cases hmm
  ·subst h; rw [wB lo]; exact hloud
  ·obtain⟨k,rfl⟩:∃ k,m=pre.length+1+k:=⟨m-(pre.length+1),by omega⟩;rw [mmid k (by omega)] at hmm; cases hmm
 ·rcases Aj i pre.length with h | h | h
  ·rw [st0 (i+1) (by omega),st0 i (by omega)]
  ·subst h; rw [mo] at him; cases him
  ·obtain⟨k,rfl⟩:∃ k,i=pre.length+1+k:=⟨i-(pre.length+1),by omega⟩;rw [show pre.length+1+k+1=pre.length+1+(k+1) by omega,st1 (k+1) (by omega),st1 k (by omega)]
 ·have hor:=hor pre.length (by omega) mo
  have hp:(p<=pre.length/\SAt ((t1++(d,σ1) :: (t3++t2)).take p) σ=σ)\/(pre.length<p/\SAt ((t1++(d,σ1) :: (t3++t2)).take p) σ=σ1):=by
   rcases Ai pre.length p with h | h
   ·obtain⟨k,rfl⟩:∃ k,p=pre.length+1+k:=⟨p-(pre.length+1),by omega⟩;exact .inr ⟨h,st1 k (by omega)⟩
   ·exact .inl ⟨h,st0 p h⟩
  rcases Aj i pre.length with h | h | h
  ·have hdp:pre[i]?=some dop:=(lpre i h).symm.trans hdop;have x5:tD (t1++(d,σ1) :: (t3++t2)) i=tD t1 i:=by simp only [tD]; rw [δ (by omega)]
   have x6:FAt (l.take i) ((t1++(d,σ1) :: (t3++t2)).take i) f=FAt (pre.take i) (t1.take i) f:=by rw [hl,γ (by omega),γ (by omega)]
   rw [x5,x6]
   rcases hp with ⟨_,hp⟩ | ⟨hp0,hp⟩
   ·rw [hp]; exact wF h1 h3 rfl h4 hdp
   ·rw [hp]
    have hfi:fl.getD i false=false:=by
     cases hx:fl.getD i false with
     | false=>rfl
     | true=>have:=hfl i hx; rw [hor.1 hp0] at this; cases this
    exact jD eN d1 h3 p1 ((za hfi).trans hdp)
  ·subst h; rw [mo] at him; cases him
  ·obtain⟨k,rfl⟩:∃ k,i=pre.length+1+k:=⟨i-(pre.length+1),by omega⟩;have hk:k<mid.length:=by omega
   have hdp:mid[k]?=some dop:=(lmid k hk).symm.trans hdop
   have x5:tD (t1++(d,σ1) :: (t3++t2)) (pre.length+1+k)= tD t3 k:=by simp only [tD];rw [ε (by omega),h3,show pre.length+1+k-pre.length=k+1 by omega,η,δ (by omega)]
   have x6:FAt (l.take (pre.length+1+k)) ((t1++(d,σ1) :: (t3++t2)).take (pre.length+1+k)) f=FAt (mid.take k) (t3.take k) ((FAt pre t1 f).put o.dst d):=by
    have y1:l.take (pre.length+1+k)= pre++o :: mid.take k:=by rw [hl,show pre.length+1+k=pre.length+(k+1) by omega,θ,ν,γ (by omega)]
    have y2:(t1++(d,σ1) :: (t3++t2)).take (pre.length+1+k)= t1++(d,σ1) :: t3.take k:=by rw [<- h3,show t1.length+1+k=t1.length+(k+1) by omega,θ,ν,γ (by omega)]
    rw [y1,y2,pU _ _ _ h3]; rfl
   rw [x5,x6]
   rcases hp with ⟨hp0,hp⟩ | ⟨_,hp⟩
   ·rw [hp]
    cases un with
    | false=> exfalso;have h2:=uP (hw rfl) k dop hdp hns;rw [hor.2 hp0] at h2; cases h2
    | true=> simp only [if_true] at ru;obtain⟨t3',u1,u2,u3,u4⟩:=yP _ _ ru;exact wF u1 u3 (rT d2 u3 r3 u2) u4 hdp
   ·rw [hp]; exact wF r1 r3 rfl r4 hdp
 ·rw [k2,k3,e0];show Q .normal (FAt (mid++post) (t3++t2) ((FAt pre t1 f).put o.dst d)) (SAt (t3++t2) σ1);rw [c2.2.1,c2.2.2,e3];exact s2
def XC (C:Cx) (σ1:St) (f1:Fr):List Bool->List DOp->(Fr->Prop)->Fr->Prop
 | true :: fl,o :: r,K,f=>XC C σ1 f1 fl r K (f.put o.dst (match o.dst with | some t=>f1.get t | none=>.top))
 | false :: fl,o :: r,K,f=>nT C σ1 [o] (XC C σ1 f1 fl r K) f
 | [],l,K,f=>nT C σ1 l K f
 | _,[],K,f=>K f
theorem mi {C:Cx} {σ1:St} {f1:Fr}:∀ {fl:List Bool} {l:List DOp} {K:Fr->Prop} {f:Fr},XC C σ1 f1 fl l K f=uO C σ1 (fV fl l f1) f K
 | true :: fl,o :: r,K,f=>by show XC C σ1 f1 fl r K _=_;rw [mi]; rfl
 | false :: fl,o :: r,K,f=>by show nT C σ1 [o] (XC C σ1 f1 fl r K) f=uO C σ1 ([o]++fV fl r f1) f K;rw [rQ];exact uJ λg=>mi
 | [],l,K,f=>by cases l <;> exact uJ λg=>rfl
 | true :: fl,[],K,f=>rfl
 | false :: fl,[],K,f=>rfl
theorem se {C:Cx} {σ1:St} {f1:Fr} {fl:List Bool} {t:Nat} {g:Option (Nat × Bool)} {k:DK} {r:List DOp} {K:Fr->Prop} {f:Fr}:XC C σ1 f1 (true :: fl) (⟨some t,g,k⟩ :: r) K f=XC C σ1 f1 fl r K (f.put (some t) (f1.get t)):=rfl
theorem aN {C:Cx} {σ1:St} {f1:Fr} {fl:List Bool} {o:DOp} {r:List DOp} {K:Fr->Prop} {f:Fr}:XC C σ1 f1 (false :: fl) (o :: r) K f=nT C σ1 [o] (XC C σ1 f1 fl r K) f:=rfl
theorem dt {C:Cx} {σ1:St} {f1:Fr} {K:Fr->Prop} {f:Fr}:XC C σ1 f1 [] [] K f=K f:=by show nT C σ1 [] K f=K f;rw [du]
def rv1 (C:Cx) (pre:List DOp) (dst:Option Nat) (mid:List DOp) (un:Bool) (post:List DOp) (fl:List Bool) (K:Fr->St->Prop) (f:Fr) (σ:St) (f1:Fr) (d:D) (σ1:St):Prop:= XC C σ1 f1 fl pre (eqF f1) f/\nT C σ1 mid (unZ C un mid (f1.put dst d) σ (ik C post K) σ1) (f1.put dst d)
theorem ZZ {C:Cx} (hm:C.P.follows .mixedOrders=true) {pre:List DOp} {dst:Option Nat} {g1:Option (Nat × Bool)} {k1:DK} {mid:List DOp} {un:Bool} {post:List DOp} {fl:List Bool} {f:Fr} {σ:St} {Q:Exit->Fr->St->Prop}
  (h:nT C σ pre (lX C k1 (rv1 C pre dst mid un post fl (jH Q) f σ) σ) f):wpS C (.im pre ⟨dst,g1,k1⟩ mid un post fl) f σ Q:=by
 refine VI hm ?_
 have:nT C σ pre (lX C k1 (rv1 C pre dst mid un post fl (jH Q) f σ) σ) f=Va C pre ⟨dst,g1,k1⟩ mid un post fl f σ (jH Q):=by
  unfold Va;refine uJ λf1=>uf λd σ1=>?_;unfold rv1;refine congr (congrArg And mi) (uJ λf2=>?_);unfold unZ;refine congr (congrArg And ?_) (mg λ_ _=>rfl)
  split
  ·exact uJ λg=>rfl
  ·rfl
 exact this ▸ h
theorem VP {C:Cx} {pre:List DOp} {m:DOp} {mid:List DOp} {un:Bool} {post:List DOp} {fl:List Bool} {f:Fr} {σ:St} {Q:Exit->Fr->St->Prop}:wpZ C (.im pre m mid un post fl) Q f σ=wpS C (.im pre m mid un post fl) f σ Q:=by rw [sX]; rfl
end
end Go.Pd

/- Part KI. -/
set_option maxRecDepth 20000
set_option maxHeartbeats 1000000
namespace Go.Pd
open Go Go.Proofs
open BitVec renaming isValue -> ZA
open Rs Fm Ru Te Kb
structure MO (p : PrA) (F : Nat) (sts : List (List (BitVec 64))) (t : Nat) : Prop where
 fe:p.F=(F:Int)
 hF:F<=8
 hA:p.see.length<=4
 hR:sts.length<=64
 len:∀ st ∈ sts,t<st.length
 ht:t<=1000
theorem QJ {a b:List (BitVec 64)}:zX prog 74 [.sl 1 (us a),.sl 1 (us b)] (.bool (decide (a.map ui=b.map ui))):=by rw [yq,yq];exact bl _ _
theorem Tw {p:PrA} {F:Nat} {sts:List (List (BitVec 64))} {t:Nat} (ok:MO p F sts t):zX prog 130 [plD p sts,.int .i64 t] (Vb p.see sts t F):=by
 have hF:=ok.hF;have hA:=ok.hA;have hR:=ok.hR;have ht:=ok.ht;have hl:∀ i,i<sts.length->t<(stR sts i).length:=λi hi=>ok.len _ (xR hi);have hist:∀ a w,a<p.see.length->w<sts.length->zX prog 75 [plD p sts,.int .i64 a,.int .i64 w,.int .i64 t] (.sl 1 (us (mR p.see (stR sts w) a t))):=λa w ha hw=>eK (eB p ha hw (hl w hw) ht);have hkey:=λa v w (ha:a<p.see.length) (hv:v<sts.length) (hw:w<sts.length)=>Qa (see:=p.see) (t:=t) ha hv hw;have hfac:=λw (hw:w<sts.length)=>V3 (see:=p.see) (t:=t) hw;unfold Vb Vf;have hll:(yA sts.length 0).length=sts.length:=vU _ _;have hlg:∀ i,i<sts.length->(yA sts.length 0).getD i (0,0)= (i,0):=λi hi=>rX hi;generalize vK p.see sts t=rs at *;generalize yA sts.length 0=l at *;unfold plD plC at *;rw [ok.fe] at *;refine xY.xP mixed func130 Kw (by simp) λhf=>?_
 have hz:List.replicate F [D.int .u64 (ui 0#64)]=us ((List.range F).map λf=>qW rs l f 0):=by simp only [qW,us,List.map_map];refine List.ext_getElem (by simp) λi h1 h2=>?_;simp
 simp only [simprocAttr,-ZA,↓zU,↓zD,zV,zT,zW,zJ,↓gm]
 (refine tl mixed ?_; unfold Yu; simp only [simprocAttr,-ZA,↓zU,↓zD,zV,zT,zW,↓Pj,↓Pk,↓rz1,↓rz2,↓rz3,↓rz4,↓rz5,↓rz6,↓XI,pL,nB,zJ])
 refine⟨by omega,by omega,by omega,by omega,?_,?_⟩
 ·rw [hz]
  (refine xN.ren [(1,2),(2,1)] [2,1,0] (by simp) (by simp) (by decide) ?_; simp only [yT,zQ,simprocAttr,-ZA,exists_eq_left',ne_eq,zR,yU])
 refine xT (λw:Nat=>[(31,.int .i64 w),(30,.int .i64 sts.length),(29,.sl 1 (rr sts)),(5,.ref 2 3 0 0),(4,.ref 0 3 0 0),(1,.int .i64 t),(0,.ptr [.int .i64 F,.sl 1 (us p.init),.sl 1 (us p.see),.sl 1 (mvR p.yW),.sl 1 (cdR p.code),.sl 1 (rr sts)])])
  (λw=>⟨3,[(2,⟨3,[[.int .i64 sts.length,.osl 1 1 F,.xK]]⟩),(1,⟨1,us ((List.range F).map λf=>qW rs l f w)⟩),(0,⟨3,[[.int .i64 0,.xK,.xK]]⟩)]⟩)
  (λw=>w<=sts.length) (λw=>sts.length-w) 0 (Al _) ?_ ?_
 ·rw [<- hz]
  (refine xN.same ?_; simp [xQ,Fr.get])
 intro w hw;refine xO mixed ?_
 by_cases hwl:w<sts.length
 ·have hd:((w:Int)<(sts.length:Int)):=by omega
  have hg:=mM sts hwl
  have hv:∀ f,qW rs l f (w+1)= qW rs l f w ||| (if ((stR sts w).getD t 0).getLsbD f then 1#64 <<< w else 0#64):=λf=>by rw [<- hfac w hwl,<- hlg w hwl]; rfl
  have hlw:=hl w hwl;unfold stR at hv hlw;generalize sts.getD w []=st at hg hv hlw;have hg2:=vI st hlw;have hd0:((t:Int)<(st.length:Int)):=by omega
  generalize st.getD t 0=x at hg2 hv;simp only [simprocAttr,-ZA,↓zU,↓zD,zV,zT,zW,hd,zJ,hg]
  (repeat refine sd ?_)
  refine xT (λi:Nat=>[(39,.int .i64 i),(38,.int .i64 F),(31,.int .i64 w),(30,.int .i64 sts.length),(29,.sl 1 (rr sts)),(7,.sl 1 (us st)),(6,.int .i64 w),(5,.ref 2 3 0 0),(4,.ref 0 3 0 0),(1,.int .i64 t),(0,.ptr [.int .i64 F,.sl 1 (us p.init),.sl 1 (us p.see),.sl 1 (mvR p.yW),.sl 1 (cdR p.code),.sl 1 (rr sts)])])
   (λi=>⟨3,[(2,⟨3,[[.int .i64 sts.length,.osl 1 1 F,.xK]]⟩),(1,⟨1,us (bW F (λf=>qW rs l f (w+1)) (λf=>qW rs l f w) i)⟩),(0,⟨3,[[.int .i64 0,.xK,.xK]]⟩)]⟩)
   (λi=>i<=F) (λi=>F-i) 0 (Al _) ?_ ?_
  ·rw [eE]
   (refine xN.same ?_; simp [xQ,Fr.get])
  intro i hi;refine xO mixed ?_
  by_cases hil:i<F
  ·have hd2:((i:Int)<(F:Int)):=by omega
   have hmg:=vI (bW F (λf=>qW rs l f (w+1)) (λf=>qW rs l f w) i) (show i<_ by rw [kP]; exact hil);rw [wk _ _ hil] at hmg;have hms:=wm F (λf=>qW rs l f (w+1)) (λf=>qW rs l f w) i;simp only [hv i] at hms;have hml:=kP F (λf=>qW rs l f (w+1)) (λf=>qW rs l f w) i;generalize bW F (λf=>qW rs l f (w+1)) (λf=>qW rs l f w) i=M at hmg hms hml;simp only [simprocAttr,-ZA,↓zU,↓zD,zV,zT,zW,hd2,xI,hml,hmg,hd0,hg2,Zk,mQ,hms]
   (repeat refine sd ?_)
   refine⟨i+1,by omega,?_,by omega⟩
   (refine xN.same ?_; simp only [xQ,Fr.get,simprocAttr,-ZA,zS])
   exact wrap_i64 (by omega)
  ·have hd2:¬ ((i:Int)<(F:Int)):=by omega
   rw [wj _ _ _ (by omega:F<=i)];simp only [simprocAttr,-ZA,↓zU,↓zD,zV,zT,zW,hd2]
   (repeat refine sd ?_)
   refine⟨w+1,by omega,?_,by omega⟩
   (refine xN.ren [] [2,1,0] (by simp) (by simp) (by decide) ?_; simp only [yT,zQ,simprocAttr,-ZA,exists_eq_left',ne_eq,zR,yU])
   exact wrap_i64 (by omega)
 have hd:¬ ((w:Int)<(sts.length:Int)):=by omega
 obtain rfl:w=sts.length:=by omega
 rw [show ((List.range F).map λf=>qW rs l f sts.length)= lI rs l F by rw [<- hll]; rfl];simp only [simprocAttr,-ZA,↓zU,↓zD,zV,zT,zW,hd]
 refine xT (λa:Nat=>[(66,.int .i64 a),(65,.int .i64 p.see.length),(5,.ref 2 3 0 0),(4,.ref 0 3 0 0),(1,.int .i64 t),(0,.ptr [.int .i64 F,.sl 1 (us p.init),.sl 1 (us p.see),.sl 1 (mvR p.yW),.sl 1 (cdR p.code),.sl 1 (rr sts)])])
  (λa=>⟨4,xA 3 1 (rr (qH rs l a))++ [(2,⟨3,[[.int .i64 sts.length,.osl 1 1 F,xD 3 1 (rr (qH rs l a))]]⟩),(1,⟨1,us (lI rs l F)⟩),(0,⟨3,[[.int .i64 0,.xK,.xK]]⟩)]⟩)
  (λa=>a<=p.see.length) (λa=>p.see.length-a) 0 (Al _) ?_ ?_
 ·(refine xN.ren [] [2,1,0] (by simp) (by simp) (by decide) ?_; simp only [yT,zQ,simprocAttr,-ZA,exists_eq_left',ne_eq,zR,qH,List.range_zero,List.map_nil,zM,zN,τ,yU,show rr [] = [] from rfl])
 intro a ha;refine xO mixed ?_;by_cases hal:a<p.see.length
 case neg=>
  have hd2:¬ ((a:Int)<(p.see.length:Int)):=by omega
  obtain rfl:a=p.see.length:=by omega
  have hvl:(us (lI rs l F)).length=F:=by simp [us,lI]
  rw [hll];simp only [simprocAttr,-ZA,↓zU,↓zD,zV,zT,zW,hd2]
  (refine jM.ren [] [] (by simp) (by simp) (by decide) ?_; simp only [yT,zQ,simprocAttr,-ZA,exists_eq_left',ne_eq,zR,yU,wE])
  exact⟨λ_ h=>h.elim,by omega,(List.take_of_length_le (by omega)).symm,sF _⟩
 have hd2:((a:Int)<(p.see.length:Int)):=by omega
 have hrel:qH rs l (a+1)= qH rs l a ++ [rC rs l a]:=by unfold qH; rw [List.range_succ,List.map_append]; rfl
 generalize hRL:qH rs l a=RL at hrel;have hrl:(rC rs l a).length=sts.length:=by simp [rC,hll]
 have hrlg:∀ w,w<sts.length->(rC rs l a).getD w 0#64=Ru.fY rs l a (yJ rs a (w,0)) sts.length:=λw hw=>by rw [<- hll] at hw ⊢;have:=hlg w (by omega);simp only [List.getD,hw,ζ,Ap] at this;simp [rC,List.getD,hw,this]
 simp only [simprocAttr,-ZA,↓zU,↓zD,zV,zT,zW,zJ,hd2]
 refine zZ (λw:Nat=>[(74,.int .i64 w),(73,.int .i64 sts.length),(66,.int .i64 a),(65,.int .i64 p.see.length),(10,xD 4 1 (us ((rC rs l a).take w))),(9,.int .i64 a),(5,.ref 2 3 0 0),(4,.ref 0 3 0 0),(1,.int .i64 t),(0,.ptr [.int .i64 F,.sl 1 (us p.init),.sl 1 (us p.see),.sl 1 (mvR p.yW),.sl 1 (cdR p.code),.sl 1 (rr sts)])])
  (λw=>⟨5,xA 4 1 (us ((rC rs l a).take w))++ (xA 3 1 (rr RL)++ [(2,⟨3,[[.int .i64 sts.length,.osl 1 1 F,xD 3 1 (rr RL)]]⟩),(1,⟨1,us (lI rs l F)⟩),(0,⟨3,[[.int .i64 0,.xK,.xK]]⟩)])⟩)
  (λw=>w<=sts.length) (λw=>sts.length-w) 0 (Al _) ?_ ?_
 ·(refine xN.ren [] [3,2,1,0] (by simp) (by simp) (by decide) ?_; simp only [yT,zQ,simprocAttr,-ZA,exists_eq_left',ne_eq,zR,List.take_zero,uj,zM,zN,τ,yU,wE])
 intro w hw;refine xO mixed ?_;by_cases hwl:w<sts.length
 case neg=>
  have hd3:¬ ((w:Int)<(sts.length:Int)):=by omega
  rw [show (rC rs l a).take w=rC rs l a by rw [show w=(rC rs l a).length by omega,π]];simp only [simprocAttr,-ZA,↓zU,↓zD,zV,zT,zW,hd3]
  refine .go [(66,.int .i64 a),(65,.int .i64 p.see.length),(10,.sl 1 (us (rC rs l a))),(9,.int .i64 a),(5,.ref 2 3 0 0),(4,.ref 0 3 0 0),(1,.int .i64 t),(0,.ptr [.int .i64 F,.sl 1 (us p.init),.sl 1 (us p.see),.sl 1 (mvR p.yW),.sl 1 (cdR p.code),.sl 1 (rr sts)])]
   ⟨4,xA 3 1 (rr RL)++ [(2,⟨3,[[.int .i64 sts.length,.osl 1 1 F,xD 3 1 (rr RL)]]⟩),(1,⟨1,us (lI rs l F)⟩),(0,⟨3,[[.int .i64 0,.xK,.xK]]⟩)]⟩ ?_ ?_
  ·(refine xN.ren [] [3,2,1,0] (by simp) (by simp) (by decide) ?_; simp only [yT,zQ,simprocAttr,-ZA,exists_eq_left',ne_eq,zR,yU,wE])
  have hRLl:RL.length=a:=by rw [<- hRL]; simp [qH]
  simp only [simprocAttr,-ZA,↓zU,↓zD,zV,zT,zW,zJ,hRLl]
  (repeat refine sd ?_)
  refine⟨a+1,by omega,?_,by omega⟩;rw [hrel]
  (refine xN.ren [(3,4)] [3,2,1,0] (by simp) (by simp) (by decide) ?_; simp only [yT,zQ,simprocAttr,-ZA,exists_eq_left',ne_eq,zR,yU,wE])
  exact wrap_i64 (by omega)
 have hd3:((w:Int)<(sts.length:Int)):=by omega
 have hrg:(rC rs l a).take (w+1)= (rC rs l a).take w ++ [Ru.fY rs l a (yJ rs a (w,0)) sts.length]:=by rw [zK (d:=0#64) (by omega),hrlg w hwl]
 have htl:((rC rs l a).take w).length=w:=by rw [ξ]; omega
 generalize (rC rs l a).take w=rw' at hrg htl;simp only [simprocAttr,-ZA,↓zU,↓zD,zV,zT,zW,hd3,zJ]
 refine xT (λv:Nat=>[(82,.int .i64 v),(81,.int .i64 sts.length),(74,.int .i64 w),(73,.int .i64 sts.length),(66,.int .i64 a),(65,.int .i64 p.see.length),(12,.int .u64 (ui (Ru.fY rs l a (yJ rs a (w,0)) v))),(11,.int .i64 w),(10,xD 4 1 (us rw')),(9,.int .i64 a),(5,.ref 2 3 0 0),(4,.ref 0 3 0 0),(1,.int .i64 t),(0,.ptr [.int .i64 F,.sl 1 (us p.init),.sl 1 (us p.see),.sl 1 (mvR p.yW),.sl 1 (cdR p.code),.sl 1 (rr sts)])])
  (λ_=>⟨5,xA 4 1 (us rw')++ (xA 3 1 (rr RL)++ [(2,⟨3,[[.int .i64 sts.length,.osl 1 1 F,xD 3 1 (rr RL)]]⟩),(1,⟨1,us (lI rs l F)⟩),(0,⟨3,[[.int .i64 0,.xK,.xK]]⟩)])⟩)
  (λv=>v<=sts.length) (λv=>sts.length-v) 0 (Al _) ?_ ?_
 ·(refine xN.same ?_; simp only [xQ,Fr.get,simprocAttr,-ZA,zS,Ru.fY])
  all_goals rfl
 intro v hv;refine xO mixed ?_;by_cases hvl:v<sts.length
 case neg=>
  have hd4:¬ ((v:Int)<(sts.length:Int)):=by omega
  obtain rfl:v=sts.length:=by omega
  simp only [simprocAttr,-ZA,↓zU,↓zD,zV,zT,zW,hd4,xI,htl]
  (repeat refine sd ?_)
  refine⟨w+1,by omega,?_,by omega⟩;rw [hrg]
  (refine xN.ren [(4,5)] [4,3,2,1,0] (by simp) (by simp) (by decide) ?_; simp only [yT,zQ,simprocAttr,-ZA,exists_eq_left',ne_eq,zR,yU,wE])
  exact wrap_i64 (by omega)
 have hd4:((v:Int)<(sts.length:Int)):=by omega
 have hrk:Ru.fY rs l a (yJ rs a (w,0)) (v+1)= Ru.fY rs l a (yJ rs a (w,0)) v ||| (if yJ rs a (v,0)= yJ rs a (w,0) then 1#64 <<< v else 0#64):=by rw [<- hlg v hvl]; rfl
 have heq:=QJ (a:=mR p.see (stR sts w) a t) (b:=mR p.see (stR sts v) a t);rw [hkey a v w hal hvl hwl] at heq;have h1:=hist a w hal hwl;have h2:=hist a v hal hvl;generalize mR p.see (stR sts w) a t=x1 at heq h1;generalize mR p.see (stR sts v) a t=x2 at heq h2;simp only [simprocAttr,-ZA,↓zU,↓zD,zV,zT,zW,hd4];refine .go (cr h1) ?_;simp only [simprocAttr,-ZA,↓zU,↓zD,zV,zT,zW];refine .go (cr h2) ?_;simp only [simprocAttr,-ZA,↓zU,↓zD,zV,zT,zW];refine .go (cr heq) ?_
 by_cases c:yJ rs a (v,0)= yJ rs a (w,0)
 ·rw [if_pos c] at hrk;rw [decide_eq_true c];simp only [simprocAttr,-ZA,↓zU,↓zD,zV,zT,zW]
  (repeat refine sd ?_)
  refine⟨v+1,by omega,?_,by omega⟩
  (refine xN.same ?_; simp only [xQ,Fr.get,simprocAttr,-ZA,zS,hrk])
  exact wrap_i64 (by omega)
 ·rw [if_neg c,BitVec.or_zero] at hrk;rw [decide_eq_false c];simp only [simprocAttr,-ZA,↓zU,↓zD,zV,zT,zW];refine⟨v+1,by omega,?_,by omega⟩
  (refine xN.same ?_; simp only [xQ,Fr.get,simprocAttr,-ZA,zS,hrk])
  exact wrap_i64 (by omega)
def Rz (x y:BitVec 64):BitVec 64:=
 let x0:=x &&& 4294967295#64
 let x1:=x >>> 32
 let y0:=y &&& 4294967295#64
 let y1:=y >>> 32
 let w0:=x0*y0
 let t:=x1*y0+w0 >>> 32
 let w1:=(t &&& 4294967295#64)+ x0*y1
 let w2:=t >>> 32
 x1*y1+w2+w1 >>> 32
theorem Wm : ∀ n:Fin 65,Rz 1#64 (BitVec.ofNat 64 n.val)= 0#64:=by decide +kernel
theorem Mw : D.int .u64 4294967295=D.int .u64 (ui 4294967295#64):=rfl
theorem OC (x y:BitVec 64):zX prog 238 [.int .u64 (ui x),.int .u64 (ui y)] (.tup [.int .u64 (ui (Rz x y)),.int .u64 (ui (x*y))]):=by
 refine xY.xP mixed func238 M8 (by simp) λhf=>?_;simp only [simprocAttr,-ZA,↓zU,↓zD,zV,zT,zW,Mw]
 (repeat refine sd ?_)
 exact .same
theorem Sf {n:Nat} (hn:n<=64):zX prog 190 [.int .u64 1,.int .u64 (n:Int)] (.tup [.int .u64 0,.int .u64 (n:Int)]):=by have h:=OC 1#64 (BitVec.ofNat 64 n);have e1:Rz 1#64 (BitVec.ofNat 64 n)= 0#64:=Wm ⟨n,by omega⟩;have e2:1#64*BitVec.ofNat 64 n=BitVec.ofNat 64 n:=BitVec.one_mul _;rw [e1,e2,V5 (k:=n) (by omega)] at h;refine xY.xP mixed func190 Lh (by simp) λhf=>?_;simp only [Nb,Na] at *;simp only [simprocAttr,-ZA,↓zU,↓zD,zV,zT,zW];refine .go (cr h) ?_;simp only [simprocAttr,-ZA,↓zU,↓zD,zV,zT,zW];exact .same
theorem fm {els:List (List D)} {n c:Nat} (h:c<=els.length):rowsOf ⟨n,[(0,⟨1,els⟩)]⟩ 1 (.osl 0 1 c)= some (els.take c):=by show (if (1:Nat)= 1 then(if 1=1/\c<=els.length then some (els.take c) else none) else none)= _;rw [if_pos rfl,if_pos ⟨rfl,h⟩]
def qS (d z:D) (n c:Nat):List (List D):=List.replicate c [d]++List.replicate (n-c) [z]
theorem qp {d z:D} {n c:Nat} (h:c<=n):(qS d z n c).length=n:=by simp [qS]; omega
theorem iM {d z:D} {n c:Nat}:(qS d z n c).take c=List.replicate c [d]:=by unfold qS;rw [List.take_left' (by simp)]
theorem xv {d z:D} {n c:Nat} (h:c<n):(qS d z n c).take c++(((qS d z n c).take c).take (min (n-c) c)++ (qS d z n c).drop (c+min (n-c) c))= qS d z n (c+min (n-c) c):=by
 rw [iM]
 have e:(qS d z n c).drop (c+min (n-c) c)= List.replicate (n-(c+min (n-c) c)) [z]:=by unfold qS;rw [List.drop_append,Ac,Aa (by simp),τ,Ae];congr 1;omega
 rw [e,List.take_replicate,show min (min (n-c) c) c=min (n-c) c by omega];unfold qS;rw [<- Ag,List.replicate_append_replicate]
theorem cK {d z:D} {n:Nat} (h:1<=n):[[d]].take (min n 1)++ (List.replicate n [z]).drop (min n 1)= qS d z n 1:=by rw [Ak h,Ae];rfl
theorem Z0 {d:D} (hd:d.xL=true) (h1:d.one=true) {n:Nat} (hn:1<=n/\n<=64):xY prog 131 [.sl 1 [[d]],.int .i64 (n:Int)] St0 (.osl 0 1 n) ⟨1,[(0,⟨1,List.replicate n [d]⟩)]⟩:=by
 have hM:=Sf hn.2;have hw:=VU (n:=n) (by omega);have hw1:IntKind.u64.wrap ((1:Nat):Int)= 1:=by decide
 have hw2:IntKind.i64.wrap (n:Int)= (n:Int):=wrap_i64 (by omega);have hneg:¬ ((n:Int)<0):=by omega
 refine xY.xP mixed func131 Kz (by simp) λhf=>?_;simp only [simprocAttr,-ZA,↓zU,↓zD,zV,zT,zW,hneg,hw1,hw,show (1:Nat)= 1 from rfl];simp only [Nb,Na,show IntKind.u64.wrap 1=1 from by decide] at *;refine .go (cr hM) ?_;have hz:¬ (ui 0#64<ui 0#64):=Int.lt_irrefl _;have hb:¬ ((9223372036854775807:Int)<(n:Int)):=by omega
 have hp1:D.xU [d]=true:=by simp [D.xU,hd]
 simp only [simprocAttr,-ZA,↓zU,↓zD,zV,zT,zW,hz,hb,hw2,h1];refine⟨by omega,by omega,by simp,by omega,?_⟩;rw [Ak hn.1];have hstart:=cK (d:=d) (z:=D.int .i64 0) hn.1;rw [Ak hn.1] at hstart;have hlr:(List.replicate n [D.int .i64 0]).length=n:=by simp
 refine xT (λc:Nat=>[(8,.int .i64 c),(7,.osl 0 1 n)]) (λc=>⟨1,[(0,⟨1,qS d (D.int .i64 0) n c⟩)]⟩) (λc=>1<=c/\c<=n) (λc=>n-c) 1 ⟨Ah _,hn.1⟩ ?_ ?_
 ·rw [<- hstart]
  (refine xN.same ?_; simp [xQ,Fr.get])
 intro c ⟨hc1,hc2⟩;refine xO mixed ?_;have hL:=qp (d:=d) (z:=D.int .i64 0) hc2
 by_cases hcn:c<n
 ·have hd1:((c:Int)<(n:Int)):=by omega
  simp only [simprocAttr,-ZA,↓zU,↓zD,zV,zT,zW,hd1];have i1:¬ ((c:Int)= 0):=by omega
  have i2:¬ ((c:Int)= (n:Int)):=by omega
  have hst:=xv (d:=d) (z:=D.int .i64 0) hcn;have htk:=iM (d:=d) (z:=D.int .i64 0) (n:=n) (c:=c);generalize qS d (D.int .i64 0) n c=els at hL hst htk ⊢;refine⟨(c:Int),(n:Int),rfl,rfl,by omega,by omega,by omega,0,(c:Int),rfl,rfl,by omega,by omega,by omega,?_⟩;simp only [↓reduceIte,if_neg i1,if_neg i2,As];first | rw [if_pos ⟨trivial,by omega⟩] | rw [fm (by omega)]
  refine⟨λr hr=>?_,trivial,trivial,by omega,?_⟩
  ·rw [htk] at hr;rw [ω hr];simp [h1]
  have hm:(min (n-c) (els.take c).length)= min (n-c) c:=by rw [ξ]; omega
  rw [hm];have em:(n:Int).toNat-c=n-c:=by omega
  refine⟨by omega,c+min (n-c) c,⟨by omega,by omega⟩,?_,by omega⟩;rw [hst]
  (refine xN.same ?_; simp only [xQ,Fr.get,simprocAttr,-ZA,zS])
  rw [wrap_i64 (by omega)];omega
 ·have hd1:¬ ((c:Int)<(n:Int)):=by omega
  obtain rfl:c=n:=by omega
  have he:qS d (D.int .i64 0) c c=List.replicate c [d]:=by simp [qS]
  rw [he];simp only [simprocAttr,-ZA,↓zU,↓zD,zV,zT,zW,hd1];exact .same
theorem Z1 {d:D} (hd:d.xL=true) (h1:d.one=true) {n:Nat} (hn:1<=n/\n<=64):xY prog 224 [.sl 1 [[d]],.int .i64 (n:Int)] St0 (.osl 0 1 n) ⟨1,[(0,⟨1,List.replicate n [d]⟩)]⟩:=by
 have hM:=Sf hn.2;have hw:=VU (n:=n) (by omega);have hw1:IntKind.u64.wrap ((1:Nat):Int)= 1:=by decide
 have hw2:IntKind.i64.wrap (n:Int)= (n:Int):=wrap_i64 (by omega);have hneg:¬ ((n:Int)<0):=by omega
 refine xY.xP mixed func224 M5 (by simp) λhf=>?_;simp only [simprocAttr,-ZA,↓zU,↓zD,zV,zT,zW,hneg,hw1,hw,show (1:Nat)= 1 from rfl];simp only [Nb,Na,show IntKind.u64.wrap 1=1 from by decide] at *;refine .go (cr hM) ?_;have hz:¬ (ui 0#64<ui 0#64):=Int.lt_irrefl _;have hb:¬ ((9223372036854775807:Int)<(n:Int)):=by omega
 have hp1:D.xU [d]=true:=by simp [D.xU,hd]
 simp only [simprocAttr,-ZA,↓zU,↓zD,zV,zT,zW,hz,hb,hw2,h1];refine⟨by omega,by omega,by simp,by omega,?_⟩;rw [Ak hn.1];have hstart:=cK (d:=d) (z:=D.xK) hn.1;rw [Ak hn.1] at hstart;have hlr:(List.replicate n [D.xK]).length=n:=by simp
 refine xT (λc:Nat=>[(8,.int .i64 c),(7,.osl 0 1 n)]) (λc=>⟨1,[(0,⟨1,qS d (D.xK) n c⟩)]⟩) (λc=>1<=c/\c<=n) (λc=>n-c) 1 ⟨Ah _,hn.1⟩ ?_ ?_
 ·rw [<- hstart]
  (refine xN.same ?_; simp [xQ,Fr.get])
 intro c ⟨hc1,hc2⟩;refine xO mixed ?_;have hL:=qp (d:=d) (z:=D.xK) hc2
 by_cases hcn:c<n
 ·have hd1:((c:Int)<(n:Int)):=by omega
  simp only [simprocAttr,-ZA,↓zU,↓zD,zV,zT,zW,hd1];have i1:¬ ((c:Int)= 0):=by omega
  have i2:¬ ((c:Int)= (n:Int)):=by omega
  have hst:=xv (d:=d) (z:=D.xK) hcn;have htk:=iM (d:=d) (z:=D.xK) (n:=n) (c:=c);generalize qS d (D.xK) n c=els at hL hst htk ⊢;refine⟨(c:Int),(n:Int),rfl,rfl,by omega,by omega,by omega,0,(c:Int),rfl,rfl,by omega,by omega,by omega,?_⟩;simp only [↓reduceIte,if_neg i1,if_neg i2,As];first | rw [if_pos ⟨trivial,by omega⟩] | rw [fm (by omega)]
  refine⟨λr hr=>?_,trivial,trivial,by omega,?_⟩
  ·rw [htk] at hr;rw [ω hr];simp [h1]
  have hm:(min (n-c) (els.take c).length)= min (n-c) c:=by rw [ξ]; omega
  rw [hm];have em:(n:Int).toNat-c=n-c:=by omega
  refine⟨by omega,c+min (n-c) c,⟨by omega,by omega⟩,?_,by omega⟩;rw [hst]
  (refine xN.same ?_; simp only [xQ,Fr.get,simprocAttr,-ZA,zS])
  rw [wrap_i64 (by omega)];omega
 ·have hd1:¬ ((c:Int)<(n:Int)):=by omega
  obtain rfl:c=n:=by omega
  have he:qS d (D.xK) c c=List.replicate c [d]:=by simp [qS]
  rw [he];simp only [simprocAttr,-ZA,↓zU,↓zD,zV,zT,zW,hd1];exact .same
theorem Qw (n:Nat):List.replicate n [D.int .i64 (-1)]=rows .i64 (List.replicate n (-1)):=by simp [rows]
theorem R9 (n:Nat):List.replicate n [D.sl 1 (us [1#64])]=rr (List.replicate n [1#64]):=by simp [rr,Pm]
open Rs Fm Ru Te
namespace Te
theorem WN {A F:Nat} {c:List Nd} (hv:wJ c) (h:∀ p ∈ c,qV A F p=true):∀ i,i<c.length->tC A F (tree c i)= true:=by
 intro i
 induction i using Nat.strongRecOn with
 | _ i ih=>
  intro hi;obtain⟨ox,oy,_,_⟩:=uZ (hv i hi);have hs:=h (c.getD i nd0) (by rw [List.getD,ζ hi]; exact ο hi);rw [tV hv hi];show (qV A F _&&(tC A F _&&tC A F _))= true;rw [show qV A F ⟨(c.getD i nd0).op,(c.getD i nd0).i,(c.getD i nd0).e,(c.getD i nd0).g,0,0⟩= qV A F (c.getD i nd0) from rfl,hs,Bool.true_and,Au]
  constructor
  ·split
   ·rename_i hx; have:=ox hx; exact ih _ (by omega) (by omega)
   ·rfl
  ·split
   ·rename_i hy; have:=oy hy; exact ih _ (by omega) (by omega)
   ·rfl
theorem ZL {A F:Nat} {p:Nd} {k:Int} (hn:zG p k=0) (ho:okN A F p=true) (ht:fU p &&& 256=0):qV A F p=true:=by
 unfold okN at ho;simp only [Au,decide_eq_true_eq] at ho;obtain⟨⟨h1,h2⟩,h3⟩:=ho
 have hi0:p.op=3\/p.op=9\/p.op=10->0<=p.i:=λh=>by
  rcases h with h | h | h
  ·exact(jC hn (by rw [h]; rfl)).1
  ·exact(uE hn (by rw [h]; rfl)).1
  ·exact(uE hn (by rw [h]; rfl)).1
 have hg0:=gL hn;have hu:=(wI.1 hn).1
 have lt_of:∀ {a b:Nat},2 ^ a / 2 ^ b=0->a<b:=λ{a b} h=>Decidable.byContradiction λhh=>by have:=Nat.pow_le_pow_right (n:=2) (by decide) (show b<=a by omega);have:=Nat.div_pos this (Nat.two_pow_pos b);omega
 obtain⟨op,i,e,g,a,b⟩:=p;simp only at hi0 hg0 hu
 rcases kR op with rfl | rfl | rfl | rfl | rfl | rfl | rfl | rfl | rfl | rfl | rfl | rfl | rfl | rfl | rfl | rfl | rfl | rfl | rfl | rfl | rfl | h | h
 ·rfl
 ·rfl
 ·have h3:2 ^ i.toNat / 2 ^ F=0:=h3;have:=lt_of h3;have h0:=hi0 (.inl rfl);show decide (i<(F:Int))= true;exact decide_eq_true (by omega)
 ·rfl
 ·rfl
 ·rfl
 ·rfl
 ·rfl
 ·have h2:2 ^ i.toNat / 2 ^ A=0:=h2;have:=lt_of h2;have h0:=hi0 (.inr (.inl rfl));show decide (i<(A:Int))= true;exact decide_eq_true (by omega)
 ·have h2:2 ^ i.toNat / 2 ^ A=0:=h2;have:=lt_of h2;have h0:=hi0 (.inr (.inr rfl));show decide (i<(A:Int))= true;exact decide_eq_true (by omega)
 iterate 3
  ·have h2:g.toNat / 2 ^ A=0:=h2;have:=(Nat.div_eq_zero_iff.1 h2).resolve_left (by have:=Nat.two_pow_pos A; omega);show decide (g<((2 ^ A:Nat):Int))= true;exact decide_eq_true (by omega)
 ·exact absurd h1 (show ¬ (16:Nat)&&& 3824=0 by decide)
 ·exact absurd h1 (show ¬ (32:Nat)&&& 3824=0 by decide)
 ·exact absurd h1 (show ¬ (64:Nat)&&& 3824=0 by decide)
 ·exact absurd h1 (show ¬ (128:Nat)&&& 3824=0 by decide)
 iterate 4
  ·exact absurd ht (show ¬ (256:Nat)&&& 256=0 by decide)
 ·rw [kY (.inl h)] at hu; cases hu
 ·rw [kY (.inr h)] at hu; cases hu
theorem WO {n:Nat} (h:n<4096) (h1:n &&& 3824=0) (h2:n &&& 256=0):(pJ .andNot .i64 (n:Int) 15 != 0)= false:=by
 have h16:∀ n:Fin 4096,n.val &&& 3824=0->n.val &&& 256=0->n.val<16:=by decide +kernel
 have:∀ n:Fin 16,(pJ .andNot .i64 ((n.val:Nat):Int) 15 != 0)= false:=by decide +kernel
 exact this ⟨n,h16 ⟨n,h⟩ h1 h2⟩
theorem kJ (f:List Nd):zC f<4096:=by refine eV λp _=>?_;have:=yt p.op;unfold fU; omega
theorem jv {s:tZ} {A F T:Nat} {rs:List xG} (hs:s=⟨A,F,T,rs⟩) (hz:chk s=0) (ok:OkR rs A F T) {f:List Nd} (hE:gV s f=0) (ht:zC f &&& 256=0) :
  tC A F (oW f)= true/\(pJ .andNot .i64 (zC f:Int) 15 != 0)= false/\sU f A F=true:=by
 have hc:=(kZ hE).2;have hN:=(RM hs hz ok hc).1 hE
 have hT:∀ p ∈ xB f,fU p &&& 256=0:=by
  have:=ht;unfold zC at this
  rwa [qL (φ:=λn=>n &&& 256) (by decide) (λa b=>An a b 256),rR] at this
 have h38:zC f &&& 3824=0:=by unfold zC;rw [qL (φ:=λn=>n &&& 3824) (by decide) (λa b=>An a b 3824),rR];intro p hp;have:=hN p hp;unfold okN at this;simp only [Au,decide_eq_true_eq] at this;exact this.1.1
 refine⟨?_,WO (kJ f) h38 ht,?_⟩
 ·have hl:=iI hc;rw [<- (gZ hc).1];refine WN (gx f) (λp hp=>?_) _ (by omega);obtain⟨k,hk⟩:=bC (fS f _) hp;exact ZL hk (hN p hp) (hT p hp)
 ·unfold gV at hE;rw [if_neg (by simpa using hz),if_neg (by simpa using hc),vx (kJ f),if_neg (by simp [h38])] at hE;subst hs
  cases hf:sU f A F with
  | true=>rfl
  | false=>simp only [hf,↓reduceIte] at hE; cases hE
end Te
namespace Kb
theorem O4 : ∀ n:Fin 4096,(pJ .andNot .i64 ((n.val:Nat):Int) 15 != 0)= false->n.val<16:=by decide +kernel
theorem Ms : ∀ n:Fin 4096,(pJ .andNot .i64 ((n.val:Nat):Int) 0 != 0)= false->n.val=0:=by decide +kernel
end Kb
open Ru
def qZ (l:List Int):Nat->List Int
 | 0=>[]
 | k+1=>if 0<k/\l.getD k 0=l.getD (k-1) 0 then qZ l k else qZ l k ++ [l.getD k 0]
def lJ (l:List Int):List Int:=qZ l l.length
theorem jS {l:List Int}:∀ {k:Nat},k<=l.length->(∀ i,0<i->i<k->l.getD i 0≠l.getD (i-1) 0)->qZ l k=l.take k
 | 0,_,_=>by simp [qZ]
 | k+1,h,hn=>by rw [qZ,if_neg (λc=>hn k c.1 (by omega) c.2),jS (by omega) (λi h1 h2=>hn i h1 (by omega)),<- zK (by omega)]
theorem lf (l:List Int):∀ k,(qZ l k).length<=k
 | 0=>Ah _
 | k+1=>by
  have:=lf l k;rw [qZ]
  split
  ·omega
  ·rw [κ]; simp; omega
theorem WK (l:List Int) (k:Nat):(qZ l k).length<=(qZ l (k+1)).length:=by
 rw [qZ]; split
 ·exact Ah _
 ·rw [κ]; omega
theorem Z5 (l:List Int) (i:Nat) (x:Int):(rows .i64 l).set i [.int .i64 x]=rows .i64 (l.set i x):=by simp [rows,List.map_set]
theorem qw (o:List Int) (i j:Nat) (x:Int):(o.set i x).getD j 0=if i=j/\j<o.length then x else o.getD j 0:=by
 simp only [List.getD,List.getElem?_set]
 split
 ·rename_i h; subst h; by_cases hj:i<o.length
  ·simp [hj]
  ·simp [hj]
 ·rename_i h; simp [h]
theorem vv (l:List Int):∀ k,0<(qZ l (k+1)).length
 | 0=>by rw [qZ,if_neg (by omega),κ]; simp
 | k+1=>Nat.lt_of_lt_of_le (vv l k) (WK l (k+1))
def diE (l:List Int):List (List D):=rows .i64 (lJ l)++ List.replicate (l.length-(lJ l).length) [.int .i64 0]
theorem QH (l:List Int):(diE l).length=l.length:=by have:=lf l l.length;unfold diE lJ;rw [κ,yZ,Ac];omega
theorem WG {σ:St} {key:Nat} {l:List Int} (hget:σ.get key=some ⟨1,rows .i64 l⟩) (hlen:l.length<=1000) (hne:l ≠ []) :
  xY prog 144 [.osl key 1 l.length] σ (.osl key 1 (lJ l).length) (σ.set key ⟨1,diE l⟩):=by
 obtain⟨nx,xZ⟩:=σ;have hpos:0<l.length:=List.length_pos_iff.2 hne;have hg:St.look xZ key=some ⟨1,rows .i64 l⟩:=hget
 have whole:lJ l=l->(.osl key 1 (lJ l).length=D.osl key 1 l.length/\(⟨nx,vN xZ key ⟨1,diE l⟩⟩:St)= ⟨nx,xZ⟩):=by
  intro e;refine⟨by rw [e],?_⟩;have:diE l=rows .i64 l:=by unfold diE; rw [e]; simp
  rw [this,rZ hg]
 refine xY.xP mixed func144 L4 (by simp) λhf=>?_
 by_cases h2:l.length<2
 ·have hd:(l.length:Int)<2:=by omega
  simp only [simprocAttr,-ZA,↓zU,↓zD,zV,zT,zW,hd]
  have e:lJ l=l:=by unfold lJ;rw [jS (Ah _) (λi h1 h3=>by omega),π]
  obtain⟨e1,e2⟩:=whole e;exact .inl ⟨e1,e2⟩
 have hd:¬ (l.length:Int)<2:=by omega
 simp only [simprocAttr,-ZA,↓zU,↓zD,zV,zT,zW,hd]
 refine xT (λk:Nat=>[(3,.int .i64 k),(0,.osl key 1 l.length)]) (λ_=>⟨nx,xZ⟩) (λk=>1<=k/\k<=l.length/\∀ i,0<i->i<k->l.getD i 0≠l.getD (i-1) 0) (λk=>l.length-k) 1 ⟨Ah _,by omega,λi h1 h2=>by omega⟩ ?_ ?_
 ·(refine xN.same ?_; simp [xQ,Fr.get])
 intro i0 ⟨hi1,hi2,hi3⟩;refine xO mixed ?_;by_cases h:i0<l.length
 case neg=>
  have hd:¬ ((i0:Int)<(l.length:Int)):=by omega
  have e:lJ l=l:=by unfold lJ;rw [jS (Ah _) (λi h1 h3=>hi3 i h1 (by omega)),π]
  obtain⟨e1,e2⟩:=whole e;simp only [simprocAttr,-ZA,↓zU,↓zD,zV,zT,zW,hd];exact .inl ⟨e1,e2⟩
 have hd:((i0:Int)<(l.length:Int)):=by omega
 have em:IntKind.i64.wrap ((i0:Int)-1)= ((i0-1:Nat):Int):=by rw [wrap_i64 (by omega)]; omega
 by_cases hq:l.getD i0 0=l.getD (i0-1) 0
 case neg=>
  have hq':(l.getD i0 0==l.getD (i0-1) 0)= false:=by simpa using hq
  simp only [simprocAttr,-ZA,↓zU,↓zD,zV,zT,zW,hd,hg,yV .i64 l h,em,yV .i64 l (show i0-1<l.length by omega),hq']
  (repeat refine sd ?_)
  refine⟨i0+1,⟨by omega,by omega,λi h1 h3=>?_⟩,?_,by omega⟩
  ·by_cases e:i=i0
   ·rw [e]; exact hq
   ·exact hi3 i h1 (by omega)
  (refine xN.same ?_; simp only [xQ,Fr.get,simprocAttr,-ZA,zS])
  exact wrap_i64 (by omega)
 have hq':(l.getD i0 0==l.getD (i0-1) 0)= true:=by simpa using hq
 simp only [simprocAttr,-ZA,↓zU,↓zD,zV,zT,zW,hd,hg,yV .i64 l h,em,yV .i64 l (show i0-1<l.length by omega),hq']
 (repeat refine sd ?_)
 have ei:¬ (i0:Int)= 0:=by omega
 have ei2:¬ (i0:Int)= (l.length:Int):=by omega
 refine⟨i0,l.length,rfl,rfl,by omega,by omega,by omega,?_⟩;simp only [As,if_neg ei,if_neg ei2];have d1:qZ l (i0+1)= l.take i0:=by rw [qZ,if_pos ⟨by omega,hq⟩,jS (by omega) hi3]
 refine xT (λa:Nat × List Int=>[(5,.int .i64 a.1),(4,.sub key 1 i0 (l.length-i0)),(3,.int .i64 (qZ l (i0+a.1)).length),(0,.osl key 1 l.length)]) (λa=>⟨nx,vN xZ key ⟨1,rows .i64 a.2⟩⟩)
  (λa=>1<=a.1/\i0+a.1<=l.length/\a.2.length=l.length/\(qZ l (i0+a.1)).length<i0+a.1/\a.2.take (qZ l (i0+a.1)).length=qZ l (i0+a.1)/\ ∀ j,i0+a.1-1<=j->a.2.getD j 0=l.getD j 0) (λa=>l.length-a.1) (1,l)
  ⟨Ah _,by omega,rfl,by rw [d1,ξ]; omega,by rw [d1,ξ,Am (by omega)],λj _=>rfl⟩ ?_ ?_
 ·rw [rZ hg]
  (refine xN.same ?_; simp [xQ,Fr.get,d1])
  omega
 intro ⟨q,o⟩ ⟨q1,q2,q3,q4,q5,q6⟩;simp only at q1 q2 q3 q4 q5 q6;have hlk:∀ ob:Ob,St.look (vN xZ key ob) key=some ob:=λob=>tE hg;refine xO mixed ?_
 by_cases hp:i0+q<l.length
 ·have hd3:((q:Int)<((l.length-i0:Nat):Int)):=by omega
  have eq1:IntKind.i64.wrap ((q:Int)-1)= ((q-1:Nat):Int):=by rw [wrap_i64 (by omega)]; omega
  have a1:o.getD (i0+q) 0=l.getD (i0+q) 0:=q6 _ (by omega);have a2:o.getD (i0+(q-1)) 0=l.getD (i0+q-1) 0:=by rw [q6 _ (by omega)]; congr 1; omega
  by_cases hq2:l.getD (i0+q) 0=l.getD (i0+q-1) 0
  ·have dd:qZ l (i0+(q+1))= qZ l (i0+q):=by show qZ l ((i0+q)+ 1)= _;rw [qZ,if_pos ⟨by omega,hq2⟩]
   have hq3:(l.getD (i0+q) 0 != l.getD (i0+q-1) 0)= false:=by simpa using hq2
   simp only [simprocAttr,-ZA,↓zU,↓zD,zV,zT,zW,hd3,hlk,eq1,yV .i64 o (show i0+q<o.length by omega),yV .i64 o (show i0+(q-1)<o.length by omega),a1,a2,hq3]
   (repeat refine sd ?_)
   refine⟨(q+1,o),⟨by show 1<=q+1; omega,by show i0+(q+1)<=l.length; omega,q3,by show (qZ l (i0+(q+1))).length<i0+(q+1); rw [dd]; omega,by show o.take (qZ l (i0+(q+1))).length=qZ l (i0+(q+1)); rw [dd,q5],λj hj=>q6 j (by change i0+(q+1)-1<=j at hj; omega)⟩,?_,by show l.length-(q+1)<l.length-q; omega⟩
   (refine xN.same ?_; simp only [xQ,Fr.get,simprocAttr,-ZA,zS,dd])
   exact wrap_i64 (by omega)
  ·have dd:qZ l (i0+(q+1))= qZ l (i0+q)++ [l.getD (i0+q) 0]:=by show qZ l ((i0+q)+ 1)= _;rw [qZ,if_neg (λc=>hq2 c.2)]
   have dl:(qZ l (i0+(q+1))).length=(qZ l (i0+q)).length+1:=by rw [dd,κ]; rfl
   have hq3:(l.getD (i0+q) 0 != l.getD (i0+q-1) 0)= true:=by simpa using hq2
   simp only [simprocAttr,-ZA,↓zU,↓zD,zV,zT,zW,hd3,hlk,eq1,yV .i64 o (show i0+q<o.length by omega),yV .i64 o (show i0+(q-1)<o.length by omega),a1,a2,hq3]
   (repeat refine sd ?_)
   have c1:(qZ l (i0+q)).length<o.length:=by omega
   have eset:(rows .i64 o).set (qZ l (i0+q)).length (((rows .i64 o).getD (qZ l (i0+q)).length []).set 0 (D.int .i64 (l.getD (i0+q) 0)))= rows .i64 (o.set (qZ l (i0+q)).length (l.getD (i0+q) 0)):=by rw [yV .i64 o c1];exact Z5 _ _ _
   refine⟨(q+1,o.set (qZ l (i0+q)).length (l.getD (i0+q) 0)),⟨by show 1<=q+1; omega,by show i0+(q+1)<=l.length; omega,by show (o.set _ _).length=_; rw [List.length_set]; exact q3,by show (qZ l (i0+(q+1))).length<i0+(q+1); omega,?_,λj hj=>?_⟩,?_,by show l.length-(q+1)<l.length-q; omega⟩
   ·show (o.set (qZ l (i0+q)).length (l.getD (i0+q) 0)).take (qZ l (i0+(q+1))).length=_;rw [dl,zK (d:=0) (by rw [List.length_set]; exact c1),qw,if_pos ⟨rfl,c1⟩,dd,List.take_set_of_le (Ah _),q5]
   ·change i0+(q+1)-1<=j at hj;show (o.set (qZ l (i0+q)).length (l.getD (i0+q) 0)).getD j 0=_;rw [qw,if_neg (by omega)];exact q6 j (by omega)
   ·simp only [rY,eset]
    (refine xN.same ?_; simp only [xQ,Fr.get,simprocAttr,-ZA,zS,dl])
    exact⟨wrap_i64 (by omega),wrap_i64 (by omega)⟩
 ·have hd3:¬ ((q:Int)<((l.length-i0:Nat):Int)):=by omega
  have ed:qZ l (i0+q)= lJ l:=by unfold lJ; rw [show i0+q=l.length by omega]
  have c0:0<(lJ l).length:=by have:=vv l (l.length-1);rw [show l.length-1+1=l.length by omega] at this;exact this
  rw [ed] at q4 q5;simp only [simprocAttr,-ZA,↓zU,↓zD,zV,zT,zW,hd3,ed];refine⟨(lJ l).length,l.length,rfl,rfl,by omega,by omega,by omega,?_⟩;rw [if_neg (show ¬ ((lJ l).length:Int)= 0 by omega),if_neg (show ¬ ((lJ l).length:Int)= (l.length:Int) by omega)];simp only [As,hlk,yZ,true_and];refine⟨by omega,by omega,?_⟩;refine⟨0,(lJ l).length,rfl,rfl,by omega,by omega,by omega,?_⟩;rw [if_pos rfl];refine .inl ⟨by rw [As],?_⟩;have e2:(rows .i64 o).take (lJ l).length=rows .i64 (lJ l):=by rw [sn,q5]
  have e3:(rows .i64 o).drop ((lJ l).length+(l.length-(lJ l).length))= []:=Aa (by rw [yZ]; omega)
  have e4:diE l=(rows .i64 o).take (lJ l).length++(List.replicate (l.length-(lJ l).length) [D.int .i64 0]++(rows .i64 o).drop ((lJ l).length+(l.length-(lJ l).length))):=by rw [e2,e3,List.append_nil]; rfl
  rw [e4];simp only [rY]
namespace Ru
def xf (rs:List xG) (a r t:Nat):List Int:=(List.range t).map λi=>yJ rs a (r,i)
def bG (rs:List xG) (a:Nat) (p:Nat × Nat):List Int:=lJ (xf rs a p.1 (p.2+1))
theorem cj (rs:List xG) (a r t:Nat):(xf rs a r t).length=t:=by simp [xf]
theorem Wd (rs:List xG) (a r t:Nat):xf rs a r (t+1)= xf rs a r t ++ [yJ rs a (r,t)]:=by unfold xf; rw [List.range_succ,List.map_append]; rfl
end Ru
theorem WR {rs:List xG} {A F T:Nat} (ok:OkR rs A F T) {a:Nat} (ha:a<A) {p:Nat × Nat} (hp:p.1<rs.length/\p.2<T):zX prog 95 [sD A F T rs,.int .i64 a,.agg [.int .i64 (p.1:Int),.int .i64 (p.2:Int)]] (.sl 1 (rows .i64 (bG rs a p))):=by
 obtain⟨T1,T16⟩:=ok.hT;have hm:=xR (d:=tX) hp.1;have hg:=vF rs hp.1;have h1:=ok.loc _ hm;have h2:=λ(t:Nat) (ht:t<T)=>ok.row _ hm _ (xR (d:=[]) (show t<(rs.getD p.1 tX).loc.length by omega));obtain⟨r,t⟩:=p;simp only at hp hm hg h1 h2 ⊢;have hloc:∀ i,yJ rs a (r,i)= ((rs.getD r tX).loc.getD i []).getD a 0:=λi=>rfl;unfold sD bG;generalize rs.getD r tX=R at hg h1 h2 hloc;have hw:IntKind.i64.wrap ((t:Int)+ 1)= ((t+1:Nat):Int):=wrap_i64 (by omega);refine xY.xP mixed func95 k95 (by simp) λhf=>?_;simp only [simprocAttr,-ZA,↓zU,↓zD,zV,zT,zW,hw]
 refine xT (λk:Nat=>[(12,.int .i64 k),(11,.int .i64 ((t+1:Nat):Int)),(7,xD 2 1 (rows .i64 (xf rs a r k))),(5,.ref 1 2 0 0),(3,.ref 0 4 0 0),(1,.int .i64 a)])
  (λk=>⟨3,xA 2 1 (rows .i64 (xf rs a r k))++ [(1,⟨2,[[.int .i64 r,.int .i64 t]]⟩),(0,⟨4,[[.int .i64 A,.int .i64 F,.int .i64 T,.sl 2 (zL rs)]]⟩)]⟩)
  (λk=>k<=t+1) (λk=>t+1-k) 0 (Al _) ?_ ?_
 ·(refine xN.ren [] [1,0] (by simp) (by simp) (by decide) ?_; simp only [yT,zQ,simprocAttr,-ZA,exists_eq_left',ne_eq,zR,Ru.xf,List.range_zero,List.map_nil,zM,zN,τ])
 intro k hk;refine xO mixed ?_
 by_cases hkl:k<t+1
 ·have hd:((k:Int)<((t+1:Nat):Int)):=by omega
  have hS:=Wd rs a r k;rw [hloc k] at hS;have hln:=cj rs a r k;have hg2:=tH R.loc (show k<R.loc.length by omega);have h3:=h2 k (by omega);generalize R.loc.getD k []=x at hg2 h3 hS;have hg3:=yV .i64 x (show a<x.length by omega);generalize xf rs a r k=l at hS hln;simp only [simprocAttr,-ZA,↓zU,↓zD,zV,zT,zW,hd,xJ,hg,xG.row,yD,hg2,hg3,hln]
  (repeat refine sd ?_)
  refine⟨k+1,by omega,?_,by omega⟩;rw [hS]
  (refine xN.ren [(2,3)] [2,1,0] (by simp) (by simp) (by decide) ?_; simp only [yT,zQ,simprocAttr,-ZA,exists_eq_left',ne_eq,zR])
  exact wrap_i64 (by omega)
 have hd:¬ ((k:Int)<((t+1:Nat):Int)):=by omega
 obtain rfl:k=t+1:=by omega
 have hln:=cj rs a r (t+1);generalize xf rs a r (t+1)= l at hln ⊢
 obtain⟨x,l',rfl⟩:∃ x l',l=x :: l':=by
  cases l with
  | nil=>simp at hln
  | cons x l'=>exact⟨x,l',rfl⟩
 have hc:=WG (σ:=⟨3,[(2,⟨1,rows .i64 (x :: l')⟩),(1,⟨2,[[.int .i64 r,.int .i64 t]]⟩),(0,⟨4,[[.int .i64 A,.int .i64 F,.int .i64 T,.sl 2 (zL rs)]]⟩)]⟩) (key:=2) (l:=x :: l') rfl (by omega) (by simp)
 have hne:0<(lJ (x :: l')).length:=by have:=vv (x :: l') l'.length;exact this
 simp only [simprocAttr,-ZA,↓zU,↓zD,zV,zT,zW,hd];refine .go hc ?_;simp only [simprocAttr,-ZA,↓zU,↓zD,zV,zT,zW];refine .drop (by simp) ?_;have hl1:=QH (x :: l');have hl2:(diE (x :: l')).take (lJ (x :: l')).length=rows .i64 (lJ (x :: l')):=by unfold diE; rw [List.take_left' (yZ _ _)]
 simp only [vw];refine⟨trivial,by decide,by simp,⟨1,diE (x :: l')⟩,rfl,rfl,?_,hl2.symm,uX _ _⟩;have:=lf (x :: l') (x :: l').length;show (lJ (x :: l')).length<=(diE (x :: l')).length;rw [hl1]; exact this
end Go.Pd
