/- Part XA. -/
import Derived.Test.YtndfaefmmcoapaaGreatGeX6
import Derived.Test.YtndfaefmmcoapaaGreatGeC4
import Derived.Test.YtndfaefmmcoapaaGreatGeX9
import Derived.Test.YtndfaefmmcoapaaGreatGeXS
import Derived.Test.YtndfaefmmcoapaaGreatGeSC
set_option linter.unusedSectionVars false
set_option linter.unusedVariables false
set_option linter.unusedSimpArgs false
set_option linter.defProp false
open Go.Proofs.Tryz
open List renaming take_append_of_le_length->γ,getElem?_append_left->δ,getElem?_append_right->ε,getElem?_eq_getElem->ζ,getElem?_cons_succ->η,take_length_add_append->θ,mem_singleton->κ,mem_of_mem_take->μ,take_succ_cons->ν,any_eq_false->ξ,getElem_mem->ο,length_take->π,take_length->τ,length_cons->υ,mem_range->χ,length_append->ψ,nil_append->ω,map_cons->Aa,eq_of_mem_replicate->Ab,take_append_drop->Ac,filterMap_cons->Ad,drop_replicate->Ae,mem_filterMap->Af,append_assoc->Ag,any_eq_true->Ah
open Nat renaming lt_or_ge->Ai,le_refl->Aj,lt_trichotomy->Ak,min_eq_right->Al,zero_le->Am,mod_eq_of_lt->An,and_or_distrib_right->Ao
open Option renaming bind_eq_some_iff->Ap,getD_some->Aq,bind_eq_bind->Ar,map_some->As
open Bool renaming and_eq_true->Au,eq_false_iff->Av,not_eq_true->Aw
open BitVec renaming ofInt_natCast->Ax,toNat_ofNat->Ay
open Int renaming toNat_natCast->Az
namespace Go.Pd
open Go
section
variable [tP]
def TI (pre:List yY) (o1:Option Nat) (dx:D) (mid1:List yY) (o2:Option Nat) (dy:D) (mid2:List yY):List yY:=pre++⟨o1,none,.mv (.c dx)⟩ :: (mid1++⟨o2,none,.mv (.c dy)⟩ :: mid2)
def Vx (C:Cx) (pre:List yY) (m1:yY) (mid1:List yY) (m2:yY) (mid2 post:List yY) (free:List Nat) (f:Fr) (σ:St) (K:Fr->St->Prop):Prop:=
 uW C σ pre f λf1=>qW C σ (pI f1) m1.k λdx σ1=>uW C σ1 mid1 (f1.put m1.dst dx) λf2=>qW C σ1 (pI f2) m2.k λdy σ2=>uW C σ2 mid2 (f2.put m2.dst dy) λf3=>
  uW C σ (TI pre m1.dst dx mid1 m2.dst dy mid2) f (λg=>g=f3)/\ uW C σ1 (TI pre m1.dst dx mid1 m2.dst dy mid2) f (λg=>g=f3)/\ uW C σ2 (TI pre m1.dst dx mid1 m2.dst dy mid2) f (λg=>g=f3)/\
  qW C σ (pI f) m2.k λdA σA=>uW C σA pre f λg1=>qW C σA (pI g1) m1.k λdz σB=>uW C σB (mid1++⟨m2.dst,none,.mv (.c dA)⟩ :: mid2) (g1.put m1.dst dz) λg3=>
   uW C σA (TI pre m1.dst dz mid1 m2.dst dA mid2) f (λg=>g=g3)/\ uW C σB (TI pre m1.dst dz mid1 m2.dst dA mid2) f (λg=>g=g3)/\
   rH C post f3 σ2 λf4 σ4=>rH C post g3 σB λg4 σ5=>(∀ t ∈ free,f4.get t=g4.get t)/\ yR C g4 σ5 f4 σ4/\K f4 σ4
theorem oc : ∀ {ds ds':List yY} {t:List (D × St)} {f:Fr},ds.map (·.dst)= ds'.map (·.dst)->vD ds t f=vD ds' t f
 | [],[],_,_,_=>rfl
 | [],_ :: _,_,_,h=>by simp at h
 | _ :: _,[],_,_,h=>by simp at h
 | o :: ds,o' :: ds',[],f,_=>rfl
 | o :: ds,o' :: ds',p :: t,f,h=>by simp only [Aa,List.cons.injEq] at h;simp only [vD];rw [h.1];exact oc h.2
theorem mg {l l':List yY} (h:l.map (·.dst)= l'.map (·.dst)):uG l=uG l':=by
 unfold uG;rw [h];have e:∀ l:List yY,(l.all λo=>o.dst.isSome)= (l.map (·.dst)).all (·.isSome):=λl=>by rw [List.all_map]; rfl
 rw [e l,e l',h]
theorem eA {C:Cx} {hd qs:List yY} {f:Fr} {t:List (D × St)} {st:St} (hdst:qs.map (·.dst)= hd.map (·.dst)) (hok:uG hd=true) (hl:t.length=hd.length) (h:uW C st qs f λg=>g=vD hd t f) {i:Nat} {dop:yY} (hi:qs[i]?=some dop) :
  yB dop (vD (hd.take i) (t.take i) f) (qW C st (pI (vD (hd.take i) (t.take i) f)) dop.k λx y=>x=uV t i/\y=st) (.rJ=uV t i):=by
 obtain⟨t',q1,q2,q3,q4⟩:=zG _ _ h;have hlen:qs.length=hd.length:=by have:=congrArg List.length hdst; simpa using this
 have hv:=oA ((mg hdst).trans hok) q3 (by omega:t.length=qs.length) (q2.trans (oc hdst.symm));have:=tV q1 q3 hv q4 hi
 rwa [oc (ds:=qs.take i) (ds':=hd.take i) (by rw [List.map_take,List.map_take,hdst])] at this
theorem wm : ∀ {l:List yY},(l.filterMap (·.dst)).Nodup->∀ {i j t:Nat},uT l i=some t->uT l j=some t->i=j
 | [],_,i,j,t,h,_=>by simp [uT] at h
 | o :: l,hn,i,j,t,hi,hj=>by
  have hm:∀ k,uT l k=some t->t ∈ l.filterMap (·.dst):=λk hk=>by unfold uT at hk;obtain⟨d,h1,h2⟩:=Ap.1 hk;exact Af.2 ⟨d,List.mem_of_getElem? h1,h2⟩
  have hn2:(l.filterMap (·.dst)).Nodup/\∀ d,o.dst=some d->d ∉ l.filterMap (·.dst):=by
   rw [Ad] at hn
   cases e:o.dst with
   | none=>rw [e] at hn; exact⟨hn,λd h=>by cases h⟩
   | some d=>rw [e] at hn; exact⟨(List.nodup_cons.1 hn).2,λd' h=>by cases h; exact(List.nodup_cons.1 hn).1⟩
  match i,j with
  | 0,0=>rfl
  | 0,j+1=>exact absurd (hm j hj) (hn2.2 t hi)
  | i+1,0=>exact absurd (hm i hi) (hn2.2 t hj)
  | i+1,j+1=>exact congrArg (·+1) (wm (l:=l) hn2.1 hi hj)
theorem VD {ds:List yY} {tr:List (D × St)} {f:Fr} (hl:tr.length=ds.length) (hn:(ds.filterMap (·.dst)).Nodup) {j t:Nat} (hj:j<ds.length) (hd:uT ds j=some t):(vD ds tr f).get t=uV tr j:=by have:=gX (f:=f) hl ds.length (Aj _) t;rw [τ,<- hl,τ,hl] at this;rw [this];exact gY rfl hd ds.length hj λk h1 h2 h3=>by have:=wm hn hd h3; omega
theorem VG {ds ds':List yY} {tr tr':List (D × St)} {f:Fr} {T T':Nat->Bool} {t:Nat} (hd:∀ j,uT ds' j=uT ds j):∀ (n:Nat),(∀ j,j<n->uT ds j=some t->T' j=T j/\(T j=true->uV tr' j=uV tr j))->LV ds' tr' f T' n t=LV ds tr f T n t
 | 0,_=>rfl
 | n+1,h=>by
  simp only [LV,hd];rw [VG hd n λj hj=>h j (by omega)]
  by_cases e:uT ds n=some t
  ·obtain⟨h1,h2⟩:=h n (by omega) e;rw [h1]
   split
   ·rename_i hc; rw [h2 hc.1]
   ·rfl
  ·rw [if_neg (λh=>e h.2),if_neg (λh=>e h.2)]
theorem Qi {P:Program} {N:Nat} {own:List Nat} {code:Code} {pre:List yY} {m1:yY} {mid1:List yY} {m2:yY} {mid2 post:List yY} {free:List Nat} (h:sJ P N own code=some (.bK pre m1 mid1 m2 mid2 post free)) :
  ∃ id ops l,code = .region id ops true/\uH (iP P N own ops) ops.toList=some l/\own.contains 77777=false/\post=l.drop (sM own l)/\ Kt own ops.toList l (sM own l) pre m1 mid1 m2 mid2 free:=by
 cases code with
 | region id ops draw=>
  simp only [sJ] at h
  split at h
  ·rename_i d hd;cases h
   rcases gT hd with ⟨_,h2 | h2 | h2⟩ | ⟨_,h2,_⟩
   ·obtain⟨_,_,_,_,_,_,_,_,_,_,_,_,_,_,_,e⟩:=qR h2; cases e
   ·obtain⟨_,_,_,_,_,_,_,_,_,_,_,_,_,_,e⟩:=iY h2; cases e
   ·obtain⟨_,_,_,_,_,_,_,_,_,_,_,e⟩:=iW h2; cases e
   ·obtain⟨_,_,_,_,_,_,_,_,_,_,_,_,_,_,_,e⟩:=qR h2; cases e
  ·simp only [Ar,Ap] at h;obtain⟨l,hl,h⟩:=h
   split at h
   ·rename_i hdr
    split at h
    ·split at h
     ·rename_i d hv;cases h;obtain⟨_,_,_,_,_,_,e,_⟩:=gV hv;cases e
     ·rcases kT h with ⟨e,_⟩ | ⟨_,_,_,_,_,e,_⟩ | ⟨_,_,_,_,_,_,_,_,_,_,_,e,_⟩ <;> cases e
    ·split at h
     ·rename_i hq;obtain⟨_,_,_,_,_,_,_,e,hp,hR⟩:=gU h;cases e;subst hdr;exact⟨id,ops,l,rfl,hl,hq,hp,hR⟩
     ·cases h
   ·simp at h
 | rangeFunc g0 ps0 a c=> simp [sJ,Ap] at h
 | seq a b=> simp only [sJ,zO] at h;obtain⟨dx,hx,dy,hy,h⟩:=h;rcases vF dx dy with e | ⟨_,_,_,_,_,_,_,_,_,_,_,_,e,_⟩ <;> rw [e] at h <;> cases h
 | _=>simp [sJ,Ap] at h
theorem Y5 {k:DK} (h:sn k=true):k.ZZ = []/\k.vW=false:=by cases k <;> simp_all [sn,DK.ZZ,DK.vW]
theorem af {A B:List yY} {b c:yY} {i:Nat} (h:i≠A.length):(A++b :: B)[i]?=(A++c :: B)[i]?:=by
 rcases Ai i A.length with h1 | h1
 ·rw [δ h1,δ h1]
 ·obtain⟨k,rfl⟩:∃ k,i=A.length+(k+1):=⟨i-A.length-1,by omega⟩;rw [ε (by omega),ε (by omega),show A.length+(k+1)-A.length=k+1 by omega,η,η]
theorem ZI {α:Type} {A B:List α} {b:α}:(A++b :: B)[A.length]?=some b:=by rw [ε (Aj _),Nat.sub_self]; rfl
theorem W8 {a b x:yY} (hd:a.dst=b.dst) (hn:a.names=b.names):jV a x=jV b x:=by unfold jV; rw [hd,hn]
theorem Zp {a b x:yY} (hd:a.dst=b.dst) (hn:a.names=b.names):jV x a=jV x b:=by unfold jV; rw [hd,hn]
theorem Rt {C:Cx} (hm:C.P.follows .mixedOrders=true) {pre:List yY} {m1:yY} {mid1:List yY} {m2:yY} {mid2 post:List yY} {free:List Nat} {f:Fr} {σ:St} {Q:Exit->Fr->St->Prop}
  (h:Vx C pre m1 mid1 m2 mid2 post free f σ (Q .normal)):wpS C (.bK pre m1 mid1 m2 mid2 post free) f σ Q:=by
 intro code hc E a w G;obtain⟨id,ops,l,rfl,hd,hq,hpost,R⟩:=Qi hc;have hg1:=pL R.n2;have hg2:=pL R.n4;obtain⟨hal,hal2⟩:=Y5 R.alloc;unfold Vx at h;obtain⟨t1,a1,h,a3,a4⟩:=zG _ _ h;obtain⟨dx,σ1,hx,h⟩:=lZ hq h;obtain⟨t2,b1,h,b3,b4⟩:=zG _ _ h;obtain⟨dy,σ2,hy,h⟩:=lZ hq h;obtain⟨t3,c1,h,c3,c4⟩:=zG _ _ h;obtain⟨q0,q1,q2,h⟩:=h;obtain⟨dA,σA,hA,h⟩:=lZ hq h;obtain⟨u1,d1,h,d3,d4⟩:=zG _ _ h;obtain⟨dz,σB,hz,h⟩:=lZ hq h;obtain⟨u2,e1,h,e3,e4⟩:=zG _ _ h;obtain⟨qA,qB,h⟩:=h;obtain⟨t4,f1,h,f3⟩:=pR hq _ _ _ h;obtain⟨u4,g1,h,g3⟩:=pR hq _ _ _ h;obtain⟨hfree,hweak,hQ⟩:=h;have s0:uR t1 σ=σ:=wJ a4;have s1:uR t2 σ1=σ1:=wJ b4;have s2:uR t3 σ2=σ2:=wJ c4;have sA:uR u1 σA=σA:=wJ d4;have sB:uR u2 σB=σB:=wJ e4
 have hls:l=pre++m1 :: (mid1++m2 :: (mid2++post)):=by
  conv=>lhs; rw [<- Ac (sM C.own l) l,R.eq,<- hpost]
  simp
 have hsl:sM C.own l<=l.length:=by
  have:∀ ks:List yY,sM C.own ks<=ks.length:=by
   intro ks
   induction ks with
   | nil=>simp [sM]
   | cons k ks ih=>simp only [sM]; split <;> simp <;> omega
  exact this l
 have hs:sM C.own l=pre.length+1+mid1.length+1+mid2.length:=by have:=congrArg List.length R.eq;rw [π,Nat.min_eq_left hsl] at this;simp at this; omega
 generalize sM C.own l=s at *;obtain⟨x,hx0⟩:∃ x,x=pre.length:=⟨_,rfl⟩;obtain⟨y,hy0⟩:∃ y,y=pre.length+1+mid1.length:=⟨_,rfl⟩;have T3:Trace C (mid2++post) _ σ2 (t3++t4)/\ _/\_:=Trace.append c1 c3 (by rw [s2]; exact f1);have T2:Trace C (m2 :: (mid2++post)) (vD mid1 t2 ((vD pre t1 f).put m1.dst dx)) (uR t2 σ1) ((dy,σ2) :: (t3++t4)):=.cons (by simp only [yB,hg2]; rw [s1]; exact hy) T3.1;have T1:=Trace.append b1 b3 T2;have T0:Trace C (m1 :: (mid1++m2 :: (mid2++post))) (vD pre t1 f) (uR t1 σ) ((dx,σ1) :: (t2++(dy,σ2) :: (t3++t4))):=.cons (by simp only [yB,hg1]; rw [s0]; exact hx) T1.1;obtain⟨k1,k2,k3⟩:=Trace.append a1 a3 T0
 have k2':vD l (t1++(dx,σ1) :: (t2++(dy,σ2) :: (t3++t4))) f=vD post t4 (vD mid2 t3 ((vD mid1 t2 ((vD pre t1 f).put m1.dst dx)).put m2.dst dy)):=by rw [hls,k2];show vD (mid1++m2 :: (mid2++post)) _ _=_;rw [T1.2.1];exact T3.2.1
 have k3':uR (t1++(dx,σ1) :: (t2++(dy,σ2) :: (t3++t4))) σ=uR t4 σ2:=by rw [k3,s0];show uR (t2++(dy,σ2) :: (t3++t4)) σ1=_;rw [T1.2.2,s1];show uR (t3++t4) σ2=_;rw [T3.2.2,s2]
 rw [<- hls] at k1;have U2:Trace C ((mid1++⟨m2.dst,none,.mv (.c dA)⟩ :: mid2)++ post) _ σB (u2++u4)/\ _/\_:=Trace.append e1 e3 (by rw [sB]; exact g1);have U0:Trace C (m1 :: ((mid1++⟨m2.dst,none,.mv (.c dA)⟩ :: mid2)++ post)) (vD pre u1 f) (uR u1 σA) ((dz,σB) :: (u2++u4)):=.cons (by simp only [yB,hg1]; rw [sA]; exact hz) U2.1;obtain⟨j1,j2,j3⟩:=Trace.append d1 d3 U0;obtain⟨l',hl'⟩:∃ l',l'=pre++m1 :: ((mid1++⟨m2.dst,none,.mv (.c dA)⟩ :: mid2)++ post):=⟨_,rfl⟩
 have j2':vD l' (u1++(dz,σB) :: (u2++u4)) f=vD post u4 (vD (mid1++⟨m2.dst,none,.mv (.c dA)⟩ :: mid2) u2 ((vD pre u1 f).put m1.dst dz)):=by rw [hl',j2];show vD ((mid1++⟨m2.dst,none,.mv (.c dA)⟩ :: mid2)++ post) _ _=_;exact U2.2.1
 have j3':uR (u1++(dz,σB) :: (u2++u4)) σA=uR u4 σB:=by rw [j3,sA];show uR (u2++u4) σB=_;rw [U2.2.2,sB]
 rw [<- hl'] at j1;rw [<- k2',<- j2'] at hfree;rw [<- k2',<- k3',<- j2',<- j3'] at hweak;rw [<- k2',<- k3'] at hQ
 have hlen:(t1++(dx,σ1) :: (t2++(dy,σ2) :: (t3++t4))).length=l.length:=by rw [hls]; simp only [ψ,υ,a3,b3,c3,f3]
 have hlen':(u1++(dz,σB) :: (u2++u4)).length=l'.length:=by rw [hl']; simp only [ψ,υ,d3,e3,g3]
 have hll:l'.length=l.length:=by rw [hl',hls]; simp only [ψ,υ,Ag,List.cons_append]
 have hx:x<s:=by omega
 have hy:y<s:=by omega
 have hxy:x<y:=by omega
 obtain⟨hd_,hhd⟩:∃ hd_,hd_=pre++m1 :: (mid1++m2 :: mid2):=⟨_,rfl⟩;obtain⟨tr,htr⟩:∃ tr,tr=t1++(dx,σ1) :: (t2++(dy,σ2) :: (t3++t4)):=⟨_,rfl⟩;obtain⟨th,hth⟩:∃ th,th=t1++(dx,σ1) :: (t2++(dy,σ2) :: t3):=⟨_,rfl⟩;obtain⟨tr',htr'⟩:∃ tr',tr'=u1++(dz,σB) :: (u2++u4):=⟨_,rfl⟩;obtain⟨th',hth'⟩:∃ th',th'=u1++(dz,σB) :: u2:=⟨_,rfl⟩;obtain⟨hd',hhd'⟩:∃ hd',hd'=pre++m1 :: (mid1++⟨m2.dst,none,.mv (.c dA)⟩ :: mid2):=⟨_,rfl⟩;rw [<- htr] at k1 hfree hweak hQ hlen;rw [<- htr'] at j1 hfree hweak hlen';have lhd:l=hd_++post:=by rw [hls,hhd]; simp
 have lhd':l'=hd'++post:=by rw [hl',hhd']; simp
 have tth:tr=th++t4:=by rw [htr,hth]; simp
 have tth':tr'=th'++u4:=by rw [htr',hth']; simp
 have nhd:hd_.length=s:=by rw [hhd]; simp; omega
 have nhd':hd'.length=s:=by rw [hhd']; simp; omega
 have nth:th.length=s:=by rw [hth]; simp [a3,b3,c3]; omega
 have nth':th'.length=s:=by rw [hth']; simp [d3,e3]; omega
 have hF3:vD hd_ th f=vD mid2 t3 ((vD mid1 t2 ((vD pre t1 f).put m1.dst dx)).put m2.dst dy):=by rw [hhd,hth,mP _ _ _ a3];show vD (mid1++m2 :: mid2) (t2++(dy,σ2) :: t3) _=_;rw [mP _ _ _ b3]; rfl
 have hG3:vD hd' th' f=vD (mid1++⟨m2.dst,none,.mv (.c dA)⟩ :: mid2) u2 ((vD pre u1 f).put m1.dst dz):=by rw [hhd',hth',mP _ _ _ d3]; rfl
 rw [<- hF3] at q0 q1 q2;rw [<- hG3] at qA qB;have dq:∀ dx dy,(TI pre m1.dst dx mid1 m2.dst dy mid2).map (·.dst)= hd_.map (·.dst):=λdx dy=>by rw [hhd]; simp [TI]
 have dq':∀ dx dy,(TI pre m1.dst dx mid1 m2.dst dy mid2).map (·.dst)= hd'.map (·.dst):=λdx dy=>by rw [hhd']; simp [TI]
 have dok:uG hd_=true:=by have:=R.I8; rw [R.eq,<- hhd] at this; exact this
 have dok':uG hd'=true:=(mg ((dq' dx dy).symm.trans (dq dx dy))).trans dok
 have qat:∀ dx dy i,i≠x->i≠y->(TI pre m1.dst dx mid1 m2.dst dy mid2)[i]?=hd_[i]?:=λdx dy i h1 h2=>by rw [hhd];show (pre++_ :: (mid1++_ :: mid2))[i]?=_;rw [af (c:=m1) (by omega),show pre++m1 :: (mid1++⟨m2.dst,none,DK.mv (.c dy)⟩ :: mid2)= (pre++m1 :: mid1)++ ⟨m2.dst,none,DK.mv (.c dy)⟩ :: mid2 by simp,af (c:=m2) (by simp; omega)];simp
 have hat:∀ i,i≠y->hd'[i]?=hd_[i]?:=λi h2=>by rw [hhd,hhd',show pre++m1 :: (mid1++⟨m2.dst,none,DK.mv (.c dA)⟩ :: mid2)= (pre++m1 :: mid1)++ ⟨m2.dst,none,DK.mv (.c dA)⟩ :: mid2 by simp,af (c:=m2) (by simp; omega)];simp
 have lat:∀ i,i≠y->l'[i]?=l[i]?:=λi h2=>by rw [hls,hl',show pre++m1 :: ((mid1++⟨m2.dst,none,DK.mv (.c dA)⟩ :: mid2)++ post)= (pre++m1 :: mid1)++ ⟨m2.dst,none,DK.mv (.c dA)⟩ :: (mid2++post) by simp,af (c:=m2) (by simp; omega)];simp
 have ly:l[y]?=some m2:=by have:=ZI (A:=pre++m1 :: mid1) (B:=mid2++post) (b:=m2);rw [hls,hy0];rw [show (pre++m1 :: mid1).length=pre.length+1+mid1.length by simp; omega] at this;rw [<- this]; simp
 have ly':l'[y]?=some ⟨m2.dst,none,.mv (.c dA)⟩:=by have:=ZI (A:=pre++m1 :: mid1) (B:=mid2++post) (b:=(⟨m2.dst,none,.mv (.c dA)⟩:yY));rw [hl',hy0];rw [show (pre++m1 :: mid1).length=pre.length+1+mid1.length by simp; omega] at this;rw [<- this]; simp
 have lx:l[x]?=some m1:=by rw [hls,hx0]; exact ZI
 have ldst:∀ j,uT l' j=uT l j:=λj=>by
  unfold uT
  by_cases h:j=y
  ·subst h; rw [ly,ly']; rfl
  ·rw [lat j h]
 have tdy:uV tr' y=dA:=by have hjt:=j1.at y _ ly';obtain⟨d,σ',h1,h2⟩:=hjt;simp only [yB,qW,pW,pI] at h2;simp only [uV,h1,As,Aq];exact h2.1.symm
 have muh:∀ i,i<s->(pJ C.own l i=true ↔ i=x\/i=y):=λi hi=>by
  have hli:l[i]?=hd_[i]?:=by rw [lhd,δ (by omega)]
  rcases Ak i x with h | h | h
  ·have:hd_[i]?=pre[i]?:=by rw [hhd,δ (by omega)]
   rw [tE (hli.trans (this.trans (ζ (by omega)))),R.n1 _ (ο _)];simp; omega
  ·subst h; rw [tE lx,R.n2]; simp
  ·rcases Ak i y with g | g | g
   ·obtain⟨k,rfl⟩:∃ k,i=pre.length+(k+1):=⟨i-pre.length-1,by omega⟩
    have:hd_[pre.length+(k+1)]?=mid1[k]?:=by rw [hhd,ε (by omega),show pre.length+(k+1)-pre.length=k+1 by omega,η,δ (by omega)]
    rw [tE (hli.trans (this.trans (ζ (by omega)))),R.n3 _ (ο _)];simp; omega
   ·subst g; rw [tE ly,R.n4]; simp
   ·obtain⟨k,rfl⟩:∃ k,i=pre.length+1+mid1.length+(k+1):=⟨i-(pre.length+1+mid1.length)-1,by omega⟩
    have:hd_[pre.length+1+mid1.length+(k+1)]?=mid2[k]?:=by rw [hhd,ε (by omega),show pre.length+1+mid1.length+(k+1)-pre.length=(mid1.length+(k+1))+ 1 by omega,η,ε (by omega),show mid1.length+(k+1)-mid1.length=k+1 by omega,η]
    rw [tE (hli.trans (this.trans (ζ (by omega)))),R.n5 _ (ο _)];simp; omega
 have st0:∀ p,p<=x->uR (tr.take p) σ=σ:=λp hp=>by rw [htr,γ (by omega)];exact wJ λx hx=>a4 x (μ hx)
 have st1:∀ p,x<p->p<=y->uR (tr.take p) σ=σ1:=λp h1 h2=>by obtain⟨k,rfl⟩:∃ k,p=t1.length+(k+1):=⟨p-t1.length-1,by omega⟩;rw [htr,θ,ν,γ (by omega),nS];exact wJ (t:=t2.take k) λx hx=>b4 x (μ hx)
 have st2:∀ p,y<p->p<=s->uR (tr.take p) σ=σ2:=λp h1 h2=>by obtain⟨k,rfl⟩:∃ k,p=t1.length+((t2.length+(k+1))+ 1):=⟨p-t1.length-1-t2.length-1,by omega⟩;rw [htr,θ,ν,θ,ν,γ (by omega),nS];show uR (t2++(dy,σ2) :: t3.take k) σ1=σ2;rw [nS];exact wJ (t:=t3.take k) λx hx=>c4 x (μ hx)
 have stA:∀ p,p<=x->uR (tr'.take p) σA=σA:=λp hp=>by rw [htr',γ (by omega)];exact wJ λx hx=>d4 x (μ hx)
 have stB:∀ p,x<p->p<=s->uR (tr'.take p) σA=σB:=λp h1 h2=>by
  have hu2:u2.length=mid1.length+1+mid2.length:=by rw [e3]; simp; omega
  obtain⟨k,rfl⟩:∃ k,p=u1.length+(k+1):=⟨p-u1.length-1,by omega⟩;rw [htr',θ,ν,γ (by omega),nS];exact wJ (t:=u2.take k) λx hx=>e4 x (μ hx)
 have sp:ZF ops l s (pJ C.own l) (λi j=>i==pre.length&&j==pre.length+1+mid1.length):=uh R.ok;have bk:ZE ops:=ug R.ok;have hal3:m2.names=(⟨m2.dst,none,.mv (.c dA)⟩:yY).names:=by unfold yY.names; rw [hal,hg2]; rfl
 obtain⟨hdl,hdg⟩:=uS hd;have hdl2:l.length=ops.size:=by simpa using hdl
 have G':Good C E a { w with drawn:=w.drawn+1 } f σ:=by obtain⟨ι,G⟩:=G;have hk:Kept w w.drew λ_=>False:=(Kept.refl _ _).drew;have hS:=G.mL.ext hk;exact⟨ι,⟨G.size,G.defers.zN rfl (Aj _) λD hD=>hD,G.nx,G.kept.drew,hS,G.oJ,G.qK,G.stay,G.fr.zN (λb hb _=>rfl) (λ_ _ h=>h) hk.shape (λ_ _=>rfl) (Aj _)⟩⟩
 have hf0:∀ j,(Array.replicate ops.size false).getD j false=false:=getD_replicate_false ops.size
 refine wpIn_region_any hm (oz (ds:=l) (tr:=tr) (s:=s) (mu:=pJ C.own l) (f:=f) (σ:=σ) (xo:=λi j=>i==pre.length&&j==pre.length+1+mid1.length) (l0:=λ_=>false) hdl (λi o h=>by obtain⟨dop,h1,h2⟩:=hdg i o h; exact⟨dop,h1,λ_=>h2⟩) sp bk (λi j h=>by simp at h; omega) k1 hlen hsl (λm hms hmm=>?_) (λi hi him=>?_) (λi dop p V8 him hps hdop hns hor=>?_) (λa w G'=>⟨_,_,G',hQ⟩) (λfuel listed a w i j hfew I hi hxo hlj=>?_) _ _ _ _ ?_ ⟨by simp,(λ_ j _ h=>by rw [hf0] at h; cases h),(λ_ h=>by cases h),(λj o _ hT=>by rw [hf0] at hT; cases hT),f,λt=>?_,?_⟩)
 ·rcases(muh m hms).1 hmm with rfl | rfl
  ·rw [tB lx]; exact R.T8
  ·rw [tB ly]; exact hal2
 ·have hne:i≠x/\i≠y:=by
   refine⟨λh=>?_,λh=>?_⟩
   ·rw [(muh i hi).2 (.inl h)] at him; cases him
   ·rw [(muh i hi).2 (.inr h)] at him; cases him
  rcases Ai i x with h | h
  ·rw [st0 (i+1) (by omega),st0 i (by omega)]
  ·rcases Ai i y with g | g
   ·rw [st1 (i+1) (by omega) (by omega),st1 i (by omega) (by omega)]
   ·rw [st2 (i+1) (by omega) (by omega),st2 i (by omega) (by omega)]
 ·have hne:i≠x/\i≠y:=by
   refine⟨λh=>?_,λh=>?_⟩
   ·rw [(muh i V8).2 (.inl h)] at him; cases him
   ·rw [(muh i V8).2 (.inr h)] at him; cases him
  have z1:l.take i=hd_.take i:=by rw [lhd,γ (by omega)]
  have z2:tr.take i=th.take i:=by rw [tth,γ (by omega)]
  have z3:uV tr i=uV th i:=by unfold uV; rw [tth,δ (by omega)]
  have z4:hd_[i]?=some dop:=by rw [<- hdop,lhd,δ (by omega)]
  rw [z1,z2,z3]
  rcases Ai x p with h | h
  ·rcases Ai y p with g | g
   ·rw [st2 p g hps]; exact eA (dq dx dy) dok (by omega) q2 ((qat dx dy i hne.1 hne.2).trans z4)
   ·rw [st1 p h g]; exact eA (dq dx dy) dok (by omega) q1 ((qat dx dy i hne.1 hne.2).trans z4)
  ·rw [st0 p h]; exact eA (dq dx dy) dok (by omega) q0 ((qat dx dy i hne.1 hne.2).trans z4)
 ·-- THE OBJECT COMES FIRST
  simp only [Au,beq_iff_eq] at hxo;obtain⟨rfl,rfl⟩:j=x/\i=y:=by omega
  obtain⟨hun,o,ho,hall⟩:=mem_ready.1 hi;have hlt:i<ops.size:=(Array.getElem?_eq_some_iff.1 ho).1;have hTi:listed.getD i false=false:=getD_both hun;have hol:ops.toList[i]?=some o:=by simpa using ho
  obtain⟨dop,hdop,hmk⟩:=hdg i o hol;obtain rfl:dop=m2:=by rw [ly] at hdop; exact(Option.some.inj hdop).symm
  have hTlen:∀ j,listed.getD j false=true->j<ops.toList.length:=by
   intro j hj
   rcases Ai j listed.size with h | h
   ·simp; rw [<- I.size]; exact h
   ·simp [Array.getElem?_eq_none h] at hj
  have late:∀ k,listed.getD k false=false->∀ m,ordered (wH ops.toList []) k m=true->listed.getD m false=false:=by
   intro k hk m hm2
   by_cases h:listed.getD m false=true
   ·have this:listed.getD k false=true:=oP (T:=λj=>listed.getD j false) I.closed hTlen m h k hm2;rw [hk] at this;cases this
   ·simpa using h
  have hopsj:∀ j,j<l.length->ops.toList[j]?=some (ops.toList.getD j o):=λj hj=>by
   have:j<ops.toList.length:=by omega
   simp only [List.getD,ζ this,Aq]
  have hdsj:∀ j,j<l.length->l[j]?=some (l.getD j dop):=λj hj=>by simp [List.getD,hj]
  have post0:∀ k,k<l.length->s<=k->uN l k=false->listed.getD k false=false:=by
   intro k hk hks hns;rw [tB (hdsj k hk)] at hns
   rcases sp (hopsj k hk) (hdsj k hk) ly (by omega:i<k) with h | ⟨_,h | h | h | h⟩
   ·exact late i hTi k h
   ·omega
   ·rw [hal2] at h; cases h
   ·rw [hns] at h; cases h
   ·simp at h; omega
  have hT':∀ k,(listed.setIfInBounds i true).getD k false=if i=k then true else listed.getD k false:=by
   intro k
   by_cases h:i=k
   ·subst h;have:i<listed.size:=by rw [I.size]; exact hlt
    simp [this]
   ·rw [if_neg h];exact getD_set_ne false h
  obtain⟨g,hg,G2⟩:=I.j0
  have hsil:∀ (ds:List yY) (tr:List (D × St)) (f:Fr) (σ:St) (mu:Nat->Bool),Trace C ds f σ tr->(∀ i,i<s->mu i=false->uR (tr.take (i+1)) σ=uR (tr.take i) σ)->∀ j,j<ds.length->quiet ds mu s j=true->uR (tr.take (j+1)) σ=uR (tr.take j) σ:=by
   intro ds tr f σ mu ht hpre j hj hs
   by_cases hsj:uN ds j=true
   ·have ho:ds[j]?=some ds[j]:=ζ hj;obtain⟨d,σ',h1,h2⟩:=ht.at j _ ho;rw [yq tr σ j _ h1];simp only [uN,ho,As,Aq] at hsj;unfold yB at h2
    split at h2
    ·exact(lI hsj h2).1
    ·split at h2
     ·exact(Classical.em _).elim (λhbw=>(lI hsj ((tS h2).1 hbw)).1) (λhbw=>((tS h2).2 hbw).2)
     ·exact h2.2
     ·exact h2.elim
   ·simp only [quiet,Bool.or_eq_true,hsj,false_or,Au,decide_eq_true_eq,Bool.false_eq_true,Bool.not_eq_true'] at hs;exact hpre j hs.1 hs.2
  have preT:∀ i',i'<s->pJ C.own l i'=false->uR (tr.take (i'+1)) σ=uR (tr.take i') σ:=λk hk him=>by
   have hne:k≠j/\k≠i:=by
    refine⟨λh=>?_,λh=>?_⟩
    ·rw [(muh k hk).2 (.inl h)] at him; cases him
    ·rw [(muh k hk).2 (.inr h)] at him; cases him
   rcases Ai k j with h | h
   ·rw [st0 (k+1) (by omega),st0 k (by omega)]
   ·rcases Ai k i with g | g
    ·rw [st1 (k+1) (by omega) (by omega),st1 k (by omega) (by omega)]
    ·rw [st2 (k+1) (by omega) (by omega),st2 k (by omega) (by omega)]
  have hst:SV (quiet l (pJ C.own l) s) tr σ (λi=>listed.getD i false) l.length=σ:=by
   rw [bA (i:=0) (hsil l tr f σ _ k1 preT) l.length (Aj _) λk hk hq=>⟨λhT=>?_,λh=>by omega⟩]
   ·simp [uR]
   ·exfalso;obtain⟨h1,h2⟩:=tA.1 hq
    rcases Ai k s with h | h
    ·rcases(muh k h).1 (h2.resolve_right (by omega)) with rfl | rfl
     ·rw [hlj] at hT; cases hT
     ·rw [hTi] at hT; cases hT
    ·rw [post0 k hk h h1] at hT; cases hT
  rw [hst] at G2
  have key:yB dop g (qW C σ (pI g) dop.k λx y=>x=dA/\y=σA) (D.rJ=dA/\σ=σA):=by simp only [yB,hg2];exact cQ (λx hx=>by rw [hal] at hx; cases hx) hA
  have hstep:=wq (next:=wpAnyIn C.F 0 C.P .any ops (LQ C E Q) fuel (listed.setIfInBounds i true)) (Q:=LQ C E Q) (K:=λx y=>x=dA/\y=σA) hmk G2 (pK key (λh=>h) (λh=>h)) (λa' w' d' σ'' G3 hk=>by
   obtain⟨rfl,rfl⟩:=hk
   refine oz (ds:=l') (tr:=tr') (s:=s) (mu:=λi=>decide (i=j)) (f:=f) (σ:=σ'') (xo:=λ_ _=>false) (l0:=λk=>decide (k=i)) (by omega) (λk o' h=>?_) (λ{i1 j1 oj di dj} h1 h2 h3 h4=>?_) bk (λ_ _ h=>by cases h) j1 hlen' (by omega) (λm hms hmm=>?_) (λk hk him=>?_) (λk dop2 p V8 him hps hdq hns hor=>?_) (λa w G'=>⟨_,_,hweak E a w G',hQ⟩) (λ_ _ _ _ _ _ _ _ _ h=>by cases h) _ _ _ _ hfew ⟨by simp [I.size],(λ_ _ h=>by cases h),λk hk=>?_,λk ok hk hT e he hb=>?_,g.put dop.dst d',λt=>?_,?_⟩
   ·obtain⟨dop3,g1,g2⟩:=hdg k o' h
    by_cases hki:k=i
    ·subst hki; exact⟨_,ly',λh=>by simp at h⟩
    ·exact⟨dop3,(lat k hki).trans g1,λ_=>g2⟩
   ·by_cases hj1:j1=i
    ·subst hj1;rw [ly'] at h2; cases h2;rw [lat i1 (by omega)] at h3
     rcases sp h1 ly h3 h4 with h | ⟨h,_⟩
     ·exact .inl h
     ·exact .inr ⟨(Zp (a:=⟨dop.dst,none,.mv (.c d')⟩) (b:=dop) rfl hal3.symm).trans h,.inr (.inr (.inl rfl))⟩
    ·rw [lat j1 hj1] at h2
     by_cases hi1:i1=i
     ·subst hi1;rw [ly'] at h3; cases h3
      rcases sp h1 h2 ly h4 with h | ⟨h,_⟩
      ·exact .inl h
      ·exact .inr ⟨(W8 (a:=⟨dop.dst,none,.mv (.c d')⟩) (b:=dop) rfl hal3.symm).trans h,.inr (.inl rfl)⟩
     ·rw [lat i1 hi1] at h3
      rcases sp h1 h2 h3 h4 with h | ⟨h,h5 | h5 | h5 | h5⟩
      ·exact .inl h
      ·exact .inr ⟨h,.inl ⟨h5.1,λ⟨q1,q2⟩=>by simp at q1 q2; omega⟩⟩
      ·exact .inr ⟨h,.inr (.inl h5)⟩
      ·exact .inr ⟨h,.inr (.inr (.inl h5))⟩
      ·simp at h5; omega
   ·obtain rfl:m=j:=by simpa using hmm
    rw [tB ((lat m (by omega)).trans lx)]; exact R.T8
   ·have hkj:k≠j:=by simpa using him
    rcases Ai k j with h | h
    ·rw [stA (k+1) (by omega),stA k (by omega)]
    ·rw [stB (k+1) (by omega) (by omega),stB k (by omega) (by omega)]
   ·have hkj:k≠j:=by simpa using him
    have hki:k≠i:=λh=>by subst h; rw [ly'] at hdq; cases hdq; cases hns
    have z1:l'.take k=hd'.take k:=by rw [lhd',γ (by omega)]
    have z2:tr'.take k=th'.take k:=by rw [tth',γ (by omega)]
    have z3:uV tr' k=uV th' k:=by unfold uV; rw [tth',δ (by omega)]
    have z4:hd_[k]?=some dop2:=by rw [<- hat k hki,<- hdq,lhd',δ (by omega)]
    rw [z1,z2,z3]
    rcases Ai j p with h | h
    ·rw [stB p h hps]; exact eA (dq' dz d') dok' (by omega) qB ((qat dz d' k hkj hki).trans z4)
    ·rw [stA p h]; exact eA (dq' dz d') dok' (by omega) qA ((qat dz d' k hkj hki).trans z4)
   ·obtain rfl:k=i:=by simpa using hk
    rw [hT',if_pos rfl]
   ·by_cases h:i=k
    ·subst h;rw [hol] at hk;simp at hk; subst hk;exact getD_set_true (hall e he hb)
    ·rw [hT',if_neg h] at hT;exact getD_set_true (I.closed k ok hk hT e he hb)
   ·have hnd:(l'.filterMap (·.dst)).Nodup:=by
     have:l'.filterMap (·.dst)= l.filterMap (·.dst):=by rw [hls,hl']; simp [List.filterMap_append,Ad]
     rw [this]; exact R.nodup
    by_cases hdt:dop.dst=some t
    ·rw [hdt,Fr.dC,if_pos rfl,gY (i:=i) (by rw [hT' i]; simp) (by rw [ldst,uT,ly]; exact hdt) l'.length (by omega) λk h1 h2 h3=>?_]
     ·exact tdy.symm
     ·have:=wm hnd h3 (by rw [ldst,uT,ly]; exact hdt:uT l' i=some t);omega
    ·have e1:(g.put dop.dst d').get t=g.get t:=by
      cases hdd:dop.dst with
      | none=>rfl
      | some u=>rw [Fr.dC,if_neg (λe=>by subst e; exact hdt hdd)]
     rw [e1,hg t,hll];refine(VG ldst l.length λk hk hkt=>?_).symm;have hki:k≠i:=λe=>by subst e; rw [uT,ly] at hkt; exact hdt hkt
     refine⟨by rw [hT',if_neg (λe=>hki e.symm)],λhT=>?_⟩;have hkj:k≠j:=λe=>by subst e; rw [hlj] at hT; cases hT
     have hfr:t ∈ free:=by
      rw [R.fr];unfold Sp;refine Af.2 ⟨k,χ.2 hk,?_⟩
      have o1:ordered (wH ops.toList []) pre.length k=false:=by
       cases h:ordered (wH ops.toList []) pre.length k with
       | false=>rfl
       | true=>rw [<- hx0] at h; rw [late j hlj k h] at hT; cases hT
      have o2:ordered (wH ops.toList []) (pre.length+1+mid1.length) k=false:=by
       cases h:ordered (wH ops.toList []) (pre.length+1+mid1.length) k with
       | false=>rfl
       | true=>rw [<- hy0] at h; rw [late i hTi k h] at hT; cases hT
      rw [if_neg (by simp [o1,o2]; omega)];exact hkt
     have:=hfree t hfr;rw [VD hlen R.nodup hk hkt,VD hlen' hnd (by omega:k<l'.length) ((ldst k).trans hkt)] at this;exact this.symm
   ·have:SV (quiet l' (λi=>decide (i=j)) s) tr' σ'' (λk=>(listed.setIfInBounds i true).getD k false) l'.length=σ'':=by
     rw [bA (i:=0) (hsil l' tr' f σ'' _ j1 (λk hk him=>by
      have hkj:k≠j:=by simpa using him
      rcases Ai k j with h | h
      ·rw [stA (k+1) (by omega),stA k (by omega)]
      ·rw [stB (k+1) (by omega) (by omega),stB k (by omega) (by omega)])) l'.length (Aj _) λk hk hq=>⟨λhT=>?_,λh=>by omega⟩]
     ·simp [uR]
     ·exfalso;obtain⟨h1,h2⟩:=tA.1 hq;have hki:k≠i:=λh=>by subst h; rw [tB ly'] at h1; cases h1
      rw [hT',if_neg (λh=>hki h.symm)] at hT
      rcases h2 with h2 | h2
      ·obtain rfl:k=j:=by simpa using h2
       rw [hlj] at hT; cases hT
      ·rw [post0 k (by omega) h2 (by unfold uN at h1 ⊢; rw [<- lat k hki]; exact h1)] at hT; cases hT
    rw [this];exact G3)
  unfold wpOpIn;simp only [ho];exact hstep
 ·exact Nat.le_trans (List.length_filter_le _ _) (by simp)
 ·rw [qj (i:=0) l.length λj _ _=>⟨(λh=>by rw [hf0] at h; cases h),λh=>by omega⟩];simp [LV]
 ·have:SV (quiet l (pJ C.own l) s) tr σ (λi=>(Array.replicate ops.size false).getD i false) l.length=σ:=by refine(ZH (k:=0) _ λj _ _ (hT:(Array.replicate ops.size false).getD j false=true)=>by rw [hf0] at hT; cases hT).trans (if_neg λh=>?_);have h2:(Array.replicate ops.size false).getD 0 false=true:=h.2.1;rw [hf0] at h2; cases h2
  rw [this];exact G'
def eX : List Nat->Fr->Fr->Prop
 | [],_,_=>True
 | t :: r,f,g=>f.get t=g.get t/\eX r f g
theorem mj : ∀ {l:List Nat} {f g:Fr},eX l f g=∀ t ∈ l,f.get t=g.get t
 | [],f,g=>by simp [eX]
 | t :: r,f,g=>by simp [eX,mj (l:=r)]
theorem gR (f g:Fr):eX [] f g=True:=rfl
theorem kQ (t:Nat) (r:List Nat) (f g:Fr):eX (t :: r) f g=(f.get t=g.get t/\eX r f g):=rfl
def rq (C:Cx) (σ:St) (pre:List yY) (o1:Option Nat) (dx:D) (mid1:List yY) (o2:Option Nat) (dy:D) (mid2:List yY) (g f:Fr):Prop:= oM C σ pre (oM C σ (⟨o1,none,.mv (.c dx)⟩ :: mid1) (oM C σ (⟨o2,none,.mv (.c dy)⟩ :: mid2) (N0 g))) f
def Lc (C:Cx) (free:List Nat) (K:Fr->St->Prop) (f4:Fr) (σ4:St) (g4:Fr) (σ5:St):Prop:=eX free f4 g4/\yR C g4 σ5 f4 σ4/\K f4 σ4
def Lb (C:Cx) (post:List yY) (free:List Nat) (K:Fr->St->Prop) (g3:Fr) (σB:St) (f4:Fr) (σ4:St):Prop:=zt C post (Lc C free K f4 σ4) g3 σB
def La (C:Cx) (pre:List yY) (o1:Option Nat) (dz:D) (mid1:List yY) (o2:Option Nat) (dA:D) (mid2 post:List yY) (free:List Nat) (K:Fr->St->Prop) (f f3:Fr) (σ2 σA σB:St) (g3:Fr):Prop:= rq C σA pre o1 dz mid1 o2 dA mid2 g3 f/\rq C σB pre o1 dz mid1 o2 dA mid2 g3 f/\zt C post (Lb C post free K g3 σB) f3 σ2
def LX (C:Cx) (pre:List yY) (o1:Option Nat) (mid1:List yY) (o2:Option Nat) (dA:D) (mid2 post:List yY) (free:List Nat) (K:Fr->St->Prop) (f f3:Fr) (σ2 σA:St) (g1:Fr) (dz:D) (σB:St):Prop:= oM C σB mid1 (oM C σB (⟨o2,none,.mv (.c dA)⟩ :: mid2) (La C pre o1 dz mid1 o2 dA mid2 post free K f f3 σ2 σA σB)) (g1.put o1 dz)
def LY (C:Cx) (pre:List yY) (o1:Option Nat) (k1:DK) (mid1:List yY) (o2:Option Nat) (mid2 post:List yY) (free:List Nat) (K:Fr->St->Prop) (f f3:Fr) (σ2:St) (dA:D) (σA:St):Prop:= oM C σA pre (aE C k1 (LX C pre o1 mid1 o2 dA mid2 post free K f f3 σ2 σA) σA) f
def LZ (C:Cx) (pre:List yY) (o1:Option Nat) (k1:DK) (dx:D) (mid1:List yY) (o2:Option Nat) (k2:DK) (dy:D) (mid2 post:List yY) (free:List Nat) (K:Fr->St->Prop) (f:Fr) (σ σ1 σ2:St) (f3:Fr):Prop:= rq C σ pre o1 dx mid1 o2 dy mid2 f3 f/\rq C σ1 pre o1 dx mid1 o2 dy mid2 f3 f/\rq C σ2 pre o1 dx mid1 o2 dy mid2 f3 f/\ku C σ (pI f) k2 (LY C pre o1 k1 mid1 o2 mid2 post free K f f3 σ2)
def V3 (C:Cx) (pre:List yY) (o1:Option Nat) (k1:DK) (dx:D) (mid1:List yY) (o2:Option Nat) (k2:DK) (mid2 post:List yY) (free:List Nat) (K:Fr->St->Prop) (f:Fr) (σ σ1:St) (f2:Fr) (dy:D) (σ2:St):Prop:= oM C σ2 mid2 (LZ C pre o1 k1 dx mid1 o2 k2 dy mid2 post free K f σ σ1 σ2) (f2.put o2 dy)
def V2 (C:Cx) (pre:List yY) (o1:Option Nat) (k1:DK) (mid1:List yY) (o2:Option Nat) (k2:DK) (mid2 post:List yY) (free:List Nat) (K:Fr->St->Prop) (f:Fr) (σ:St) (f1:Fr) (dx:D) (σ1:St):Prop:= oM C σ1 mid1 (aE C k2 (V3 C pre o1 k1 dx mid1 o2 k2 mid2 post free K f σ σ1) σ1) (f1.put o1 dx)
def c7 (C:Cx) (pre:List yY) (o1:Option Nat) (k1:DK) (mid1:List yY) (o2:Option Nat) (k2:DK) (mid2 post:List yY) (free:List Nat) (K:Fr->St->Prop) (f:Fr) (σ:St):Prop:= oM C σ pre (aE C k1 (V2 C pre o1 k1 mid1 o2 k2 mid2 post free K f σ) σ) f
theorem rM {C:Cx} {σ:St} {l:List yY} {f:Fr} {K K':Fr->Prop} (h:∀ g,K g=K' g):oM C σ l K f=uW C σ l f K':=by rw [iG,iF,funext h]
theorem qu {C:Cx} {σ:St} {ev:tR->D} {k:DK} {K K':D->St->Prop} (h:∀ d σ',K d σ'=K' d σ'):ku C σ ev k K=qW C σ ev k K':=by rw [ZP,show K=K' from funext λd=>funext λσ'=>h d σ']
theorem w5 {C:Cx} {l:List yY} {f:Fr} {σ:St} {K K':Fr->St->Prop} (h:∀ g s,K g s=K' g s):zt C l K f σ=rH C l f σ K':=by rw [dW,xu,show K=K' from funext λd=>funext λσ'=>h d σ']
theorem nE {C:Cx} {σ:St} {K:Fr->Prop} {l2:List yY}:∀ {l1:List yY} {f:Fr},uW C σ (l1++l2) f K=uW C σ l1 f λg=>uW C σ l2 g K
 | [],f=>rfl
 | o :: r,f=>by have ih:(λg=>uW C σ (r++l2) g K)= λg=>uW C σ r g λg=>uW C σ l2 g K:=funext λg=>nE (l1:=r);show uW C σ (o :: (r++l2)) f K=_;simp only [uW];have:∀ g,uW C σ (r++l2) g K=uW C σ r g λg=>uW C σ l2 g K:=λg=>congrFun ih g;simp only [this]
theorem xz {C:Cx} {σ:St} {pre:List yY} {o1:Option Nat} {dx:D} {mid1:List yY} {o2:Option Nat} {dy:D} {mid2:List yY} {g f:Fr}:rq C σ pre o1 dx mid1 o2 dy mid2 g f=uW C σ (TI pre o1 dx mid1 o2 dy mid2) f λx=>x=g:=by unfold rq TI;rw [nE];refine rM λg1=>?_;rw [show (⟨o1,none,DK.mv (.c dx)⟩:yY) :: (mid1++⟨o2,none,DK.mv (.c dy)⟩ :: mid2)= (⟨o1,none,DK.mv (.c dx)⟩ :: mid1)++ ⟨o2,none,DK.mv (.c dy)⟩ :: mid2 from rfl,nE];exact rM λg2=>rM λg3=>rfl
theorem RJ {C:Cx} {pre:List yY} {o1:Option Nat} {g1:Option (Nat × Bool)} {k1:DK} {mid1:List yY} {o2:Option Nat} {g2:Option (Nat × Bool)} {k2:DK} {mid2 post:List yY} {free:List Nat} {K:Fr->St->Prop} {f:Fr} {σ:St} :
  c7 C pre o1 k1 mid1 o2 k2 mid2 post free K f σ=Vx C pre ⟨o1,g1,k1⟩ mid1 ⟨o2,g2,k2⟩ mid2 post free f σ K:=by
 unfold c7 Vx;refine rM λf1=>qu λdx σ1=>?_;unfold V2;refine rM λf2=>qu λdy σ2=>?_;unfold V3;refine rM λf3=>?_;unfold LZ;refine congr (congrArg And xz) (congr (congrArg And xz) (congr (congrArg And xz) (qu λdA σA=>?_)));unfold LY;refine rM λh1=>qu λdz σB=>?_;unfold LX;rw [nE];refine rM λh2=>rM λg3=>?_;unfold La;refine congr (congrArg And xz) (congr (congrArg And xz) (w5 λf4 σ4=>?_));unfold Lb;refine w5 λg4 σ5=>?_;unfold Lc;rw [mj]
theorem iw {C:Cx} (hm:C.P.follows .mixedOrders=true) {pre:List yY} {o1:Option Nat} {g1:Option (Nat × Bool)} {k1:DK} {mid1:List yY} {o2:Option Nat} {g2:Option (Nat × Bool)} {k2:DK} {mid2 post:List yY} {free:List Nat} {f:Fr} {σ:St} {Q:Exit->Fr->St->Prop}
  (h:c7 C pre o1 k1 mid1 o2 k2 mid2 post free (gC Q) f σ):wpS C (.bK pre ⟨o1,g1,k1⟩ mid1 ⟨o2,g2,k2⟩ mid2 post free) f σ Q:=
 Rt hm (RJ ▸ h)
theorem Xw {C:Cx} {pre:List yY} {m1:yY} {mid1:List yY} {m2:yY} {mid2 post:List yY} {free:List Nat} {f:Fr} {σ:St} {Q:Exit->Fr->St->Prop}:lf C (.bK pre m1 mid1 m2 mid2 post free) Q f σ=wpS C (.bK pre m1 mid1 m2 mid2 post free) f σ Q:=by rw [pY]; rfl
def fE : List Bool->List yY->Fr->List yY
 | true :: fl,o :: r,f1=>⟨o.dst,none,.mv (.c (match o.dst with | some t=>f1.get t | none=>.top))⟩ :: fE fl r f1
 | false :: fl,o :: r,f1=>o :: fE fl r f1
 | [],l,_=>l
 | _,[],_=>[]
theorem wy : ∀ {fl:List Bool} {l:List yY} {f1:Fr},(fE fl l f1).map (·.dst)= l.map (·.dst)
 | true :: fl,o :: r,f1=>by simp only [fE,Aa,wy (l:=r)]
 | false :: fl,o :: r,f1=>by simp only [fE,Aa,wy (l:=r)]
 | [],l,f1=>by cases l <;> rfl
 | true :: fl,[],f1=>rfl
 | false :: fl,[],f1=>rfl
theorem pw : ∀ {fl:List Bool} {l:List yY} {f1:Fr} {i:Nat},fl.getD i false=false->(fE fl l f1)[i]?=l[i]?
 | true :: fl,o :: r,f1,0,h=>by simp at h
 | false :: fl,o :: r,f1,0,h=>rfl
 | true :: fl,o :: r,f1,i+1,h=>by simp only [fE,η]; exact pw (by simpa using h)
 | false :: fl,o :: r,f1,i+1,h=>by simp only [fE,η]; exact pw (by simpa using h)
 | [],l,f1,i,h=>by cases l <;> rfl
 | true :: fl,[],f1,i,h=>rfl
 | false :: fl,[],f1,i,h=>rfl
def W0 (C:Cx) (pre:List yY) (m:yY) (mid:List yY) (un:Bool) (post:List yY) (fl:List Bool) (f:Fr) (σ:St) (K:Fr->St->Prop):Prop:= uW C σ pre f λf1=>qW C σ (pI f1) m.k λd σ1=>uW C σ1 (fE fl pre f1) f (λg=>g=f1)/\ uW C σ1 mid (f1.put m.dst d) λf2=>(if un=true then uW C σ mid (f1.put m.dst d) (λg=>g=f2) else True)/\ rH C post f2 σ1 K
theorem Qj {P:Program} {N:Nat} {own:List Nat} {code:Code} {pre:List yY} {m:yY} {mid:List yY} {un:Bool} {post:List yY} {fl:List Bool} (h:sJ P N own code=some (.aJ pre m mid un post fl)) :
  ∃ id ops l,code = .region id ops true/\uH (iP P N own ops) ops.toList=some l/\own.contains 77777=false/\qm ops.toList l (sM own l) (pJ own l)= true/\post=l.drop (sM own l)/\ Ku own ops.toList l (sM own l) pre m mid un fl:=by
 cases code with
 | region id ops draw=>
  simp only [sJ] at h
  split at h
  ·rename_i d hd;cases h
   rcases gT hd with ⟨_,h2 | h2 | h2⟩ | ⟨_,h2,_⟩
   ·obtain⟨_,_,_,_,_,_,_,_,_,_,_,_,_,_,_,e⟩:=qR h2; cases e
   ·obtain⟨_,_,_,_,_,_,_,_,_,_,_,_,_,_,e⟩:=iY h2; cases e
   ·obtain⟨_,_,_,_,_,_,_,_,_,_,_,e⟩:=iW h2; cases e
   ·obtain⟨_,_,_,_,_,_,_,_,_,_,_,_,_,_,_,e⟩:=qR h2; cases e
  ·simp only [Ar,Ap] at h;obtain⟨l,hl,h⟩:=h
   split at h
   ·rename_i hdr
    split at h
    ·rename_i hok
     split at h
     ·rename_i d hv;cases h;obtain⟨_,_,_,_,_,_,e,hp,hR⟩:=gV hv;cases e;subst hdr;exact⟨id,ops,l,rfl,hl,hok.1,hok.2,hp,hR⟩
     ·rcases kT h with ⟨e,_⟩ | ⟨_,_,_,_,_,e,_⟩ | ⟨_,_,_,_,_,_,_,_,_,_,_,e,_⟩ <;> cases e
    ·split at h
     ·obtain⟨_,_,_,_,_,_,_,e,_⟩:=gU h;cases e
     ·cases h
   ·simp at h
 | rangeFunc g0 ps0 a c=> simp [sJ,Ap] at h
 | seq a b=> simp only [sJ,zO] at h;obtain⟨dx,hx,dy,hy,h⟩:=h;rcases vF dx dy with e | ⟨_,_,_,_,_,_,_,_,_,_,_,_,e,_⟩ <;> rw [e] at h <;> cases h
 | _=>simp [sJ,Ap] at h
theorem Rv {C:Cx} (hm:C.P.follows .mixedOrders=true) {pre:List yY} {o:yY} {mid:List yY} {un:Bool} {post:List yY} {fl:List Bool} {f:Fr} {σ:St} {Q:Exit->Fr->St->Prop}
  (h:W0 C pre o mid un post fl f σ (Q .normal)):wpS C (.aJ pre o mid un post fl) f σ Q:=by
 intro code hc E a w G;obtain⟨id,ops,l,rfl,hd,hq,hok,hpost,R⟩:=Qj hc;obtain⟨⟨heq,d1,d2,n1,n2,n3,hloud⟩,hw,hfl⟩:=R;have hg:=pL n2
 have hsl:sM C.own l<=l.length:=by
  have:∀ ks:List yY,sM C.own ks<=ks.length:=by
   intro ks
   induction ks with
   | nil=>simp [sM]
   | cons k ks ih=>simp only [sM]; split <;> simp <;> omega
  exact this l
 have hl:l=pre++o :: (mid++post):=by
  conv=>lhs; rw [<- Ac (sM C.own l) l,heq,<- hpost]
  simp
 have hs:sM C.own l=pre.length+1+mid.length:=by have:=congrArg List.length heq;rw [π,Nat.min_eq_left hsl] at this;simp at this; omega
 generalize sM C.own l=s at *;unfold W0 at h;obtain⟨t1,h1,h2,h3,h4⟩:=zG _ _ h;obtain⟨d,σ1,g1,p1,p2⟩:=lZ hq h2;obtain⟨t3,r1,r2,r3,r4⟩:=zG _ _ p2;obtain⟨ru,r2⟩:=r2;obtain⟨t2,s1,s2,s3⟩:=pR hq _ _ _ r2;have e0:uR t1 σ=σ:=wJ h4;have e3:uR t3 σ1=σ1:=wJ r4;have c2:Trace C (mid++post) ((vD pre t1 f).put o.dst d) σ1 (t3++t2)/\ _/\_:=Trace.append r1 r3 (by rw [e3]; exact s1);have c1:Trace C (o :: (mid++post)) (vD pre t1 f) (uR t1 σ) ((d,σ1) :: (t3++t2)):=.cons (by simp only [yB,hg]; rw [e0]; exact g1) c2.1;obtain⟨k1,k2,k3⟩:=Trace.append h1 h3 c1;rw [<- hl] at k1 k2
 have hlen:(t1++(d,σ1) :: (t3++t2)).length=l.length:=by rw [hl]; simp [h3,r3,s3]
 have lpre:∀ i,i<pre.length->l[i]?=pre[i]?:=λi hi=>by rw [hl,δ hi]
 have lo:l[pre.length]?=some o:=by rw [hl,ε (by omega),Nat.sub_self]; rfl
 have lmid:∀ k,k<mid.length->l[pre.length+1+k]?=mid[k]?:=λk hk=>by rw [hl,ε (by omega),show pre.length+1+k-pre.length=k+1 by omega,η,δ hk]
 have mpre:∀ i,i<pre.length->pJ C.own l i=false:=λi hi=>by rw [tE ((lpre i hi).trans (ζ hi))]; exact n1 _ (ο _)
 have mo:pJ C.own l pre.length=true:=by rw [tE lo]; exact n2
 have mmid:∀ k,k<mid.length->pJ C.own l (pre.length+1+k)= false:=λk hk=>by rw [tE ((lmid k hk).trans (ζ hk))]; exact n3 _ (ο _)
 have st0:∀ p,p<=pre.length->uR ((t1++(d,σ1) :: (t3++t2)).take p) σ=σ:=λp hp=>by rw [γ (by omega)];exact wJ λx hx=>h4 x (μ hx)
 have st1:∀ k,k<=mid.length->uR ((t1++(d,σ1) :: (t3++t2)).take (pre.length+1+k)) σ=σ1:=λk hk=>by rw [<- h3,show t1.length+1+k=t1.length+(k+1) by omega,θ,ν,γ (by omega),nS];exact wJ λx hx=>r4 x (μ hx)
 refine gQ (mu:=pJ C.own l) (E:=E) (Q:=LQ C E Q) hm hd hok k1 hlen (by omega) (λm hms hmm=>?_) (λi hi him=>?_) (λi dop p V8 him hps hdop hns hor=>?_) (λa w G'=>⟨_,_,G',?_⟩) G
 ·rcases Ak m pre.length with h | h | h
  ·rw [mpre m h] at hmm; cases hmm
  ·subst h; rw [tB lo]; exact hloud
  ·obtain⟨k,rfl⟩:∃ k,m=pre.length+1+k:=⟨m-(pre.length+1),by omega⟩;rw [mmid k (by omega)] at hmm; cases hmm
 ·rcases Ak i pre.length with h | h | h
  ·rw [st0 (i+1) (by omega),st0 i (by omega)]
  ·subst h; rw [mo] at him; cases him
  ·obtain⟨k,rfl⟩:∃ k,i=pre.length+1+k:=⟨i-(pre.length+1),by omega⟩;rw [show pre.length+1+k+1=pre.length+1+(k+1) by omega,st1 (k+1) (by omega),st1 k (by omega)]
 ·have hor:=hor pre.length (by omega) mo
  have hp:(p<=pre.length/\uR ((t1++(d,σ1) :: (t3++t2)).take p) σ=σ)\/(pre.length<p/\uR ((t1++(d,σ1) :: (t3++t2)).take p) σ=σ1):=by
   rcases Ai pre.length p with h | h
   ·obtain⟨k,rfl⟩:∃ k,p=pre.length+1+k:=⟨p-(pre.length+1),by omega⟩;exact .inr ⟨h,st1 k (by omega)⟩
   ·exact .inl ⟨h,st0 p h⟩
  rcases Ak i pre.length with h | h | h
  ·have hdp:pre[i]?=some dop:=(lpre i h).symm.trans hdop;have x5:uV (t1++(d,σ1) :: (t3++t2)) i=uV t1 i:=by simp only [uV]; rw [δ (by omega)]
   have x6:vD (l.take i) ((t1++(d,σ1) :: (t3++t2)).take i) f=vD (pre.take i) (t1.take i) f:=by rw [hl,γ (by omega),γ (by omega)]
   rw [x5,x6]
   rcases hp with ⟨_,hp⟩ | ⟨hp0,hp⟩
   ·rw [hp]; exact tV h1 h3 rfl h4 hdp
   ·rw [hp]
    have hfi:fl.getD i false=false:=by
     cases hx:fl.getD i false with
     | false=>rfl
     | true=>have:=hfl i hx; rw [hor.1 hp0] at this; cases this
    exact eA wy d1 h3 p1 ((pw hfi).trans hdp)
  ·subst h; rw [mo] at him; cases him
  ·obtain⟨k,rfl⟩:∃ k,i=pre.length+1+k:=⟨i-(pre.length+1),by omega⟩;have hk:k<mid.length:=by omega
   have hdp:mid[k]?=some dop:=(lmid k hk).symm.trans hdop
   have x5:uV (t1++(d,σ1) :: (t3++t2)) (pre.length+1+k)= uV t3 k:=by simp only [uV];rw [ε (by omega),h3,show pre.length+1+k-pre.length=k+1 by omega,η,δ (by omega)]
   have x6:vD (l.take (pre.length+1+k)) ((t1++(d,σ1) :: (t3++t2)).take (pre.length+1+k)) f=vD (mid.take k) (t3.take k) ((vD pre t1 f).put o.dst d):=by
    have y1:l.take (pre.length+1+k)= pre++o :: mid.take k:=by rw [hl,show pre.length+1+k=pre.length+(k+1) by omega,θ,ν,γ (by omega)]
    have y2:(t1++(d,σ1) :: (t3++t2)).take (pre.length+1+k)= t1++(d,σ1) :: t3.take k:=by rw [<- h3,show t1.length+1+k=t1.length+(k+1) by omega,θ,ν,γ (by omega)]
    rw [y1,y2,mP _ _ _ h3]; rfl
   rw [x5,x6]
   rcases hp with ⟨hp0,hp⟩ | ⟨_,hp⟩
   ·rw [hp]
    cases un with
    | false=> exfalso;have h2:=qQ (hw rfl) k dop hdp hns;rw [hor.2 hp0] at h2; cases h2
    | true=> simp only [if_true] at ru;obtain⟨t3',u1,u2,u3,u4⟩:=zG _ _ ru;exact tV u1 u3 (oA d2 u3 r3 u2) u4 hdp
   ·rw [hp]; exact tV r1 r3 rfl r4 hdp
 ·rw [k2,k3,e0];show Q .normal (vD (mid++post) (t3++t2) ((vD pre t1 f).put o.dst d)) (uR (t3++t2) σ1);rw [c2.2.1,c2.2.2,e3];exact s2
def rn (C:Cx) (σ1:St) (f1:Fr):List Bool->List yY->(Fr->Prop)->Fr->Prop
 | true :: fl,o :: r,K,f=>rn C σ1 f1 fl r K (f.put o.dst (match o.dst with | some t=>f1.get t | none=>.top))
 | false :: fl,o :: r,K,f=>oM C σ1 [o] (rn C σ1 f1 fl r K) f
 | [],l,K,f=>oM C σ1 l K f
 | _,[],K,f=>K f
theorem w9 {C:Cx} {σ1:St} {f1:Fr}:∀ {fl:List Bool} {l:List yY} {K:Fr->Prop} {f:Fr},rn C σ1 f1 fl l K f=uW C σ1 (fE fl l f1) f K
 | true :: fl,o :: r,K,f=>by show rn C σ1 f1 fl r K _=_;rw [w9]; rfl
 | false :: fl,o :: r,K,f=>by show oM C σ1 [o] (rn C σ1 f1 fl r K) f=uW C σ1 ([o]++fE fl r f1) f K;rw [nE];exact rM λg=>w9
 | [],l,K,f=>by cases l <;> exact rM λg=>rfl
 | true :: fl,[],K,f=>rfl
 | false :: fl,[],K,f=>rfl
theorem gn {C:Cx} {σ1:St} {f1:Fr} {fl:List Bool} {t:Nat} {g:Option (Nat × Bool)} {k:DK} {r:List yY} {K:Fr->Prop} {f:Fr}:rn C σ1 f1 (true :: fl) (⟨some t,g,k⟩ :: r) K f=rn C σ1 f1 fl r K (f.put (some t) (f1.get t)):=rfl
theorem nr {C:Cx} {σ1:St} {f1:Fr} {fl:List Bool} {o:yY} {r:List yY} {K:Fr->Prop} {f:Fr}:rn C σ1 f1 (false :: fl) (o :: r) K f=oM C σ1 [o] (rn C σ1 f1 fl r K) f:=rfl
theorem XU {C:Cx} {σ1:St} {f1:Fr} {K:Fr->Prop} {f:Fr}:rn C σ1 f1 [] [] K f=K f:=by show oM C σ1 [] K f=K f;rw [XV]
def LK (C:Cx) (pre:List yY) (dst:Option Nat) (mid:List yY) (un:Bool) (post:List yY) (fl:List Bool) (K:Fr->St->Prop) (f:Fr) (σ:St) (f1:Fr) (d:D) (σ1:St):Prop:= rn C σ1 f1 fl pre (N0 f1) f/\oM C σ1 mid (Ld C un mid (f1.put dst d) σ (zt C post K) σ1) (f1.put dst d)
theorem Uo {C:Cx} (hm:C.P.follows .mixedOrders=true) {pre:List yY} {dst:Option Nat} {g1:Option (Nat × Bool)} {k1:DK} {mid:List yY} {un:Bool} {post:List yY} {fl:List Bool} {f:Fr} {σ:St} {Q:Exit->Fr->St->Prop}
  (h:oM C σ pre (aE C k1 (LK C pre dst mid un post fl (gC Q) f σ) σ) f):wpS C (.aJ pre ⟨dst,g1,k1⟩ mid un post fl) f σ Q:=by
 refine Rv hm ?_
 have:oM C σ pre (aE C k1 (LK C pre dst mid un post fl (gC Q) f σ) σ) f=W0 C pre ⟨dst,g1,k1⟩ mid un post fl f σ (gC Q):=by
  unfold W0;refine rM λf1=>qu λd σ1=>?_;unfold LK;refine congr (congrArg And w9) (rM λf2=>?_);unfold Ld;refine congr (congrArg And ?_) (w5 λ_ _=>rfl)
  split
  ·exact rM λg=>rfl
  ·rfl
 exact this ▸ h
theorem S5 {C:Cx} {pre:List yY} {m:yY} {mid:List yY} {un:Bool} {post:List yY} {fl:List Bool} {f:Fr} {σ:St} {Q:Exit->Fr->St->Prop}:lf C (.aJ pre m mid un post fl) Q f σ=wpS C (.aJ pre m mid un post fl) f σ Q:=by rw [pY]; rfl
end
end Go.Pd

/- Part KI. -/
set_option maxRecDepth 20000
set_option maxHeartbeats 1000000
namespace Go.Pd
open Go Go.Proofs
open BitVec renaming isValue -> ZA
open Rs Fm Ru Te Kb
structure Ks (p : yT) (F : Nat) (sts : List (List (BitVec 64))) (t : Nat) : Prop where
 fe:p.F=(F:Int)
 hF:F<=8
 hA:p.xV.length<=4
 hR:sts.length<=64
 len:∀ st ∈ sts,t<st.length
 ht:t<=1000
theorem VR {a b:List (BitVec 64)}:xA prog 74 [.sl 1 (us a),.sl 1 (us b)] (.bool (decide (a.map ui=b.map ui))):=by rw [rN,rN];exact pa _ _
theorem Qm {p:yT} {F:Nat} {sts:List (List (BitVec 64))} {t:Nat} (ok:Ks p F sts t):xA prog 130 [nD p sts,.int .i64 t] (gE p.xV sts t F):=by
 have hF:=ok.hF;have hA:=ok.hA;have hR:=ok.hR;have ht:=ok.ht;have hl:∀ i,i<sts.length->t<(vK sts i).length:=λi hi=>ok.len _ (xK hi);have hist:∀ a w,a<p.xV.length->w<sts.length->xA prog 75 [nD p sts,.int .i64 a,.int .i64 w,.int .i64 t] (.sl 1 (us (vG p.xV (vK sts w) a t))):=λa w ha hw=>rS (iU p ha hw (hl w hw) ht);have hkey:=λa v w (ha:a<p.xV.length) (hv:v<sts.length) (hw:w<sts.length)=>OC (xV:=p.xV) (t:=t) ha hv hw;have hfac:=λw (hw:w<sts.length)=>Xo (xV:=p.xV) (t:=t) hw;unfold gE kd;have hll:(wS sts.length 0).length=sts.length:=mJ _ _;have hlg:∀ i,i<sts.length->(wS sts.length 0).getD i (0,0)= (i,0):=λi hi=>mI hi;generalize wV p.xV sts t=rs at *;generalize wS sts.length 0=l at *;unfold nD bu at *;rw [ok.fe] at *;refine xI func130 IX λhf=>?_
 have hz:List.replicate F [D.int .u64 (ui 0#64)]=us ((List.range F).map λf=>oO rs l f 0):=by simp only [oO,us,List.map_map];refine List.ext_getElem (by simp) λi h1 h2=>?_;simp
 simp only [simprocAttr,-ZA,↓zU,↓zD,zV,zT,zW,yZ,↓Xw]
 (refine iw mixed ?_; unfold c7; simp only [simprocAttr,-ZA,↓zU,↓zD,zV,zT,zW,↓V2,↓V3,↓LZ,↓LY,↓LX,↓La,↓Lb,↓Lc,↓rq,kQ,gR,yZ])
 refine⟨by omega,by omega,by omega,by omega,?_,?_⟩
 ·rw [hz];exact bj [(1,2),(2,1)] [2,1,0] yC
 refine xU (λw:Nat=>[(31,.int .i64 w),(30,.int .i64 sts.length),(29,.sl 1 (rr sts)),(5,.ref 2 3 0 0),(4,.ref 0 3 0 0),(1,.int .i64 t),(0,.ptr [.int .i64 F,.sl 1 (us p.init),.sl 1 (us p.xV),.sl 1 (uK p.xO),.sl 1 (uJ p.code),.sl 1 (rr sts)])])
  (λw=>⟨3,[(2,⟨3,[[.int .i64 sts.length,.yD 1 1 F,.xL]]⟩),(1,⟨1,us ((List.range F).map λf=>oO rs l f w)⟩),(0,⟨3,[[.int .i64 0,.xL,.xL]]⟩)]⟩)
  (λw=>w<=sts.length) (λw=>sts.length-w) 0 (Am _) ?_ ?_
 ·rw [<- hz];exact wO
 intro w hw;refine xN mixed ?_
 by_cases hwl:w<sts.length
 ·have hd:((w:Int)<(sts.length:Int)):=by omega
  have hg:=tZ sts hwl
  have hv:∀ f,oO rs l f (w+1)= oO rs l f w ||| (if ((vK sts w).getD t 0).getLsbD f then 1#64 <<< w else 0#64):=λf=>by rw [<- hfac w hwl,<- hlg w hwl]; rfl
  have hlw:=hl w hwl;unfold vK at hv hlw;generalize sts.getD w []=st at hg hv hlw;have hg2:=yF st hlw;have hd0:((t:Int)<(st.length:Int)):=by omega
  generalize st.getD t 0=x at hg2 hv;refine rF hd yZ hg ?_
  refine xU (λi:Nat=>[(39,.int .i64 i),(38,.int .i64 F),(31,.int .i64 w),(30,.int .i64 sts.length),(29,.sl 1 (rr sts)),(7,.sl 1 (us st)),(6,.int .i64 w),(5,.ref 2 3 0 0),(4,.ref 0 3 0 0),(1,.int .i64 t),(0,.ptr [.int .i64 F,.sl 1 (us p.init),.sl 1 (us p.xV),.sl 1 (uK p.xO),.sl 1 (uJ p.code),.sl 1 (rr sts)])])
   (λi=>⟨3,[(2,⟨3,[[.int .i64 sts.length,.yD 1 1 F,.xL]]⟩),(1,⟨1,us (fU F (λf=>oO rs l f (w+1)) (λf=>oO rs l f w) i)⟩),(0,⟨3,[[.int .i64 0,.xL,.xL]]⟩)]⟩)
   (λi=>i<=F) (λi=>F-i) 0 (Am _) ?_ ?_
  ·rw [gg];exact wO
  intro i hi;refine xN mixed ?_
  by_cases hil:i<F
  ·have hd2:((i:Int)<(F:Int)):=by omega
   have hmg:=yF (fU F (λf=>oO rs l f (w+1)) (λf=>oO rs l f w) i) (show i<_ by rw [pk]; exact hil);rw [XC _ _ hil] at hmg;have hms:=XD F (λf=>oO rs l f (w+1)) (λf=>oO rs l f w) i;simp only [hv i] at hms;have hml:=pk F (λf=>oO rs l f (w+1)) (λf=>oO rs l f w) i;generalize fU F (λf=>oO rs l f (w+1)) (λf=>oO rs l f w) i=M at hmg hms hml;refine j9 hd2 xT hml hmg hd0 hg2 Np iO hms ?_;refine⟨i+1,by omega,?_,by omega⟩;exact yL
  ·have hd2:¬ ((i:Int)<(F:Int)):=by omega
   rw [XB _ _ _ (by omega:F<=i)];refine vR hd2 ?_;refine⟨w+1,by omega,?_,by omega⟩;exact bj [] [2,1,0] yC
 have hd:¬ ((w:Int)<(sts.length:Int)):=by omega
 obtain rfl:w=sts.length:=by omega
 rw [show ((List.range F).map λf=>oO rs l f sts.length)= qV rs l F by rw [<- hll]; rfl];refine xH hd ?_
 refine xU (λa:Nat=>[(66,.int .i64 a),(65,.int .i64 p.xV.length),(5,.ref 2 3 0 0),(4,.ref 0 3 0 0),(1,.int .i64 t),(0,.ptr [.int .i64 F,.sl 1 (us p.init),.sl 1 (us p.xV),.sl 1 (uK p.xO),.sl 1 (uJ p.code),.sl 1 (rr sts)])])
  (λa=>⟨4,yX 3 1 (rr (tJ rs l a))++ [(2,⟨3,[[.int .i64 sts.length,.yD 1 1 F,xB 3 1 (rr (tJ rs l a))]]⟩),(1,⟨1,us (qV rs l F)⟩),(0,⟨3,[[.int .i64 0,.xL,.xL]]⟩)]⟩)
  (λa=>a<=p.xV.length) (λa=>p.xV.length-a) 0 (Am _) ?_ ?_
 ·(refine rZ [] [2,1,0] ?_; simp only [wR,zQ,simprocAttr,-ZA,exists_eq_left',ne_eq,zR,tJ,List.range_zero,List.map_nil,zK,zL,ω,yC,show rr [] = [] from rfl])
 intro a ha;refine xN mixed ?_;by_cases hal:a<p.xV.length
 case neg=>
  have hd2:¬ ((a:Int)<(p.xV.length:Int)):=by omega
  obtain rfl:a=p.xV.length:=by omega
  have hvl:(us (qV rs l F)).length=F:=by simp [us,qV]
  rw [hll];refine xH hd2 ?_
  (refine sH.VB [] [] (by simp) (by simp) (by decide) ?_; simp only [wR,zQ,simprocAttr,-ZA,exists_eq_left',ne_eq,zR,yC,nK])
  exact⟨λ_ h=>h.elim,by omega,(List.take_of_length_le (by omega)).symm,vT _⟩
 have hd2:((a:Int)<(p.xV.length:Int)):=by omega
 have hrel:tJ rs l (a+1)= tJ rs l a ++ [tO rs l a]:=by unfold tJ; rw [List.range_succ,List.map_append]; rfl
 generalize hRL:tJ rs l a=RL at hrel;have hrl:(tO rs l a).length=sts.length:=by simp [tO,hll]
 have hrlg:∀ w,w<sts.length->(tO rs l a).getD w 0#64=Ru.pF rs l a (vJ rs a (w,0)) sts.length:=λw hw=>by rw [<- hll] at hw ⊢;have:=hlg w (by omega);simp only [List.getD,hw,ζ,Aq] at this;simp [tO,List.getD,hw,this]
 refine yO yZ hd2 ?_
 refine sP (λw:Nat=>[(74,.int .i64 w),(73,.int .i64 sts.length),(66,.int .i64 a),(65,.int .i64 p.xV.length),(10,xB 4 1 (us ((tO rs l a).take w))),(9,.int .i64 a),(5,.ref 2 3 0 0),(4,.ref 0 3 0 0),(1,.int .i64 t),(0,.ptr [.int .i64 F,.sl 1 (us p.init),.sl 1 (us p.xV),.sl 1 (uK p.xO),.sl 1 (uJ p.code),.sl 1 (rr sts)])])
  (λw=>⟨5,yX 4 1 (us ((tO rs l a).take w))++ (yX 3 1 (rr RL)++ [(2,⟨3,[[.int .i64 sts.length,.yD 1 1 F,xB 3 1 (rr RL)]]⟩),(1,⟨1,us (qV rs l F)⟩),(0,⟨3,[[.int .i64 0,.xL,.xL]]⟩)])⟩)
  (λw=>w<=sts.length) (λw=>sts.length-w) 0 (Am _) ?_ ?_
 ·(refine rZ [] [3,2,1,0] ?_; simp only [wR,zQ,simprocAttr,-ZA,exists_eq_left',ne_eq,zR,List.take_zero,iN,zK,zL,ω,yC,nK])
 intro w hw;refine xN mixed ?_;by_cases hwl:w<sts.length
 case neg=>
  have hd3:¬ ((w:Int)<(sts.length:Int)):=by omega
  rw [show (tO rs l a).take w=tO rs l a by rw [show w=(tO rs l a).length by omega,τ]];refine xH hd3 ?_
  refine .go [(66,.int .i64 a),(65,.int .i64 p.xV.length),(10,.sl 1 (us (tO rs l a))),(9,.int .i64 a),(5,.ref 2 3 0 0),(4,.ref 0 3 0 0),(1,.int .i64 t),(0,.ptr [.int .i64 F,.sl 1 (us p.init),.sl 1 (us p.xV),.sl 1 (uK p.xO),.sl 1 (uJ p.code),.sl 1 (rr sts)])]
   ⟨4,yX 3 1 (rr RL)++ [(2,⟨3,[[.int .i64 sts.length,.yD 1 1 F,xB 3 1 (rr RL)]]⟩),(1,⟨1,us (qV rs l F)⟩),(0,⟨3,[[.int .i64 0,.xL,.xL]]⟩)]⟩ ?_ ?_
  ·exact qN [] [3,2,1,0] yC nK
  have hRLl:RL.length=a:=by rw [<- hRL]; simp [tJ]
  refine nQ yZ hRLl ?_;refine⟨a+1,by omega,?_,by omega⟩;rw [hrel];exact qN [(3,4)] [3,2,1,0] yC nK
 have hd3:((w:Int)<(sts.length:Int)):=by omega
 have hrg:(tO rs l a).take (w+1)= (tO rs l a).take w ++ [Ru.pF rs l a (vJ rs a (w,0)) sts.length]:=by rw [yE (d:=0#64) (by omega),hrlg w hwl]
 have htl:((tO rs l a).take w).length=w:=by rw [π]; omega
 generalize (tO rs l a).take w=rw' at hrg htl;refine yO hd3 yZ ?_
 refine xU (λv:Nat=>[(82,.int .i64 v),(81,.int .i64 sts.length),(74,.int .i64 w),(73,.int .i64 sts.length),(66,.int .i64 a),(65,.int .i64 p.xV.length),(12,.int .u64 (ui (Ru.pF rs l a (vJ rs a (w,0)) v))),(11,.int .i64 w),(10,xB 4 1 (us rw')),(9,.int .i64 a),(5,.ref 2 3 0 0),(4,.ref 0 3 0 0),(1,.int .i64 t),(0,.ptr [.int .i64 F,.sl 1 (us p.init),.sl 1 (us p.xV),.sl 1 (uK p.xO),.sl 1 (uJ p.code),.sl 1 (rr sts)])])
  (λ_=>⟨5,yX 4 1 (us rw')++ (yX 3 1 (rr RL)++ [(2,⟨3,[[.int .i64 sts.length,.yD 1 1 F,xB 3 1 (rr RL)]]⟩),(1,⟨1,us (qV rs l F)⟩),(0,⟨3,[[.int .i64 0,.xL,.xL]]⟩)])⟩)
  (λv=>v<=sts.length) (λv=>sts.length-v) 0 (Am _) ?_ ?_
 ·(refine yR.same ?_; simp only [yS,Fr.get,simprocAttr,-ZA,zS,Ru.pF])
  all_goals rfl
 intro v hv;refine xN mixed ?_;by_cases hvl:v<sts.length
 case neg=>
  have hd4:¬ ((v:Int)<(sts.length:Int)):=by omega
  obtain rfl:v=sts.length:=by omega
  refine rF hd4 xT htl ?_;refine⟨w+1,by omega,?_,by omega⟩;rw [hrg];exact qN [(4,5)] [4,3,2,1,0] yC nK
 have hd4:((v:Int)<(sts.length:Int)):=by omega
 have hrk:Ru.pF rs l a (vJ rs a (w,0)) (v+1)= Ru.pF rs l a (vJ rs a (w,0)) v ||| (if vJ rs a (v,0)= vJ rs a (w,0) then 1#64 <<< v else 0#64):=by rw [<- hlg v hvl]; rfl
 have heq:=VR (a:=vG p.xV (vK sts w) a t) (b:=vG p.xV (vK sts v) a t);rw [hkey a v w hal hvl hwl] at heq;have h1:=hist a w hal hwl;have h2:=hist a v hal hvl;generalize vG p.xV (vK sts w) a t=x1 at heq h1;generalize vG p.xV (vK sts v) a t=x2 at heq h2;refine xH hd4 ?_;refine .go (cr h1) ?_;refine xJ ?_;refine .go (cr h2) ?_;refine xJ ?_;refine .go (cr heq) ?_
 by_cases c:vJ rs a (v,0)= vJ rs a (w,0)
 ·rw [if_pos c] at hrk;rw [decide_eq_true c];refine zI ?_;refine⟨v+1,by omega,?_,by omega⟩
  (refine yR.same ?_; simp only [yS,Fr.get,simprocAttr,-ZA,zS,hrk])
  exact wrap_i64 (by omega)
 ·rw [if_neg c,BitVec.or_zero] at hrk;rw [decide_eq_false c];refine xJ ?_;refine⟨v+1,by omega,?_,by omega⟩
  (refine yR.same ?_; simp only [yS,Fr.get,simprocAttr,-ZA,zS,hrk])
  exact wrap_i64 (by omega)
end Go.Pd

/- Part KR. -/
namespace Go.Pd
open Go Go.Proofs
open BitVec renaming isValue -> ZA
def Su (x y:BitVec 64):BitVec 64:=
 let x0:=x &&& 4294967295#64
 let x1:=x >>> 32
 let y0:=y &&& 4294967295#64
 let y1:=y >>> 32
 let w0:=x0*y0
 let t:=x1*y0+w0 >>> 32
 let w1:=(t &&& 4294967295#64)+ x0*y1
 let w2:=t >>> 32
 x1*y1+w2+w1 >>> 32
theorem UC : ∀ n:Fin 65,Su 1#64 (BitVec.ofNat 64 n.val)= 0#64:=by decide +kernel
theorem KT : D.int .u64 4294967295=D.int .u64 (ui 4294967295#64):=rfl
theorem MJ (x y:BitVec 64):xA prog 238 [.int .u64 (ui x),.int .u64 (ui y)] (.wF [.int .u64 (ui (Su x y)),.int .u64 (ui (x*y))]):=by refine xI func238 JT λhf=>?_;refine vR KT ?_;exact .same
theorem Sb {n:Nat} (hn:n<=64):xA prog 190 [.int .u64 1,.int .u64 (n:Int)] (.wF [.int .u64 0,.int .u64 (n:Int)]):=by have h:=MJ 1#64 (BitVec.ofNat 64 n);have e1:Su 1#64 (BitVec.ofNat 64 n)= 0#64:=UC ⟨n,by omega⟩;have e2:1#64*BitVec.ofNat 64 n=BitVec.ofNat 64 n:=BitVec.one_mul _;rw [e1,e2,Rm (k:=n) (by omega)] at h;refine xI func190 J3 λhf=>?_;simp only [PX,PY] at *;refine xJ ?_;refine .go (cr h) ?_;refine xJ ?_;exact .same
theorem Xe {xW:List (List D)} {n c:Nat} (h:c<=xW.length):rowsOf ⟨n,[(0,⟨1,xW⟩)]⟩ 1 (.yD 0 1 c)= some (xW.take c):=by show (if (1:Nat)= 1 then(if 1=1/\c<=xW.length then some (xW.take c) else none) else none)= _;rw [if_pos rfl,if_pos ⟨rfl,h⟩]
def pQ (d z:D) (n c:Nat):List (List D):=List.replicate c [d]++List.replicate (n-c) [z]
theorem ej {d z:D} {n c:Nat} (h:c<=n):(pQ d z n c).length=n:=by simp [pQ]; omega
theorem aR {d z:D} {n c:Nat}:(pQ d z n c).take c=List.replicate c [d]:=by unfold pQ;rw [List.take_left' (by simp)]
theorem mi {d z:D} {n c:Nat} (h:c<n):(pQ d z n c).take c++(((pQ d z n c).take c).take (min (n-c) c)++ (pQ d z n c).drop (c+min (n-c) c))= pQ d z n (c+min (n-c) c):=by
 rw [aR]
 have e:(pQ d z n c).drop (c+min (n-c) c)= List.replicate (n-(c+min (n-c) c)) [z]:=by unfold pQ;rw [List.drop_append,List.length_replicate,List.drop_eq_nil_of_le (by simp),ω,Ae];congr 1;omega
 rw [e,List.take_replicate,show min (min (n-c) c) c=min (n-c) c by omega];unfold pQ;rw [<- Ag,List.replicate_append_replicate]
theorem um {d z:D} {n:Nat} (h:1<=n):[[d]].take (min n 1)++ (List.replicate n [z]).drop (min n 1)= pQ d z n 1:=by rw [Al h,Ae];rfl
theorem US {d:D} (hd:d.xF=true) (h1:d.one=true) {n:Nat} (hn:1<=n/\n<=64):xQ prog 131 [.sl 1 [[d]],.int .i64 (n:Int)] jR (.yD 0 1 n) ⟨1,[(0,⟨1,List.replicate n [d]⟩)]⟩:=by
 have hM:=Sb hn.2;have hw:=Sn (n:=n) (by omega);have hw1:IntKind.u64.wrap ((1:Nat):Int)= 1:=by decide
 have hw2:IntKind.i64.wrap (n:Int)= (n:Int):=wrap_i64 (by omega);have hneg:¬ ((n:Int)<0):=by omega
 refine xI func131 Ia λhf=>?_;simp only [simprocAttr,-ZA,↓zU,↓zD,zV,zT,zW,hneg,hw1,hw,show (1:Nat)= 1 from rfl];simp only [PX,PY,show IntKind.u64.wrap 1=1 from by decide] at *;refine .go (cr hM) ?_;have hz:¬ (ui 0#64<ui 0#64):=Int.lt_irrefl _;have hb:¬ ((9223372036854775807:Int)<(n:Int)):=by omega
 have hp1:D.xR [d]=true:=by simp [D.xR,hd]
 refine cE hz hb hw2 h1 ?_;refine⟨by omega,by omega,by simp,by omega,?_⟩;rw [Al hn.1];have hstart:=um (d:=d) (z:=D.int .i64 0) hn.1;rw [Al hn.1] at hstart;have hlr:(List.replicate n [D.int .i64 0]).length=n:=by simp
 refine xU (λc:Nat=>[(8,.int .i64 c),(7,.yD 0 1 n)]) (λc=>⟨1,[(0,⟨1,pQ d (D.int .i64 0) n c⟩)]⟩) (λc=>1<=c/\c<=n) (λc=>n-c) 1 ⟨Aj _,hn.1⟩ ?_ ?_
 ·rw [<- hstart];exact wO
 intro c ⟨hc1,hc2⟩;refine xN mixed ?_;have hL:=ej (d:=d) (z:=D.int .i64 0) hc2
 by_cases hcn:c<n
 ·have hd1:((c:Int)<(n:Int)):=by omega
  refine xH hd1 ?_;have i1:¬ ((c:Int)= 0):=by omega
  have i2:¬ ((c:Int)= (n:Int)):=by omega
  have hst:=mi (d:=d) (z:=D.int .i64 0) hcn;have htk:=aR (d:=d) (z:=D.int .i64 0) (n:=n) (c:=c);generalize pQ d (D.int .i64 0) n c=xW at hL hst htk ⊢;refine⟨(c:Int),(n:Int),rfl,rfl,by omega,by omega,by omega,0,(c:Int),rfl,rfl,by omega,by omega,by omega,?_⟩;simp only [↓reduceIte,if_neg i1,if_neg i2,Az];first | rw [if_pos ⟨trivial,by omega⟩] | rw [Xe (by omega)]
  refine⟨λr hr=>?_,trivial,trivial,by omega,?_⟩
  ·rw [htk] at hr;rw [Ab hr];simp [h1]
  have hm:(min (n-c) (xW.take c).length)= min (n-c) c:=by rw [π]; omega
  rw [hm];have em:(n:Int).toNat-c=n-c:=by omega
  refine⟨by omega,c+min (n-c) c,⟨by omega,by omega⟩,?_,by omega⟩;rw [hst]
  (refine yR.same ?_; simp only [yS,Fr.get,simprocAttr,-ZA,zS])
  rw [wrap_i64 (by omega)];omega
 ·have hd1:¬ ((c:Int)<(n:Int)):=by omega
  obtain rfl:c=n:=by omega
  have he:pQ d (D.int .i64 0) c c=List.replicate c [d]:=by simp [pQ]
  rw [he];refine xH hd1 ?_;exact .same
theorem UT {d:D} (hd:d.xF=true) (h1:d.one=true) {n:Nat} (hn:1<=n/\n<=64):xQ prog 224 [.sl 1 [[d]],.int .i64 (n:Int)] jR (.yD 0 1 n) ⟨1,[(0,⟨1,List.replicate n [d]⟩)]⟩:=by
 have hM:=Sb hn.2;have hw:=Sn (n:=n) (by omega);have hw1:IntKind.u64.wrap ((1:Nat):Int)= 1:=by decide
 have hw2:IntKind.i64.wrap (n:Int)= (n:Int):=wrap_i64 (by omega);have hneg:¬ ((n:Int)<0):=by omega
 refine xI func224 JP λhf=>?_;simp only [simprocAttr,-ZA,↓zU,↓zD,zV,zT,zW,hneg,hw1,hw,show (1:Nat)= 1 from rfl];simp only [PX,PY,show IntKind.u64.wrap 1=1 from by decide] at *;refine .go (cr hM) ?_;have hz:¬ (ui 0#64<ui 0#64):=Int.lt_irrefl _;have hb:¬ ((9223372036854775807:Int)<(n:Int)):=by omega
 have hp1:D.xR [d]=true:=by simp [D.xR,hd]
 refine cE hz hb hw2 h1 ?_;refine⟨by omega,by omega,by simp,by omega,?_⟩;rw [Al hn.1];have hstart:=um (d:=d) (z:=D.xL) hn.1;rw [Al hn.1] at hstart;have hlr:(List.replicate n [D.xL]).length=n:=by simp
 refine xU (λc:Nat=>[(8,.int .i64 c),(7,.yD 0 1 n)]) (λc=>⟨1,[(0,⟨1,pQ d (D.xL) n c⟩)]⟩) (λc=>1<=c/\c<=n) (λc=>n-c) 1 ⟨Aj _,hn.1⟩ ?_ ?_
 ·rw [<- hstart];exact wO
 intro c ⟨hc1,hc2⟩;refine xN mixed ?_;have hL:=ej (d:=d) (z:=D.xL) hc2
 by_cases hcn:c<n
 ·have hd1:((c:Int)<(n:Int)):=by omega
  refine xH hd1 ?_;have i1:¬ ((c:Int)= 0):=by omega
  have i2:¬ ((c:Int)= (n:Int)):=by omega
  have hst:=mi (d:=d) (z:=D.xL) hcn;have htk:=aR (d:=d) (z:=D.xL) (n:=n) (c:=c);generalize pQ d (D.xL) n c=xW at hL hst htk ⊢;refine⟨(c:Int),(n:Int),rfl,rfl,by omega,by omega,by omega,0,(c:Int),rfl,rfl,by omega,by omega,by omega,?_⟩;simp only [↓reduceIte,if_neg i1,if_neg i2,Az];first | rw [if_pos ⟨trivial,by omega⟩] | rw [Xe (by omega)]
  refine⟨λr hr=>?_,trivial,trivial,by omega,?_⟩
  ·rw [htk] at hr;rw [Ab hr];simp [h1]
  have hm:(min (n-c) (xW.take c).length)= min (n-c) c:=by rw [π]; omega
  rw [hm];have em:(n:Int).toNat-c=n-c:=by omega
  refine⟨by omega,c+min (n-c) c,⟨by omega,by omega⟩,?_,by omega⟩;rw [hst]
  (refine yR.same ?_; simp only [yS,Fr.get,simprocAttr,-ZA,zS])
  rw [wrap_i64 (by omega)];omega
 ·have hd1:¬ ((c:Int)<(n:Int)):=by omega
  obtain rfl:c=n:=by omega
  have he:pQ d (D.xL) c c=List.replicate c [d]:=by simp [pQ]
  rw [he];refine xH hd1 ?_;exact .same
theorem OY (n:Nat):List.replicate n [D.int .i64 (-1)]=rows .i64 (List.replicate n (-1)):=by simp [rows]
theorem Ol (n:Nat):List.replicate n [D.sl 1 (us [1#64])]=rr (List.replicate n [1#64]):=by simp [rr,V5]
open Rs Fm Ru Te
namespace Te
theorem Tm {A F:Nat} {c:List Nd} (hv:vP c) (h:∀ p ∈ c,qP A F p=true):∀ i,i<c.length->rO A F (tree c i)= true:=by
 intro i
 induction i using Nat.strongRecOn with
 | _ i ih=>
  intro hi;obtain⟨ox,oy,_,_⟩:=tK (hv i hi);have hs:=h (c.getD i vV) (by rw [List.getD,ζ hi]; exact ο hi);rw [sF hv hi];show (qP A F _&&(rO A F _&&rO A F _))= true;rw [show qP A F ⟨(c.getD i vV).op,(c.getD i vV).i,(c.getD i vV).e,(c.getD i vV).g,0,0⟩= qP A F (c.getD i vV) from rfl,hs,Bool.true_and,Au]
  constructor
  ·split
   ·rename_i hx; have:=ox hx; exact ih _ (by omega) (by omega)
   ·rfl
  ·split
   ·rename_i hy; have:=oy hy; exact ih _ (by omega) (by omega)
   ·rfl
theorem im {A F:Nat} {p:Nd} {k:Int} (hn:zP p k=0) (ho:N2 A F p=true) (ht:rA p &&& 256=0):qP A F p=true:=by
 unfold N2 at ho;simp only [Au,decide_eq_true_eq] at ho;obtain⟨⟨h1,h2⟩,h3⟩:=ho
 have hi0:p.op=3\/p.op=9\/p.op=10->0<=p.i:=λh=>by
  rcases h with h | h | h
  ·exact(mR hn (by rw [h]; rfl)).1
  ·exact(rU hn (by rw [h]; rfl)).1
  ·exact(rU hn (by rw [h]; rfl)).1
 have hg0:=eR hn;have hu:=(vU.1 hn).1
 have lt_of:∀ {a b:Nat},2 ^ a / 2 ^ b=0->a<b:=λ{a b} h=>Decidable.byContradiction λhh=>by have:=Nat.pow_le_pow_right (n:=2) (by decide) (show b<=a by omega);have:=Nat.div_pos this (Nat.two_pow_pos b);omega
 obtain⟨op,i,e,g,a,b⟩:=p;simp only at hi0 hg0 hu
 rcases rV op with rfl | rfl | rfl | rfl | rfl | rfl | rfl | rfl | rfl | rfl | rfl | rfl | rfl | rfl | rfl | rfl | rfl | rfl | rfl | rfl | rfl | h | h
 ·rfl
 ·rfl
 ·have h3:2 ^ i.toNat / 2 ^ F=0:=h3;have:=lt_of h3;have h0:=hi0 (.inl rfl);show decide (i<(F:Int))= true;exact decide_eq_true (by omega)
 ·rfl
 ·rfl
 ·rfl
 ·rfl
 ·rfl
 ·have h2:2 ^ i.toNat / 2 ^ A=0:=h2;have:=lt_of h2;have h0:=hi0 (.inr (.inl rfl));show decide (i<(A:Int))= true;exact decide_eq_true (by omega)
 ·have h2:2 ^ i.toNat / 2 ^ A=0:=h2;have:=lt_of h2;have h0:=hi0 (.inr (.inr rfl));show decide (i<(A:Int))= true;exact decide_eq_true (by omega)
 iterate 3
  ·have h2:g.toNat / 2 ^ A=0:=h2;have:=(Nat.div_eq_zero_iff.1 h2).resolve_left (by have:=Nat.two_pow_pos A; omega);show decide (g<((2 ^ A:Nat):Int))= true;exact decide_eq_true (by omega)
 ·exact absurd h1 (show ¬ (16:Nat)&&& 3824=0 by decide)
 ·exact absurd h1 (show ¬ (32:Nat)&&& 3824=0 by decide)
 ·exact absurd h1 (show ¬ (64:Nat)&&& 3824=0 by decide)
 ·exact absurd h1 (show ¬ (128:Nat)&&& 3824=0 by decide)
 iterate 4
  ·exact absurd ht (show ¬ (256:Nat)&&& 256=0 by decide)
 ·rw [vM (.inl h)] at hu; cases hu
 ·rw [vM (.inr h)] at hu; cases hu
theorem Lq {a b:Nat} (ha:a<2 ^ 62) (hb:b<2 ^ 62):sW .and .i64 (a:Int) (b:Int)= ((a &&& b:Nat):Int):=by show IntKind.i64.wrap ((BitVec.ofInt 64 (a:Int)&&& BitVec.ofInt 64 (b:Int)).toNat:Int)= _;rw [Ax,Ax,BitVec.toNat_and,Ay,Ay,An (by omega),An (by omega)];have:a &&& b<=a:=Nat.and_le_left;exact wrap_i64 (by omega)
theorem eu {n:Nat} (h:n<4096):(sW .and .i64 (n:Int) 256 != 0)= !decide (n &&& 256=0):=by
 have e:=Lq (a:=n) (b:=256) (by omega) (by decide);rw [show ((256:Nat):Int)= 256 from rfl] at e;rw [e];generalize n &&& 256=z
 by_cases hz:z=0
 ·subst hz; rfl
 ·rw [decide_eq_false hz];have:((z:Int) != 0)= true:=by rw [bne_iff_ne]; omega
  rw [this]; rfl
theorem To {n:Nat} (h:n<4096) (h1:n &&& 3824=0) (h2:n &&& 256=0):(sW .andNot .i64 (n:Int) 15 != 0)= false:=by
 have h16:∀ n:Fin 4096,n.val &&& 3824=0->n.val &&& 256=0->n.val<16:=by decide +kernel
 have:∀ n:Fin 16,(sW .andNot .i64 ((n.val:Nat):Int) 15 != 0)= false:=by decide +kernel
 exact this ⟨n,h16 ⟨n,h⟩ h1 h2⟩
theorem nG (f:List Nd):zX f<4096:=by refine mK λp _=>?_;have:=eC p.op;unfold rA; omega
theorem vd {s:jO} {A F T:Nat} {rs:List wX} (hs:s=⟨A,F,T,rs⟩) (hz:NZ s=0) (ok:k8 rs A F T) {f:List Nd} (hE:ke s f=0) (ht:zX f &&& 256=0) :
  rO A F (mZ f)= true/\(sW .andNot .i64 (zX f:Int) 15 != 0)= false/\sL f A F=true:=by
 have hc:=(lP hE).2;have hN:=(z8 hs hz ok hc).1 hE
 have hT:∀ p ∈ xD f,rA p &&& 256=0:=by
  have:=ht;unfold zX at this
  rwa [pS (φ:=λn=>n &&& 256) (by decide) (λa b=>Ao a b 256),sK] at this
 have h38:zX f &&& 3824=0:=by unfold zX;rw [pS (φ:=λn=>n &&& 3824) (by decide) (λa b=>Ao a b 3824),sK];intro p hp;have:=hN p hp;unfold N2 at this;simp only [Au,decide_eq_true_eq] at this;exact this.1.1
 refine⟨?_,To (nG f) h38 ht,?_⟩
 ·have hl:=gP hc;rw [<- (gH hc).1];refine Tm (bD f) (λp hp=>?_) _ (by omega);obtain⟨k,hk⟩:=jX (iM f _) hp;exact im hk (hN p hp) (hT p hp)
 ·unfold ke at hE;rw [if_neg (by simpa using hz),if_neg (by simpa using hc),yw (nG f),if_neg (by simp [h38])] at hE;subst hs
  cases hf:sL f A F with
  | true=>rfl
  | false=>simp only [hf,↓reduceIte] at hE; cases hE
end Te
end Go.Pd

/- Part KQ. -/
namespace Go.Pd
open Go Go.Proofs
namespace Kb
theorem SU : ∀ n:Fin 4096,(sW .andNot .i64 ((n.val:Nat):Int) 15 != 0)= false->n.val<16:=by decide +kernel
theorem NM : ∀ n:Fin 4096,(sW .andNot .i64 ((n.val:Nat):Int) 0 != 0)= false->n.val=0:=by decide +kernel
end Kb
open Ru
namespace Ru
def j4 (rs:List wX) (a r t:Nat):List Int:=(List.range t).map λi=>vJ rs a (r,i)
end Ru
end Go.Pd

/- Part SH. -/
namespace Go.Pd
open Go Go.Proofs
open BitVec renaming isValue -> ZA
open Ru
namespace Ru
theorem wb {α:Type} (a b:List α) (d:α) {n:Nat} (h:n<a.length):(a++b).getD n d=a.getD n d:=by simp [List.getD,δ h]
end Ru
theorem Ny {c:List (BitVec 64)} (hc:c.length<=1000) (h0:0<c.length):xA prog 122 [.sl 1 (us c)] (.sl 1 (us c)):=by
 obtain⟨x,l,rfl⟩:∃ x l,c=x :: l:=by
  cases c with
  | nil=>simp at h0
  | cons x l=>exact⟨x,l,rfl⟩
 refine xI func122 L2 λhf=>?_;have hl:(us (x :: l)).length=l.length+1:=by simp [us]
 have h1:=ZS (x :: l);have e:us (x :: l)= [.int .u64 (ui x)] :: us l:=rfl;simp only [υ] at hc;rw [e] at hl h1 ⊢;refine xJ ?_;refine⟨by simp,h1,by omega,by omega,.drop (by simp) ?_⟩;have hp:=vT (x :: l);rw [e] at hp;have ht:([D.int .u64 (ui x)] :: us l).take (l.length+1)= [D.int .u64 (ui x)] :: us l:=by rw [<- hl,τ]
 simp only [vw];exact⟨trivial,by decide,by simp,⟨1,[D.int .u64 (ui x)] :: us l⟩,rfl,rfl,by simp only; omega,ht.symm,hp⟩
open Ru
namespace Ru
def NS (kf:Nat->Nat × Nat->List Int) (l:List (Nat × Nat)) (a:Nat) (p:Nat × Nat):Int:=below (dedup (fH (l.map (kf a)))) (kf a p)
def V1 (rs:List wX) (A T:Nat) (num:Nat->Nat × Nat->Int):List wX:=(List.range rs.length).map λi=>⟨(List.range T).map λt=>(List.range A).map λa=>num a (i,t),(rs.getD i pG).ye⟩
end Ru
open Ru
namespace Ru
end Ru
open Ru
theorem yv {l:List (List Int)}:∀ {k:Nat} {x:List Int},x ∈ uB l k ↔ ∃ i,i<k/\l.getD i []=x
 | 0,x=>by simp [uB]
 | k+1,x=>by
  rw [uB]
  by_cases h:0<k/\l.getD k []=l.getD (k-1) []
  ·rw [if_pos h,yv];refine⟨λ⟨i,hi,e⟩=>⟨i,by omega,e⟩,λ⟨i,hi,e⟩=>?_⟩
   by_cases ei:i=k
   ·exact⟨k-1,by omega,by rw [<- h.2,<- ei]; exact e⟩
   ·exact⟨i,by omega,e⟩
  ·rw [if_neg h,List.mem_append,yv,κ];refine⟨λc=>c.elim (λ⟨i,hi,e⟩=>⟨i,by omega,e⟩) (λe=>⟨k,by omega,e.symm⟩),λ⟨i,hi,e⟩=>?_⟩
   by_cases ei:i=k
   ·exact .inr (by rw [<- e,ei])
   ·exact .inl ⟨i,by omega,e⟩
theorem ZJ {l:List (List Int)} (h:bq l) {i j:Nat} (hij:i<j) (hj:j<l.length):¬ kc (l.getD j []) (l.getD i [])<0:=by have:=List.pairwise_iff_getElem.1 h i j (by omega) hj hij;simpa [List.getD,hj,show i<l.length by omega] using this
theorem kP {l:List (List Int)} (h:bq l):∀ {k:Nat},k<=l.length->(uB l k).Pairwise λa b=>kc a b<0
 | 0,_=>List.Pairwise.nil
 | k + 1,hk=>by
  rw [uB]
  by_cases c:0<k/\l.getD k []=l.getD (k-1) []
  ·rw [if_pos c]; exact kP h (by omega)
  ·rw [if_neg c];refine List.pairwise_append.2 ⟨kP h (by omega),List.pairwise_singleton _ _,λx hx y hy=>?_⟩;rw [κ] at hy;subst hy;obtain⟨i,hi,rfl⟩:=yv.1 hx;have h1:=ZJ h hi (show k<l.length by omega)
   by_cases e:kc (l.getD i []) (l.getD k [])<0
   ·exact e
   ·exfalso;have eq:l.getD i []=l.getD k []:=u9 h1 e
    by_cases e2:i=k-1
    ·exact c ⟨by omega,by rw [<- eq,e2]⟩
    ·have h2:=ZJ h (show i<k-1 by omega) (show k-1<l.length by omega);have h3:=ZJ h (show k-1<k by omega) (show k<l.length by omega);rw [eq] at h2;exact c ⟨by omega,u9 h3 h2 |>.symm⟩
theorem dg {l:List (List Int)} (h:bq l):bq (dedup l):=by have:=kP h (Aj l.length);exact this.imp λ{a b} h=>by have:=mQ a b; omega
theorem Zx {l:List (List Int)} (h:bq l):(dedup l).Nodup:=by have:=kP h (Aj l.length);refine this.imp λ{a b} h e=>?_;rw [e,dS] at h;omega
theorem dh {l:List (List Int)} {x:List Int}:x ∈ dedup l ↔ x ∈ l:=by
 unfold dedup;rw [yv]
 constructor
 ·rintro ⟨i,hi,rfl⟩; exact xK hi
 ·intro h;obtain⟨i,hi,e⟩:=List.mem_iff_getElem.1 h;exact⟨i,hi,by simp [List.getD,hi,e]⟩
open Ru
theorem dU {rs:List wX} {A F T:Nat} (ok:k8 rs A F T):NZ ⟨A,F,T,rs⟩= 0:=by
 obtain⟨h1,h2,h3,h4,h5,h6,h7,h8,h9⟩:=ok;unfold NZ;simp only;have hp:((rs.length*T:Nat):Int)<=512:=by omega
 rw [Int.natCast_mul] at hp
 rw [if_neg (by omega),if_neg (by omega),if_neg (by omega),if_neg,if_neg]
 ·rw [Aw,ξ];intro r hr;simp only [Kz,Az,Ah,not_exists,not_and];intro f hf;simp [h9 r hr f hf]
 ·rw [Aw,ξ];intro r hr;have hrow:=h8 r hr;simp only [Kw,h6 r hr,h7 r hr,decide_true,Bool.not_true,Bool.false_or,Ah,not_exists,not_and];intro l hl;simp [hrow l hl]
open Ru
namespace Ru
def Pc (rs:List wX) (A T:Nat) (kf:Nat->Nat × Nat->List Int):List wX:=V1 rs A T (NS kf (iS T (rs.length*T)))
theorem RO (rs:List wX) (A T:Nat) (num:Nat->Nat × Nat->Int):(V1 rs A T num).length=rs.length:=by simp [V1]
theorem RM {rs:List wX} {A T:Nat} {num:Nat->Nat × Nat->Int} {i:Nat} (h:i<rs.length):(V1 rs A T num).getD i pG=⟨(List.range T).map λt=>(List.range A).map λa=>num a (i,t),(rs.getD i pG).ye⟩:=by simp [V1,List.getD,h]
theorem Ov {T R:Nat} {p:Nat × Nat} (hp:p.1<R/\p.2<T):p ∈ iS T (R*T):=by obtain⟨r,t⟩:=p;simp only at hp;simp only [iS,List.mem_map,χ];have hm:=Nat.mul_le_mul_right T (show r+1<=R from hp.1);rw [Nat.succ_mul] at hm;refine⟨r*T+t,by omega,?_⟩;rw [Nat.mul_comm,Nat.mul_add_div (by omega),Nat.div_eq_of_lt hp.2,Nat.mul_add_mod,An hp.2];rfl
theorem RK (rs:List wX) (A T:Nat) (kf:Nat->Nat × Nat->List Int):(Pc rs A T kf).length=rs.length:=RO _ _ _ _
end Ru
open Rs Fm Ru Te Kb
namespace Kb
theorem iv {rs:List wX} {A F T:Nat} (ok:k8 rs A F T) {f:List Nd} (hc:yW f=0) (hfr:(sW .andNot .i64 (zX f:Int) 15 != 0)= false) (hft:sL f A F=true):rO A F (mZ f)= true:=by
 have h16:zX f<16:=SU ⟨zX f,nG f⟩ hfr;have ha:∀ n:Fin 16,n.val &&& 3824=0/\n.val &&& 256=0:=by decide
 have hE:ke ⟨A,F,T,rs⟩ f=0:=by unfold ke;rw [if_neg (by simpa using dU ok),if_neg (by simpa using hc),yw (nG f),if_neg (by simp [(ha ⟨zX f,h16⟩).1])];simp only;rw [if_neg (by rw [hft]; simp)]
 exact(vd rfl (dU ok) ok hE (ha ⟨zX f,h16⟩).2).1
theorem sj {p:yT} {f:List Nd} {fr:Int} (h:vq p f fr=0):yW f=0/\(sW .andNot .i64 (zX f:Int) fr != 0)= false/\sL f p.xV.length p.F=true:=by
 unfold vq at h
 by_cases h1:yW f=0
 ·rw [if_neg (by simpa using h1)] at h
  cases h2:(sW .andNot .i64 (zX f:Int) fr != 0) with
  | true=>rw [h2,if_pos rfl] at h; cases h
  | false=>
   rw [h2,if_neg (by simp)] at h
   cases h3:sL f p.xV.length p.F with
   | true=>exact⟨h1,rfl,rfl⟩
   | false=>rw [h3] at h; cases h
 ·rw [if_pos h1] at h; exact absurd h h1
structure W5 (p : yT) (F : Nat) (sts : List (List (BitVec 64))) (t : Nat) : Prop where
 fe:p.F=(F:Int)
 hF:F<=8
 hA:1<=p.xV.length/\p.xV.length<=4
 hR:1<=sts.length/\sts.length<=16
 len:∀ st ∈ sts,t<st.length
 ht:t<=1000
 val:∀ st ∈ sts,∀ s ∈ st,s >>> F=0#64
theorem W5.ok {p:yT} {F:Nat} {sts:List (List (BitVec 64))} {t:Nat} (h:W5 p F sts t):Ks p F sts t:=⟨h.fe,h.hF,h.hA.2,by have:=h.hR.2; omega,h.len,h.ht⟩
theorem W5.time {p:yT} {F:Nat} {sts:List (List (BitVec 64))} {t:Nat} (h:W5 p F sts t):k8 (wV p.xV sts t) p.xV.length F 1:= PB h.hA.2 h.hF ⟨h.hR.1,by have:=h.hR.2; omega⟩ λw hw=>h.val _ (xK hw) _ (xK (h.len _ (xK hw)))
def Mx (xV:List (BitVec 64)) (sts:List (List (BitVec 64))) (t:Nat) (f:List Nd) (v:Nat):Bool:=bt (wV xV sts t) xV.length 1 (mZ f) (v,0)
def N1 (xV:List (BitVec 64)) (sts:List (List (BitVec 64))) (t a:Nat) (f:List Nd) (w:Nat):Bool:=(List.range sts.length).all λv=>!decide (vG xV (vK sts v) a t=vG xV (vK sts w) a t) || Mx xV sts t f v
def V4 (xV:List (BitVec 64)) (sts:List (List (BitVec 64))) (t:Nat) (f:List Nd):BitVec 64:=sZ 1 sts.length (bt (wV xV sts t) xV.length 1 (mZ f))
def tI (xV:List (BitVec 64)) (sts:List (List (BitVec 64))) (t a w:Nat):List bL->Int
 | []=>-1
 | c :: r=>if N1 xV sts t a c.test w=true then c.mv else tI xV sts t a w r
def rW (p:yT) (sts:List (List (BitVec 64))) (t a w:Nat):Int:=tI p.xV sts t a w (p.code.getD a [])
def vB (p:yT) (sts:List (List (BitVec 64))) (t:Nat):List (List Int):=(List.range p.xV.length).map λa=>(List.range sts.length).map λw=>rW p sts t a w
def vE (A:Nat) (s:BitVec 64):List wX:=[⟨[List.replicate A 0],[s]⟩]
def bo (A:Nat) (f:List Nd) (s:BitVec 64):Bool:=bt (vE A s) A 1 (mZ f) (0,0)
def fR (A:Nat) (s0:BitVec 64) (out:BitVec 64) (a:fP):BitVec 64:=out &&& ~~~(1#64 <<< a.fact.toNat) ||| (if bo A a.to s0=true then 1#64 <<< a.fact.toNat else 0#64)
def kC (p:yT) (s0:BitVec 64) (out:BitVec 64) (k:Int):BitVec 64:=if k<0 then out else(p.xO.getD k.toNat []).foldl (fR p.xV.length s0) out
def j7 (p:yT) (s0:BitVec 64) (mv:List Int):BitVec 64:=mv.foldl (kC p s0) s0
theorem P8 {A F:Nat} {s:BitVec 64} (hA:A<=4) (hF:F<=8) (hs:s >>> F=0#64):k8 (vE A s) A F 1 where
 hA:=hA
 hF:=hF
 hT:=⟨by omega,by omega⟩
 hR:=⟨by simp [vE],by simp [vE]⟩
 hP:=by simp [vE]
 loc:=λr hr=>by simp only [vE,κ] at hr; subst hr; rfl
 ye:=λr hr=>by simp only [vE,κ] at hr; subst hr; rfl
 row:=λr hr l hl=>by simp only [vE,κ] at hr; subst hr;simp only [κ] at hl; subst hl;simp
 val:=λr hr x hx=>by simp only [vE,κ] at hr; subst hr;simp only [κ] at hx; subst hx;exact hs
end Kb
theorem OD {p:yT} {F:Nat} {sts:List (List (BitVec 64))} {t:Nat} (h:W5 p F sts t) {f:List Nd} (hE:vq p f 15=0):xA prog 54 [gE p.xV sts t F,.sl 6 (wN f)] (.wF [.int .u64 (ui (V4 p.xV sts t f)),.int .i64 0]):=by
 obtain⟨h1,h2,h3⟩:=sj hE;rw [h.fe] at h3;have ok:=h.time;have hl:(wV p.xV sts t).length*1=sts.length:=by rw [jB,Nat.mul_one]
 have hh:=Yb ok (by rw [hl]; have:=h.hR.2; omega) h1 h2 h3;unfold zu at hh;rw [if_pos (iv ok h1 h2 h3),hl,Xp] at hh;exact hh
theorem Xj {p:yT} {F:Nat} {sts:List (List (BitVec 64))} {t:Nat} (h:W5 p F sts t) {a w:Nat} (ha:a<p.xV.length) (hw:w<sts.length) (f:List Nd) :
  (Ru.pF (wV p.xV sts t) (wS sts.length 0) a (vJ (wV p.xV sts t) a (w,0)) sts.length &&& ~~~V4 p.xV sts t f==0#64)= N1 p.xV sts t a f w:=by
 have hR:=h.hR.2;rw [Bool.eq_iff_iff,eB];unfold N1 V4;simp only [List.all_eq_true,χ]
 constructor
 ·intro hh v hv
  by_cases e:vG p.xV (vK sts v) a t=vG p.xV (vK sts w) a t
  ·have h1:=hh v (by omega);rw [eV _ _ (by omega),mI hv,zZ (by omega)] at h1;have h2:=(xg (t:=t) ha hv hw).2 e;simp only [decide_eq_true hv,decide_eq_true h2,Bool.true_and,true_implies] at h1;unfold Mx;rw [decide_eq_true e,show pt 1 v=(v,0) by unfold pt; rw [Nat.div_one,Nat.mod_one]] at *;rw [h1]; rfl
  ·rw [decide_eq_false e]; rfl
 ·intro hh v hv hb;rw [eV _ _ (by omega)] at hb;simp only [Au,decide_eq_true_eq] at hb;obtain⟨hv2,hb⟩:=hb;rw [mI hv2] at hb;have h1:=hh v hv2;rw [decide_eq_true ((xg (t:=t) ha hv2 hw).1 hb)] at h1;rw [zZ (by omega),decide_eq_true hv2,show pt 1 v=(v,0) by unfold pt; rw [Nat.div_one,Nat.mod_one]];simpa [Mx] using h1
open Rs Fm Ru Te Kb
namespace Kb
structure zz (p : yT) (F : Nat) : Prop where
 fe:p.F=(F:Int)
 hF:F<=8
 hA:1<=p.xV.length/\p.xV.length<=4
 hI:1<=p.init.length/\p.init.length<=16
 hM:p.xO.length<=8
 hC:p.code.length=p.xV.length
 cl:∀ l ∈ p.code,l.length<=6
 init:∀ s ∈ p.init,s >>> F=0#64
 xV:∀ s ∈ p.xV,s >>> F=0#64
 bq:jv p.init=true
 GI:∀ m ∈ p.xO,bV m=true
 mv:∀ m ∈ p.xO,∀ a ∈ m,mV p a=0
 code:∀ l ∈ p.code,∀ c ∈ l,jS p c=0
theorem nq {p:yT} {F:Nat} (h:p.F=(F:Int)) {s:BitVec 64} (hs:pE p s=false):s >>> F=0#64:=by unfold pE at hs;rw [h] at hs;simpa using hs
theorem Tb {p:yT} (h:uA p=0):∃ F,zz p F:=by
 unfold uA at h
 split at h
 ·rename_i h0; exact absurd h h0
 rename_i h0;have h0:wL p=0:=by simpa using h0
 split at h
 ·rename_i h1; exact absurd h h1
 rename_i h1;have h1:wT (wT (mV p)) p.xO=0:=by simpa using h1
 unfold wL at h0
 split at h0
 ·cases h0
 rename_i q1
 split at h0
 ·cases h0
 rename_i q2
 split at h0
 ·cases h0
 rename_i q3
 split at h0
 ·cases h0
 rename_i q4;simp only [not_or] at q1 q2 q3 q4;obtain⟨F,hF⟩:∃ F:Nat,p.F=(F:Int):=⟨p.F.toNat,by omega⟩
 refine⟨F,hF,by omega,by omega,by omega,by omega,by have:=q3.2.2.1; omega,λl hl=>?_,λs hs=>nq hF ?_,λs hs=>nq hF ?_,by simpa using q4.1,λm hm=>?_,λm hm a ha=>?_,λl hl c hc=>?_⟩
 ·have:=ξ.1 (Av.2 q2.2.2.2) l hl;simpa using this
 ·have:=ξ.1 (Av.2 q3.2.2.2.1) s hs;simpa using this
 ·have:=ξ.1 (Av.2 q3.2.2.2.2) s hs;simpa using this
 ·have:=ξ.1 (Av.2 q4.2) m hm;simpa using this
 ·exact oC.1 (oC.1 h1 m hm) a ha
 ·exact oC.1 (oC.1 h l hl) c hc
theorem YZ {p:yT} {F:Nat} (h:zz p F) {m:List fP} (hm:m ∈ p.xO):m.length<=8:=by
 have ha:=Pu.1 (h.GI m hm)
 have hf:∀ i,i<m.length->0<=(m.getD i aN).fact/\(m.getD i aN).fact<F:=λi hi=>by
  have:=h.mv m hm _ (xK (d:=aN) hi);unfold mV at this
  split at this
  ·cases this
  ·rename_i q; have:=h.fe; omega
 have hg:∀ i,i<m.length->(m.map (·.fact)).getD i 0=(m.getD i aN).fact:=λi hi=>by simp [List.getD,hi]
 have key:∀ i,i<m.length->(i:Int)<=(m.getD i aN).fact:=by
  intro i
  induction i with
  | zero=>intro hi; exact(hf 0 hi).1
  | succ i ih=> intro hi;have h1:=ih (by omega);have h2:=ha i (by simpa using hi);rw [hg i (by omega),hg (i+1) hi] at h2;omega
 by_cases h0:m.length=0
 ·omega
 ·have h1:=key (m.length-1) (by omega);have h2:=hf (m.length-1) (by omega);have:=h.hF;omega
end Kb
theorem Z7 (A F:Nat) (s:BitVec 64):kd (vE A s) (wS 1 0) A F = .agg [.int .i64 1,.sl 1 (us ((List.range F).map λi=>s >>> i &&& 1#64)),.sl 1 (rr (List.replicate A [1#64]))]:=by
 unfold kd
 have h1:qV (vE A s) (wS 1 0) F=(List.range F).map λi=>s >>> i &&& 1#64:=by refine List.map_congr_left λi _=>?_;rw [yt];show 0#64 ||| (if s.getLsbD i then 1#64 <<< 0 else 0#64)= _;cases s.getLsbD i <;> rfl
 have h2:tJ (vE A s) (wS 1 0) A=List.replicate A [1#64]:=by refine List.eq_replicate_iff.2 ⟨by simp [tJ],λr hr=>?_⟩;simp only [tJ,List.mem_map,χ] at hr;obtain⟨a,ha,rfl⟩:=hr;show [0#64 ||| (if vJ (vE A s) a (0,0)= vJ (vE A s) a (0,0) then 1#64 <<< 0 else 0#64)]=_;rw [if_pos rfl];rfl
 rw [h1,h2];rfl
theorem Rc (A:Nat) (f:List Nd) (s:BitVec 64) (n:Nat):sZ 1 1 (bt (vE A s) A 1 (mZ f)) <<< n=if bo A f s=true then 1#64 <<< n else 0#64:=by show (0#64 ||| (if bo A f s=true then 1#64 <<< 0 else 0#64)) <<< n=_;split <;> simp
theorem Z1 {n:Nat} (hn:1<=n/\n<=64):xA prog 224 [.sl 1 [[.sl 1 (us [1#64])]],.int .i64 (n:Int)] (.sl 1 (rr (List.replicate n [1#64]))):=by have h:=UT (d:=.sl 1 (us [1#64])) rfl rfl hn;rw [Ol] at h;exact xQ.ret h (.drop (Am _) (XP (by decide) (y7 _) (by simp [rr])))
end Go.Pd
