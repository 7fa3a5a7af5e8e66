/- Part XA. -/
import Derived.Test.YtccobgpcnfjbhaaZcX6
set_option linter.unusedSectionVars false
set_option linter.unusedVariables false
set_option linter.unusedSimpArgs false
set_option linter.defProp false
open List renaming take_append_of_le_length->γ,getElem?_append_left->δ,getElem?_append_right->ε,getElem?_cons_succ->ζ,take_length_add_append->η,getElem?_eq_getElem->θ,mem_of_mem_take->μ,take_succ_cons->ν,getElem_mem->ξ,length_append->ο,length_cons->π,map_cons->τ,take_append_drop->υ,filterMap_cons->χ,mem_filterMap->ψ,take_length->ω,length_take->Aa
open Nat renaming lt_or_ge->Ab,lt_trichotomy->Ac,le_refl->Ad
open Option renaming bind_eq_some_iff->Ae,getD_some->Af,bind_eq_bind->Ag,map_some->Ah
namespace Go.Pd
open Go
section
variable [vZ]
def xb (pre:List xR) (o1:Option Nat) (dx:D) (mid1:List xR) (o2:Option Nat) (dy:D) (mid2:List xR):List xR:=pre++⟨o1,none,.mv (.c dx)⟩ :: (mid1++⟨o2,none,.mv (.c dy)⟩ :: mid2)
def qh (C:Cx) (pre:List xR) (m1:xR) (mid1:List xR) (m2:xR) (mid2 post:List xR) (free:List Nat) (f:Fr) (σ:St) (K:Fr->St->Prop):Prop:=
 zY C σ pre f λf1=>vO C σ (uX f1) m1.k λdx σ1=>zY C σ1 mid1 (f1.put m1.dst dx) λf2=>vO C σ1 (uX f2) m2.k λdy σ2=>zY C σ2 mid2 (f2.put m2.dst dy) λf3=>
  zY C σ (xb pre m1.dst dx mid1 m2.dst dy mid2) f (λg=>g=f3)/\ zY C σ1 (xb pre m1.dst dx mid1 m2.dst dy mid2) f (λg=>g=f3)/\ zY C σ2 (xb pre m1.dst dx mid1 m2.dst dy mid2) f (λg=>g=f3)/\
  vO C σ (uX f) m2.k λdA σA=>zY C σA pre f λg1=>vO C σA (uX g1) m1.k λdz σB=>zY C σB (mid1++⟨m2.dst,none,.mv (.c dA)⟩ :: mid2) (g1.put m1.dst dz) λg3=>
   zY C σA (xb pre m1.dst dz mid1 m2.dst dA mid2) f (λg=>g=g3)/\ zY C σB (xb pre m1.dst dz mid1 m2.dst dA mid2) f (λg=>g=g3)/\
   vM C post f3 σ2 λf4 σ4=>vM C post g3 σB λg4 σ5=>(∀ t ∈ free,f4.get t=g4.get t)/\ yO C g4 σ5 f4 σ4/\K f4 σ4
theorem eV : ∀ {ds ds':List xR} {t:List (D × St)} {f:Fr},ds.map (·.dst)= ds'.map (·.dst)->zE ds t f=zE ds' t f
 | [],[],_,_,_=>rfl
 | [],_ :: _,_,_,h=>by simp at h
 | _ :: _,[],_,_,h=>by simp at h
 | o :: ds,o' :: ds',[],f,_=>rfl
 | o :: ds,o' :: ds',p :: t,f,h=>by simp only [τ,List.cons.injEq] at h;simp only [zE];rw [h.1];exact eV h.2
theorem eF {l l':List xR} (h:l.map (·.dst)= l'.map (·.dst)):wO l=wO l':=by
 unfold wO;rw [h];have e:∀ l:List xR,(l.all λo=>o.dst.isSome)= (l.map (·.dst)).all (·.isSome):=λl=>by rw [List.all_map]; rfl
 rw [e l,e l',h]
theorem nK {C:Cx} {hd qs:List xR} {f:Fr} {t:List (D × St)} {st:St} (hdst:qs.map (·.dst)= hd.map (·.dst)) (hok:wO hd=true) (hl:t.length=hd.length) (h:zY C st qs f λg=>g=zE hd t f) {i:Nat} {dop:xR} (hi:qs[i]?=some dop) :
  xA dop (zE (hd.take i) (t.take i) f) (vO C st (uX (zE (hd.take i) (t.take i) f)) dop.k λx y=>x=wX t i/\y=st) (.vB=wX t i):=by
 obtain⟨t',q1,q2,q3,q4⟩:=yV _ _ h;have hlen:qs.length=hd.length:=by have:=congrArg List.length hdst; simpa using this
 have hv:=sN ((eF hdst).trans hok) q3 (by omega:t.length=qs.length) (q2.trans (eV hdst.symm));have:=wF q1 q3 hv q4 hi
 rwa [eV (ds:=qs.take i) (ds':=hd.take i) (by rw [List.map_take,List.map_take,hdst])] at this
theorem jP : ∀ {l:List xR},(l.filterMap (·.dst)).Nodup->∀ {i j t:Nat},wW l i=some t->wW l j=some t->i=j
 | [],_,i,j,t,h,_=>by simp [wW] at h
 | o :: l,hn,i,j,t,hi,hj=>by
  have hm:∀ k,wW l k=some t->t ∈ l.filterMap (·.dst):=λk hk=>by unfold wW at hk;obtain⟨d,h1,h2⟩:=Ae.1 hk;exact ψ.2 ⟨d,List.mem_of_getElem? h1,h2⟩
  have hn2:(l.filterMap (·.dst)).Nodup/\∀ d,o.dst=some d->d ∉ l.filterMap (·.dst):=by
   rw [χ] at hn
   cases e:o.dst with
   | none=>rw [e] at hn; exact⟨hn,λd h=>by cases h⟩
   | some d=>rw [e] at hn; exact⟨(List.nodup_cons.1 hn).2,λd' h=>by cases h; exact(List.nodup_cons.1 hn).1⟩
  match i,j with
  | 0,0=>rfl
  | 0,j+1=>exact absurd (hm j hj) (hn2.2 t hi)
  | i+1,0=>exact absurd (hm i hi) (hn2.2 t hj)
  | i+1,j+1=>exact congrArg (·+1) (jP (l:=l) hn2.1 hi hj)
theorem om {ds:List xR} {tr:List (D × St)} {f:Fr} (hl:tr.length=ds.length) (hn:(ds.filterMap (·.dst)).Nodup) {j t:Nat} (hj:j<ds.length) (hd:wW ds j=some t):(zE ds tr f).get t=wX tr j:=by have:=oU (f:=f) hl ds.length (Ad _) t;rw [ω,<- hl,ω,hl] at this;rw [this];exact oT rfl hd ds.length hj λk h1 h2 h3=>by have:=jP hn hd h3; omega
theorem oq {ds ds':List xR} {tr tr':List (D × St)} {f:Fr} {T T':Nat->Bool} {t:Nat} (hd:∀ j,wW ds' j=wW ds j):∀ (n:Nat),(∀ j,j<n->wW ds j=some t->T' j=T j/\(T j=true->wX tr' j=wX tr j))->LV ds' tr' f T' n t=LV ds tr f T n t
 | 0,_=>rfl
 | n+1,h=>by
  simp only [LV,hd];rw [oq hd n λj hj=>h j (by omega)]
  by_cases e:wW ds n=some t
  ·obtain⟨h1,h2⟩:=h n (by omega) e;rw [h1]
   split
   ·rename_i hc; rw [h2 hc.1]
   ·rfl
  ·rw [if_neg (λh=>e h.2),if_neg (λh=>e h.2)]
theorem ar {P:Program} {N:Nat} {own:List Nat} {code:Code} {pre:List xR} {m1:xR} {mid1:List xR} {m2:xR} {mid2 post:List xR} {free:List Nat} (h:vG P N own code=some (.oD pre m1 mid1 m2 mid2 post free)) :
  ∃ id ops l,code = .region id ops true/\zP (oX P N own ops) ops.toList=some l/\own.contains 77777=false/\post=l.drop (vI own l)/\ Vv own ops.toList l (vI own l) pre m1 mid1 m2 mid2 free:=by
 cases code with
 | region id ops draw=>
  simp only [vG] at h
  split at h
  ·rename_i d hd;cases h
   rcases oP hd with ⟨_,h2 | h2 | h2⟩ | ⟨_,h2,_⟩
   ·obtain⟨_,_,_,_,_,_,_,_,_,_,_,_,_,_,_,e⟩:=uO h2; cases e
   ·obtain⟨_,_,_,_,_,_,_,_,_,_,_,_,_,_,e⟩:=pC h2; cases e
   ·obtain⟨_,_,_,_,_,_,_,_,_,_,_,e⟩:=pB h2; cases e
   ·obtain⟨_,_,_,_,_,_,_,_,_,_,_,_,_,_,_,e⟩:=uO h2; cases e
  ·simp only [Ag,Ae] at h;obtain⟨l,hl,h⟩:=h
   split at h
   ·rename_i hdr
    split at h
    ·split at h
     ·rename_i d hv;cases h;obtain⟨_,_,_,_,_,_,e,_⟩:=oR hv;cases e
     ·rcases qJ h with ⟨e,_⟩ | ⟨_,_,_,_,_,e,_⟩ | ⟨_,_,_,_,_,_,_,_,_,_,_,e,_⟩ <;> cases e
    ·split at h
     ·rename_i hq;obtain⟨_,_,_,_,_,_,_,e,hp,hR⟩:=oQ h;cases e;subst hdr;exact⟨id,ops,l,rfl,hl,hq,hp,hR⟩
     ·cases h
   ·simp at h
 | rangeFunc g0 ps0 a c=> simp [vG,Ae] at h
 | seq a b=> simp only [vG,zO] at h;obtain⟨dx,hx,dy,hy,h⟩:=h;rcases zH dx dy with e | ⟨_,_,_,_,_,_,_,_,_,_,_,_,e,_⟩ <;> rw [e] at h <;> cases h
 | _=>simp [vG,Ae] at h
theorem vm {k:DK} (h:gZ k=true):k.uo = []/\k.zX=false:=by cases k <;> simp_all [gZ,DK.uo,DK.zX]
theorem aI {A B:List xR} {b c:xR} {i:Nat} (h:i≠A.length):(A++b :: B)[i]?=(A++c :: B)[i]?:=by
 rcases Ab i A.length with h1 | h1
 ·rw [δ h1,δ h1]
 ·obtain⟨k,rfl⟩:∃ k,i=A.length+(k+1):=⟨i-A.length-1,by omega⟩;rw [ε (by omega),ε (by omega),show A.length+(k+1)-A.length=k+1 by omega,ζ,ζ]
theorem tx {α:Type} {A B:List α} {b:α}:(A++b :: B)[A.length]?=some b:=by rw [ε (Ad _),Nat.sub_self]; rfl
theorem qn {a b x:xR} (hd:a.dst=b.dst) (hn:a.names=b.names):qC a x=qC b x:=by unfold qC; rw [hd,hn]
theorem ve {a b x:xR} (hd:a.dst=b.dst) (hn:a.names=b.names):qC x a=qC x b:=by unfold qC; rw [hd,hn]
theorem zy {C:Cx} (hm:C.P.follows .mixedOrders=true) {pre:List xR} {m1:xR} {mid1:List xR} {m2:xR} {mid2 post:List xR} {free:List Nat} {f:Fr} {σ:St} {Q:Exit->Fr->St->Prop}
  (h:qh C pre m1 mid1 m2 mid2 post free f σ (Q .normal)):wpS C (.oD pre m1 mid1 m2 mid2 post free) f σ Q:=by
 intro code hc E a w G;obtain⟨id,ops,l,rfl,hd,hq,hpost,R⟩:=ar hc;have hg1:=tO R.n2;have hg2:=tO R.n4;obtain⟨hal,hal2⟩:=vm R.alloc;unfold qh at h;obtain⟨t1,a1,h,a3,a4⟩:=yV _ _ h;obtain⟨dx,σ1,hx,h⟩:=rB hq h;obtain⟨t2,b1,h,b3,b4⟩:=yV _ _ h;obtain⟨dy,σ2,hy,h⟩:=rB hq h;obtain⟨t3,c1,h,c3,c4⟩:=yV _ _ h;obtain⟨q0,q1,q2,h⟩:=h;obtain⟨dA,σA,hA,h⟩:=rB hq h;obtain⟨u1,d1,h,d3,d4⟩:=yV _ _ h;obtain⟨dz,σB,hz,h⟩:=rB hq h;obtain⟨u2,e1,h,e3,e4⟩:=yV _ _ h;obtain⟨qA,qB,h⟩:=h;obtain⟨t4,f1,h,f3⟩:=tW hq _ _ _ h;obtain⟨u4,g1,h,g3⟩:=tW hq _ _ _ h;obtain⟨hfree,hweak,hQ⟩:=h;have s0:wV t1 σ=σ:=yM a4;have s1:wV t2 σ1=σ1:=yM b4;have s2:wV t3 σ2=σ2:=yM c4;have sA:wV u1 σA=σA:=yM d4;have sB:wV u2 σB=σB:=yM e4
 have hls:l=pre++m1 :: (mid1++m2 :: (mid2++post)):=by
  conv=>lhs; rw [<- υ (vI C.own l) l,R.eq,<- hpost]
  simp
 have hsl:vI C.own l<=l.length:=by
  have:∀ ks:List xR,vI C.own ks<=ks.length:=by
   intro ks
   induction ks with
   | nil=>simp [vI]
   | cons k ks ih=>simp only [vI]; split <;> simp <;> omega
  exact this l
 have hs:vI C.own l=pre.length+1+mid1.length+1+mid2.length:=by have:=congrArg List.length R.eq;rw [Aa,Nat.min_eq_left hsl] at this;simp at this; omega
 generalize vI C.own l=s at *;obtain⟨x,hx0⟩:∃ x,x=pre.length:=⟨_,rfl⟩;obtain⟨y,hy0⟩:∃ y,y=pre.length+1+mid1.length:=⟨_,rfl⟩;have T3:Trace C (mid2++post) _ σ2 (t3++t4)/\ _/\_:=Trace.append c1 c3 (by rw [s2]; exact f1);have T2:Trace C (m2 :: (mid2++post)) (zE mid1 t2 ((zE pre t1 f).put m1.dst dx)) (wV t2 σ1) ((dy,σ2) :: (t3++t4)):=.cons (by simp only [xA,hg2]; rw [s1]; exact hy) T3.1;have T1:=Trace.append b1 b3 T2;have T0:Trace C (m1 :: (mid1++m2 :: (mid2++post))) (zE pre t1 f) (wV t1 σ) ((dx,σ1) :: (t2++(dy,σ2) :: (t3++t4))):=.cons (by simp only [xA,hg1]; rw [s0]; exact hx) T1.1;obtain⟨k1,k2,k3⟩:=Trace.append a1 a3 T0
 have k2':zE l (t1++(dx,σ1) :: (t2++(dy,σ2) :: (t3++t4))) f=zE post t4 (zE mid2 t3 ((zE mid1 t2 ((zE pre t1 f).put m1.dst dx)).put m2.dst dy)):=by rw [hls,k2];show zE (mid1++m2 :: (mid2++post)) _ _=_;rw [T1.2.1];exact T3.2.1
 have k3':wV (t1++(dx,σ1) :: (t2++(dy,σ2) :: (t3++t4))) σ=wV t4 σ2:=by rw [k3,s0];show wV (t2++(dy,σ2) :: (t3++t4)) σ1=_;rw [T1.2.2,s1];show wV (t3++t4) σ2=_;rw [T3.2.2,s2]
 rw [<- hls] at k1;have U2:Trace C ((mid1++⟨m2.dst,none,.mv (.c dA)⟩ :: mid2)++ post) _ σB (u2++u4)/\ _/\_:=Trace.append e1 e3 (by rw [sB]; exact g1);have U0:Trace C (m1 :: ((mid1++⟨m2.dst,none,.mv (.c dA)⟩ :: mid2)++ post)) (zE pre u1 f) (wV u1 σA) ((dz,σB) :: (u2++u4)):=.cons (by simp only [xA,hg1]; rw [sA]; exact hz) U2.1;obtain⟨j1,j2,j3⟩:=Trace.append d1 d3 U0;obtain⟨l',hl'⟩:∃ l',l'=pre++m1 :: ((mid1++⟨m2.dst,none,.mv (.c dA)⟩ :: mid2)++ post):=⟨_,rfl⟩
 have j2':zE l' (u1++(dz,σB) :: (u2++u4)) f=zE post u4 (zE (mid1++⟨m2.dst,none,.mv (.c dA)⟩ :: mid2) u2 ((zE pre u1 f).put m1.dst dz)):=by rw [hl',j2];show zE ((mid1++⟨m2.dst,none,.mv (.c dA)⟩ :: mid2)++ post) _ _=_;exact U2.2.1
 have j3':wV (u1++(dz,σB) :: (u2++u4)) σA=wV u4 σB:=by rw [j3,sA];show wV (u2++u4) σB=_;rw [U2.2.2,sB]
 rw [<- hl'] at j1;rw [<- k2',<- j2'] at hfree;rw [<- k2',<- k3',<- j2',<- j3'] at hweak;rw [<- k2',<- k3'] at hQ
 have hlen:(t1++(dx,σ1) :: (t2++(dy,σ2) :: (t3++t4))).length=l.length:=by rw [hls]; simp only [ο,π,a3,b3,c3,f3]
 have hlen':(u1++(dz,σB) :: (u2++u4)).length=l'.length:=by rw [hl']; simp only [ο,π,d3,e3,g3]
 have hll:l'.length=l.length:=by rw [hl',hls]; simp only [ο,π,List.append_assoc,List.cons_append]
 have hx:x<s:=by omega
 have hy:y<s:=by omega
 have hxy:x<y:=by omega
 obtain⟨hd_,hhd⟩:∃ hd_,hd_=pre++m1 :: (mid1++m2 :: mid2):=⟨_,rfl⟩;obtain⟨tr,htr⟩:∃ tr,tr=t1++(dx,σ1) :: (t2++(dy,σ2) :: (t3++t4)):=⟨_,rfl⟩;obtain⟨th,hth⟩:∃ th,th=t1++(dx,σ1) :: (t2++(dy,σ2) :: t3):=⟨_,rfl⟩;obtain⟨tr',htr'⟩:∃ tr',tr'=u1++(dz,σB) :: (u2++u4):=⟨_,rfl⟩;obtain⟨th',hth'⟩:∃ th',th'=u1++(dz,σB) :: u2:=⟨_,rfl⟩;obtain⟨hd',hhd'⟩:∃ hd',hd'=pre++m1 :: (mid1++⟨m2.dst,none,.mv (.c dA)⟩ :: mid2):=⟨_,rfl⟩;rw [<- htr] at k1 hfree hweak hQ hlen;rw [<- htr'] at j1 hfree hweak hlen';have lhd:l=hd_++post:=by rw [hls,hhd]; simp
 have lhd':l'=hd'++post:=by rw [hl',hhd']; simp
 have tth:tr=th++t4:=by rw [htr,hth]; simp
 have tth':tr'=th'++u4:=by rw [htr',hth']; simp
 have nhd:hd_.length=s:=by rw [hhd]; simp; omega
 have nhd':hd'.length=s:=by rw [hhd']; simp; omega
 have nth:th.length=s:=by rw [hth]; simp [a3,b3,c3]; omega
 have nth':th'.length=s:=by rw [hth']; simp [d3,e3]; omega
 have hF3:zE hd_ th f=zE mid2 t3 ((zE mid1 t2 ((zE pre t1 f).put m1.dst dx)).put m2.dst dy):=by rw [hhd,hth,rL _ _ _ a3];show zE (mid1++m2 :: mid2) (t2++(dy,σ2) :: t3) _=_;rw [rL _ _ _ b3]; rfl
 have hG3:zE hd' th' f=zE (mid1++⟨m2.dst,none,.mv (.c dA)⟩ :: mid2) u2 ((zE pre u1 f).put m1.dst dz):=by rw [hhd',hth',rL _ _ _ d3]; rfl
 rw [<- hF3] at q0 q1 q2;rw [<- hG3] at qA qB;have dq:∀ dx dy,(xb pre m1.dst dx mid1 m2.dst dy mid2).map (·.dst)= hd_.map (·.dst):=λdx dy=>by rw [hhd]; simp [xb]
 have dq':∀ dx dy,(xb pre m1.dst dx mid1 m2.dst dy mid2).map (·.dst)= hd'.map (·.dst):=λdx dy=>by rw [hhd']; simp [xb]
 have dok:wO hd_=true:=by have:=R.Sr; rw [R.eq,<- hhd] at this; exact this
 have dok':wO hd'=true:=(eF ((dq' dx dy).symm.trans (dq dx dy))).trans dok
 have qat:∀ dx dy i,i≠x->i≠y->(xb pre m1.dst dx mid1 m2.dst dy mid2)[i]?=hd_[i]?:=λdx dy i h1 h2=>by rw [hhd];show (pre++_ :: (mid1++_ :: mid2))[i]?=_;rw [aI (c:=m1) (by omega),show pre++m1 :: (mid1++⟨m2.dst,none,DK.mv (.c dy)⟩ :: mid2)= (pre++m1 :: mid1)++ ⟨m2.dst,none,DK.mv (.c dy)⟩ :: mid2 by simp,aI (c:=m2) (by simp; omega)];simp
 have hat:∀ i,i≠y->hd'[i]?=hd_[i]?:=λi h2=>by rw [hhd,hhd',show pre++m1 :: (mid1++⟨m2.dst,none,DK.mv (.c dA)⟩ :: mid2)= (pre++m1 :: mid1)++ ⟨m2.dst,none,DK.mv (.c dA)⟩ :: mid2 by simp,aI (c:=m2) (by simp; omega)];simp
 have lat:∀ i,i≠y->l'[i]?=l[i]?:=λi h2=>by rw [hls,hl',show pre++m1 :: ((mid1++⟨m2.dst,none,DK.mv (.c dA)⟩ :: mid2)++ post)= (pre++m1 :: mid1)++ ⟨m2.dst,none,DK.mv (.c dA)⟩ :: (mid2++post) by simp,aI (c:=m2) (by simp; omega)];simp
 have ly:l[y]?=some m2:=by have:=tx (A:=pre++m1 :: mid1) (B:=mid2++post) (b:=m2);rw [hls,hy0];rw [show (pre++m1 :: mid1).length=pre.length+1+mid1.length by simp; omega] at this;rw [<- this]; simp
 have ly':l'[y]?=some ⟨m2.dst,none,.mv (.c dA)⟩:=by have:=tx (A:=pre++m1 :: mid1) (B:=mid2++post) (b:=(⟨m2.dst,none,.mv (.c dA)⟩:xR));rw [hl',hy0];rw [show (pre++m1 :: mid1).length=pre.length+1+mid1.length by simp; omega] at this;rw [<- this]; simp
 have lx:l[x]?=some m1:=by rw [hls,hx0]; exact tx
 have ldst:∀ j,wW l' j=wW l j:=λj=>by
  unfold wW
  by_cases h:j=y
  ·subst h; rw [ly,ly']; rfl
  ·rw [lat j h]
 have tdy:wX tr' y=dA:=by have hjt:=j1.at y _ ly';obtain⟨d,σ',h1,h2⟩:=hjt;simp only [xA,vO,pW,uX] at h2;simp only [wX,h1,Ah,Af];exact h2.1.symm
 have muh:∀ i,i<s->(tJ C.own l i=true ↔ i=x\/i=y):=λi hi=>by
  have hli:l[i]?=hd_[i]?:=by rw [lhd,δ (by omega)]
  rcases Ac i x with h | h | h
  ·have:hd_[i]?=pre[i]?:=by rw [hhd,δ (by omega)]
   rw [vU (hli.trans (this.trans (θ (by omega)))),R.n1 _ (ξ _)];simp; omega
  ·subst h; rw [vU lx,R.n2]; simp
  ·rcases Ac i y with g | g | g
   ·obtain⟨k,rfl⟩:∃ k,i=pre.length+(k+1):=⟨i-pre.length-1,by omega⟩
    have:hd_[pre.length+(k+1)]?=mid1[k]?:=by rw [hhd,ε (by omega),show pre.length+(k+1)-pre.length=k+1 by omega,ζ,δ (by omega)]
    rw [vU (hli.trans (this.trans (θ (by omega)))),R.n3 _ (ξ _)];simp; omega
   ·subst g; rw [vU ly,R.n4]; simp
   ·obtain⟨k,rfl⟩:∃ k,i=pre.length+1+mid1.length+(k+1):=⟨i-(pre.length+1+mid1.length)-1,by omega⟩
    have:hd_[pre.length+1+mid1.length+(k+1)]?=mid2[k]?:=by rw [hhd,ε (by omega),show pre.length+1+mid1.length+(k+1)-pre.length=(mid1.length+(k+1))+ 1 by omega,ζ,ε (by omega),show mid1.length+(k+1)-mid1.length=k+1 by omega,ζ]
    rw [vU (hli.trans (this.trans (θ (by omega)))),R.n5 _ (ξ _)];simp; omega
 have st0:∀ p,p<=x->wV (tr.take p) σ=σ:=λp hp=>by rw [htr,γ (by omega)];exact yM λx hx=>a4 x (μ hx)
 have st1:∀ p,x<p->p<=y->wV (tr.take p) σ=σ1:=λp h1 h2=>by obtain⟨k,rfl⟩:∃ k,p=t1.length+(k+1):=⟨p-t1.length-1,by omega⟩;rw [htr,η,ν,γ (by omega),sI];exact yM (t:=t2.take k) λx hx=>b4 x (μ hx)
 have st2:∀ p,y<p->p<=s->wV (tr.take p) σ=σ2:=λp h1 h2=>by obtain⟨k,rfl⟩:∃ k,p=t1.length+((t2.length+(k+1))+ 1):=⟨p-t1.length-1-t2.length-1,by omega⟩;rw [htr,η,ν,η,ν,γ (by omega),sI];show wV (t2++(dy,σ2) :: t3.take k) σ1=σ2;rw [sI];exact yM (t:=t3.take k) λx hx=>c4 x (μ hx)
 have stA:∀ p,p<=x->wV (tr'.take p) σA=σA:=λp hp=>by rw [htr',γ (by omega)];exact yM λx hx=>d4 x (μ hx)
 have stB:∀ p,x<p->p<=s->wV (tr'.take p) σA=σB:=λp h1 h2=>by
  have hu2:u2.length=mid1.length+1+mid2.length:=by rw [e3]; simp; omega
  obtain⟨k,rfl⟩:∃ k,p=u1.length+(k+1):=⟨p-u1.length-1,by omega⟩;rw [htr',η,ν,γ (by omega),sI];exact yM (t:=u2.take k) λx hx=>e4 x (μ hx)
 have sp:tv ops l s (tJ C.own l) (λi j=>i==pre.length&&j==pre.length+1+mid1.length):=iR R.ok;have bk:tu ops:=iQ R.ok;have hal3:m2.names=(⟨m2.dst,none,.mv (.c dA)⟩:xR).names:=by unfold xR.names; rw [hal,hg2]; rfl
 obtain⟨hdl,hdg⟩:=yC hd;have hdl2:l.length=ops.size:=by simpa using hdl
 have G':Good C E a { w with drawn:=w.drawn+1 } f σ:=by obtain⟨ι,G⟩:=G;have hk:Kept w w.drew λ_=>False:=(Kept.refl _ _).drew;have hS:=G.qP.ext hk;exact⟨ι,⟨G.size,G.defers.yR rfl (Ad _) λD hD=>hD,G.nx,G.kept.drew,hS,G.uD,G.tF,G.stay,G.fr.yR (λb hb _=>rfl) (λ_ _ h=>h) hk.shape (λ_ _=>rfl) (Ad _)⟩⟩
 have hf0:∀ j,(Array.replicate ops.size false).getD j false=false:=getD_replicate_false ops.size
 refine wpIn_region_any hm (fC (ds:=l) (tr:=tr) (s:=s) (mu:=tJ C.own l) (f:=f) (σ:=σ) (xo:=λi j=>i==pre.length&&j==pre.length+1+mid1.length) (l0:=λ_=>false) hdl (λi o h=>by obtain⟨dop,h1,h2⟩:=hdg i o h; exact⟨dop,h1,λ_=>h2⟩) sp bk (λi j h=>by simp at h; omega) k1 hlen hsl (λm hms hmm=>?_) (λi hi him=>?_) (λi dop p his him hps hdop hns hor=>?_) (λa w G'=>⟨_,_,G',hQ⟩) (λfuel listed a w i j hfew I hi hxo hlj=>?_) _ _ _ _ ?_ ⟨by simp,(λ_ j _ h=>by rw [hf0] at h; cases h),(λ_ h=>by cases h),(λj o _ hT=>by rw [hf0] at hT; cases hT),f,λt=>?_,?_⟩)
 ·rcases(muh m hms).1 hmm with rfl | rfl
  ·rw [vT lx]; exact R.ib
  ·rw [vT ly]; exact hal2
 ·have hne:i≠x/\i≠y:=by
   refine⟨λh=>?_,λh=>?_⟩
   ·rw [(muh i hi).2 (.inl h)] at him; cases him
   ·rw [(muh i hi).2 (.inr h)] at him; cases him
  rcases Ab i x with h | h
  ·rw [st0 (i+1) (by omega),st0 i (by omega)]
  ·rcases Ab i y with g | g
   ·rw [st1 (i+1) (by omega) (by omega),st1 i (by omega) (by omega)]
   ·rw [st2 (i+1) (by omega) (by omega),st2 i (by omega) (by omega)]
 ·have hne:i≠x/\i≠y:=by
   refine⟨λh=>?_,λh=>?_⟩
   ·rw [(muh i his).2 (.inl h)] at him; cases him
   ·rw [(muh i his).2 (.inr h)] at him; cases him
  have z1:l.take i=hd_.take i:=by rw [lhd,γ (by omega)]
  have z2:tr.take i=th.take i:=by rw [tth,γ (by omega)]
  have z3:wX tr i=wX th i:=by unfold wX; rw [tth,δ (by omega)]
  have z4:hd_[i]?=some dop:=by rw [<- hdop,lhd,δ (by omega)]
  rw [z1,z2,z3]
  rcases Ab x p with h | h
  ·rcases Ab y p with g | g
   ·rw [st2 p g hps]; exact nK (dq dx dy) dok (by omega) q2 ((qat dx dy i hne.1 hne.2).trans z4)
   ·rw [st1 p h g]; exact nK (dq dx dy) dok (by omega) q1 ((qat dx dy i hne.1 hne.2).trans z4)
  ·rw [st0 p h]; exact nK (dq dx dy) dok (by omega) q0 ((qat dx dy i hne.1 hne.2).trans z4)
 ·-- THE OBJECT COMES FIRST
  simp only [Bool.and_eq_true,beq_iff_eq] at hxo;obtain⟨rfl,rfl⟩:j=x/\i=y:=by omega
  obtain⟨hun,o,ho,hall⟩:=mem_ready.1 hi;have hlt:i<ops.size:=(Array.getElem?_eq_some_iff.1 ho).1;have hTi:listed.getD i false=false:=getD_both hun;have hol:ops.toList[i]?=some o:=by simpa using ho
  obtain⟨dop,hdop,hmk⟩:=hdg i o hol;obtain rfl:dop=m2:=by rw [ly] at hdop; exact(Option.some.inj hdop).symm
  have hTlen:∀ j,listed.getD j false=true->j<ops.toList.length:=by
   intro j hj
   rcases Ab j listed.size with h | h
   ·simp; rw [<- I.size]; exact h
   ·simp [Array.getElem?_eq_none h] at hj
  have late:∀ k,listed.getD k false=false->∀ m,ordered (yL ops.toList []) k m=true->listed.getD m false=false:=by
   intro k hk m hm2
   by_cases h:listed.getD m false=true
   ·have this:listed.getD k false=true:=sZ (T:=λj=>listed.getD j false) I.closed hTlen m h k hm2;rw [hk] at this;cases this
   ·simpa using h
  have hopsj:∀ j,j<l.length->ops.toList[j]?=some (ops.toList.getD j o):=λj hj=>by
   have:j<ops.toList.length:=by omega
   simp only [List.getD,θ this,Af]
  have hdsj:∀ j,j<l.length->l[j]?=some (l.getD j dop):=λj hj=>by simp [List.getD,hj]
  have post0:∀ k,k<l.length->s<=k->wR l k=false->listed.getD k false=false:=by
   intro k hk hks hns;rw [vT (hdsj k hk)] at hns
   rcases sp (hopsj k hk) (hdsj k hk) ly (by omega:i<k) with h | ⟨_,h | h | h | h⟩
   ·exact late i hTi k h
   ·omega
   ·rw [hal2] at h; cases h
   ·rw [hns] at h; cases h
   ·simp at h; omega
  have hT':∀ k,(listed.setIfInBounds i true).getD k false=if i=k then true else listed.getD k false:=by
   intro k
   by_cases h:i=k
   ·subst h;have:i<listed.size:=by rw [I.size]; exact hlt
    simp [this]
   ·rw [if_neg h];exact getD_set_ne false h
  obtain⟨g,hg,G2⟩:=I.ZQ
  have hsil:∀ (ds:List xR) (tr:List (D × St)) (f:Fr) (σ:St) (mu:Nat->Bool),Trace C ds f σ tr->(∀ i,i<s->mu i=false->wV (tr.take (i+1)) σ=wV (tr.take i) σ)->∀ j,j<ds.length->quiet ds mu s j=true->wV (tr.take (j+1)) σ=wV (tr.take j) σ:=by
   intro ds tr f σ mu ht hpre j hj hs
   by_cases hsj:wR ds j=true
   ·have ho:ds[j]?=some ds[j]:=θ hj;obtain⟨d,σ',h1,h2⟩:=ht.at j _ ho;rw [kS tr σ j _ h1];simp only [wR,ho,Ah,Af] at hsj;unfold xA at h2
    split at h2
    ·exact(qU hsj h2).1
    ·split at h2
     ·exact(Classical.em _).elim (λhbw=>(qU hsj ((wA h2).1 hbw)).1) (λhbw=>((wA h2).2 hbw).2)
     ·exact h2.2
     ·exact h2.elim
   ·simp only [quiet,Bool.or_eq_true,hsj,false_or,Bool.and_eq_true,decide_eq_true_eq,Bool.false_eq_true,Bool.not_eq_true'] at hs;exact hpre j hs.1 hs.2
  have preT:∀ i',i'<s->tJ C.own l i'=false->wV (tr.take (i'+1)) σ=wV (tr.take i') σ:=λk hk him=>by
   have hne:k≠j/\k≠i:=by
    refine⟨λh=>?_,λh=>?_⟩
    ·rw [(muh k hk).2 (.inl h)] at him; cases him
    ·rw [(muh k hk).2 (.inr h)] at him; cases him
   rcases Ab k j with h | h
   ·rw [st0 (k+1) (by omega),st0 k (by omega)]
   ·rcases Ab k i with g | g
    ·rw [st1 (k+1) (by omega) (by omega),st1 k (by omega) (by omega)]
    ·rw [st2 (k+1) (by omega) (by omega),st2 k (by omega) (by omega)]
  have hst:SV (quiet l (tJ C.own l) s) tr σ (λi=>listed.getD i false) l.length=σ:=by
   rw [mB (i:=0) (hsil l tr f σ _ k1 preT) l.length (Ad _) λk hk hq=>⟨λhT=>?_,λh=>by omega⟩]
   ·simp [wV]
   ·exfalso;obtain⟨h1,h2⟩:=vS.1 hq
    rcases Ab k s with h | h
    ·rcases(muh k h).1 (h2.resolve_right (by omega)) with rfl | rfl
     ·rw [hlj] at hT; cases hT
     ·rw [hTi] at hT; cases hT
    ·rw [post0 k hk h h1] at hT; cases hT
  rw [hst] at G2
  have key:xA dop g (vO C σ (uX g) dop.k λx y=>x=dA/\y=σA) (D.vB=dA/\σ=σA):=by simp only [xA,hg2];exact mX (λx hx=>by rw [hal] at hx; cases hx) hA
  have hstep:=jR (next:=wpAnyIn C.F 0 C.P .any ops (LQ C E Q) fuel (listed.setIfInBounds i true)) (Q:=LQ C E Q) (K:=λx y=>x=dA/\y=σA) hmk G2 (tK key (λh=>h) (λh=>h)) (λa' w' d' σ'' G3 hk=>by
   obtain⟨rfl,rfl⟩:=hk
   refine fC (ds:=l') (tr:=tr') (s:=s) (mu:=λi=>decide (i=j)) (f:=f) (σ:=σ'') (xo:=λ_ _=>false) (l0:=λk=>decide (k=i)) (by omega) (λk o' h=>?_) (λ{i1 j1 oj di dj} h1 h2 h3 h4=>?_) bk (λ_ _ h=>by cases h) j1 hlen' (by omega) (λm hms hmm=>?_) (λk hk him=>?_) (λk dop2 p his him hps hdq hns hor=>?_) (λa w G'=>⟨_,_,hweak E a w G',hQ⟩) (λ_ _ _ _ _ _ _ _ _ h=>by cases h) _ _ _ _ hfew ⟨by simp [I.size],(λ_ _ h=>by cases h),λk hk=>?_,λk ok hk hT e he hb=>?_,g.put dop.dst d',λt=>?_,?_⟩
   ·obtain⟨dop3,g1,g2⟩:=hdg k o' h
    by_cases hki:k=i
    ·subst hki; exact⟨_,ly',λh=>by simp at h⟩
    ·exact⟨dop3,(lat k hki).trans g1,λ_=>g2⟩
   ·by_cases hj1:j1=i
    ·subst hj1;rw [ly'] at h2; cases h2;rw [lat i1 (by omega)] at h3
     rcases sp h1 ly h3 h4 with h | ⟨h,_⟩
     ·exact .inl h
     ·exact .inr ⟨(ve (a:=⟨dop.dst,none,.mv (.c d')⟩) (b:=dop) rfl hal3.symm).trans h,.inr (.inr (.inl rfl))⟩
    ·rw [lat j1 hj1] at h2
     by_cases hi1:i1=i
     ·subst hi1;rw [ly'] at h3; cases h3
      rcases sp h1 h2 ly h4 with h | ⟨h,_⟩
      ·exact .inl h
      ·exact .inr ⟨(qn (a:=⟨dop.dst,none,.mv (.c d')⟩) (b:=dop) rfl hal3.symm).trans h,.inr (.inl rfl)⟩
     ·rw [lat i1 hi1] at h3
      rcases sp h1 h2 h3 h4 with h | ⟨h,h5 | h5 | h5 | h5⟩
      ·exact .inl h
      ·exact .inr ⟨h,.inl ⟨h5.1,λ⟨q1,q2⟩=>by simp at q1 q2; omega⟩⟩
      ·exact .inr ⟨h,.inr (.inl h5)⟩
      ·exact .inr ⟨h,.inr (.inr (.inl h5))⟩
      ·simp at h5; omega
   ·obtain rfl:m=j:=by simpa using hmm
    rw [vT ((lat m (by omega)).trans lx)]; exact R.ib
   ·have hkj:k≠j:=by simpa using him
    rcases Ab k j with h | h
    ·rw [stA (k+1) (by omega),stA k (by omega)]
    ·rw [stB (k+1) (by omega) (by omega),stB k (by omega) (by omega)]
   ·have hkj:k≠j:=by simpa using him
    have hki:k≠i:=λh=>by subst h; rw [ly'] at hdq; cases hdq; cases hns
    have z1:l'.take k=hd'.take k:=by rw [lhd',γ (by omega)]
    have z2:tr'.take k=th'.take k:=by rw [tth',γ (by omega)]
    have z3:wX tr' k=wX th' k:=by unfold wX; rw [tth',δ (by omega)]
    have z4:hd_[k]?=some dop2:=by rw [<- hat k hki,<- hdq,lhd',δ (by omega)]
    rw [z1,z2,z3]
    rcases Ab j p with h | h
    ·rw [stB p h hps]; exact nK (dq' dz d') dok' (by omega) qB ((qat dz d' k hkj hki).trans z4)
    ·rw [stA p h]; exact nK (dq' dz d') dok' (by omega) qA ((qat dz d' k hkj hki).trans z4)
   ·obtain rfl:k=i:=by simpa using hk
    rw [hT',if_pos rfl]
   ·by_cases h:i=k
    ·subst h;rw [hol] at hk;simp at hk; subst hk;exact getD_set_true (hall e he hb)
    ·rw [hT',if_neg h] at hT;exact getD_set_true (I.closed k ok hk hT e he hb)
   ·have hnd:(l'.filterMap (·.dst)).Nodup:=by
     have:l'.filterMap (·.dst)= l.filterMap (·.dst):=by rw [hls,hl']; simp [List.filterMap_append,χ]
     rw [this]; exact R.nodup
    by_cases hdt:dop.dst=some t
    ·rw [hdt,Fr.nG,if_pos rfl,oT (i:=i) (by rw [hT' i]; simp) (by rw [ldst,wW,ly]; exact hdt) l'.length (by omega) λk h1 h2 h3=>?_]
     ·exact tdy.symm
     ·have:=jP hnd h3 (by rw [ldst,wW,ly]; exact hdt:wW l' i=some t);omega
    ·have e1:(g.put dop.dst d').get t=g.get t:=by
      cases hdd:dop.dst with
      | none=>rfl
      | some u=>rw [Fr.nG,if_neg (λe=>by subst e; exact hdt hdd)]
     rw [e1,hg t,hll];refine(oq ldst l.length λk hk hkt=>?_).symm;have hki:k≠i:=λe=>by subst e; rw [wW,ly] at hkt; exact hdt hkt
     refine⟨by rw [hT',if_neg (λe=>hki e.symm)],λhT=>?_⟩;have hkj:k≠j:=λe=>by subst e; rw [hlj] at hT; cases hT
     have hfr:t ∈ free:=by
      rw [R.fr];unfold gk;refine ψ.2 ⟨k,List.mem_range.2 hk,?_⟩
      have o1:ordered (yL ops.toList []) pre.length k=false:=by
       cases h:ordered (yL ops.toList []) pre.length k with
       | false=>rfl
       | true=>rw [<- hx0] at h; rw [late j hlj k h] at hT; cases hT
      have o2:ordered (yL ops.toList []) (pre.length+1+mid1.length) k=false:=by
       cases h:ordered (yL ops.toList []) (pre.length+1+mid1.length) k with
       | false=>rfl
       | true=>rw [<- hy0] at h; rw [late i hTi k h] at hT; cases hT
      rw [if_neg (by simp [o1,o2]; omega)];exact hkt
     have:=hfree t hfr;rw [om hlen R.nodup hk hkt,om hlen' hnd (by omega:k<l'.length) ((ldst k).trans hkt)] at this;exact this.symm
   ·have:SV (quiet l' (λi=>decide (i=j)) s) tr' σ'' (λk=>(listed.setIfInBounds i true).getD k false) l'.length=σ'':=by
     rw [mB (i:=0) (hsil l' tr' f σ'' _ j1 (λk hk him=>by
      have hkj:k≠j:=by simpa using him
      rcases Ab k j with h | h
      ·rw [stA (k+1) (by omega),stA k (by omega)]
      ·rw [stB (k+1) (by omega) (by omega),stB k (by omega) (by omega)])) l'.length (Ad _) λk hk hq=>⟨λhT=>?_,λh=>by omega⟩]
     ·simp [wV]
     ·exfalso;obtain⟨h1,h2⟩:=vS.1 hq;have hki:k≠i:=λh=>by subst h; rw [vT ly'] at h1; cases h1
      rw [hT',if_neg (λh=>hki h.symm)] at hT
      rcases h2 with h2 | h2
      ·obtain rfl:k=j:=by simpa using h2
       rw [hlj] at hT; cases hT
      ·rw [post0 k (by omega) h2 (by unfold wR at h1 ⊢; rw [<- lat k hki]; exact h1)] at hT; cases hT
    rw [this];exact G3)
  unfold wpOpIn;simp only [ho];exact hstep
 ·exact Nat.le_trans (List.length_filter_le _ _) (by simp)
 ·rw [gC (i:=0) l.length λj _ _=>⟨(λh=>by rw [hf0] at h; cases h),λh=>by omega⟩];simp [LV]
 ·have:SV (quiet l (tJ C.own l) s) tr σ (λi=>(Array.replicate ops.size false).getD i false) l.length=σ:=by refine(tz (k:=0) _ λj _ _ (hT:(Array.replicate ops.size false).getD j false=true)=>by rw [hf0] at hT; cases hT).trans (if_neg λh=>?_);have h2:(Array.replicate ops.size false).getD 0 false=true:=h.2.1;rw [hf0] at h2; cases h2
  rw [this];exact G'
def nW : List Nat->Fr->Fr->Prop
 | [],_,_=>True
 | t :: r,f,g=>f.get t=g.get t/\nW r f g
theorem eH : ∀ {l:List Nat} {f g:Fr},nW l f g=∀ t ∈ l,f.get t=g.get t
 | [],f,g=>by simp [nW]
 | t :: r,f,g=>by simp [nW,eH (l:=r)]
theorem vC (f g:Fr):nW [] f g=True:=rfl
theorem vR (t:Nat) (r:List Nat) (f g:Fr):nW (t :: r) f g=(f.get t=g.get t/\nW r f g):=rfl
def mS (C:Cx) (σ:St) (pre:List xR) (o1:Option Nat) (dx:D) (mid1:List xR) (o2:Option Nat) (dy:D) (mid2:List xR) (g f:Fr):Prop:= sH C σ pre (sH C σ (⟨o1,none,.mv (.c dx)⟩ :: mid1) (sH C σ (⟨o2,none,.mv (.c dy)⟩ :: mid2) (r7 g))) f
def iw (C:Cx) (free:List Nat) (K:Fr->St->Prop) (f4:Fr) (σ4:St) (g4:Fr) (σ5:St):Prop:=nW free f4 g4/\yO C g4 σ5 f4 σ4/\K f4 σ4
def iv (C:Cx) (post:List xR) (free:List Nat) (K:Fr->St->Prop) (g3:Fr) (σB:St) (f4:Fr) (σ4:St):Prop:=iJ C post (iw C free K f4 σ4) g3 σB
def iu (C:Cx) (pre:List xR) (o1:Option Nat) (dz:D) (mid1:List xR) (o2:Option Nat) (dA:D) (mid2 post:List xR) (free:List Nat) (K:Fr->St->Prop) (f f3:Fr) (σ2 σA σB:St) (g3:Fr):Prop:= mS C σA pre o1 dz mid1 o2 dA mid2 g3 f/\mS C σB pre o1 dz mid1 o2 dA mid2 g3 f/\iJ C post (iv C post free K g3 σB) f3 σ2
def ir (C:Cx) (pre:List xR) (o1:Option Nat) (mid1:List xR) (o2:Option Nat) (dA:D) (mid2 post:List xR) (free:List Nat) (K:Fr->St->Prop) (f f3:Fr) (σ2 σA:St) (g1:Fr) (dz:D) (σB:St):Prop:= sH C σB mid1 (sH C σB (⟨o2,none,.mv (.c dA)⟩ :: mid2) (iu C pre o1 dz mid1 o2 dA mid2 post free K f f3 σ2 σA σB)) (g1.put o1 dz)
def iq (C:Cx) (pre:List xR) (o1:Option Nat) (k1:DK) (mid1:List xR) (o2:Option Nat) (mid2 post:List xR) (free:List Nat) (K:Fr->St->Prop) (f f3:Fr) (σ2:St) (dA:D) (σA:St):Prop:= sH C σA pre (pP C k1 (ir C pre o1 mid1 o2 dA mid2 post free K f f3 σ2 σA) σA) f
def im (C:Cx) (pre:List xR) (o1:Option Nat) (k1:DK) (dx:D) (mid1:List xR) (o2:Option Nat) (k2:DK) (dy:D) (mid2 post:List xR) (free:List Nat) (K:Fr->St->Prop) (f:Fr) (σ σ1 σ2:St) (f3:Fr):Prop:= mS C σ pre o1 dx mid1 o2 dy mid2 f3 f/\mS C σ1 pre o1 dx mid1 o2 dy mid2 f3 f/\mS C σ2 pre o1 dx mid1 o2 dy mid2 f3 f/\dR C σ (uX f) k2 (iq C pre o1 k1 mid1 o2 mid2 post free K f f3 σ2)
def gT (C:Cx) (pre:List xR) (o1:Option Nat) (k1:DK) (dx:D) (mid1:List xR) (o2:Option Nat) (k2:DK) (mid2 post:List xR) (free:List Nat) (K:Fr->St->Prop) (f:Fr) (σ σ1:St) (f2:Fr) (dy:D) (σ2:St):Prop:= sH C σ2 mid2 (im C pre o1 k1 dx mid1 o2 k2 dy mid2 post free K f σ σ1 σ2) (f2.put o2 dy)
def gS (C:Cx) (pre:List xR) (o1:Option Nat) (k1:DK) (mid1:List xR) (o2:Option Nat) (k2:DK) (mid2 post:List xR) (free:List Nat) (K:Fr->St->Prop) (f:Fr) (σ:St) (f1:Fr) (dx:D) (σ1:St):Prop:= sH C σ1 mid1 (pP C k2 (gT C pre o1 k1 dx mid1 o2 k2 mid2 post free K f σ σ1) σ1) (f1.put o1 dx)
def yq (C:Cx) (pre:List xR) (o1:Option Nat) (k1:DK) (mid1:List xR) (o2:Option Nat) (k2:DK) (mid2 post:List xR) (free:List Nat) (K:Fr->St->Prop) (f:Fr) (σ:St):Prop:= sH C σ pre (pP C k1 (gS C pre o1 k1 mid1 o2 k2 mid2 post free K f σ) σ) f
theorem rO {C:Cx} {σ:St} {l:List xR} {f:Fr} {K K':Fr->Prop} (h:∀ g,K g=K' g):sH C σ l K f=zY C σ l f K':=by rw [sJ,uQ,funext h]
theorem aN {C:Cx} {σ:St} {ev:wY->D} {k:DK} {K K':D->St->Prop} (h:∀ d σ',K d σ'=K' d σ'):dR C σ ev k K=vO C σ ev k K':=by rw [gK,show K=K' from funext λd=>funext λσ'=>h d σ']
theorem pj {C:Cx} {l:List xR} {f:Fr} {σ:St} {K K':Fr->St->Prop} (h:∀ g s,K g s=K' g s):iJ C l K f σ=vM C l f σ K':=by rw [oW,nJ,show K=K' from funext λd=>funext λσ'=>h d σ']
theorem qK {C:Cx} {σ:St} {K:Fr->Prop} {l2:List xR}:∀ {l1:List xR} {f:Fr},zY C σ (l1++l2) f K=zY C σ l1 f λg=>zY C σ l2 g K
 | [],f=>rfl
 | o :: r,f=>by have ih:(λg=>zY C σ (r++l2) g K)= λg=>zY C σ r g λg=>zY C σ l2 g K:=funext λg=>qK (l1:=r);show zY C σ (o :: (r++l2)) f K=_;simp only [zY];have:∀ g,zY C σ (r++l2) g K=zY C σ r g λg=>zY C σ l2 g K:=λg=>congrFun ih g;simp only [this]
theorem lD {C:Cx} {σ:St} {pre:List xR} {o1:Option Nat} {dx:D} {mid1:List xR} {o2:Option Nat} {dy:D} {mid2:List xR} {g f:Fr}:mS C σ pre o1 dx mid1 o2 dy mid2 g f=zY C σ (xb pre o1 dx mid1 o2 dy mid2) f λx=>x=g:=by unfold mS xb;rw [qK];refine rO λg1=>?_;rw [show (⟨o1,none,DK.mv (.c dx)⟩:xR) :: (mid1++⟨o2,none,DK.mv (.c dy)⟩ :: mid2)= (⟨o1,none,DK.mv (.c dx)⟩ :: mid1)++ ⟨o2,none,DK.mv (.c dy)⟩ :: mid2 from rfl,qK];exact rO λg2=>rO λg3=>rfl
theorem cm {C:Cx} {pre:List xR} {o1:Option Nat} {g1:Option (Nat × Bool)} {k1:DK} {mid1:List xR} {o2:Option Nat} {g2:Option (Nat × Bool)} {k2:DK} {mid2 post:List xR} {free:List Nat} {K:Fr->St->Prop} {f:Fr} {σ:St} :
  yq C pre o1 k1 mid1 o2 k2 mid2 post free K f σ=qh C pre ⟨o1,g1,k1⟩ mid1 ⟨o2,g2,k2⟩ mid2 post free f σ K:=by
 unfold yq qh;refine rO λf1=>aN λdx σ1=>?_;unfold gS;refine rO λf2=>aN λdy σ2=>?_;unfold gT;refine rO λf3=>?_;unfold im;refine congr (congrArg And lD) (congr (congrArg And lD) (congr (congrArg And lD) (aN λdA σA=>?_)));unfold iq;refine rO λh1=>aN λdz σB=>?_;unfold ir;rw [qK];refine rO λh2=>rO λg3=>?_;unfold iu;refine congr (congrArg And lD) (congr (congrArg And lD) (pj λf4 σ4=>?_));unfold iv;refine pj λg4 σ5=>?_;unfold iw;rw [eH]
theorem cA {C:Cx} (hm:C.P.follows .mixedOrders=true) {pre:List xR} {o1:Option Nat} {g1:Option (Nat × Bool)} {k1:DK} {mid1:List xR} {o2:Option Nat} {g2:Option (Nat × Bool)} {k2:DK} {mid2 post:List xR} {free:List Nat} {f:Fr} {σ:St} {Q:Exit->Fr->St->Prop}
  (h:yq C pre o1 k1 mid1 o2 k2 mid2 post free (mP Q) f σ):wpS C (.oD pre ⟨o1,g1,k1⟩ mid1 ⟨o2,g2,k2⟩ mid2 post free) f σ Q:=
 zy hm (cm ▸ h)
theorem ye {C:Cx} {pre:List xR} {m1:xR} {mid1:List xR} {m2:xR} {mid2 post:List xR} {free:List Nat} {f:Fr} {σ:St} {Q:Exit->Fr->St->Prop}:dS C (.oD pre m1 mid1 m2 mid2 post free) Q f σ=wpS C (.oD pre m1 mid1 m2 mid2 post free) f σ Q:=by rw [tY]; rfl
def mQ : List Bool->List xR->Fr->List xR
 | true :: fl,o :: r,f1=>⟨o.dst,none,.mv (.c (match o.dst with | some t=>f1.get t | none=>.top))⟩ :: mQ fl r f1
 | false :: fl,o :: r,f1=>o :: mQ fl r f1
 | [],l,_=>l
 | _,[],_=>[]
theorem jT : ∀ {fl:List Bool} {l:List xR} {f1:Fr},(mQ fl l f1).map (·.dst)= l.map (·.dst)
 | true :: fl,o :: r,f1=>by simp only [mQ,τ,jT (l:=r)]
 | false :: fl,o :: r,f1=>by simp only [mQ,τ,jT (l:=r)]
 | [],l,f1=>by cases l <;> rfl
 | true :: fl,[],f1=>rfl
 | false :: fl,[],f1=>rfl
theorem fS : ∀ {fl:List Bool} {l:List xR} {f1:Fr} {i:Nat},fl.getD i false=false->(mQ fl l f1)[i]?=l[i]?
 | true :: fl,o :: r,f1,0,h=>by simp at h
 | false :: fl,o :: r,f1,0,h=>rfl
 | true :: fl,o :: r,f1,i+1,h=>by simp only [mQ,ζ]; exact fS (by simpa using h)
 | false :: fl,o :: r,f1,i+1,h=>by simp only [mQ,ζ]; exact fS (by simpa using h)
 | [],l,f1,i,h=>by cases l <;> rfl
 | true :: fl,[],f1,i,h=>rfl
 | false :: fl,[],f1,i,h=>rfl
def Zx (C:Cx) (pre:List xR) (m:xR) (mid:List xR) (un:Bool) (post:List xR) (fl:List Bool) (f:Fr) (σ:St) (K:Fr->St->Prop):Prop:= zY C σ pre f λf1=>vO C σ (uX f1) m.k λd σ1=>zY C σ1 (mQ fl pre f1) f (λg=>g=f1)/\ zY C σ1 mid (f1.put m.dst d) λf2=>(if un=true then zY C σ mid (f1.put m.dst d) (λg=>g=f2) else True)/\ vM C post f2 σ1 K
theorem au {P:Program} {N:Nat} {own:List Nat} {code:Code} {pre:List xR} {m:xR} {mid:List xR} {un:Bool} {post:List xR} {fl:List Bool} (h:vG P N own code=some (.kM pre m mid un post fl)) :
  ∃ id ops l,code = .region id ops true/\zP (oX P N own ops) ops.toList=some l/\own.contains 77777=false/\gE ops.toList l (vI own l) (tJ own l)= true/\post=l.drop (vI own l)/\ Vw own ops.toList l (vI own l) pre m mid un fl:=by
 cases code with
 | region id ops draw=>
  simp only [vG] at h
  split at h
  ·rename_i d hd;cases h
   rcases oP hd with ⟨_,h2 | h2 | h2⟩ | ⟨_,h2,_⟩
   ·obtain⟨_,_,_,_,_,_,_,_,_,_,_,_,_,_,_,e⟩:=uO h2; cases e
   ·obtain⟨_,_,_,_,_,_,_,_,_,_,_,_,_,_,e⟩:=pC h2; cases e
   ·obtain⟨_,_,_,_,_,_,_,_,_,_,_,e⟩:=pB h2; cases e
   ·obtain⟨_,_,_,_,_,_,_,_,_,_,_,_,_,_,_,e⟩:=uO h2; cases e
  ·simp only [Ag,Ae] at h;obtain⟨l,hl,h⟩:=h
   split at h
   ·rename_i hdr
    split at h
    ·rename_i hok
     split at h
     ·rename_i d hv;cases h;obtain⟨_,_,_,_,_,_,e,hp,hR⟩:=oR hv;cases e;subst hdr;exact⟨id,ops,l,rfl,hl,hok.1,hok.2,hp,hR⟩
     ·rcases qJ h with ⟨e,_⟩ | ⟨_,_,_,_,_,e,_⟩ | ⟨_,_,_,_,_,_,_,_,_,_,_,e,_⟩ <;> cases e
    ·split at h
     ·obtain⟨_,_,_,_,_,_,_,e,_⟩:=oQ h;cases e
     ·cases h
   ·simp at h
 | rangeFunc g0 ps0 a c=> simp [vG,Ae] at h
 | seq a b=> simp only [vG,zO] at h;obtain⟨dx,hx,dy,hy,h⟩:=h;rcases zH dx dy with e | ⟨_,_,_,_,_,_,_,_,_,_,_,_,e,_⟩ <;> rw [e] at h <;> cases h
 | _=>simp [vG,Ae] at h
theorem eb {C:Cx} (hm:C.P.follows .mixedOrders=true) {pre:List xR} {o:xR} {mid:List xR} {un:Bool} {post:List xR} {fl:List Bool} {f:Fr} {σ:St} {Q:Exit->Fr->St->Prop}
  (h:Zx C pre o mid un post fl f σ (Q .normal)):wpS C (.kM pre o mid un post fl) f σ Q:=by
 intro code hc E a w G;obtain⟨id,ops,l,rfl,hd,hq,hok,hpost,R⟩:=au hc;obtain⟨⟨heq,d1,d2,n1,n2,n3,hloud⟩,hw,hfl⟩:=R;have hg:=tO n2
 have hsl:vI C.own l<=l.length:=by
  have:∀ ks:List xR,vI C.own ks<=ks.length:=by
   intro ks
   induction ks with
   | nil=>simp [vI]
   | cons k ks ih=>simp only [vI]; split <;> simp <;> omega
  exact this l
 have hl:l=pre++o :: (mid++post):=by
  conv=>lhs; rw [<- υ (vI C.own l) l,heq,<- hpost]
  simp
 have hs:vI C.own l=pre.length+1+mid.length:=by have:=congrArg List.length heq;rw [Aa,Nat.min_eq_left hsl] at this;simp at this; omega
 generalize vI C.own l=s at *;unfold Zx at h;obtain⟨t1,h1,h2,h3,h4⟩:=yV _ _ h;obtain⟨d,σ1,g1,p1,p2⟩:=rB hq h2;obtain⟨t3,r1,r2,r3,r4⟩:=yV _ _ p2;obtain⟨ru,r2⟩:=r2;obtain⟨t2,s1,s2,s3⟩:=tW hq _ _ _ r2;have e0:wV t1 σ=σ:=yM h4;have e3:wV t3 σ1=σ1:=yM r4;have c2:Trace C (mid++post) ((zE pre t1 f).put o.dst d) σ1 (t3++t2)/\ _/\_:=Trace.append r1 r3 (by rw [e3]; exact s1);have c1:Trace C (o :: (mid++post)) (zE pre t1 f) (wV t1 σ) ((d,σ1) :: (t3++t2)):=.cons (by simp only [xA,hg]; rw [e0]; exact g1) c2.1;obtain⟨k1,k2,k3⟩:=Trace.append h1 h3 c1;rw [<- hl] at k1 k2
 have hlen:(t1++(d,σ1) :: (t3++t2)).length=l.length:=by rw [hl]; simp [h3,r3,s3]
 have lpre:∀ i,i<pre.length->l[i]?=pre[i]?:=λi hi=>by rw [hl,δ hi]
 have lo:l[pre.length]?=some o:=by rw [hl,ε (by omega),Nat.sub_self]; rfl
 have lmid:∀ k,k<mid.length->l[pre.length+1+k]?=mid[k]?:=λk hk=>by rw [hl,ε (by omega),show pre.length+1+k-pre.length=k+1 by omega,ζ,δ hk]
 have mpre:∀ i,i<pre.length->tJ C.own l i=false:=λi hi=>by rw [vU ((lpre i hi).trans (θ hi))]; exact n1 _ (ξ _)
 have mo:tJ C.own l pre.length=true:=by rw [vU lo]; exact n2
 have mmid:∀ k,k<mid.length->tJ C.own l (pre.length+1+k)= false:=λk hk=>by rw [vU ((lmid k hk).trans (θ hk))]; exact n3 _ (ξ _)
 have st0:∀ p,p<=pre.length->wV ((t1++(d,σ1) :: (t3++t2)).take p) σ=σ:=λp hp=>by rw [γ (by omega)];exact yM λx hx=>h4 x (μ hx)
 have st1:∀ k,k<=mid.length->wV ((t1++(d,σ1) :: (t3++t2)).take (pre.length+1+k)) σ=σ1:=λk hk=>by rw [<- h3,show t1.length+1+k=t1.length+(k+1) by omega,η,ν,γ (by omega),sI];exact yM λx hx=>r4 x (μ hx)
 refine oO (mu:=tJ C.own l) (E:=E) (Q:=LQ C E Q) hm hd hok k1 hlen (by omega) (λm hms hmm=>?_) (λi hi him=>?_) (λi dop p his him hps hdop hns hor=>?_) (λa w G'=>⟨_,_,G',?_⟩) G
 ·rcases Ac m pre.length with h | h | h
  ·rw [mpre m h] at hmm; cases hmm
  ·subst h; rw [vT lo]; exact hloud
  ·obtain⟨k,rfl⟩:∃ k,m=pre.length+1+k:=⟨m-(pre.length+1),by omega⟩;rw [mmid k (by omega)] at hmm; cases hmm
 ·rcases Ac i pre.length with h | h | h
  ·rw [st0 (i+1) (by omega),st0 i (by omega)]
  ·subst h; rw [mo] at him; cases him
  ·obtain⟨k,rfl⟩:∃ k,i=pre.length+1+k:=⟨i-(pre.length+1),by omega⟩;rw [show pre.length+1+k+1=pre.length+1+(k+1) by omega,st1 (k+1) (by omega),st1 k (by omega)]
 ·have hor:=hor pre.length (by omega) mo
  have hp:(p<=pre.length/\wV ((t1++(d,σ1) :: (t3++t2)).take p) σ=σ)\/(pre.length<p/\wV ((t1++(d,σ1) :: (t3++t2)).take p) σ=σ1):=by
   rcases Ab pre.length p with h | h
   ·obtain⟨k,rfl⟩:∃ k,p=pre.length+1+k:=⟨p-(pre.length+1),by omega⟩;exact .inr ⟨h,st1 k (by omega)⟩
   ·exact .inl ⟨h,st0 p h⟩
  rcases Ac i pre.length with h | h | h
  ·have hdp:pre[i]?=some dop:=(lpre i h).symm.trans hdop;have x5:wX (t1++(d,σ1) :: (t3++t2)) i=wX t1 i:=by simp only [wX]; rw [δ (by omega)]
   have x6:zE (l.take i) ((t1++(d,σ1) :: (t3++t2)).take i) f=zE (pre.take i) (t1.take i) f:=by rw [hl,γ (by omega),γ (by omega)]
   rw [x5,x6]
   rcases hp with ⟨_,hp⟩ | ⟨hp0,hp⟩
   ·rw [hp]; exact wF h1 h3 rfl h4 hdp
   ·rw [hp]
    have hfi:fl.getD i false=false:=by
     cases hx:fl.getD i false with
     | false=>rfl
     | true=>have:=hfl i hx; rw [hor.1 hp0] at this; cases this
    exact nK jT d1 h3 p1 ((fS hfi).trans hdp)
  ·subst h; rw [mo] at him; cases him
  ·obtain⟨k,rfl⟩:∃ k,i=pre.length+1+k:=⟨i-(pre.length+1),by omega⟩;have hk:k<mid.length:=by omega
   have hdp:mid[k]?=some dop:=(lmid k hk).symm.trans hdop
   have x5:wX (t1++(d,σ1) :: (t3++t2)) (pre.length+1+k)= wX t3 k:=by simp only [wX];rw [ε (by omega),h3,show pre.length+1+k-pre.length=k+1 by omega,ζ,δ (by omega)]
   have x6:zE (l.take (pre.length+1+k)) ((t1++(d,σ1) :: (t3++t2)).take (pre.length+1+k)) f=zE (mid.take k) (t3.take k) ((zE pre t1 f).put o.dst d):=by
    have y1:l.take (pre.length+1+k)= pre++o :: mid.take k:=by rw [hl,show pre.length+1+k=pre.length+(k+1) by omega,η,ν,γ (by omega)]
    have y2:(t1++(d,σ1) :: (t3++t2)).take (pre.length+1+k)= t1++(d,σ1) :: t3.take k:=by rw [<- h3,show t1.length+1+k=t1.length+(k+1) by omega,η,ν,γ (by omega)]
    rw [y1,y2,rL _ _ _ h3]; rfl
   rw [x5,x6]
   rcases hp with ⟨hp0,hp⟩ | ⟨_,hp⟩
   ·rw [hp]
    cases un with
    | false=> exfalso;have h2:=uM (hw rfl) k dop hdp hns;rw [hor.2 hp0] at h2; cases h2
    | true=> simp only [if_true] at ru;obtain⟨t3',u1,u2,u3,u4⟩:=yV _ _ ru;exact wF u1 u3 (sN d2 u3 r3 u2) u4 hdp
   ·rw [hp]; exact wF r1 r3 rfl r4 hdp
 ·rw [k2,k3,e0];show Q .normal (zE (mid++post) (t3++t2) ((zE pre t1 f).put o.dst d)) (wV (t3++t2) σ1);rw [c2.2.1,c2.2.2,e3];exact s2
end
end Go.Pd
