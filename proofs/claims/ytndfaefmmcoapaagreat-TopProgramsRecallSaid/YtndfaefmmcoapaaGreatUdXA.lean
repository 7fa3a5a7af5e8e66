/- Part XA. -/
import Derived.Test.YtndfaefmmcoapaaGreatUdX6
set_option linter.unusedSectionVars false
set_option linter.unusedVariables false
set_option linter.unusedSimpArgs false
set_option linter.defProp false
namespace Go.Pd
open Go
section
variable [sC]
def qsA (pre:List DOp) (o1:Option Nat) (dx:D) (mid1:List DOp) (o2:Option Nat) (dy:D) (mid2:List DOp):List DOp:=pre++⟨o1,none,.mv (.c dx)⟩ :: (mid1++⟨o2,none,.mv (.c dy)⟩ :: mid2)
def aHb (C:Cx) (pre:List DOp) (m1:DOp) (mid1:List DOp) (m2:DOp) (mid2 post:List DOp) (free:List Nat) (f:Fr) (σ:St) (K:Fr->St->Prop):Prop:=
 tL C σ pre f fun f1=>opV C σ (evO f1) m1.k fun dx σ1=>tL C σ1 mid1 (f1.put m1.dst dx) fun f2=>opV C σ1 (evO f2) m2.k fun dy σ2=>tL C σ2 mid2 (f2.put m2.dst dy) fun f3=>
  tL C σ (qsA pre m1.dst dx mid1 m2.dst dy mid2) f (fun g=>g=f3)/\ tL C σ1 (qsA pre m1.dst dx mid1 m2.dst dy mid2) f (fun g=>g=f3)/\ tL C σ2 (qsA pre m1.dst dx mid1 m2.dst dy mid2) f (fun g=>g=f3)/\
  opV C σ (evO f) m2.k fun dA σA=>tL C σA pre f fun g1=>opV C σA (evO g1) m1.k fun dz σB=>tL C σB (mid1++⟨m2.dst,none,.mv (.c dA)⟩ :: mid2) (g1.put m1.dst dz) fun g3=>
   tL C σA (qsA pre m1.dst dz mid1 m2.dst dA mid2) f (fun g=>g=g3)/\ tL C σB (qsA pre m1.dst dz mid1 m2.dst dA mid2) f (fun g=>g=g3)/\
   pR C post f3 σ2 fun f4 σ4=>pR C post g3 σB fun g4 σ5=>(∀ t ∈ free,f4.get t=g4.get t)/\ xM C g4 σ5 f4 σ4/\K f4 σ4
theorem aYq : ∀ {ds ds':List DOp} {t:List (D × St)} {f:Fr},ds.map (·.dst)= ds'.map (·.dst)->FAt ds t f=FAt ds' t f
 | [],[],_,_,_=>rfl
 | [],_ :: _,_,_,h=>by simp at h
 | _ :: _,[],_,_,h=>by simp at h
 | o :: ds,o' :: ds',[],f,_=>rfl
 | o :: ds,o' :: ds',p :: t,f,h=>by simp only [List.map_cons,List.cons.injEq] at h;simp only [FAt];rw [h.1];exact aYq h.2
theorem aN {l l':List DOp} (h:l.map (·.dst)= l'.map (·.dst)):vU l=vU l':=by
 unfold vU;rw [h];have e:∀ l:List DOp,(l.all fun o=>o.dst.isSome)= (l.map (·.dst)).all (·.isSome):=fun l=>by rw [List.all_map]; rfl
 rw [e l,e l',h]
theorem jT {C:Cx} {hd qs:List DOp} {f:Fr} {t:List (D × St)} {st:St} (hdst:qs.map (·.dst)= hd.map (·.dst)) (hok:vU hd=true) (hl:t.length=hd.length) (h:tL C st qs f fun g=>g=FAt hd t f) {i:Nat} {dop:DOp} (hi:qs[i]?=some dop) :
  yP dop (FAt (hd.take i) (t.take i) f) (opV C st (evO (FAt (hd.take i) (t.take i) f)) dop.k fun x y=>x=tK t i/\y=st) (.und=tK t i):=by
 obtain⟨t',q1,q2,q3,q4⟩:=yU _ _ h;have hlen:qs.length=hd.length:=by have:=congrArg List.length hdst; simpa using this
 have hv:=sJ ((aN hdst).trans hok) q3 (by omega:t.length=qs.length) (q2.trans (aYq hdst.symm));have:=wI q1 q3 hv q4 hi
 rwa [aYq (ds:=qs.take i) (ds':=hd.take i) (by rw [List.map_take,List.map_take,hdst])] at this
theorem eP : ∀ {l:List DOp},(l.filterMap (·.dst)).Nodup->∀ {i j t:Nat},vK l i=some t->vK l j=some t->i=j
 | [],_,i,j,t,h,_=>by simp [vK] at h
 | o :: l,hn,i,j,t,hi,hj=>by
  have hm:∀ k,vK l k=some t->t ∈ l.filterMap (·.dst):=fun k hk=>by unfold vK at hk;obtain⟨d,h1,h2⟩:=Option.bind_eq_some_iff.1 hk;exact List.mem_filterMap.2 ⟨d,List.mem_of_getElem? h1,h2⟩
  have hn2:(l.filterMap (·.dst)).Nodup/\∀ d,o.dst=some d->d ∉ l.filterMap (·.dst):=by
   rw [List.filterMap_cons] at hn
   cases e:o.dst with
   | none=>rw [e] at hn; exact⟨hn,fun d h=>by cases h⟩
   | some d=>rw [e] at hn; exact⟨(List.nodup_cons.1 hn).2,fun d' h=>by cases h; exact(List.nodup_cons.1 hn).1⟩
  match i,j with
  | 0,0=>rfl
  | 0,j+1=>exact absurd (hm j hj) (hn2.2 t hi)
  | i+1,0=>exact absurd (hm i hi) (hn2.2 t hj)
  | i+1,j+1=>exact congrArg (·+1) (eP (l:=l) hn2.1 hi hj)
theorem aLy {ds:List DOp} {tr:List (D × St)} {f:Fr} (hl:tr.length=ds.length) (hn:(ds.filterMap (·.dst)).Nodup) {j t:Nat} (hj:j<ds.length) (hd:vK ds j=some t):(FAt ds tr f).get t=tK tr j:=by have:=mN (f:=f) hl ds.length (Nat.le_refl _) t;rw [List.take_length,<- hl,List.take_length,hl] at this;rw [this];exact mM rfl hd ds.length hj fun k h1 h2 h3=>by have:=eP hn hd h3; omega
theorem aLw {ds ds':List DOp} {tr tr':List (D × St)} {f:Fr} {T T':Nat->Bool} {t:Nat} (hd:∀ j,vK ds' j=vK ds j):∀ (n:Nat),(∀ j,j<n->vK ds j=some t->T' j=T j/\(T j=true->tK tr' j=tK tr j))->LV ds' tr' f T' n t=LV ds tr f T n t
 | 0,_=>rfl
 | n+1,h=>by
  simp only [LV,hd];rw [aLw hd n fun j hj=>h j (by omega)]
  by_cases e:vK ds n=some t
  ·obtain⟨h1,h2⟩:=h n (by omega) e;rw [h1]
   split
   ·rename_i hc; rw [h2 hc.1]
   ·rfl
  ·rw [if_neg (fun h=>e h.2),if_neg (fun h=>e h.2)]
theorem aF0 {P:Program} {N:Nat} {own:List Nat} {code:Code} {pre:List DOp} {m1:DOp} {mid1:List DOp} {m2:DOp} {mid2 post:List DOp} {free:List Nat} (h:mkC P N own code=some (.aV0 pre m1 mid1 m2 mid2 post free)) :
  ∃ id ops l,code = .region id ops true/\tD (aE P N own ops) ops.toList=some l/\own.contains 77777=false/\post=l.drop (tP own l)/\ bTm own ops.toList l (tP own l) pre m1 mid1 m2 mid2 free:=by
 cases code with
 | region id ops draw=>
  simp only [mkC] at h
  split at h
  ·rename_i d hd;cases h
   rcases nT hd with ⟨_,h2 | h2 | h2⟩ | ⟨_,h2,_⟩
   ·obtain⟨_,_,_,_,_,_,_,_,_,_,_,_,_,_,_,e⟩:=uF h2; cases e
   ·obtain⟨_,_,_,_,_,_,_,_,_,_,_,_,_,_,e⟩:=oV h2; cases e
   ·obtain⟨_,_,_,_,_,_,_,_,_,_,_,e⟩:=oU h2; cases e
   ·obtain⟨_,_,_,_,_,_,_,_,_,_,_,_,_,_,_,e⟩:=uF h2; cases e
  ·simp only [Option.bind_eq_bind,Option.bind_eq_some_iff] at h;obtain⟨l,hl,h⟩:=h
   split at h
   ·rename_i hdr
    split at h
    ·split at h
     ·rename_i d hv;cases h;obtain⟨_,_,_,_,_,_,e,_⟩:=nV hv;cases e
     ·rcases qC h with ⟨e,_⟩ | ⟨_,_,_,_,_,e,_⟩ | ⟨_,_,_,_,_,_,_,_,_,_,_,e,_⟩ <;> cases e
    ·split at h
     ·rename_i hq;obtain⟨_,_,_,_,_,_,_,e,hp,hR⟩:=nU h;cases e;subst hdr;exact⟨id,ops,l,rfl,hl,hq,hp,hR⟩
     ·cases h
   ·simp at h
 | rangeFunc g0 ps0 a c=> simp [mkC,Option.bind_eq_some_iff] at h
 | seq a b=> simp only [mkC,zO] at h;obtain⟨dx,hx,dy,hy,h⟩:=h;rcases zK dx dy with e | ⟨_,_,_,_,_,_,_,_,_,_,_,_,e,_⟩ <;> rw [e] at h <;> cases h
 | _=>simp [mkC,Option.bind_eq_some_iff] at h
theorem aTy {k:DK} (h:aXl k=true):k.aCt = []/\k.zE=false:=by cases k <;> simp_all [aXl,DK.aCt,DK.zE]
theorem aSs {A B:List DOp} {b c:DOp} {i:Nat} (h:i≠A.length):(A++b :: B)[i]?=(A++c :: B)[i]?:=by
 rcases Nat.lt_or_ge i A.length with h1 | h1
 ·rw [List.getElem?_append_left h1,List.getElem?_append_left h1]
 ·obtain⟨k,rfl⟩:∃ k,i=A.length+(k+1):=⟨i-A.length-1,by omega⟩;rw [List.getElem?_append_right (by omega),List.getElem?_append_right (by omega),show A.length+(k+1)-A.length=k+1 by omega,List.getElem?_cons_succ,List.getElem?_cons_succ]
theorem aN9 {α:Type} {A B:List α} {b:α}:(A++b :: B)[A.length]?=some b:=by rw [List.getElem?_append_right (Nat.le_refl _),Nat.sub_self]; rfl
theorem aO0 {a b x:DOp} (hd:a.dst=b.dst) (hn:a.names=b.names):nA a x=nA b x:=by unfold nA; rw [hd,hn]
theorem aT9 {a b x:DOp} (hd:a.dst=b.dst) (hn:a.names=b.names):nA x a=nA x b:=by unfold nA; rw [hd,hn]
theorem aHr {C:Cx} (hm:C.P.follows .mixedOrders=true) {pre:List DOp} {m1:DOp} {mid1:List DOp} {m2:DOp} {mid2 post:List DOp} {free:List Nat} {f:Fr} {σ:St} {Q:Exit->Fr->St->Prop}
  (h:aHb C pre m1 mid1 m2 mid2 post free f σ (Q .normal)):wpS C (.aV0 pre m1 mid1 m2 mid2 post free) f σ Q:=by
 intro code hc E a w G;obtain⟨id,ops,l,rfl,hd,hq,hpost,R⟩:=aF0 hc;have hg1:=tX R.n2;have hg2:=tX R.n4;obtain⟨hal,hal2⟩:=aTy R.alloc;unfold aHb at h;obtain⟨t1,a1,h,a3,a4⟩:=yU _ _ h;obtain⟨dx,σ1,hx,h⟩:=pL hq h;obtain⟨t2,b1,h,b3,b4⟩:=yU _ _ h;obtain⟨dy,σ2,hy,h⟩:=pL hq h;obtain⟨t3,c1,h,c3,c4⟩:=yU _ _ h;obtain⟨q0,q1,q2,h⟩:=h;obtain⟨dA,σA,hA,h⟩:=pL hq h;obtain⟨u1,d1,h,d3,d4⟩:=yU _ _ h;obtain⟨dz,σB,hz,h⟩:=pL hq h;obtain⟨u2,e1,h,e3,e4⟩:=yU _ _ h;obtain⟨qA,qB,h⟩:=h;obtain⟨t4,f1,h,f3⟩:=uE hq _ _ _ h;obtain⟨u4,g1,h,g3⟩:=uE hq _ _ _ h;obtain⟨hfree,hweak,hQ⟩:=h;have s0:SAt t1 σ=σ:=yC a4;have s1:SAt t2 σ1=σ1:=yC b4;have s2:SAt t3 σ2=σ2:=yC c4;have sA:SAt u1 σA=σA:=yC d4;have sB:SAt u2 σB=σB:=yC e4
 have hls:l=pre++m1 :: (mid1++m2 :: (mid2++post)):=by
  conv=>lhs; rw [<- List.take_append_drop (tP C.own l) l,R.eq,<- hpost]
  simp
 have hsl:tP C.own l<=l.length:=by
  have:∀ ks:List DOp,tP C.own ks<=ks.length:=by
   intro ks
   induction ks with
   | nil=>simp [tP]
   | cons k ks ih=>simp only [tP]; split <;> simp <;> omega
  exact this l
 have hs:tP C.own l=pre.length+1+mid1.length+1+mid2.length:=by have:=congrArg List.length R.eq;rw [List.length_take,Nat.min_eq_left hsl] at this;simp at this; omega
 generalize tP C.own l=s at *;obtain⟨x,hx0⟩:∃ x,x=pre.length:=⟨_,rfl⟩;obtain⟨y,hy0⟩:∃ y,y=pre.length+1+mid1.length:=⟨_,rfl⟩;have T3:Trace C (mid2++post) _ σ2 (t3++t4)/\ _/\_:=Trace.append c1 c3 (by rw [s2]; exact f1);have T2:Trace C (m2 :: (mid2++post)) (FAt mid1 t2 ((FAt pre t1 f).put m1.dst dx)) (SAt t2 σ1) ((dy,σ2) :: (t3++t4)):=.cons (by simp only [yP,hg2]; rw [s1]; exact hy) T3.1;have T1:=Trace.append b1 b3 T2;have T0:Trace C (m1 :: (mid1++m2 :: (mid2++post))) (FAt pre t1 f) (SAt t1 σ) ((dx,σ1) :: (t2++(dy,σ2) :: (t3++t4))):=.cons (by simp only [yP,hg1]; rw [s0]; exact hx) T1.1;obtain⟨k1,k2,k3⟩:=Trace.append a1 a3 T0
 have k2':FAt l (t1++(dx,σ1) :: (t2++(dy,σ2) :: (t3++t4))) f=FAt post t4 (FAt mid2 t3 ((FAt mid1 t2 ((FAt pre t1 f).put m1.dst dx)).put m2.dst dy)):=by rw [hls,k2];show FAt (mid1++m2 :: (mid2++post)) _ _=_;rw [T1.2.1];exact T3.2.1
 have k3':SAt (t1++(dx,σ1) :: (t2++(dy,σ2) :: (t3++t4))) σ=SAt t4 σ2:=by rw [k3,s0];show SAt (t2++(dy,σ2) :: (t3++t4)) σ1=_;rw [T1.2.2,s1];show SAt (t3++t4) σ2=_;rw [T3.2.2,s2]
 rw [<- hls] at k1;have U2:Trace C ((mid1++⟨m2.dst,none,.mv (.c dA)⟩ :: mid2)++ post) _ σB (u2++u4)/\ _/\_:=Trace.append e1 e3 (by rw [sB]; exact g1);have U0:Trace C (m1 :: ((mid1++⟨m2.dst,none,.mv (.c dA)⟩ :: mid2)++ post)) (FAt pre u1 f) (SAt u1 σA) ((dz,σB) :: (u2++u4)):=.cons (by simp only [yP,hg1]; rw [sA]; exact hz) U2.1;obtain⟨j1,j2,j3⟩:=Trace.append d1 d3 U0;obtain⟨l',hl'⟩:∃ l',l'=pre++m1 :: ((mid1++⟨m2.dst,none,.mv (.c dA)⟩ :: mid2)++ post):=⟨_,rfl⟩
 have j2':FAt l' (u1++(dz,σB) :: (u2++u4)) f=FAt post u4 (FAt (mid1++⟨m2.dst,none,.mv (.c dA)⟩ :: mid2) u2 ((FAt pre u1 f).put m1.dst dz)):=by rw [hl',j2];show FAt ((mid1++⟨m2.dst,none,.mv (.c dA)⟩ :: mid2)++ post) _ _=_;exact U2.2.1
 have j3':SAt (u1++(dz,σB) :: (u2++u4)) σA=SAt u4 σB:=by rw [j3,sA];show SAt (u2++u4) σB=_;rw [U2.2.2,sB]
 rw [<- hl'] at j1;rw [<- k2',<- j2'] at hfree;rw [<- k2',<- k3',<- j2',<- j3'] at hweak;rw [<- k2',<- k3'] at hQ
 have hlen:(t1++(dx,σ1) :: (t2++(dy,σ2) :: (t3++t4))).length=l.length:=by rw [hls]; simp only [List.length_append,List.length_cons,a3,b3,c3,f3]
 have hlen':(u1++(dz,σB) :: (u2++u4)).length=l'.length:=by rw [hl']; simp only [List.length_append,List.length_cons,d3,e3,g3]
 have hll:l'.length=l.length:=by rw [hl',hls]; simp only [List.length_append,List.length_cons,List.append_assoc,List.cons_append]
 have hx:x<s:=by omega
 have hy:y<s:=by omega
 have hxy:x<y:=by omega
 obtain⟨hd_,hhd⟩:∃ hd_,hd_=pre++m1 :: (mid1++m2 :: mid2):=⟨_,rfl⟩;obtain⟨tr,htr⟩:∃ tr,tr=t1++(dx,σ1) :: (t2++(dy,σ2) :: (t3++t4)):=⟨_,rfl⟩;obtain⟨th,hth⟩:∃ th,th=t1++(dx,σ1) :: (t2++(dy,σ2) :: t3):=⟨_,rfl⟩;obtain⟨tr',htr'⟩:∃ tr',tr'=u1++(dz,σB) :: (u2++u4):=⟨_,rfl⟩;obtain⟨th',hth'⟩:∃ th',th'=u1++(dz,σB) :: u2:=⟨_,rfl⟩;obtain⟨hd',hhd'⟩:∃ hd',hd'=pre++m1 :: (mid1++⟨m2.dst,none,.mv (.c dA)⟩ :: mid2):=⟨_,rfl⟩;rw [<- htr] at k1 hfree hweak hQ hlen;rw [<- htr'] at j1 hfree hweak hlen';have lhd:l=hd_++post:=by rw [hls,hhd]; simp
 have lhd':l'=hd'++post:=by rw [hl',hhd']; simp
 have tth:tr=th++t4:=by rw [htr,hth]; simp
 have tth':tr'=th'++u4:=by rw [htr',hth']; simp
 have nhd:hd_.length=s:=by rw [hhd]; simp; omega
 have nhd':hd'.length=s:=by rw [hhd']; simp; omega
 have nth:th.length=s:=by rw [hth]; simp [a3,b3,c3]; omega
 have nth':th'.length=s:=by rw [hth']; simp [d3,e3]; omega
 have hF3:FAt hd_ th f=FAt mid2 t3 ((FAt mid1 t2 ((FAt pre t1 f).put m1.dst dx)).put m2.dst dy):=by rw [hhd,hth,qK _ _ _ a3];show FAt (mid1++m2 :: mid2) (t2++(dy,σ2) :: t3) _=_;rw [qK _ _ _ b3]; rfl
 have hG3:FAt hd' th' f=FAt (mid1++⟨m2.dst,none,.mv (.c dA)⟩ :: mid2) u2 ((FAt pre u1 f).put m1.dst dz):=by rw [hhd',hth',qK _ _ _ d3]; rfl
 rw [<- hF3] at q0 q1 q2;rw [<- hG3] at qA qB;have dq:∀ dx dy,(qsA pre m1.dst dx mid1 m2.dst dy mid2).map (·.dst)= hd_.map (·.dst):=fun dx dy=>by rw [hhd]; simp [qsA]
 have dq':∀ dx dy,(qsA pre m1.dst dx mid1 m2.dst dy mid2).map (·.dst)= hd'.map (·.dst):=fun dx dy=>by rw [hhd']; simp [qsA]
 have dok:vU hd_=true:=by have:=R.bR9; rw [R.eq,<- hhd] at this; exact this
 have dok':vU hd'=true:=(aN ((dq' dx dy).symm.trans (dq dx dy))).trans dok
 have qat:∀ dx dy i,i≠x->i≠y->(qsA pre m1.dst dx mid1 m2.dst dy mid2)[i]?=hd_[i]?:=fun dx dy i h1 h2=>by rw [hhd];show (pre++_ :: (mid1++_ :: mid2))[i]?=_;rw [aSs (c:=m1) (by omega),show pre++m1 :: (mid1++⟨m2.dst,none,DK.mv (.c dy)⟩ :: mid2)= (pre++m1 :: mid1)++ ⟨m2.dst,none,DK.mv (.c dy)⟩ :: mid2 by simp,aSs (c:=m2) (by simp; omega)];simp
 have hat:∀ i,i≠y->hd'[i]?=hd_[i]?:=fun i h2=>by rw [hhd,hhd',show pre++m1 :: (mid1++⟨m2.dst,none,DK.mv (.c dA)⟩ :: mid2)= (pre++m1 :: mid1)++ ⟨m2.dst,none,DK.mv (.c dA)⟩ :: mid2 by simp,aSs (c:=m2) (by simp; omega)];simp
 have lat:∀ i,i≠y->l'[i]?=l[i]?:=fun i h2=>by rw [hls,hl',show pre++m1 :: ((mid1++⟨m2.dst,none,DK.mv (.c dA)⟩ :: mid2)++ post)= (pre++m1 :: mid1)++ ⟨m2.dst,none,DK.mv (.c dA)⟩ :: (mid2++post) by simp,aSs (c:=m2) (by simp; omega)];simp
 have ly:l[y]?=some m2:=by have:=aN9 (A:=pre++m1 :: mid1) (B:=mid2++post) (b:=m2);rw [hls,hy0];rw [show (pre++m1 :: mid1).length=pre.length+1+mid1.length by simp; omega] at this;rw [<- this]; simp
 have ly':l'[y]?=some ⟨m2.dst,none,.mv (.c dA)⟩:=by have:=aN9 (A:=pre++m1 :: mid1) (B:=mid2++post) (b:=(⟨m2.dst,none,.mv (.c dA)⟩:DOp));rw [hl',hy0];rw [show (pre++m1 :: mid1).length=pre.length+1+mid1.length by simp; omega] at this;rw [<- this]; simp
 have lx:l[x]?=some m1:=by rw [hls,hx0]; exact aN9
 have ldst:∀ j,vK l' j=vK l j:=fun j=>by
  unfold vK
  by_cases h:j=y
  ·subst h; rw [ly,ly']; rfl
  ·rw [lat j h]
 have tdy:tK tr' y=dA:=by have hjt:=j1.at y _ ly';obtain⟨d,σ',h1,h2⟩:=hjt;simp only [yP,opV,pW,evO] at h2;simp only [tK,h1,Option.map_some,Option.getD_some];exact h2.1.symm
 have muh:∀ i,i<s->(mC C.own l i=true ↔ i=x\/i=y):=fun i hi=>by
  have hli:l[i]?=hd_[i]?:=by rw [lhd,List.getElem?_append_left (by omega)]
  rcases Nat.lt_trichotomy i x with h | h | h
  ·have:hd_[i]?=pre[i]?:=by rw [hhd,List.getElem?_append_left (by omega)]
   rw [vM (hli.trans (this.trans (List.getElem?_eq_getElem (by omega)))),R.n1 _ (List.getElem_mem _)];simp; omega
  ·subst h; rw [vM lx,R.n2]; simp
  ·rcases Nat.lt_trichotomy i y with g | g | g
   ·obtain⟨k,rfl⟩:∃ k,i=pre.length+(k+1):=⟨i-pre.length-1,by omega⟩
    have:hd_[pre.length+(k+1)]?=mid1[k]?:=by rw [hhd,List.getElem?_append_right (by omega),show pre.length+(k+1)-pre.length=k+1 by omega,List.getElem?_cons_succ,List.getElem?_append_left (by omega)]
    rw [vM (hli.trans (this.trans (List.getElem?_eq_getElem (by omega)))),R.n3 _ (List.getElem_mem _)];simp; omega
   ·subst g; rw [vM ly,R.n4]; simp
   ·obtain⟨k,rfl⟩:∃ k,i=pre.length+1+mid1.length+(k+1):=⟨i-(pre.length+1+mid1.length)-1,by omega⟩
    have:hd_[pre.length+1+mid1.length+(k+1)]?=mid2[k]?:=by rw [hhd,List.getElem?_append_right (by omega),show pre.length+1+mid1.length+(k+1)-pre.length=(mid1.length+(k+1))+ 1 by omega,List.getElem?_cons_succ,List.getElem?_append_right (by omega),show mid1.length+(k+1)-mid1.length=k+1 by omega,List.getElem?_cons_succ]
    rw [vM (hli.trans (this.trans (List.getElem?_eq_getElem (by omega)))),R.n5 _ (List.getElem_mem _)];simp; omega
 have st0:∀ p,p<=x->SAt (tr.take p) σ=σ:=fun p hp=>by rw [htr,List.take_append_of_le_length (by omega)];exact yC fun x hx=>a4 x (List.mem_of_mem_take hx)
 have st1:∀ p,x<p->p<=y->SAt (tr.take p) σ=σ1:=fun p h1 h2=>by obtain⟨k,rfl⟩:∃ k,p=t1.length+(k+1):=⟨p-t1.length-1,by omega⟩;rw [htr,List.take_length_add_append,List.take_succ_cons,List.take_append_of_le_length (by omega),rL];exact yC (t:=t2.take k) fun x hx=>b4 x (List.mem_of_mem_take hx)
 have st2:∀ p,y<p->p<=s->SAt (tr.take p) σ=σ2:=fun p h1 h2=>by obtain⟨k,rfl⟩:∃ k,p=t1.length+((t2.length+(k+1))+ 1):=⟨p-t1.length-1-t2.length-1,by omega⟩;rw [htr,List.take_length_add_append,List.take_succ_cons,List.take_length_add_append,List.take_succ_cons,List.take_append_of_le_length (by omega),rL];show SAt (t2++(dy,σ2) :: t3.take k) σ1=σ2;rw [rL];exact yC (t:=t3.take k) fun x hx=>c4 x (List.mem_of_mem_take hx)
 have stA:∀ p,p<=x->SAt (tr'.take p) σA=σA:=fun p hp=>by rw [htr',List.take_append_of_le_length (by omega)];exact yC fun x hx=>d4 x (List.mem_of_mem_take hx)
 have stB:∀ p,x<p->p<=s->SAt (tr'.take p) σA=σB:=fun p h1 h2=>by
  have hu2:u2.length=mid1.length+1+mid2.length:=by rw [e3]; simp; omega
  obtain⟨k,rfl⟩:∃ k,p=u1.length+(k+1):=⟨p-u1.length-1,by omega⟩;rw [htr',List.take_length_add_append,List.take_succ_cons,List.take_append_of_le_length (by omega),rL];exact yC (t:=u2.take k) fun x hx=>e4 x (List.mem_of_mem_take hx)
 have sp:aMd ops l s (mC C.own l) (fun i j=>i==pre.length&&j==pre.length+1+mid1.length):=cZ R.ok;have bk:aMe ops:=cW R.ok;have hal3:m2.names=(⟨m2.dst,none,.mv (.c dA)⟩:DOp).names:=by unfold DOp.names; rw [hal,hg2]; rfl
 obtain⟨hdl,hdg⟩:=wS hd;have hdl2:l.length=ops.size:=by simpa using hdl
 have G':Good C E a { w with drawn:=w.drawn+1 } f σ:=by obtain⟨ι,G⟩:=G;have hk:Kept w w.drew fun _=>False:=(Kept.refl _ _).drew;have hS:=G.sim.ext hk;exact⟨ι,⟨G.size,G.defers.zI rfl (Nat.le_refl _) fun D hD=>hD,G.nx,G.kept.drew,hS,G.old,G.nG,G.stay,G.fr.zI (fun b hb _=>rfl) (fun _ _ h=>h) hk.shape (fun _ _=>rfl) (Nat.le_refl _)⟩⟩
 have hf0:∀ j,(Array.replicate ops.size false).getD j false=false:=getD_replicate_false ops.size
 refine wpIn_region_any hm (aYh (ds:=l) (tr:=tr) (s:=s) (mu:=mC C.own l) (f:=f) (σ:=σ) (xo:=fun i j=>i==pre.length&&j==pre.length+1+mid1.length) (l0:=fun _=>false) hdl (fun i o h=>by obtain⟨dop,h1,h2⟩:=hdg i o h; exact⟨dop,h1,fun _=>h2⟩) sp bk (fun i j h=>by simp at h; omega) k1 hlen hsl (fun m hms hmm=>?_) (fun i hi him=>?_) (fun i dop p his him hps hdop hns hor=>?_) (fun a w G'=>⟨_,_,G',hQ⟩) (fun fuel listed a w i j hfew I hi hxo hlj=>?_) _ _ _ _ ?_ ⟨by simp,(fun _ j _ h=>by rw [hf0] at h; cases h),(fun _ h=>by cases h),(fun j o _ hT=>by rw [hf0] at hT; cases hT),f,fun t=>?_,?_⟩)
 ·rcases(muh m hms).1 hmm with rfl | rfl
  ·rw [wF lx]; exact R.bY8
  ·rw [wF ly]; exact hal2
 ·have hne:i≠x/\i≠y:=by
   refine⟨fun h=>?_,fun h=>?_⟩
   ·rw [(muh i hi).2 (.inl h)] at him; cases him
   ·rw [(muh i hi).2 (.inr h)] at him; cases him
  rcases Nat.lt_or_ge i x with h | h
  ·rw [st0 (i+1) (by omega),st0 i (by omega)]
  ·rcases Nat.lt_or_ge i y with g | g
   ·rw [st1 (i+1) (by omega) (by omega),st1 i (by omega) (by omega)]
   ·rw [st2 (i+1) (by omega) (by omega),st2 i (by omega) (by omega)]
 ·have hne:i≠x/\i≠y:=by
   refine⟨fun h=>?_,fun h=>?_⟩
   ·rw [(muh i his).2 (.inl h)] at him; cases him
   ·rw [(muh i his).2 (.inr h)] at him; cases him
  have z1:l.take i=hd_.take i:=by rw [lhd,List.take_append_of_le_length (by omega)]
  have z2:tr.take i=th.take i:=by rw [tth,List.take_append_of_le_length (by omega)]
  have z3:tK tr i=tK th i:=by unfold tK; rw [tth,List.getElem?_append_left (by omega)]
  have z4:hd_[i]?=some dop:=by rw [<- hdop,lhd,List.getElem?_append_left (by omega)]
  rw [z1,z2,z3]
  rcases Nat.lt_or_ge x p with h | h
  ·rcases Nat.lt_or_ge y p with g | g
   ·rw [st2 p g hps]; exact jT (dq dx dy) dok (by omega) q2 ((qat dx dy i hne.1 hne.2).trans z4)
   ·rw [st1 p h g]; exact jT (dq dx dy) dok (by omega) q1 ((qat dx dy i hne.1 hne.2).trans z4)
  ·rw [st0 p h]; exact jT (dq dx dy) dok (by omega) q0 ((qat dx dy i hne.1 hne.2).trans z4)
 ·-- THE OBJECT COMES FIRST
  simp only [Bool.and_eq_true,beq_iff_eq] at hxo;obtain⟨rfl,rfl⟩:j=x/\i=y:=by omega
  obtain⟨hun,o,ho,hall⟩:=mem_ready.1 hi;have hlt:i<ops.size:=(Array.getElem?_eq_some_iff.1 ho).1;have hTi:listed.getD i false=false:=getD_both hun;have hol:ops.toList[i]?=some o:=by simpa using ho
  obtain⟨dop,hdop,hmk⟩:=hdg i o hol;obtain rfl:dop=m2:=by rw [ly] at hdop; exact(Option.some.inj hdop).symm
  have hTlen:∀ j,listed.getD j false=true->j<ops.toList.length:=by
   intro j hj
   rcases Nat.lt_or_ge j listed.size with h | h
   ·simp; rw [<- I.size]; exact h
   ·simp [Array.getElem?_eq_none h] at hj
  have late:∀ k,listed.getD k false=false->∀ m,ordered (zG ops.toList []) k m=true->listed.getD m false=false:=by
   intro k hk m hm2
   by_cases h:listed.getD m false=true
   ·have this:listed.getD k false=true:=tT (T:=fun j=>listed.getD j false) I.closed hTlen m h k hm2;rw [hk] at this;cases this
   ·simpa using h
  have hopsj:∀ j,j<l.length->ops.toList[j]?=some (ops.toList.getD j o):=fun j hj=>by
   have:j<ops.toList.length:=by omega
   simp only [List.getD,List.getElem?_eq_getElem this,Option.getD_some]
  have hdsj:∀ j,j<l.length->l[j]?=some (l.getD j dop):=fun j hj=>by simp [List.getD,hj]
  have post0:∀ k,k<l.length->s<=k->wO l k=false->listed.getD k false=false:=by
   intro k hk hks hns;rw [wF (hdsj k hk)] at hns
   rcases sp (hopsj k hk) (hdsj k hk) ly (by omega:i<k) with h | ⟨_,h | h | h | h⟩
   ·exact late i hTi k h
   ·omega
   ·rw [hal2] at h; cases h
   ·rw [hns] at h; cases h
   ·simp at h; omega
  have hT':∀ k,(listed.setIfInBounds i true).getD k false=if i=k then true else listed.getD k false:=by
   intro k
   by_cases h:i=k
   ·subst h;have:i<listed.size:=by rw [I.size]; exact hlt
    simp [this]
   ·rw [if_neg h];exact getD_set_ne false h
  obtain⟨g,hg,G2⟩:=I.bY9
  have hsil:∀ (ds:List DOp) (tr:List (D × St)) (f:Fr) (σ:St) (mu:Nat->Bool),Trace C ds f σ tr->(∀ i,i<s->mu i=false->SAt (tr.take (i+1)) σ=SAt (tr.take i) σ)->∀ j,j<ds.length->quiet ds mu s j=true->SAt (tr.take (j+1)) σ=SAt (tr.take j) σ:=by
   intro ds tr f σ mu ht hpre j hj hs
   by_cases hsj:wO ds j=true
   ·have ho:ds[j]?=some ds[j]:=List.getElem?_eq_getElem hj;obtain⟨d,σ',h1,h2⟩:=ht.at j _ ho;rw [gN tr σ j _ h1];simp only [wO,ho,Option.map_some,Option.getD_some] at hsj;unfold yP at h2
    split at h2
    ·exact(qX hsj h2).1
    ·split at h2
     ·exact(Classical.em _).elim (fun hbw=>(qX hsj ((vV h2).1 hbw)).1) (fun hbw=>((vV h2).2 hbw).2)
     ·exact h2.2
     ·exact h2.elim
   ·simp only [quiet,Bool.or_eq_true,hsj,false_or,Bool.and_eq_true,decide_eq_true_eq,Bool.false_eq_true,Bool.not_eq_true'] at hs;exact hpre j hs.1 hs.2
  have preT:∀ i',i'<s->mC C.own l i'=false->SAt (tr.take (i'+1)) σ=SAt (tr.take i') σ:=fun k hk him=>by
   have hne:k≠j/\k≠i:=by
    refine⟨fun h=>?_,fun h=>?_⟩
    ·rw [(muh k hk).2 (.inl h)] at him; cases him
    ·rw [(muh k hk).2 (.inr h)] at him; cases him
   rcases Nat.lt_or_ge k j with h | h
   ·rw [st0 (k+1) (by omega),st0 k (by omega)]
   ·rcases Nat.lt_or_ge k i with g | g
    ·rw [st1 (k+1) (by omega) (by omega),st1 k (by omega) (by omega)]
    ·rw [st2 (k+1) (by omega) (by omega),st2 k (by omega) (by omega)]
  have hst:SV (quiet l (mC C.own l) s) tr σ (fun i=>listed.getD i false) l.length=σ:=by
   rw [gA (i:=0) (hsil l tr f σ _ k1 preT) l.length (Nat.le_refl _) fun k hk hq=>⟨fun hT=>?_,fun h=>by omega⟩]
   ·simp [SAt]
   ·exfalso;obtain⟨h1,h2⟩:=wE.1 hq
    rcases Nat.lt_or_ge k s with h | h
    ·rcases(muh k h).1 (h2.resolve_right (by omega)) with rfl | rfl
     ·rw [hlj] at hT; cases hT
     ·rw [hTi] at hT; cases hT
    ·rw [post0 k hk h h1] at hT; cases hT
  rw [hst] at G2
  have key:yP dop g (opV C σ (evO g) dop.k fun x y=>x=dA/\y=σA) (D.und=dA/\σ=σA):=by simp only [yP,hg2];exact kX (fun x hx=>by rw [hal] at hx; cases hx) hA
  have hstep:=eT (next:=wpAnyIn C.F 0 C.P .any ops (LQ C E Q) fuel (listed.setIfInBounds i true)) (Q:=LQ C E Q) (K:=fun x y=>x=dA/\y=σA) hmk G2 (tY key (fun h=>h) (fun h=>h)) (fun a' w' d' σ'' G3 hk=>by
   obtain⟨rfl,rfl⟩:=hk
   refine aYh (ds:=l') (tr:=tr') (s:=s) (mu:=fun i=>decide (i=j)) (f:=f) (σ:=σ'') (xo:=fun _ _=>false) (l0:=fun k=>decide (k=i)) (by omega) (fun k o' h=>?_) (fun {i1 j1 oj di dj} h1 h2 h3 h4=>?_) bk (fun _ _ h=>by cases h) j1 hlen' (by omega) (fun m hms hmm=>?_) (fun k hk him=>?_) (fun k dop2 p his him hps hdq hns hor=>?_) (fun a w G'=>⟨_,_,hweak E a w G',hQ⟩) (fun _ _ _ _ _ _ _ _ _ h=>by cases h) _ _ _ _ hfew ⟨by simp [I.size],(fun _ _ h=>by cases h),fun k hk=>?_,fun k ok hk hT e he hb=>?_,g.put dop.dst d',fun t=>?_,?_⟩
   ·obtain⟨dop3,g1,g2⟩:=hdg k o' h
    by_cases hki:k=i
    ·subst hki; exact⟨_,ly',fun h=>by simp at h⟩
    ·exact⟨dop3,(lat k hki).trans g1,fun _=>g2⟩
   ·by_cases hj1:j1=i
    ·subst hj1;rw [ly'] at h2; cases h2;rw [lat i1 (by omega)] at h3
     rcases sp h1 ly h3 h4 with h | ⟨h,_⟩
     ·exact .inl h
     ·exact .inr ⟨(aT9 (a:=⟨dop.dst,none,.mv (.c d')⟩) (b:=dop) rfl hal3.symm).trans h,.inr (.inr (.inl rfl))⟩
    ·rw [lat j1 hj1] at h2
     by_cases hi1:i1=i
     ·subst hi1;rw [ly'] at h3; cases h3
      rcases sp h1 h2 ly h4 with h | ⟨h,_⟩
      ·exact .inl h
      ·exact .inr ⟨(aO0 (a:=⟨dop.dst,none,.mv (.c d')⟩) (b:=dop) rfl hal3.symm).trans h,.inr (.inl rfl)⟩
     ·rw [lat i1 hi1] at h3
      rcases sp h1 h2 h3 h4 with h | ⟨h,h5 | h5 | h5 | h5⟩
      ·exact .inl h
      ·exact .inr ⟨h,.inl ⟨h5.1,fun⟨q1,q2⟩=>by simp at q1 q2; omega⟩⟩
      ·exact .inr ⟨h,.inr (.inl h5)⟩
      ·exact .inr ⟨h,.inr (.inr (.inl h5))⟩
      ·simp at h5; omega
   ·obtain rfl:m=j:=by simpa using hmm
    rw [wF ((lat m (by omega)).trans lx)]; exact R.bY8
   ·have hkj:k≠j:=by simpa using him
    rcases Nat.lt_or_ge k j with h | h
    ·rw [stA (k+1) (by omega),stA k (by omega)]
    ·rw [stB (k+1) (by omega) (by omega),stB k (by omega) (by omega)]
   ·have hkj:k≠j:=by simpa using him
    have hki:k≠i:=fun h=>by subst h; rw [ly'] at hdq; cases hdq; cases hns
    have z1:l'.take k=hd'.take k:=by rw [lhd',List.take_append_of_le_length (by omega)]
    have z2:tr'.take k=th'.take k:=by rw [tth',List.take_append_of_le_length (by omega)]
    have z3:tK tr' k=tK th' k:=by unfold tK; rw [tth',List.getElem?_append_left (by omega)]
    have z4:hd_[k]?=some dop2:=by rw [<- hat k hki,<- hdq,lhd',List.getElem?_append_left (by omega)]
    rw [z1,z2,z3]
    rcases Nat.lt_or_ge j p with h | h
    ·rw [stB p h hps]; exact jT (dq' dz d') dok' (by omega) qB ((qat dz d' k hkj hki).trans z4)
    ·rw [stA p h]; exact jT (dq' dz d') dok' (by omega) qA ((qat dz d' k hkj hki).trans z4)
   ·obtain rfl:k=i:=by simpa using hk
    rw [hT',if_pos rfl]
   ·by_cases h:i=k
    ·subst h;rw [hol] at hk;simp at hk; subst hk;exact getD_set_true (hall e he hb)
    ·rw [hT',if_neg h] at hT;exact getD_set_true (I.closed k ok hk hT e he hb)
   ·have hnd:(l'.filterMap (·.dst)).Nodup:=by
     have:l'.filterMap (·.dst)= l.filterMap (·.dst):=by rw [hls,hl']; simp [List.filterMap_append,List.filterMap_cons]
     rw [this]; exact R.nodup
    by_cases hdt:dop.dst=some t
    ·rw [hdt,Fr.jO,if_pos rfl,mM (i:=i) (by rw [hT' i]; simp) (by rw [ldst,vK,ly]; exact hdt) l'.length (by omega) fun k h1 h2 h3=>?_]
     ·exact tdy.symm
     ·have:=eP hnd h3 (by rw [ldst,vK,ly]; exact hdt:vK l' i=some t);omega
    ·have e1:(g.put dop.dst d').get t=g.get t:=by
      cases hdd:dop.dst with
      | none=>rfl
      | some u=>rw [Fr.jO,if_neg (fun e=>by subst e; exact hdt hdd)]
     rw [e1,hg t,hll];refine(aLw ldst l.length fun k hk hkt=>?_).symm;have hki:k≠i:=fun e=>by subst e; rw [vK,ly] at hkt; exact hdt hkt
     refine⟨by rw [hT',if_neg (fun e=>hki e.symm)],fun hT=>?_⟩;have hkj:k≠j:=fun e=>by subst e; rw [hlj] at hT; cases hT
     have hfr:t ∈ free:=by
      rw [R.fr];unfold aC5;refine List.mem_filterMap.2 ⟨k,List.mem_range.2 hk,?_⟩
      have o1:ordered (zG ops.toList []) pre.length k=false:=by
       cases h:ordered (zG ops.toList []) pre.length k with
       | false=>rfl
       | true=>rw [<- hx0] at h; rw [late j hlj k h] at hT; cases hT
      have o2:ordered (zG ops.toList []) (pre.length+1+mid1.length) k=false:=by
       cases h:ordered (zG ops.toList []) (pre.length+1+mid1.length) k with
       | false=>rfl
       | true=>rw [<- hy0] at h; rw [late i hTi k h] at hT; cases hT
      rw [if_neg (by simp [o1,o2]; omega)];exact hkt
     have:=hfree t hfr;rw [aLy hlen R.nodup hk hkt,aLy hlen' hnd (by omega:k<l'.length) ((ldst k).trans hkt)] at this;exact this.symm
   ·have:SV (quiet l' (fun i=>decide (i=j)) s) tr' σ'' (fun k=>(listed.setIfInBounds i true).getD k false) l'.length=σ'':=by
     rw [gA (i:=0) (hsil l' tr' f σ'' _ j1 (fun k hk him=>by
      have hkj:k≠j:=by simpa using him
      rcases Nat.lt_or_ge k j with h | h
      ·rw [stA (k+1) (by omega),stA k (by omega)]
      ·rw [stB (k+1) (by omega) (by omega),stB k (by omega) (by omega)])) l'.length (Nat.le_refl _) fun k hk hq=>⟨fun hT=>?_,fun h=>by omega⟩]
     ·simp [SAt]
     ·exfalso;obtain⟨h1,h2⟩:=wE.1 hq;have hki:k≠i:=fun h=>by subst h; rw [wF ly'] at h1; cases h1
      rw [hT',if_neg (fun h=>hki h.symm)] at hT
      rcases h2 with h2 | h2
      ·obtain rfl:k=j:=by simpa using h2
       rw [hlj] at hT; cases hT
      ·rw [post0 k (by omega) h2 (by unfold wO at h1 ⊢; rw [<- lat k hki]; exact h1)] at hT; cases hT
    rw [this];exact G3)
  unfold wpOpIn;simp only [ho];exact hstep
 ·exact Nat.le_trans (List.length_filter_le _ _) (by simp)
 ·rw [aZm (i:=0) l.length fun j _ _=>⟨(fun h=>by rw [hf0] at h; cases h),fun h=>by omega⟩];simp [LV]
 ·have:SV (quiet l (mC C.own l) s) tr σ (fun i=>(Array.replicate ops.size false).getD i false) l.length=σ:=by refine(aMa (k:=0) _ fun j _ _ (hT:(Array.replicate ops.size false).getD j false=true)=>by rw [hf0] at hT; cases hT).trans (if_neg fun h=>?_);have h2:(Array.replicate ops.size false).getD 0 false=true:=h.2.1;rw [hf0] at h2; cases h2
  rw [this];exact G'
def iO : List Nat->Fr->Fr->Prop
 | [],_,_=>True
 | t :: r,f,g=>f.get t=g.get t/\iO r f g
theorem aR : ∀ {l:List Nat} {f g:Fr},iO l f g=∀ t ∈ l,f.get t=g.get t
 | [],f,g=>by simp [iO]
 | t :: r,f,g=>by simp [iO,aR (l:=r)]
theorem nR (f g:Fr):iO [] f g=True:=rfl
theorem pZ (t:Nat) (r:List Nat) (f g:Fr):iO (t :: r) f g=(f.get t=g.get t/\iO r f g):=rfl
def aNd (C:Cx) (σ:St) (pre:List DOp) (o1:Option Nat) (dx:D) (mid1:List DOp) (o2:Option Nat) (dy:D) (mid2:List DOp) (g f:Fr):Prop:= kD C σ pre (kD C σ (⟨o1,none,.mv (.c dx)⟩ :: mid1) (kD C σ (⟨o2,none,.mv (.c dy)⟩ :: mid2) (eqF g))) f
def rz6 (C:Cx) (free:List Nat) (K:Fr->St->Prop) (f4:Fr) (σ4:St) (g4:Fr) (σ5:St):Prop:=iO free f4 g4/\xM C g4 σ5 f4 σ4/\K f4 σ4
def rz5 (C:Cx) (post:List DOp) (free:List Nat) (K:Fr->St->Prop) (g3:Fr) (σB:St) (f4:Fr) (σ4:St):Prop:=aSf C post (rz6 C free K f4 σ4) g3 σB
def rz4 (C:Cx) (pre:List DOp) (o1:Option Nat) (dz:D) (mid1:List DOp) (o2:Option Nat) (dA:D) (mid2 post:List DOp) (free:List Nat) (K:Fr->St->Prop) (f f3:Fr) (σ2 σA σB:St) (g3:Fr):Prop:= aNd C σA pre o1 dz mid1 o2 dA mid2 g3 f/\aNd C σB pre o1 dz mid1 o2 dA mid2 g3 f/\aSf C post (rz5 C post free K g3 σB) f3 σ2
def rz3 (C:Cx) (pre:List DOp) (o1:Option Nat) (mid1:List DOp) (o2:Option Nat) (dA:D) (mid2 post:List DOp) (free:List Nat) (K:Fr->St->Prop) (f f3:Fr) (σ2 σA:St) (g1:Fr) (dz:D) (σB:St):Prop:= kD C σB mid1 (kD C σB (⟨o2,none,.mv (.c dA)⟩ :: mid2) (rz4 C pre o1 dz mid1 o2 dA mid2 post free K f f3 σ2 σA σB)) (g1.put o1 dz)
def rz2 (C:Cx) (pre:List DOp) (o1:Option Nat) (k1:DK) (mid1:List DOp) (o2:Option Nat) (mid2 post:List DOp) (free:List Nat) (K:Fr->St->Prop) (f f3:Fr) (σ2:St) (dA:D) (σA:St):Prop:= kD C σA pre (aA C k1 (rz3 C pre o1 mid1 o2 dA mid2 post free K f f3 σ2 σA) σA) f
def rz1 (C:Cx) (pre:List DOp) (o1:Option Nat) (k1:DK) (dx:D) (mid1:List DOp) (o2:Option Nat) (k2:DK) (dy:D) (mid2 post:List DOp) (free:List Nat) (K:Fr->St->Prop) (f:Fr) (σ σ1 σ2:St) (f3:Fr):Prop:= aNd C σ pre o1 dx mid1 o2 dy mid2 f3 f/\aNd C σ1 pre o1 dx mid1 o2 dy mid2 f3 f/\aNd C σ2 pre o1 dx mid1 o2 dy mid2 f3 f/\opX C σ (evO f) k2 (rz2 C pre o1 k1 mid1 o2 mid2 post free K f f3 σ2)
def bYg (C:Cx) (pre:List DOp) (o1:Option Nat) (k1:DK) (dx:D) (mid1:List DOp) (o2:Option Nat) (k2:DK) (mid2 post:List DOp) (free:List Nat) (K:Fr->St->Prop) (f:Fr) (σ σ1:St) (f2:Fr) (dy:D) (σ2:St):Prop:= kD C σ2 mid2 (rz1 C pre o1 k1 dx mid1 o2 k2 dy mid2 post free K f σ σ1 σ2) (f2.put o2 dy)
def bYh (C:Cx) (pre:List DOp) (o1:Option Nat) (k1:DK) (mid1:List DOp) (o2:Option Nat) (k2:DK) (mid2 post:List DOp) (free:List Nat) (K:Fr->St->Prop) (f:Fr) (σ:St) (f1:Fr) (dx:D) (σ1:St):Prop:= kD C σ1 mid1 (aA C k2 (bYg C pre o1 k1 dx mid1 o2 k2 mid2 post free K f σ σ1) σ1) (f1.put o1 dx)
def aNp (C:Cx) (pre:List DOp) (o1:Option Nat) (k1:DK) (mid1:List DOp) (o2:Option Nat) (k2:DK) (mid2 post:List DOp) (free:List Nat) (K:Fr->St->Prop) (f:Fr) (σ:St):Prop:= kD C σ pre (aA C k1 (bYh C pre o1 k1 mid1 o2 k2 mid2 post free K f σ) σ) f
theorem uM {C:Cx} {σ:St} {l:List DOp} {f:Fr} {K K':Fr->Prop} (h:∀ g,K g=K' g):kD C σ l K f=tL C σ l f K':=by rw [mT,mS,funext h]
theorem aZb {C:Cx} {σ:St} {ev:Opd->D} {k:DK} {K K':D->St->Prop} (h:∀ d σ',K d σ'=K' d σ'):opX C σ ev k K=opV C σ ev k K':=by rw [aN1,show K=K' from funext fun d=>funext fun σ'=>h d σ']
theorem aUt {C:Cx} {l:List DOp} {f:Fr} {σ:St} {K K':Fr->St->Prop} (h:∀ g s,K g s=K' g s):aSf C l K f σ=pR C l f σ K':=by rw [mR,jS,show K=K' from funext fun d=>funext fun σ'=>h d σ']
theorem sH {C:Cx} {σ:St} {K:Fr->Prop} {l2:List DOp}:∀ {l1:List DOp} {f:Fr},tL C σ (l1++l2) f K=tL C σ l1 f fun g=>tL C σ l2 g K
 | [],f=>rfl
 | o :: r,f=>by have ih:(fun g=>tL C σ (r++l2) g K)= fun g=>tL C σ r g fun g=>tL C σ l2 g K:=funext fun g=>sH (l1:=r);show tL C σ (o :: (r++l2)) f K=_;simp only [tL];have:∀ g,tL C σ (r++l2) g K=tL C σ r g fun g=>tL C σ l2 g K:=fun g=>congrFun ih g;simp only [this]
theorem fZ {C:Cx} {σ:St} {pre:List DOp} {o1:Option Nat} {dx:D} {mid1:List DOp} {o2:Option Nat} {dy:D} {mid2:List DOp} {g f:Fr}:aNd C σ pre o1 dx mid1 o2 dy mid2 g f=tL C σ (qsA pre o1 dx mid1 o2 dy mid2) f fun x=>x=g:=by unfold aNd qsA;rw [sH];refine uM fun g1=>?_;rw [show (⟨o1,none,DK.mv (.c dx)⟩:DOp) :: (mid1++⟨o2,none,DK.mv (.c dy)⟩ :: mid2)= (⟨o1,none,DK.mv (.c dx)⟩ :: mid1)++ ⟨o2,none,DK.mv (.c dy)⟩ :: mid2 from rfl,sH];exact uM fun g2=>uM fun g3=>rfl
theorem aGw {C:Cx} {pre:List DOp} {o1:Option Nat} {g1:Option (Nat × Bool)} {k1:DK} {mid1:List DOp} {o2:Option Nat} {g2:Option (Nat × Bool)} {k2:DK} {mid2 post:List DOp} {free:List Nat} {K:Fr->St->Prop} {f:Fr} {σ:St} :
  aNp C pre o1 k1 mid1 o2 k2 mid2 post free K f σ=aHb C pre ⟨o1,g1,k1⟩ mid1 ⟨o2,g2,k2⟩ mid2 post free f σ K:=by
 unfold aNp aHb;refine uM fun f1=>aZb fun dx σ1=>?_;unfold bYh;refine uM fun f2=>aZb fun dy σ2=>?_;unfold bYg;refine uM fun f3=>?_;unfold rz1;refine congr (congrArg And fZ) (congr (congrArg And fZ) (congr (congrArg And fZ) (aZb fun dA σA=>?_)));unfold rz2;refine uM fun h1=>aZb fun dz σB=>?_;unfold rz3;rw [sH];refine uM fun h2=>uM fun g3=>?_;unfold rz4;refine congr (congrArg And fZ) (congr (congrArg And fZ) (aUt fun f4 σ4=>?_));unfold rz5;refine aUt fun g4 σ5=>?_;unfold rz6;rw [aR]
theorem aZr {C:Cx} (hm:C.P.follows .mixedOrders=true) {pre:List DOp} {o1:Option Nat} {g1:Option (Nat × Bool)} {k1:DK} {mid1:List DOp} {o2:Option Nat} {g2:Option (Nat × Bool)} {k2:DK} {mid2 post:List DOp} {free:List Nat} {f:Fr} {σ:St} {Q:Exit->Fr->St->Prop}
  (h:aNp C pre o1 k1 mid1 o2 k2 mid2 post free (iG Q) f σ):wpS C (.aV0 pre ⟨o1,g1,k1⟩ mid1 ⟨o2,g2,k2⟩ mid2 post free) f σ Q:=
 aHr hm (aGw ▸ h)
theorem aSv {C:Cx} {pre:List DOp} {m1:DOp} {mid1:List DOp} {m2:DOp} {mid2 post:List DOp} {free:List Nat} {f:Fr} {σ:St} {Q:Exit->Fr->St->Prop}:wpZ C (.aV0 pre m1 mid1 m2 mid2 post free) Q f σ=wpS C (.aV0 pre m1 mid1 m2 mid2 post free) f σ Q:=by rw [sR]; rfl
def gJ : List Bool->List DOp->Fr->List DOp
 | true :: fl,o :: r,f1=>⟨o.dst,none,.mv (.c (match o.dst with | some t=>f1.get t | none=>.top))⟩ :: gJ fl r f1
 | false :: fl,o :: r,f1=>o :: gJ fl r f1
 | [],l,_=>l
 | _,[],_=>[]
theorem eY : ∀ {fl:List Bool} {l:List DOp} {f1:Fr},(gJ fl l f1).map (·.dst)= l.map (·.dst)
 | true :: fl,o :: r,f1=>by simp only [gJ,List.map_cons,eY (l:=r)]
 | false :: fl,o :: r,f1=>by simp only [gJ,List.map_cons,eY (l:=r)]
 | [],l,f1=>by cases l <;> rfl
 | true :: fl,[],f1=>rfl
 | false :: fl,[],f1=>rfl
theorem aXy : ∀ {fl:List Bool} {l:List DOp} {f1:Fr} {i:Nat},fl.getD i false=false->(gJ fl l f1)[i]?=l[i]?
 | true :: fl,o :: r,f1,0,h=>by simp at h
 | false :: fl,o :: r,f1,0,h=>rfl
 | true :: fl,o :: r,f1,i+1,h=>by simp only [gJ,List.getElem?_cons_succ]; exact aXy (by simpa using h)
 | false :: fl,o :: r,f1,i+1,h=>by simp only [gJ,List.getElem?_cons_succ]; exact aXy (by simpa using h)
 | [],l,f1,i,h=>by cases l <;> rfl
 | true :: fl,[],f1,i,h=>rfl
 | false :: fl,[],f1,i,h=>rfl
def aHa (C:Cx) (pre:List DOp) (m:DOp) (mid:List DOp) (un:Bool) (post:List DOp) (fl:List Bool) (f:Fr) (σ:St) (K:Fr->St->Prop):Prop:= tL C σ pre f fun f1=>opV C σ (evO f1) m.k fun d σ1=>tL C σ1 (gJ fl pre f1) f (fun g=>g=f1)/\ tL C σ1 mid (f1.put m.dst d) fun f2=>(if un=true then tL C σ mid (f1.put m.dst d) (fun g=>g=f2) else True)/\ pR C post f2 σ1 K
theorem aFz {P:Program} {N:Nat} {own:List Nat} {code:Code} {pre:List DOp} {m:DOp} {mid:List DOp} {un:Bool} {post:List DOp} {fl:List Bool} (h:mkC P N own code=some (.aSd pre m mid un post fl)) :
  ∃ id ops l,code = .region id ops true/\tD (aE P N own ops) ops.toList=some l/\own.contains 77777=false/\aZj ops.toList l (tP own l) (mC own l)= true/\post=l.drop (tP own l)/\ bTl own ops.toList l (tP own l) pre m mid un fl:=by
 cases code with
 | region id ops draw=>
  simp only [mkC] at h
  split at h
  ·rename_i d hd;cases h
   rcases nT hd with ⟨_,h2 | h2 | h2⟩ | ⟨_,h2,_⟩
   ·obtain⟨_,_,_,_,_,_,_,_,_,_,_,_,_,_,_,e⟩:=uF h2; cases e
   ·obtain⟨_,_,_,_,_,_,_,_,_,_,_,_,_,_,e⟩:=oV h2; cases e
   ·obtain⟨_,_,_,_,_,_,_,_,_,_,_,e⟩:=oU h2; cases e
   ·obtain⟨_,_,_,_,_,_,_,_,_,_,_,_,_,_,_,e⟩:=uF h2; cases e
  ·simp only [Option.bind_eq_bind,Option.bind_eq_some_iff] at h;obtain⟨l,hl,h⟩:=h
   split at h
   ·rename_i hdr
    split at h
    ·rename_i hok
     split at h
     ·rename_i d hv;cases h;obtain⟨_,_,_,_,_,_,e,hp,hR⟩:=nV hv;cases e;subst hdr;exact⟨id,ops,l,rfl,hl,hok.1,hok.2,hp,hR⟩
     ·rcases qC h with ⟨e,_⟩ | ⟨_,_,_,_,_,e,_⟩ | ⟨_,_,_,_,_,_,_,_,_,_,_,e,_⟩ <;> cases e
    ·split at h
     ·obtain⟨_,_,_,_,_,_,_,e,_⟩:=nU h;cases e
     ·cases h
   ·simp at h
 | rangeFunc g0 ps0 a c=> simp [mkC,Option.bind_eq_some_iff] at h
 | seq a b=> simp only [mkC,zO] at h;obtain⟨dx,hx,dy,hy,h⟩:=h;rcases zK dx dy with e | ⟨_,_,_,_,_,_,_,_,_,_,_,_,e,_⟩ <;> rw [e] at h <;> cases h
 | _=>simp [mkC,Option.bind_eq_some_iff] at h
theorem aHq {C:Cx} (hm:C.P.follows .mixedOrders=true) {pre:List DOp} {o:DOp} {mid:List DOp} {un:Bool} {post:List DOp} {fl:List Bool} {f:Fr} {σ:St} {Q:Exit->Fr->St->Prop}
  (h:aHa C pre o mid un post fl f σ (Q .normal)):wpS C (.aSd pre o mid un post fl) f σ Q:=by
 intro code hc E a w G;obtain⟨id,ops,l,rfl,hd,hq,hok,hpost,R⟩:=aFz hc;obtain⟨⟨heq,d1,d2,n1,n2,n3,hloud⟩,hw,hfl⟩:=R;have hg:=tX n2
 have hsl:tP C.own l<=l.length:=by
  have:∀ ks:List DOp,tP C.own ks<=ks.length:=by
   intro ks
   induction ks with
   | nil=>simp [tP]
   | cons k ks ih=>simp only [tP]; split <;> simp <;> omega
  exact this l
 have hl:l=pre++o :: (mid++post):=by
  conv=>lhs; rw [<- List.take_append_drop (tP C.own l) l,heq,<- hpost]
  simp
 have hs:tP C.own l=pre.length+1+mid.length:=by have:=congrArg List.length heq;rw [List.length_take,Nat.min_eq_left hsl] at this;simp at this; omega
 generalize tP C.own l=s at *;unfold aHa at h;obtain⟨t1,h1,h2,h3,h4⟩:=yU _ _ h;obtain⟨d,σ1,g1,p1,p2⟩:=pL hq h2;obtain⟨t3,r1,r2,r3,r4⟩:=yU _ _ p2;obtain⟨ru,r2⟩:=r2;obtain⟨t2,s1,s2,s3⟩:=uE hq _ _ _ r2;have e0:SAt t1 σ=σ:=yC h4;have e3:SAt t3 σ1=σ1:=yC r4;have c2:Trace C (mid++post) ((FAt pre t1 f).put o.dst d) σ1 (t3++t2)/\ _/\_:=Trace.append r1 r3 (by rw [e3]; exact s1);have c1:Trace C (o :: (mid++post)) (FAt pre t1 f) (SAt t1 σ) ((d,σ1) :: (t3++t2)):=.cons (by simp only [yP,hg]; rw [e0]; exact g1) c2.1;obtain⟨k1,k2,k3⟩:=Trace.append h1 h3 c1;rw [<- hl] at k1 k2
 have hlen:(t1++(d,σ1) :: (t3++t2)).length=l.length:=by rw [hl]; simp [h3,r3,s3]
 have lpre:∀ i,i<pre.length->l[i]?=pre[i]?:=fun i hi=>by rw [hl,List.getElem?_append_left hi]
 have lo:l[pre.length]?=some o:=by rw [hl,List.getElem?_append_right (by omega),Nat.sub_self]; rfl
 have lmid:∀ k,k<mid.length->l[pre.length+1+k]?=mid[k]?:=fun k hk=>by rw [hl,List.getElem?_append_right (by omega),show pre.length+1+k-pre.length=k+1 by omega,List.getElem?_cons_succ,List.getElem?_append_left hk]
 have mpre:∀ i,i<pre.length->mC C.own l i=false:=fun i hi=>by rw [vM ((lpre i hi).trans (List.getElem?_eq_getElem hi))]; exact n1 _ (List.getElem_mem _)
 have mo:mC C.own l pre.length=true:=by rw [vM lo]; exact n2
 have mmid:∀ k,k<mid.length->mC C.own l (pre.length+1+k)= false:=fun k hk=>by rw [vM ((lmid k hk).trans (List.getElem?_eq_getElem hk))]; exact n3 _ (List.getElem_mem _)
 have st0:∀ p,p<=pre.length->SAt ((t1++(d,σ1) :: (t3++t2)).take p) σ=σ:=fun p hp=>by rw [List.take_append_of_le_length (by omega)];exact yC fun x hx=>h4 x (List.mem_of_mem_take hx)
 have st1:∀ k,k<=mid.length->SAt ((t1++(d,σ1) :: (t3++t2)).take (pre.length+1+k)) σ=σ1:=fun k hk=>by rw [<- h3,show t1.length+1+k=t1.length+(k+1) by omega,List.take_length_add_append,List.take_succ_cons,List.take_append_of_le_length (by omega),rL];exact yC fun x hx=>r4 x (List.mem_of_mem_take hx)
 refine nO (mu:=mC C.own l) (E:=E) (Q:=LQ C E Q) hm hd hok k1 hlen (by omega) (fun m hms hmm=>?_) (fun i hi him=>?_) (fun i dop p his him hps hdop hns hor=>?_) (fun a w G'=>⟨_,_,G',?_⟩) G
 ·rcases Nat.lt_trichotomy m pre.length with h | h | h
  ·rw [mpre m h] at hmm; cases hmm
  ·subst h; rw [wF lo]; exact hloud
  ·obtain⟨k,rfl⟩:∃ k,m=pre.length+1+k:=⟨m-(pre.length+1),by omega⟩;rw [mmid k (by omega)] at hmm; cases hmm
 ·rcases Nat.lt_trichotomy i pre.length with h | h | h
  ·rw [st0 (i+1) (by omega),st0 i (by omega)]
  ·subst h; rw [mo] at him; cases him
  ·obtain⟨k,rfl⟩:∃ k,i=pre.length+1+k:=⟨i-(pre.length+1),by omega⟩;rw [show pre.length+1+k+1=pre.length+1+(k+1) by omega,st1 (k+1) (by omega),st1 k (by omega)]
 ·have hor:=hor pre.length (by omega) mo
  have hp:(p<=pre.length/\SAt ((t1++(d,σ1) :: (t3++t2)).take p) σ=σ)\/(pre.length<p/\SAt ((t1++(d,σ1) :: (t3++t2)).take p) σ=σ1):=by
   rcases Nat.lt_or_ge pre.length p with h | h
   ·obtain⟨k,rfl⟩:∃ k,p=pre.length+1+k:=⟨p-(pre.length+1),by omega⟩;exact .inr ⟨h,st1 k (by omega)⟩
   ·exact .inl ⟨h,st0 p h⟩
  rcases Nat.lt_trichotomy i pre.length with h | h | h
  ·have hdp:pre[i]?=some dop:=(lpre i h).symm.trans hdop;have x5:tK (t1++(d,σ1) :: (t3++t2)) i=tK t1 i:=by simp only [tK]; rw [List.getElem?_append_left (by omega)]
   have x6:FAt (l.take i) ((t1++(d,σ1) :: (t3++t2)).take i) f=FAt (pre.take i) (t1.take i) f:=by rw [hl,List.take_append_of_le_length (by omega),List.take_append_of_le_length (by omega)]
   rw [x5,x6]
   rcases hp with ⟨_,hp⟩ | ⟨hp0,hp⟩
   ·rw [hp]; exact wI h1 h3 rfl h4 hdp
   ·rw [hp]
    have hfi:fl.getD i false=false:=by
     cases hx:fl.getD i false with
     | false=>rfl
     | true=>have:=hfl i hx; rw [hor.1 hp0] at this; cases this
    exact jT eY d1 h3 p1 ((aXy hfi).trans hdp)
  ·subst h; rw [mo] at him; cases him
  ·obtain⟨k,rfl⟩:∃ k,i=pre.length+1+k:=⟨i-(pre.length+1),by omega⟩;have hk:k<mid.length:=by omega
   have hdp:mid[k]?=some dop:=(lmid k hk).symm.trans hdop
   have x5:tK (t1++(d,σ1) :: (t3++t2)) (pre.length+1+k)= tK t3 k:=by simp only [tK];rw [List.getElem?_append_right (by omega),h3,show pre.length+1+k-pre.length=k+1 by omega,List.getElem?_cons_succ,List.getElem?_append_left (by omega)]
   have x6:FAt (l.take (pre.length+1+k)) ((t1++(d,σ1) :: (t3++t2)).take (pre.length+1+k)) f=FAt (mid.take k) (t3.take k) ((FAt pre t1 f).put o.dst d):=by
    have y1:l.take (pre.length+1+k)= pre++o :: mid.take k:=by rw [hl,show pre.length+1+k=pre.length+(k+1) by omega,List.take_length_add_append,List.take_succ_cons,List.take_append_of_le_length (by omega)]
    have y2:(t1++(d,σ1) :: (t3++t2)).take (pre.length+1+k)= t1++(d,σ1) :: t3.take k:=by rw [<- h3,show t1.length+1+k=t1.length+(k+1) by omega,List.take_length_add_append,List.take_succ_cons,List.take_append_of_le_length (by omega)]
    rw [y1,y2,qK _ _ _ h3]; rfl
   rw [x5,x6]
   rcases hp with ⟨hp0,hp⟩ | ⟨_,hp⟩
   ·rw [hp]
    cases un with
    | false=> exfalso;have h2:=uS (hw rfl) k dop hdp hns;rw [hor.2 hp0] at h2; cases h2
    | true=> simp only [if_true] at ru;obtain⟨t3',u1,u2,u3,u4⟩:=yU _ _ ru;exact wI u1 u3 (sJ d2 u3 r3 u2) u4 hdp
   ·rw [hp]; exact wI r1 r3 rfl r4 hdp
 ·rw [k2,k3,e0];show Q .normal (FAt (mid++post) (t3++t2) ((FAt pre t1 f).put o.dst d)) (SAt (t3++t2) σ1);rw [c2.2.1,c2.2.2,e3];exact s2
def aNg (C:Cx) (σ1:St) (f1:Fr):List Bool->List DOp->(Fr->Prop)->Fr->Prop
 | true :: fl,o :: r,K,f=>aNg C σ1 f1 fl r K (f.put o.dst (match o.dst with | some t=>f1.get t | none=>.top))
 | false :: fl,o :: r,K,f=>kD C σ1 [o] (aNg C σ1 f1 fl r K) f
 | [],l,K,f=>kD C σ1 l K f
 | _,[],K,f=>K f
theorem aUr {C:Cx} {σ1:St} {f1:Fr}:∀ {fl:List Bool} {l:List DOp} {K:Fr->Prop} {f:Fr},aNg C σ1 f1 fl l K f=tL C σ1 (gJ fl l f1) f K
 | true :: fl,o :: r,K,f=>by show aNg C σ1 f1 fl r K _=_;rw [aUr]; rfl
 | false :: fl,o :: r,K,f=>by show kD C σ1 [o] (aNg C σ1 f1 fl r K) f=tL C σ1 ([o]++gJ fl r f1) f K;rw [sH];exact uM fun g=>aUr
 | [],l,K,f=>by cases l <;> exact uM fun g=>rfl
 | true :: fl,[],K,f=>rfl
 | false :: fl,[],K,f=>rfl
theorem aZ8 {C:Cx} {σ1:St} {f1:Fr} {fl:List Bool} {t:Nat} {g:Option (Nat × Bool)} {k:DK} {r:List DOp} {K:Fr->Prop} {f:Fr}:aNg C σ1 f1 (true :: fl) (⟨some t,g,k⟩ :: r) K f=aNg C σ1 f1 fl r K (f.put (some t) (f1.get t)):=rfl
theorem bK {C:Cx} {σ1:St} {f1:Fr} {fl:List Bool} {o:DOp} {r:List DOp} {K:Fr->Prop} {f:Fr}:aNg C σ1 f1 (false :: fl) (o :: r) K f=kD C σ1 [o] (aNg C σ1 f1 fl r K) f:=rfl
theorem aRk {C:Cx} {σ1:St} {f1:Fr} {K:Fr->Prop} {f:Fr}:aNg C σ1 f1 [] [] K f=K f:=by show kD C σ1 [] K f=K f;rw [aRj]
def rv1 (C:Cx) (pre:List DOp) (dst:Option Nat) (mid:List DOp) (un:Bool) (post:List DOp) (fl:List Bool) (K:Fr->St->Prop) (f:Fr) (σ:St) (f1:Fr) (d:D) (σ1:St):Prop:= aNg C σ1 f1 fl pre (eqF f1) f/\kD C σ1 mid (unZ C un mid (f1.put dst d) σ (aSf C post K) σ1) (f1.put dst d)
theorem aL2 {C:Cx} (hm:C.P.follows .mixedOrders=true) {pre:List DOp} {dst:Option Nat} {g1:Option (Nat × Bool)} {k1:DK} {mid:List DOp} {un:Bool} {post:List DOp} {fl:List Bool} {f:Fr} {σ:St} {Q:Exit->Fr->St->Prop}
  (h:kD C σ pre (aA C k1 (rv1 C pre dst mid un post fl (iG Q) f σ) σ) f):wpS C (.aSd pre ⟨dst,g1,k1⟩ mid un post fl) f σ Q:=by
 refine aHq hm ?_
 have:kD C σ pre (aA C k1 (rv1 C pre dst mid un post fl (iG Q) f σ) σ) f=aHa C pre ⟨dst,g1,k1⟩ mid un post fl f σ (iG Q):=by
  unfold aHa;refine uM fun f1=>aZb fun d σ1=>?_;unfold rv1;refine congr (congrArg And aUr) (uM fun f2=>?_);unfold unZ;refine congr (congrArg And ?_) (aUt fun _ _=>rfl)
  split
  ·exact uM fun g=>rfl
  ·rfl
 exact this ▸ h
theorem aHk {C:Cx} {pre:List DOp} {m:DOp} {mid:List DOp} {un:Bool} {post:List DOp} {fl:List Bool} {f:Fr} {σ:St} {Q:Exit->Fr->St->Prop}:wpZ C (.aSd pre m mid un post fl) Q f σ=wpS C (.aSd pre m mid un post fl) f σ Q:=by rw [sR]; rfl
end
end Go.Pd
