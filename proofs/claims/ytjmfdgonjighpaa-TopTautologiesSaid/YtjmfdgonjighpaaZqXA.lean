/- Part XA. -/
import Derived.Test.YtjmfdgonjighpaaZqX6
set_option linter.unusedSectionVars false
set_option linter.unusedVariables false
set_option linter.unusedSimpArgs false
set_option linter.defProp false
open List renaming take_append_of_le_length->γ,getElem?_append_left->δ,getElem?_append_right->ε,getElem?_cons_succ->ζ,take_length_add_append->η,getElem?_eq_getElem->θ,mem_of_mem_take->κ,take_succ_cons->μ,getElem_mem->ν,length_append->ξ,length_cons->ο,map_cons->π,take_append_drop->υ,filterMap_cons->χ,mem_filterMap->ψ,take_length->ω,length_take->Aa
open Nat renaming lt_or_ge->Ab,lt_trichotomy->Ac,le_refl->Ad
open Option renaming bind_eq_some_iff->Ae,getD_some->Af,bind_eq_bind->Ag,map_some->Ah
namespace Go.Pd
open Go
section
variable [vA]
def re (pre:List xN) (o1:Option Nat) (dx:D) (mid1:List xN) (o2:Option Nat) (dy:D) (mid2:List xN):List xN:=pre++⟨o1,none,.mv (.c dx)⟩ :: (mid1++⟨o2,none,.mv (.c dy)⟩ :: mid2)
def iY : List Bool->List xN->Fr->List xN
 | true :: fl,o :: r,f1=>⟨o.dst,none,.mv (.c (match o.dst with | some t=>f1.get t | none=>.top))⟩ :: iY fl r f1
 | false :: fl,o :: r,f1=>o :: iY fl r f1
 | [],l,_=>l
 | _,[],_=>[]
theorem gG : ∀ {fl:List Bool} {l:List xN} {f1:Fr},(iY fl l f1).map (·.dst)= l.map (·.dst)
 | true :: fl,o :: r,f1=>by simp only [iY,π,gG (l:=r)]
 | false :: fl,o :: r,f1=>by simp only [iY,π,gG (l:=r)]
 | [],l,f1=>by cases l <;> rfl
 | true :: fl,[],f1=>rfl
 | false :: fl,[],f1=>rfl
theorem vo : ∀ {fl:List Bool} {l:List xN} {f1:Fr} {i:Nat},fl.getD i false=false->(iY fl l f1)[i]?=l[i]?
 | true :: fl,o :: r,f1,0,h=>by simp at h
 | false :: fl,o :: r,f1,0,h=>rfl
 | true :: fl,o :: r,f1,i+1,h=>by simp only [iY,ζ]; exact vo (by simpa using h)
 | false :: fl,o :: r,f1,i+1,h=>by simp only [iY,ζ]; exact vo (by simpa using h)
 | [],l,f1,i,h=>by cases l <;> rfl
 | true :: fl,[],f1,i,h=>rfl
 | false :: fl,[],f1,i,h=>rfl
def TM (l:List xN) (g:Fr):List xN:=iY (List.replicate l.length true) l g
theorem iw (l:List xN) (g:Fr):(TM l g).map (·.dst)= l.map (·.dst):=gG
theorem Rt (l:List xN) (g:Fr):(TM l g).length=l.length:=by have:=congrArg List.length (iw l g); simpa using this
def RQ (C:Cx) (pre:List xN) (m1:xN) (mid1:List xN) (m2:xN) (mid2 post:List xN) (free:List Nat) (f:Fr) (σ:St) (K:Fr->St->Prop):Prop:=
 uX C σ pre f λf1=>zC C σ (wP f1) m1.k λdx σ1=>uX C σ1 mid1 (f1.put m1.dst dx) λf2=>zC C σ1 (wP f2) m2.k λdy σ2=>uX C σ2 mid2 (f2.put m2.dst dy) λf3=>
  uX C σ (re pre m1.dst dx (TM mid1 f3) m2.dst dy mid2) f (λg=>g=f3)/\ uX C σ1 (re pre m1.dst dx mid1 m2.dst dy mid2) f (λg=>g=f3)/\ uX C σ2 (re pre m1.dst dx mid1 m2.dst dy mid2) f (λg=>g=f3)/\
  zC C σ (wP f) m2.k λdA σA=>uX C σA pre f λg1=>zC C σA (wP g1) m1.k λdz σB=>uX C σB (mid1++⟨m2.dst,none,.mv (.c dA)⟩ :: mid2) (g1.put m1.dst dz) λg3=>
   uX C σA (re pre m1.dst dz (TM mid1 g3) m2.dst dA mid2) f (λg=>g=g3)/\ uX C σB (re pre m1.dst dz mid1 m2.dst dA mid2) f (λg=>g=g3)/\
   tP C post f3 σ2 λf4 σ4=>tP C post g3 σB λg4 σ5=>(∀ t ∈ free,f4.get t=g4.get t)/\ yJ C g4 σ5 f4 σ4/\K f4 σ4
theorem uo : ∀ {ds ds':List xN} {t:List (D × St)} {f:Fr},ds.map (·.dst)= ds'.map (·.dst)->wM ds t f=wM ds' t f
 | [],[],_,_,_=>rfl
 | [],_ :: _,_,_,h=>by simp at h
 | _ :: _,[],_,_,h=>by simp at h
 | o :: ds,o' :: ds',[],f,_=>rfl
 | o :: ds,o' :: ds',p :: t,f,h=>by simp only [π,List.cons.injEq] at h;simp only [wM];rw [h.1];exact uo h.2
theorem tj {l l':List xN} (h:l.map (·.dst)= l'.map (·.dst)):uW l=uW l':=by
 unfold uW;rw [h];have e:∀ l:List xN,(l.all λo=>o.dst.isSome)= (l.map (·.dst)).all (·.isSome):=λl=>by rw [List.all_map]; rfl
 rw [e l,e l',h]
theorem gQ {C:Cx} {hd qs:List xN} {f:Fr} {t:List (D × St)} {st:St} (hdst:qs.map (·.dst)= hd.map (·.dst)) (hok:uW hd=true) (hl:t.length=hd.length) (h:uX C st qs f λg=>g=wM hd t f) {i:Nat} {dop:xN} (hi:qs[i]?=some dop) :
  xR dop (wM (hd.take i) (t.take i) f) (zC C st (wP (wM (hd.take i) (t.take i) f)) dop.k λx y=>x=wK t i/\y=st) (.uO=wK t i):=by
 obtain⟨t',q1,q2,q3,q4⟩:=yC _ _ h;have hlen:qs.length=hd.length:=by have:=congrArg List.length hdst; simpa using this
 have hv:=pZ ((tj hdst).trans hok) q3 (by omega:t.length=qs.length) (q2.trans (uo hdst.symm));have:=uI q1 q3 hv q4 hi
 rwa [uo (ds:=qs.take i) (ds':=hd.take i) (by rw [List.map_take,List.map_take,hdst])] at this
theorem gC : ∀ {l:List xN},(l.filterMap (·.dst)).Nodup->∀ {i j t:Nat},wC l i=some t->wC l j=some t->i=j
 | [],_,i,j,t,h,_=>by simp [wC] at h
 | o :: l,hn,i,j,t,hi,hj=>by
  have hm:∀ k,wC l k=some t->t ∈ l.filterMap (·.dst):=λk hk=>by unfold wC at hk;obtain⟨d,h1,h2⟩:=Ae.1 hk;exact ψ.2 ⟨d,List.mem_of_getElem? h1,h2⟩
  have hn2:(l.filterMap (·.dst)).Nodup/\∀ d,o.dst=some d->d ∉ l.filterMap (·.dst):=by
   rw [χ] at hn
   cases e:o.dst with
   | none=>rw [e] at hn; exact⟨hn,λd h=>by cases h⟩
   | some d=>rw [e] at hn; exact⟨(List.nodup_cons.1 hn).2,λd' h=>by cases h; exact(List.nodup_cons.1 hn).1⟩
  match i,j with
  | 0,0=>rfl
  | 0,j+1=>exact absurd (hm j hj) (hn2.2 t hi)
  | i+1,0=>exact absurd (hm i hi) (hn2.2 t hj)
  | i+1,j+1=>exact congrArg (·+1) (gC (l:=l) hn2.1 hi hj)
theorem zp {ds:List xN} {tr:List (D × St)} {f:Fr} (hl:tr.length=ds.length) (hn:(ds.filterMap (·.dst)).Nodup) {j t:Nat} (hj:j<ds.length) (hd:wC ds j=some t):(wM ds tr f).get t=wK tr j:=by have:=kE (f:=f) hl ds.length (Ad _) t;rw [ω,<- hl,ω,hl] at this;rw [this];exact mO rfl hd ds.length hj λk h1 h2 h3=>by have:=gC hn hd h3; omega
theorem ij {ds ds':List xN} {tr tr':List (D × St)} {f:Fr} {T T':Nat->Bool} {t:Nat} (hd:∀ j,wC ds' j=wC ds j):∀ (n:Nat),(∀ j,j<n->wC ds j=some t->T' j=T j/\(T j=true->wK tr' j=wK tr j))->LV ds' tr' f T' n t=LV ds tr f T n t
 | 0,_=>rfl
 | n+1,h=>by
  simp only [LV,hd];rw [ij hd n λj hj=>h j (by omega)]
  by_cases e:wC ds n=some t
  ·obtain⟨h1,h2⟩:=h n (by omega) e;rw [h1]
   split
   ·rename_i hc; rw [h2 hc.1]
   ·rfl
  ·rw [if_neg (λh=>e h.2),if_neg (λh=>e h.2)]
theorem U4 {P:Program} {N:Nat} {own:List Nat} {code:Code} {pre:List xN} {m1:xN} {mid1:List xN} {m2:xN} {mid2 post:List xN} {free:List Nat} (h:tW P N own code=some (.bY pre m1 mid1 m2 mid2 post free)) :
  ∃ id ops l,code = .region id ops true/\wI (lW P N own ops) ops.toList=some l/\own.contains 77777=false/\post=l.drop (tN own l)/\ P7 own ops.toList l (tN own l) pre m1 mid1 m2 mid2 free:=by
 cases code with
 | region id ops draw=>
  simp only [tW] at h
  split at h
  ·rename_i d hd;cases h
   rcases nF hd with ⟨_,h2 | h2 | h2⟩ | ⟨_,h2,_⟩
   ·obtain⟨_,_,_,_,_,_,_,_,_,_,_,_,_,_,_,e⟩:=tS h2; cases e
   ·obtain⟨_,_,_,_,_,_,_,_,_,_,_,_,_,_,e⟩:=oG h2; cases e
   ·obtain⟨_,_,_,_,_,_,_,_,_,_,_,e⟩:=oF h2; cases e
   ·obtain⟨_,_,_,_,_,_,_,_,_,_,_,_,_,_,_,e⟩:=tS h2; cases e
  ·simp only [Ag,Ae] at h;obtain⟨l,hl,h⟩:=h
   split at h
   ·rename_i hdr
    split at h
    ·split at h
     ·rename_i d hv;cases h;obtain⟨_,_,_,_,_,_,e,_⟩:=nH hv;cases e
     ·rcases qK h with h | ⟨_,_,e,_⟩
      case inr=>cases e
      rcases pC h with ⟨e,_⟩ | ⟨_,_,_,_,_,e,_⟩ | ⟨_,_,_,_,_,_,_,_,_,_,_,e,_⟩ <;> cases e
    ·split at h
     ·rename_i hq
      split at h
      ·rename_i d hd;cases h;obtain⟨_,_,_,_,_,_,_,e,hp,hR⟩:=nG hd;cases e;subst hdr;exact⟨id,ops,l,rfl,hl,hq,hp,hR⟩
      ·obtain⟨_,_,e,_⟩:=pT h;cases e
     ·cases h
   ·simp at h
 | rangeFunc g0 ps0 a c=> simp [tW,Ae] at h
 | seq a b=> simp only [tW,zO] at h;obtain⟨dx,hx,dy,hy,h⟩:=h;rcases vT dx dy with e | ⟨_,_,_,_,_,_,_,_,_,_,_,_,e,_⟩ <;> rw [e] at h <;> cases h
 | _=>simp [tW,Ae] at h
theorem gX {k:DK} (h:gM k=true):k.b7 = []/\k.zH=false:=by cases k <;> simp_all [gM,DK.b7,DK.zH]
theorem jz {A B:List xN} {b c:xN} {i:Nat} (h:i≠A.length):(A++b :: B)[i]?=(A++c :: B)[i]?:=by
 rcases Ab i A.length with h1 | h1
 ·rw [δ h1,δ h1]
 ·obtain⟨k,rfl⟩:∃ k,i=A.length+(k+1):=⟨i-A.length-1,by omega⟩;rw [ε (by omega),ε (by omega),show A.length+(k+1)-A.length=k+1 by omega,ζ,ζ]
theorem Xk {α:Type} {A B:List α} {b:α}:(A++b :: B)[A.length]?=some b:=by rw [ε (Ad _),Nat.sub_self]; rfl
theorem Yf {a b x:xN} (hd:a.dst=b.dst) (hn:a.names=b.names):tH a x=tH b x:=by unfold tH; rw [hd,hn]
theorem l9 {a b x:xN} (hd:a.dst=b.dst) (hn:a.names=b.names):tH x a=tH x b:=by unfold tH; rw [hd,hn]
theorem Uv {C:Cx} (hm:C.P.follows .mixedOrders=true) {pre:List xN} {m1:xN} {mid1:List xN} {m2:xN} {mid2 post:List xN} {free:List Nat} {f:Fr} {σ:St} {Q:Exit->Fr->St->Prop}
  (h:RQ C pre m1 mid1 m2 mid2 post free f σ (Q .normal)):wpS C (.bY pre m1 mid1 m2 mid2 post free) f σ Q:=by
 intro code hc E a w G;obtain⟨id,ops,l,rfl,hd,hq,hpost,R⟩:=U4 hc;have hg1:=sH R.n2;have hg2:=sH R.n4;obtain⟨hal,hal2⟩:=gX R.alloc;unfold RQ at h;obtain⟨t1,a1,h,a3,a4⟩:=yC _ _ h;obtain⟨dx,σ1,hx,h⟩:=nW hq h;obtain⟨t2,b1,h,b3,b4⟩:=yC _ _ h;obtain⟨dy,σ2,hy,h⟩:=nW hq h;obtain⟨t3,c1,h,c3,c4⟩:=yC _ _ h;obtain⟨q0,q1,q2,h⟩:=h;obtain⟨dA,σA,hA,h⟩:=nW hq h;obtain⟨u1,d1,h,d3,d4⟩:=yC _ _ h;obtain⟨dz,σB,hz,h⟩:=nW hq h;obtain⟨u2,e1,h,e3,e4⟩:=yC _ _ h;obtain⟨qA,qB,h⟩:=h;obtain⟨t4,f1,h,f3⟩:=rE hq _ _ _ h;obtain⟨u4,g1,h,g3⟩:=rE hq _ _ _ h;obtain⟨hfree,hweak,hQ⟩:=h;have s0:zB t1 σ=σ:=wV a4;have s1:zB t2 σ1=σ1:=wV b4;have s2:zB t3 σ2=σ2:=wV c4;have sA:zB u1 σA=σA:=wV d4;have sB:zB u2 σB=σB:=wV e4
 have hls:l=pre++m1 :: (mid1++m2 :: (mid2++post)):=by
  conv=>lhs; rw [<- υ (tN C.own l) l,R.eq,<- hpost]
  simp
 have hsl:tN C.own l<=l.length:=by
  have:∀ ks:List xN,tN C.own ks<=ks.length:=by
   intro ks
   induction ks with
   | nil=>simp [tN]
   | cons k ks ih=>simp only [tN]; split <;> simp <;> omega
  exact this l
 have hs:tN C.own l=pre.length+1+mid1.length+1+mid2.length:=by have:=congrArg List.length R.eq;rw [Aa,Nat.min_eq_left hsl] at this;simp at this; omega
 generalize tN C.own l=s at *;obtain⟨x,hx0⟩:∃ x,x=pre.length:=⟨_,rfl⟩;obtain⟨y,hy0⟩:∃ y,y=pre.length+1+mid1.length:=⟨_,rfl⟩;have T3:Trace C (mid2++post) _ σ2 (t3++t4)/\ _/\_:=Trace.append c1 c3 (by rw [s2]; exact f1);have T2:Trace C (m2 :: (mid2++post)) (wM mid1 t2 ((wM pre t1 f).put m1.dst dx)) (zB t2 σ1) ((dy,σ2) :: (t3++t4)):=.cons (by simp only [xR,hg2]; rw [s1]; exact hy) T3.1;have T1:=Trace.append b1 b3 T2;have T0:Trace C (m1 :: (mid1++m2 :: (mid2++post))) (wM pre t1 f) (zB t1 σ) ((dx,σ1) :: (t2++(dy,σ2) :: (t3++t4))):=.cons (by simp only [xR,hg1]; rw [s0]; exact hx) T1.1;obtain⟨k1,k2,k3⟩:=Trace.append a1 a3 T0
 have k2':wM l (t1++(dx,σ1) :: (t2++(dy,σ2) :: (t3++t4))) f=wM post t4 (wM mid2 t3 ((wM mid1 t2 ((wM pre t1 f).put m1.dst dx)).put m2.dst dy)):=by rw [hls,k2];show wM (mid1++m2 :: (mid2++post)) _ _=_;rw [T1.2.1];exact T3.2.1
 have k3':zB (t1++(dx,σ1) :: (t2++(dy,σ2) :: (t3++t4))) σ=zB t4 σ2:=by rw [k3,s0];show zB (t2++(dy,σ2) :: (t3++t4)) σ1=_;rw [T1.2.2,s1];show zB (t3++t4) σ2=_;rw [T3.2.2,s2]
 rw [<- hls] at k1;have U2:Trace C ((mid1++⟨m2.dst,none,.mv (.c dA)⟩ :: mid2)++ post) _ σB (u2++u4)/\ _/\_:=Trace.append e1 e3 (by rw [sB]; exact g1);have U0:Trace C (m1 :: ((mid1++⟨m2.dst,none,.mv (.c dA)⟩ :: mid2)++ post)) (wM pre u1 f) (zB u1 σA) ((dz,σB) :: (u2++u4)):=.cons (by simp only [xR,hg1]; rw [sA]; exact hz) U2.1;obtain⟨j1,j2,j3⟩:=Trace.append d1 d3 U0;obtain⟨l',hl'⟩:∃ l',l'=pre++m1 :: ((mid1++⟨m2.dst,none,.mv (.c dA)⟩ :: mid2)++ post):=⟨_,rfl⟩
 have j2':wM l' (u1++(dz,σB) :: (u2++u4)) f=wM post u4 (wM (mid1++⟨m2.dst,none,.mv (.c dA)⟩ :: mid2) u2 ((wM pre u1 f).put m1.dst dz)):=by rw [hl',j2];show wM ((mid1++⟨m2.dst,none,.mv (.c dA)⟩ :: mid2)++ post) _ _=_;exact U2.2.1
 have j3':zB (u1++(dz,σB) :: (u2++u4)) σA=zB u4 σB:=by rw [j3,sA];show zB (u2++u4) σB=_;rw [U2.2.2,sB]
 rw [<- hl'] at j1;rw [<- k2',<- j2'] at hfree;rw [<- k2',<- k3',<- j2',<- j3'] at hweak;rw [<- k2',<- k3'] at hQ
 have hlen:(t1++(dx,σ1) :: (t2++(dy,σ2) :: (t3++t4))).length=l.length:=by rw [hls]; simp only [ξ,ο,a3,b3,c3,f3]
 have hlen':(u1++(dz,σB) :: (u2++u4)).length=l'.length:=by rw [hl']; simp only [ξ,ο,d3,e3,g3]
 have hll:l'.length=l.length:=by rw [hl',hls]; simp only [ξ,ο,List.append_assoc,List.cons_append]
 have hx:x<s:=by omega
 have hy:y<s:=by omega
 have hxy:x<y:=by omega
 obtain⟨hd_,hhd⟩:∃ hd_,hd_=pre++m1 :: (mid1++m2 :: mid2):=⟨_,rfl⟩;obtain⟨tr,htr⟩:∃ tr,tr=t1++(dx,σ1) :: (t2++(dy,σ2) :: (t3++t4)):=⟨_,rfl⟩;obtain⟨th,hth⟩:∃ th,th=t1++(dx,σ1) :: (t2++(dy,σ2) :: t3):=⟨_,rfl⟩;obtain⟨tr',htr'⟩:∃ tr',tr'=u1++(dz,σB) :: (u2++u4):=⟨_,rfl⟩;obtain⟨th',hth'⟩:∃ th',th'=u1++(dz,σB) :: u2:=⟨_,rfl⟩;obtain⟨hd',hhd'⟩:∃ hd',hd'=pre++m1 :: (mid1++⟨m2.dst,none,.mv (.c dA)⟩ :: mid2):=⟨_,rfl⟩;rw [<- htr] at k1 hfree hweak hQ hlen;rw [<- htr'] at j1 hfree hweak hlen';have lhd:l=hd_++post:=by rw [hls,hhd]; simp
 have lhd':l'=hd'++post:=by rw [hl',hhd']; simp
 have tth:tr=th++t4:=by rw [htr,hth]; simp
 have tth':tr'=th'++u4:=by rw [htr',hth']; simp
 have nhd:hd_.length=s:=by rw [hhd]; simp; omega
 have nhd':hd'.length=s:=by rw [hhd']; simp; omega
 have nth:th.length=s:=by rw [hth]; simp [a3,b3,c3]; omega
 have nth':th'.length=s:=by rw [hth']; simp [d3,e3]; omega
 have hF3:wM hd_ th f=wM mid2 t3 ((wM mid1 t2 ((wM pre t1 f).put m1.dst dx)).put m2.dst dy):=by rw [hhd,hth,oL _ _ _ a3];show wM (mid1++m2 :: mid2) (t2++(dy,σ2) :: t3) _=_;rw [oL _ _ _ b3]; rfl
 have hG3:wM hd' th' f=wM (mid1++⟨m2.dst,none,.mv (.c dA)⟩ :: mid2) u2 ((wM pre u1 f).put m1.dst dz):=by rw [hhd',hth',oL _ _ _ d3]; rfl
 rw [<- hF3] at q0 q1 q2;rw [<- hG3] at qA qB;have dq:∀ dx dy,(re pre m1.dst dx mid1 m2.dst dy mid2).map (·.dst)= hd_.map (·.dst):=λdx dy=>by rw [hhd]; simp [re]
 have dq':∀ dx dy,(re pre m1.dst dx mid1 m2.dst dy mid2).map (·.dst)= hd'.map (·.dst):=λdx dy=>by rw [hhd']; simp [re]
 have dqc:∀ dx dy g,(re pre m1.dst dx (TM mid1 g) m2.dst dy mid2).map (·.dst)= hd_.map (·.dst):=λdx dy g=>by rw [hhd]; simp [re,iw]
 have dqc':∀ dx dy g,(re pre m1.dst dx (TM mid1 g) m2.dst dy mid2).map (·.dst)= hd'.map (·.dst):=λdx dy g=>by rw [hhd']; simp [re,iw]
 have dok:uW hd_=true:=by have:=R.M5; rw [R.eq,<- hhd] at this; exact this
 have dok':uW hd'=true:=(tj ((dq' dx dy).symm.trans (dq dx dy))).trans dok
 have qat:∀ dx dy i,i≠x->i≠y->(re pre m1.dst dx mid1 m2.dst dy mid2)[i]?=hd_[i]?:=λdx dy i h1 h2=>by rw [hhd];show (pre++_ :: (mid1++_ :: mid2))[i]?=_;rw [jz (c:=m1) (by omega),show pre++m1 :: (mid1++⟨m2.dst,none,DK.mv (.c dy)⟩ :: mid2)= (pre++m1 :: mid1)++ ⟨m2.dst,none,DK.mv (.c dy)⟩ :: mid2 by simp,jz (c:=m2) (by simp; omega)];simp
 have qatc:∀ dx dy g i,(i<x\/y<i)->(re pre m1.dst dx (TM mid1 g) m2.dst dy mid2)[i]?=hd_[i]?:=λdx dy g i h=>by
  rw [hhd];show (pre++_ :: (TM mid1 g++_ :: mid2))[i]?=_;have hcl:=Rt mid1 g
  rcases h with h | h
  ·rw [δ (by omega),δ (by omega)]
  ·obtain⟨k,rfl⟩:∃ k,i=pre.length+((mid1.length+(k+1))+ 1):=⟨i-pre.length-1-mid1.length-1,by omega⟩
   rw [ε (by omega),ε (by omega),show pre.length+((mid1.length+(k+1))+ 1)-pre.length=(mid1.length+(k+1))+ 1 by omega,ζ,ζ,
    ε (by omega),ε (by omega),hcl,show mid1.length+(k+1)-mid1.length=k+1 by omega,ζ,ζ]
 have waits:∀ i dop,x<i->i<y->hd_[i]?=some dop->dop.k.zH=false->ordered (yI ops.toList []) x i=true:=λi dop h1 h2 h3 h4=>by obtain⟨k,rfl⟩:∃ k,i=pre.length+(k+1):=⟨i-pre.length-1,by omega⟩;rw [hhd,ε (by omega),show pre.length+(k+1)-pre.length=k+1 by omega,ζ,δ (by omega)] at h3;have:=tC R.wait k dop h3 h4;rw [hx0,show pre.length+(k+1)= pre.length+1+k by omega]; exact this
 have hat:∀ i,i≠y->hd'[i]?=hd_[i]?:=λi h2=>by rw [hhd,hhd',show pre++m1 :: (mid1++⟨m2.dst,none,DK.mv (.c dA)⟩ :: mid2)= (pre++m1 :: mid1)++ ⟨m2.dst,none,DK.mv (.c dA)⟩ :: mid2 by simp,jz (c:=m2) (by simp; omega)];simp
 have lat:∀ i,i≠y->l'[i]?=l[i]?:=λi h2=>by rw [hls,hl',show pre++m1 :: ((mid1++⟨m2.dst,none,DK.mv (.c dA)⟩ :: mid2)++ post)= (pre++m1 :: mid1)++ ⟨m2.dst,none,DK.mv (.c dA)⟩ :: (mid2++post) by simp,jz (c:=m2) (by simp; omega)];simp
 have ly:l[y]?=some m2:=by have:=Xk (A:=pre++m1 :: mid1) (B:=mid2++post) (b:=m2);rw [hls,hy0];rw [show (pre++m1 :: mid1).length=pre.length+1+mid1.length by simp; omega] at this;rw [<- this]; simp
 have ly':l'[y]?=some ⟨m2.dst,none,.mv (.c dA)⟩:=by have:=Xk (A:=pre++m1 :: mid1) (B:=mid2++post) (b:=(⟨m2.dst,none,.mv (.c dA)⟩:xN));rw [hl',hy0];rw [show (pre++m1 :: mid1).length=pre.length+1+mid1.length by simp; omega] at this;rw [<- this]; simp
 have lx:l[x]?=some m1:=by rw [hls,hx0]; exact Xk
 have ldst:∀ j,wC l' j=wC l j:=λj=>by
  unfold wC
  by_cases h:j=y
  ·subst h; rw [ly,ly']; rfl
  ·rw [lat j h]
 have tdy:wK tr' y=dA:=by have hjt:=j1.at y _ ly';obtain⟨d,σ',h1,h2⟩:=hjt;simp only [xR,zC,pW,wP] at h2;simp only [wK,h1,Ah,Af];exact h2.1.symm
 have muh:∀ i,i<s->(vC C.own l i=true ↔ i=x\/i=y):=λi hi=>by
  have hli:l[i]?=hd_[i]?:=by rw [lhd,δ (by omega)]
  rcases Ac i x with h | h | h
  ·have:hd_[i]?=pre[i]?:=by rw [hhd,δ (by omega)]
   rw [uC (hli.trans (this.trans (θ (by omega)))),R.n1 _ (ν _)];simp; omega
  ·subst h; rw [uC lx,R.n2]; simp
  ·rcases Ac i y with g | g | g
   ·obtain⟨k,rfl⟩:∃ k,i=pre.length+(k+1):=⟨i-pre.length-1,by omega⟩
    have:hd_[pre.length+(k+1)]?=mid1[k]?:=by rw [hhd,ε (by omega),show pre.length+(k+1)-pre.length=k+1 by omega,ζ,δ (by omega)]
    rw [uC (hli.trans (this.trans (θ (by omega)))),R.n3 _ (ν _)];simp; omega
   ·subst g; rw [uC ly,R.n4]; simp
   ·obtain⟨k,rfl⟩:∃ k,i=pre.length+1+mid1.length+(k+1):=⟨i-(pre.length+1+mid1.length)-1,by omega⟩
    have:hd_[pre.length+1+mid1.length+(k+1)]?=mid2[k]?:=by rw [hhd,ε (by omega),show pre.length+1+mid1.length+(k+1)-pre.length=(mid1.length+(k+1))+ 1 by omega,ζ,ε (by omega),show mid1.length+(k+1)-mid1.length=k+1 by omega,ζ]
    rw [uC (hli.trans (this.trans (θ (by omega)))),R.n5 _ (ν _)];simp; omega
 have st0:∀ p,p<=x->zB (tr.take p) σ=σ:=λp hp=>by rw [htr,γ (by omega)];exact wV λx hx=>a4 x (κ hx)
 have st1:∀ p,x<p->p<=y->zB (tr.take p) σ=σ1:=λp h1 h2=>by obtain⟨k,rfl⟩:∃ k,p=t1.length+(k+1):=⟨p-t1.length-1,by omega⟩;rw [htr,η,μ,γ (by omega),pO];exact wV (t:=t2.take k) λx hx=>b4 x (κ hx)
 have st2:∀ p,y<p->p<=s->zB (tr.take p) σ=σ2:=λp h1 h2=>by obtain⟨k,rfl⟩:∃ k,p=t1.length+((t2.length+(k+1))+ 1):=⟨p-t1.length-1-t2.length-1,by omega⟩;rw [htr,η,μ,η,μ,γ (by omega),pO];show zB (t2++(dy,σ2) :: t3.take k) σ1=σ2;rw [pO];exact wV (t:=t3.take k) λx hx=>c4 x (κ hx)
 have stA:∀ p,p<=x->zB (tr'.take p) σA=σA:=λp hp=>by rw [htr',γ (by omega)];exact wV λx hx=>d4 x (κ hx)
 have stB:∀ p,x<p->p<=s->zB (tr'.take p) σA=σB:=λp h1 h2=>by
  have hu2:u2.length=mid1.length+1+mid2.length:=by rw [e3]; simp; omega
  obtain⟨k,rfl⟩:∃ k,p=u1.length+(k+1):=⟨p-u1.length-1,by omega⟩;rw [htr',η,μ,γ (by omega),pO];exact wV (t:=u2.take k) λx hx=>e4 x (κ hx)
 have sp:jt ops l s (vC C.own l) (λi j=>i==pre.length&&j==pre.length+1+mid1.length):=gY R.ok;have bk:js ops:=gZ R.ok;have hal3:m2.names=(⟨m2.dst,none,.mv (.c dA)⟩:xN).names:=by unfold xN.names; rw [hal,hg2]; rfl
 obtain⟨hdl,hdg⟩:=zA hd;have hdl2:l.length=ops.size:=by simpa using hdl
 have G':Good C E a { w with drawn:=w.drawn+1 } f σ:=by obtain⟨ι,G⟩:=G;have hk:Kept w w.drew λ_=>False:=(Kept.refl _ _).drew;have hS:=G.oC.ext hk;exact⟨ι,⟨G.size,G.defers.xC rfl (Ad _) λD hD=>hD,G.nx,G.kept.drew,hS,G.oS,G.rQ,G.stay,G.fr.xC (λb hb _=>rfl) (λ_ _ h=>h) hk.shape (λ_ _=>rfl) (Ad _)⟩⟩
 have hf0:∀ j,(Array.replicate ops.size false).getD j false=false:=getD_replicate_false ops.size
 refine wpIn_region_any hm (iI (ds:=l) (tr:=tr) (s:=s) (mu:=vC C.own l) (f:=f) (σ:=σ) (xo:=λi j=>i==pre.length&&j==pre.length+1+mid1.length) (l0:=λ_=>false) hdl (λi o h=>by obtain⟨dop,h1,h2⟩:=hdg i o h; exact⟨dop,h1,λ_=>h2⟩) sp bk (λi j h=>by simp at h; omega) k1 hlen hsl (λm hms hmm=>?_) (λi hi him=>?_) (λi dop p his him hps hdop hns hor=>?_) (λa w G'=>⟨_,_,G',hQ⟩) (λfuel listed a w i j hfew I hi hxo hlj=>?_) _ _ _ _ ?_ ⟨by simp,(λ_ j _ h=>by rw [hf0] at h; cases h),(λ_ h=>by cases h),(λj o _ hT=>by rw [hf0] at hT; cases hT),f,λt=>?_,?_⟩)
 ·rcases(muh m hms).1 hmm with rfl | rfl
  ·rw [wA lx]; exact R.lq
  ·rw [wA ly]; exact hal2
 ·have zL:i≠x/\i≠y:=by
   refine⟨λh=>?_,λh=>?_⟩
   ·rw [(muh i hi).2 (.inl h)] at him; cases him
   ·rw [(muh i hi).2 (.inr h)] at him; cases him
  rcases Ab i x with h | h
  ·rw [st0 (i+1) (by omega),st0 i (by omega)]
  ·rcases Ab i y with g | g
   ·rw [st1 (i+1) (by omega) (by omega),st1 i (by omega) (by omega)]
   ·rw [st2 (i+1) (by omega) (by omega),st2 i (by omega) (by omega)]
 ·have zL:i≠x/\i≠y:=by
   refine⟨λh=>?_,λh=>?_⟩
   ·rw [(muh i his).2 (.inl h)] at him; cases him
   ·rw [(muh i his).2 (.inr h)] at him; cases him
  have z1:l.take i=hd_.take i:=by rw [lhd,γ (by omega)]
  have z2:tr.take i=th.take i:=by rw [tth,γ (by omega)]
  have z3:wK tr i=wK th i:=by unfold wK; rw [tth,δ (by omega)]
  have z4:hd_[i]?=some dop:=by rw [<- hdop,lhd,δ (by omega)]
  rw [z1,z2,z3]
  rcases Ab x p with h | h
  ·rcases Ab y p with g | g
   ·rw [st2 p g hps]; exact gQ (dq dx dy) dok (by omega) q2 ((qat dx dy i zL.1 zL.2).trans z4)
   ·rw [st1 p h g]; exact gQ (dq dx dy) dok (by omega) q1 ((qat dx dy i zL.1 zL.2).trans z4)
  ·rw [st0 p h]
   have hout:i<x\/y<i:=by
    rcases Ab i x with h8 | h8
    ·exact .inl h8
    ·rcases Ab y i with h9 | h9
     ·exact .inr h9
     ·have:=waits i dop (by omega) (by omega) z4 hns;rw [(hor x hx ((muh x hx).2 (.inl rfl))).2 h] at this; cases this
   exact gQ (dqc dx dy _) dok (by omega) q0 ((qatc dx dy _ i hout).trans z4)
 ·-- THE OBJECT COMES FIRST
  simp only [Bool.and_eq_true,beq_iff_eq] at hxo;obtain⟨rfl,rfl⟩:j=x/\i=y:=by omega
  obtain⟨hun,o,ho,hall⟩:=mem_ready.1 hi;have hlt:i<ops.size:=(Array.getElem?_eq_some_iff.1 ho).1;have hTi:listed.getD i false=false:=getD_both hun;have hol:ops.toList[i]?=some o:=by simpa using ho
  obtain⟨dop,hdop,hmk⟩:=hdg i o hol;obtain rfl:dop=m2:=by rw [ly] at hdop; exact(Option.some.inj hdop).symm
  have hTlen:∀ j,listed.getD j false=true->j<ops.toList.length:=by
   intro j hj
   rcases Ab j listed.size with h | h
   ·simp; rw [<- I.size]; exact h
   ·simp [Array.getElem?_eq_none h] at hj
  have late:∀ k,listed.getD k false=false->∀ m,ordered (yI ops.toList []) k m=true->listed.getD m false=false:=by
   intro k hk m hm2
   by_cases h:listed.getD m false=true
   ·have this:listed.getD k false=true:=sE (T:=λj=>listed.getD j false) I.closed hTlen m h k hm2;rw [hk] at this;cases this
   ·simpa using h
  have hopsj:∀ j,j<l.length->ops.toList[j]?=some (ops.toList.getD j o):=λj hj=>by
   have:j<ops.toList.length:=by omega
   simp only [List.getD,θ this,Af]
  have hdsj:∀ j,j<l.length->l[j]?=some (l.getD j dop):=λj hj=>by simp [List.getD,hj]
  have post0:∀ k,k<l.length->s<=k->wT l k=false->listed.getD k false=false:=by
   intro k hk j6 hns;rw [wA (hdsj k hk)] at hns
   rcases sp (hopsj k hk) (hdsj k hk) ly (by omega:i<k) with h | ⟨_,h | h | h | h⟩
   ·exact late i hTi k h
   ·omega
   ·rw [hal2] at h; cases h
   ·rw [hns] at h; cases h
   ·simp at h; omega
  have hT':∀ k,(listed.setIfInBounds i true).getD k false=if i=k then true else listed.getD k false:=by
   intro k
   by_cases h:i=k
   ·subst h;have:i<listed.size:=by rw [I.size]; exact hlt
    simp [this]
   ·rw [if_neg h];exact getD_set_ne false h
  obtain⟨g,hg,G2⟩:=I.Xy
  have hsil:∀ (ds:List xN) (tr:List (D × St)) (f:Fr) (σ:St) (mu:Nat->Bool),Trace C ds f σ tr->(∀ i,i<s->mu i=false->zB (tr.take (i+1)) σ=zB (tr.take i) σ)->∀ j,j<ds.length->quiet ds mu s j=true->zB (tr.take (j+1)) σ=zB (tr.take j) σ:=by
   intro ds tr f σ mu ht hpre j hj hs
   by_cases hsj:wT ds j=true
   ·have ho:ds[j]?=some ds[j]:=θ hj;obtain⟨d,σ',h1,h2⟩:=ht.at j _ ho;rw [iE tr σ j _ h1];simp only [wT,ho,Ah,Af] at hsj;unfold xR at h2
    split at h2
    ·exact(rD hsj h2).1
    ·split at h2
     ·exact(Classical.em _).elim (λhbw=>(rD hsj ((vD h2).1 hbw)).1) (λhbw=>((vD h2).2 hbw).2)
     ·exact h2.2
     ·exact h2.elim
   ·simp only [quiet,Bool.or_eq_true,hsj,false_or,Bool.and_eq_true,decide_eq_true_eq,Bool.false_eq_true,Bool.not_eq_true'] at hs;exact hpre j hs.1 hs.2
  have preT:∀ i',i'<s->vC C.own l i'=false->zB (tr.take (i'+1)) σ=zB (tr.take i') σ:=λk hk him=>by
   have zL:k≠j/\k≠i:=by
    refine⟨λh=>?_,λh=>?_⟩
    ·rw [(muh k hk).2 (.inl h)] at him; cases him
    ·rw [(muh k hk).2 (.inr h)] at him; cases him
   rcases Ab k j with h | h
   ·rw [st0 (k+1) (by omega),st0 k (by omega)]
   ·rcases Ab k i with g | g
    ·rw [st1 (k+1) (by omega) (by omega),st1 k (by omega) (by omega)]
    ·rw [st2 (k+1) (by omega) (by omega),st2 k (by omega) (by omega)]
  have hst:SV (quiet l (vC C.own l) s) tr σ (λi=>listed.getD i false) l.length=σ:=by
   rw [kJ (i:=0) (hsil l tr f σ _ k1 preT) l.length (Ad _) λk hk hq=>⟨λhT=>?_,λh=>by omega⟩]
   ·simp [zB]
   ·exfalso;obtain⟨h1,h2⟩:=vF.1 hq
    rcases Ab k s with h | h
    ·rcases(muh k h).1 (h2.resolve_right (by omega)) with rfl | rfl
     ·rw [hlj] at hT; cases hT
     ·rw [hTi] at hT; cases hT
    ·rw [post0 k hk h h1] at hT; cases hT
  rw [hst] at G2
  have key:xR dop g (zC C σ (wP g) dop.k λx y=>x=dA/\y=σA) (D.uO=dA/\σ=σA):=by simp only [xR,hg2];exact lB (λx hx=>by rw [hal] at hx; cases hx) hA
  have hstep:=gE (next:=wpAnyIn C.F 0 C.P .any ops (LQ C E Q) fuel (listed.setIfInBounds i true)) (Q:=LQ C E Q) (K:=λx y=>x=dA/\y=σA) hmk G2 (sF key (λh=>h) (λh=>h)) (λa' w' d' σ'' G3 hk=>by
   obtain⟨rfl,rfl⟩:=hk
   refine iI (ds:=l') (tr:=tr') (s:=s) (mu:=λi=>decide (i=j)) (f:=f) (σ:=σ'') (xo:=λ_ _=>false) (l0:=λk=>decide (k=i)) (by omega) (λk o' h=>?_) (λ{i1 j1 oj di dj} h1 h2 h3 h4=>?_) bk (λ_ _ h=>by cases h) j1 hlen' (by omega) (λm hms hmm=>?_) (λk hk him=>?_) (λk dop2 p his him hps hdq hns hor=>?_) (λa w G'=>⟨_,_,hweak E a w G',hQ⟩) (λ_ _ _ _ _ _ _ _ _ h=>by cases h) _ _ _ _ hfew ⟨by simp [I.size],(λ_ _ h=>by cases h),λk hk=>?_,λk ok hk hT e he hb=>?_,g.put dop.dst d',λt=>?_,?_⟩
   ·obtain⟨dop3,g1,g2⟩:=hdg k o' h
    by_cases hki:k=i
    ·subst hki; exact⟨_,ly',λh=>by simp at h⟩
    ·exact⟨dop3,(lat k hki).trans g1,λ_=>g2⟩
   ·by_cases hj1:j1=i
    ·subst hj1;rw [ly'] at h2; cases h2;rw [lat i1 (by omega)] at h3
     rcases sp h1 ly h3 h4 with h | ⟨h,_⟩
     ·exact .inl h
     ·exact .inr ⟨(l9 (a:=⟨dop.dst,none,.mv (.c d')⟩) (b:=dop) rfl hal3.symm).trans h,.inr (.inr (.inl rfl))⟩
    ·rw [lat j1 hj1] at h2
     by_cases hi1:i1=i
     ·subst hi1;rw [ly'] at h3; cases h3
      rcases sp h1 h2 ly h4 with h | ⟨h,_⟩
      ·exact .inl h
      ·exact .inr ⟨(Yf (a:=⟨dop.dst,none,.mv (.c d')⟩) (b:=dop) rfl hal3.symm).trans h,.inr (.inl rfl)⟩
     ·rw [lat i1 hi1] at h3
      rcases sp h1 h2 h3 h4 with h | ⟨h,h5 | h5 | h5 | h5⟩
      ·exact .inl h
      ·exact .inr ⟨h,.inl ⟨h5.1,λ⟨q1,q2⟩=>by simp at q1 q2; omega⟩⟩
      ·exact .inr ⟨h,.inr (.inl h5)⟩
      ·exact .inr ⟨h,.inr (.inr (.inl h5))⟩
      ·simp at h5; omega
   ·obtain rfl:m=j:=by simpa using hmm
    rw [wA ((lat m (by omega)).trans lx)]; exact R.lq
   ·have hkj:k≠j:=by simpa using him
    rcases Ab k j with h | h
    ·rw [stA (k+1) (by omega),stA k (by omega)]
    ·rw [stB (k+1) (by omega) (by omega),stB k (by omega) (by omega)]
   ·have hkj:k≠j:=by simpa using him
    have hki:k≠i:=λh=>by subst h; rw [ly'] at hdq; cases hdq; cases hns
    have z1:l'.take k=hd'.take k:=by rw [lhd',γ (by omega)]
    have z2:tr'.take k=th'.take k:=by rw [tth',γ (by omega)]
    have z3:wK tr' k=wK th' k:=by unfold wK; rw [tth',δ (by omega)]
    have z4:hd_[k]?=some dop2:=by rw [<- hat k hki,<- hdq,lhd',δ (by omega)]
    rw [z1,z2,z3]
    rcases Ab j p with h | h
    ·rw [stB p h hps]; exact gQ (dq' dz d') dok' (by omega) qB ((qat dz d' k hkj hki).trans z4)
    ·rw [stA p h]
     have hout:k<j\/i<k:=by
      rcases Ab k j with h8 | h8
      ·exact .inl h8
      ·rcases Ab i k with h9 | h9
       ·exact .inr h9
       ·have:=waits k dop2 (by omega) (by omega) z4 hns;rw [(hor j (by omega) (by simp)).2 h] at this; cases this
     exact gQ (dqc' dz d' _) dok' (by omega) qA ((qatc dz d' _ k hout).trans z4)
   ·obtain rfl:k=i:=by simpa using hk
    rw [hT',if_pos rfl]
   ·by_cases h:i=k
    ·subst h;rw [hol] at hk;simp at hk; subst hk;exact getD_set_true (hall e he hb)
    ·rw [hT',if_neg h] at hT;exact getD_set_true (I.closed k ok hk hT e he hb)
   ·have hnd:(l'.filterMap (·.dst)).Nodup:=by
     have:l'.filterMap (·.dst)= l.filterMap (·.dst):=by rw [hls,hl']; simp [List.filterMap_append,χ]
     rw [this]; exact R.nodup
    by_cases hdt:dop.dst=some t
    ·rw [hdt,Fr.mR,if_pos rfl,mO (i:=i) (by rw [hT' i]; simp) (by rw [ldst,wC,ly]; exact hdt) l'.length (by omega) λk h1 h2 h3=>?_]
     ·exact tdy.symm
     ·have:=gC hnd h3 (by rw [ldst,wC,ly]; exact hdt:wC l' i=some t);omega
    ·have e1:(g.put dop.dst d').get t=g.get t:=by
      cases hdd:dop.dst with
      | none=>rfl
      | some u=>rw [Fr.mR,if_neg (λe=>by subst e; exact hdt hdd)]
     rw [e1,hg t,hll];refine(ij ldst l.length λk hk hkt=>?_).symm;have hki:k≠i:=λe=>by subst e; rw [wC,ly] at hkt; exact hdt hkt
     refine⟨by rw [hT',if_neg (λe=>hki e.symm)],λhT=>?_⟩;have hkj:k≠j:=λe=>by subst e; rw [hlj] at hT; cases hT
     have aJ:t ∈ free:=by
      rw [R.fr];unfold Vc;refine ψ.2 ⟨k,List.mem_range.2 hk,?_⟩
      have o1:ordered (yI ops.toList []) pre.length k=false:=by
       cases h:ordered (yI ops.toList []) pre.length k with
       | false=>rfl
       | true=>rw [<- hx0] at h; rw [late j hlj k h] at hT; cases hT
      have o2:ordered (yI ops.toList []) (pre.length+1+mid1.length) k=false:=by
       cases h:ordered (yI ops.toList []) (pre.length+1+mid1.length) k with
       | false=>rfl
       | true=>rw [<- hy0] at h; rw [late i hTi k h] at hT; cases hT
      rw [if_neg (by simp [o1,o2]; omega)];exact hkt
     have:=hfree t aJ;rw [zp hlen R.nodup hk hkt,zp hlen' hnd (by omega:k<l'.length) ((ldst k).trans hkt)] at this;exact this.symm
   ·have:SV (quiet l' (λi=>decide (i=j)) s) tr' σ'' (λk=>(listed.setIfInBounds i true).getD k false) l'.length=σ'':=by
     rw [kJ (i:=0) (hsil l' tr' f σ'' _ j1 (λk hk him=>by
      have hkj:k≠j:=by simpa using him
      rcases Ab k j with h | h
      ·rw [stA (k+1) (by omega),stA k (by omega)]
      ·rw [stB (k+1) (by omega) (by omega),stB k (by omega) (by omega)])) l'.length (Ad _) λk hk hq=>⟨λhT=>?_,λh=>by omega⟩]
     ·simp [zB]
     ·exfalso;obtain⟨h1,h2⟩:=vF.1 hq;have hki:k≠i:=λh=>by subst h; rw [wA ly'] at h1; cases h1
      rw [hT',if_neg (λh=>hki h.symm)] at hT
      rcases h2 with h2 | h2
      ·obtain rfl:k=j:=by simpa using h2
       rw [hlj] at hT; cases hT
      ·rw [post0 k (by omega) h2 (by unfold wT at h1 ⊢; rw [<- lat k hki]; exact h1)] at hT; cases hT
    rw [this];exact G3)
  unfold wpOpIn;simp only [ho];exact hstep
 ·exact Nat.le_trans (List.length_filter_le _ _) (by simp)
 ·rw [bK (i:=0) l.length λj _ _=>⟨(λh=>by rw [hf0] at h; cases h),λh=>by omega⟩];simp [LV]
 ·have:SV (quiet l (vC C.own l) s) tr σ (λi=>(Array.replicate ops.size false).getD i false) l.length=σ:=by refine(jv (k:=0) _ λj _ _ (hT:(Array.replicate ops.size false).getD j false=true)=>by rw [hf0] at hT; cases hT).trans (if_neg λh=>?_);have h2:(Array.replicate ops.size false).getD 0 false=true:=h.2.1;rw [hf0] at h2; cases h2
  rw [this];exact G'
def RR (C:Cx) (pre:List xN) (m:xN) (mid:List xN) (un:Bool) (post:List xN) (fl:List Bool) (f:Fr) (σ:St) (K:Fr->St->Prop):Prop:= uX C σ pre f λf1=>zC C σ (wP f1) m.k λd σ1=>uX C σ1 (iY fl pre f1) f (λg=>g=f1)/\ uX C σ1 mid (f1.put m.dst d) λf2=>(if un=true then uX C σ mid (f1.put m.dst d) (λg=>g=f2) else True)/\ tP C post f2 σ1 K
theorem U6 {P:Program} {N:Nat} {own:List Nat} {code:Code} {pre:List xN} {m:xN} {mid:List xN} {un:Bool} {post:List xN} {fl:List Bool} (h:tW P N own code=some (.bX pre m mid un post fl)) :
  ∃ id ops l,code = .region id ops true/\wI (lW P N own ops) ops.toList=some l/\own.contains 77777=false/\wi ops.toList l (tN own l) (vC own l)= true/\post=l.drop (tN own l)/\ P8 own ops.toList l (tN own l) pre m mid un fl:=by
 cases code with
 | region id ops draw=>
  simp only [tW] at h
  split at h
  ·rename_i d hd;cases h
   rcases nF hd with ⟨_,h2 | h2 | h2⟩ | ⟨_,h2,_⟩
   ·obtain⟨_,_,_,_,_,_,_,_,_,_,_,_,_,_,_,e⟩:=tS h2; cases e
   ·obtain⟨_,_,_,_,_,_,_,_,_,_,_,_,_,_,e⟩:=oG h2; cases e
   ·obtain⟨_,_,_,_,_,_,_,_,_,_,_,e⟩:=oF h2; cases e
   ·obtain⟨_,_,_,_,_,_,_,_,_,_,_,_,_,_,_,e⟩:=tS h2; cases e
  ·simp only [Ag,Ae] at h;obtain⟨l,hl,h⟩:=h
   split at h
   ·rename_i hdr
    split at h
    ·rename_i hok
     split at h
     ·rename_i d hv;cases h;obtain⟨_,_,_,_,_,_,e,hp,hR⟩:=nH hv;cases e;subst hdr;exact⟨id,ops,l,rfl,hl,hok.1,hok.2,hp,hR⟩
     ·rcases qK h with h | ⟨_,_,e,_⟩
      case inr=>cases e
      rcases pC h with ⟨e,_⟩ | ⟨_,_,_,_,_,e,_⟩ | ⟨_,_,_,_,_,_,_,_,_,_,_,e,_⟩ <;> cases e
    ·split at h
     ·split at h
      ·rename_i d hd;cases h;obtain⟨_,_,_,_,_,_,_,e,_⟩:=nG hd;cases e
      ·obtain⟨_,_,e,_⟩:=pT h;cases e
     ·cases h
   ·simp at h
 | rangeFunc g0 ps0 a c=> simp [tW,Ae] at h
 | seq a b=> simp only [tW,zO] at h;obtain⟨dx,hx,dy,hy,h⟩:=h;rcases vT dx dy with e | ⟨_,_,_,_,_,_,_,_,_,_,_,_,e,_⟩ <;> rw [e] at h <;> cases h
 | _=>simp [tW,Ae] at h
theorem Uw {C:Cx} (hm:C.P.follows .mixedOrders=true) {pre:List xN} {o:xN} {mid:List xN} {un:Bool} {post:List xN} {fl:List Bool} {f:Fr} {σ:St} {Q:Exit->Fr->St->Prop}
  (h:RR C pre o mid un post fl f σ (Q .normal)):wpS C (.bX pre o mid un post fl) f σ Q:=by
 intro code hc E a w G;obtain⟨id,ops,l,rfl,hd,hq,hok,hpost,R⟩:=U6 hc;obtain⟨⟨heq,d1,d2,n1,n2,n3,hloud⟩,hw,hfl⟩:=R;have hg:=sH n2
 have hsl:tN C.own l<=l.length:=by
  have:∀ ks:List xN,tN C.own ks<=ks.length:=by
   intro ks
   induction ks with
   | nil=>simp [tN]
   | cons k ks ih=>simp only [tN]; split <;> simp <;> omega
  exact this l
 have hl:l=pre++o :: (mid++post):=by
  conv=>lhs; rw [<- υ (tN C.own l) l,heq,<- hpost]
  simp
 have hs:tN C.own l=pre.length+1+mid.length:=by have:=congrArg List.length heq;rw [Aa,Nat.min_eq_left hsl] at this;simp at this; omega
 generalize tN C.own l=s at *;unfold RR at h;obtain⟨t1,h1,h2,h3,h4⟩:=yC _ _ h;obtain⟨d,σ1,g1,p1,p2⟩:=nW hq h2;obtain⟨t3,r1,r2,r3,r4⟩:=yC _ _ p2;obtain⟨ru,r2⟩:=r2;obtain⟨t2,s1,s2,s3⟩:=rE hq _ _ _ r2;have e0:zB t1 σ=σ:=wV h4;have e3:zB t3 σ1=σ1:=wV r4;have c2:Trace C (mid++post) ((wM pre t1 f).put o.dst d) σ1 (t3++t2)/\ _/\_:=Trace.append r1 r3 (by rw [e3]; exact s1);have c1:Trace C (o :: (mid++post)) (wM pre t1 f) (zB t1 σ) ((d,σ1) :: (t3++t2)):=.cons (by simp only [xR,hg]; rw [e0]; exact g1) c2.1;obtain⟨k1,k2,k3⟩:=Trace.append h1 h3 c1;rw [<- hl] at k1 k2
 have hlen:(t1++(d,σ1) :: (t3++t2)).length=l.length:=by rw [hl]; simp [h3,r3,s3]
 have lpre:∀ i,i<pre.length->l[i]?=pre[i]?:=λi hi=>by rw [hl,δ hi]
 have lo:l[pre.length]?=some o:=by rw [hl,ε (by omega),Nat.sub_self]; rfl
 have lmid:∀ k,k<mid.length->l[pre.length+1+k]?=mid[k]?:=λk hk=>by rw [hl,ε (by omega),show pre.length+1+k-pre.length=k+1 by omega,ζ,δ hk]
 have mpre:∀ i,i<pre.length->vC C.own l i=false:=λi hi=>by rw [uC ((lpre i hi).trans (θ hi))]; exact n1 _ (ν _)
 have mo:vC C.own l pre.length=true:=by rw [uC lo]; exact n2
 have mmid:∀ k,k<mid.length->vC C.own l (pre.length+1+k)= false:=λk hk=>by rw [uC ((lmid k hk).trans (θ hk))]; exact n3 _ (ν _)
 have st0:∀ p,p<=pre.length->zB ((t1++(d,σ1) :: (t3++t2)).take p) σ=σ:=λp hp=>by rw [γ (by omega)];exact wV λx hx=>h4 x (κ hx)
 have st1:∀ k,k<=mid.length->zB ((t1++(d,σ1) :: (t3++t2)).take (pre.length+1+k)) σ=σ1:=λk hk=>by rw [<- h3,show t1.length+1+k=t1.length+(k+1) by omega,η,μ,γ (by omega),pO];exact wV λx hx=>r4 x (κ hx)
 refine jW (mu:=vC C.own l) (E:=E) (Q:=LQ C E Q) hm hd hok k1 hlen (by omega) (λm hms hmm=>?_) (λi hi him=>?_) (λi dop p his him hps hdop hns hor=>?_) (λa w G'=>⟨_,_,G',?_⟩) G
 ·rcases Ac m pre.length with h | h | h
  ·rw [mpre m h] at hmm; cases hmm
  ·subst h; rw [wA lo]; exact hloud
  ·obtain⟨k,rfl⟩:∃ k,m=pre.length+1+k:=⟨m-(pre.length+1),by omega⟩;rw [mmid k (by omega)] at hmm; cases hmm
 ·rcases Ac i pre.length with h | h | h
  ·rw [st0 (i+1) (by omega),st0 i (by omega)]
  ·subst h; rw [mo] at him; cases him
  ·obtain⟨k,rfl⟩:∃ k,i=pre.length+1+k:=⟨i-(pre.length+1),by omega⟩;rw [show pre.length+1+k+1=pre.length+1+(k+1) by omega,st1 (k+1) (by omega),st1 k (by omega)]
 ·have hor:=hor pre.length (by omega) mo
  have hp:(p<=pre.length/\zB ((t1++(d,σ1) :: (t3++t2)).take p) σ=σ)\/(pre.length<p/\zB ((t1++(d,σ1) :: (t3++t2)).take p) σ=σ1):=by
   rcases Ab pre.length p with h | h
   ·obtain⟨k,rfl⟩:∃ k,p=pre.length+1+k:=⟨p-(pre.length+1),by omega⟩;exact .inr ⟨h,st1 k (by omega)⟩
   ·exact .inl ⟨h,st0 p h⟩
  rcases Ac i pre.length with h | h | h
  ·have hdp:pre[i]?=some dop:=(lpre i h).symm.trans hdop;have x5:wK (t1++(d,σ1) :: (t3++t2)) i=wK t1 i:=by simp only [wK]; rw [δ (by omega)]
   have x6:wM (l.take i) ((t1++(d,σ1) :: (t3++t2)).take i) f=wM (pre.take i) (t1.take i) f:=by rw [hl,γ (by omega),γ (by omega)]
   rw [x5,x6]
   rcases hp with ⟨_,hp⟩ | ⟨hp0,hp⟩
   ·rw [hp]; exact uI h1 h3 rfl h4 hdp
   ·rw [hp]
    have hfi:fl.getD i false=false:=by
     cases hx:fl.getD i false with
     | false=>rfl
     | true=>have:=hfl i hx; rw [hor.1 hp0] at this; cases this
    exact gQ gG d1 h3 p1 ((vo hfi).trans hdp)
  ·subst h; rw [mo] at him; cases him
  ·obtain⟨k,rfl⟩:∃ k,i=pre.length+1+k:=⟨i-(pre.length+1),by omega⟩;have hk:k<mid.length:=by omega
   have hdp:mid[k]?=some dop:=(lmid k hk).symm.trans hdop
   have x5:wK (t1++(d,σ1) :: (t3++t2)) (pre.length+1+k)= wK t3 k:=by simp only [wK];rw [ε (by omega),h3,show pre.length+1+k-pre.length=k+1 by omega,ζ,δ (by omega)]
   have x6:wM (l.take (pre.length+1+k)) ((t1++(d,σ1) :: (t3++t2)).take (pre.length+1+k)) f=wM (mid.take k) (t3.take k) ((wM pre t1 f).put o.dst d):=by
    have y1:l.take (pre.length+1+k)= pre++o :: mid.take k:=by rw [hl,show pre.length+1+k=pre.length+(k+1) by omega,η,μ,γ (by omega)]
    have y2:(t1++(d,σ1) :: (t3++t2)).take (pre.length+1+k)= t1++(d,σ1) :: t3.take k:=by rw [<- h3,show t1.length+1+k=t1.length+(k+1) by omega,η,μ,γ (by omega)]
    rw [y1,y2,oL _ _ _ h3]; rfl
   rw [x5,x6]
   rcases hp with ⟨hp0,hp⟩ | ⟨_,hp⟩
   ·rw [hp]
    cases un with
    | false=> exfalso;have h2:=tC (hw rfl) k dop hdp hns;rw [hor.2 hp0] at h2; cases h2
    | true=> simp only [if_true] at ru;obtain⟨t3',u1,u2,u3,u4⟩:=yC _ _ ru;exact uI u1 u3 (pZ d2 u3 r3 u2) u4 hdp
   ·rw [hp]; exact uI r1 r3 rfl r4 hdp
 ·rw [k2,k3,e0];show Q .normal (wM (mid++post) (t3++t2) ((wM pre t1 f).put o.dst d)) (zB (t3++t2) σ1);rw [c2.2.1,c2.2.2,e3];exact s2
end
end Go.Pd
