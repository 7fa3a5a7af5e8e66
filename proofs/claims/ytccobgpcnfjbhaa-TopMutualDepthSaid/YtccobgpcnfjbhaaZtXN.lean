/- Part XN. -/
import Derived.Test.YtccobgpcnfjbhaaZtXA
import Derived.Test.YtccobgpcnfjbhaaZtX9
import Derived.RangeFuncIn
import Derived.RangeFuncRecord
import Derived.RangeFuncSeq
set_option linter.unusedSectionVars false
set_option linter.unusedVariables false
set_option linter.unusedSimpArgs false
set_option linter.defProp false
set_option maxRecDepth 20000
set_option maxHeartbeats 1000000
open Option renaming bind_eq_some_iff->γ,map_some->δ,getD_some->ε
open Bool renaming and_eq_true->ζ
open List renaming contains_eq_mem->η,getElem?_eq_getElem->θ,getElem?_map->κ
open Array renaming getElem?_eq_some_iff->μ
open Nat renaming le_refl->ν,lt_or_ge->ξ
namespace Go.Pd
open Go
variable [vU]
theorem ZH {P:Program} {N:Nat} {own:List Nat} {code:Code} {ms:List Nat} {l:List xN} {s:Nat} {xs:List Nat} {y:Nat} (h:vC P N own code=some (.mY ms l s xs y)) :
  ∃ id ops,code = .region id ops true/\zK (oW P N own ops) ops.toList=some l/\own.contains 77777=false/\ms=yZ ops.toList []/\VJ own ops.toList l s xs y:=by
 cases code with
 | region id ops draw=>
  simp only [vC] at h
  split at h
  ·rename_i d hd;cases h
   rcases qE hd with ⟨_,h2 | h2 | h2⟩ | ⟨_,h2,_⟩
   ·obtain⟨_,_,_,_,_,_,_,_,_,_,_,_,_,_,_,e⟩:=uV h2; cases e
   ·obtain⟨_,_,_,_,_,_,_,_,_,_,_,_,_,_,e⟩:=qY h2; cases e
   ·obtain⟨_,_,_,_,_,_,_,_,_,_,_,e⟩:=qZ h2; cases e
   ·obtain⟨_,_,_,_,_,_,_,_,_,_,_,_,_,_,_,e⟩:=uV h2; cases e
  ·simp only [Option.bind_eq_bind,γ] at h;obtain⟨l,hl,h⟩:=h
   split at h
   ·rename_i hdr
    split at h
    ·rename_i hok
     split at h
     ·rename_i d hv;cases h;obtain⟨_,_,_,_,_,_,e,_⟩:=qG hv;cases e
     ·rcases sK h with h | ⟨_,_,e,hR⟩
      case inr=> cases e;subst hdr;exact⟨id,ops,rfl,hl,hok.1,rfl,hR⟩
      rcases rP h with ⟨e,_⟩ | ⟨_,_,_,_,_,e,_⟩ | ⟨_,_,_,_,_,_,_,_,_,_,_,e,_⟩ <;> cases e
    ·split at h
     ·rename_i hq
      split at h
      ·rename_i d hd;cases h;obtain⟨_,_,_,_,_,_,_,e,hp,hR⟩:=qF hd;cases e
      ·obtain⟨_,_,e,hR⟩:=rW h;cases e;subst hdr;exact⟨id,ops,rfl,hl,hq,rfl,hR⟩
     ·cases h
   ·simp at h
 | rangeFunc g0 ps0 a c=> simp [vC,γ] at h
 | seq a b=> simp only [vC,zO] at h;obtain⟨dx,hx,dy,hy,h⟩:=h;rcases wW dx dy with e | ⟨_,_,_,_,_,_,_,_,_,_,_,_,e,_⟩ <;> rw [e] at h <;> cases h
 | _=>simp [vC,γ] at h
def kC (tr:List (D × St)) (xs:List Nat) (x y:Nat) (dA:D) (i:Nat) (o:xN):xN:= if i=y then⟨o.dst,none,.mv (.c dA)⟩ else if xs.contains i=true/\i<x then⟨o.dst,none,.mv (.c (zF tr i))⟩ else o
def gY (l:List xN) (tr:List (D × St)) (xs:List Nat) (x y:Nat) (dA:D):List xN:=l.mapIdx λi o=>kC tr xs x y dA i o
theorem UE {l:List xN} {tr:List (D × St)} {xs:List Nat} {x y:Nat} {dA:D} (i:Nat):(gY l tr xs x y dA)[i]?=(l[i]?).map (kC tr xs x y dA i):=by unfold gY; rw [List.getElem?_mapIdx]
theorem qh {l:List xN} {tr:List (D × St)} {xs:List Nat} {x y:Nat} {dA:D}:(gY l tr xs x y dA).length=l.length:=by simp [gY]
theorem qi {tr:List (D × St)} {xs:List Nat} {x y:Nat} {dA:D} {i:Nat} {o:xN}:(kC tr xs x y dA i o).dst=o.dst:=by
 unfold kC; split
 ·rfl
 ·split <;> rfl
def iq (C:Cx) (ms:List Nat) (l:List xN) (s:Nat) (kS:List Nat) (tr:List (D × St)) (f:Fr) (σ:St):Prop:=
 ∀ i dop p,i<s->kS.contains i=false->p<=s->l[i]?=some dop->dop.k.yG=false->(∀ m,m<s->kS.contains m=true->(m<p->ordered ms i m=false)/\ (p<=m->ordered ms m i=false)) ->
  xF dop (wX (l.take i) (tr.take i) f) (vO C (zN (tr.take p) σ) (uX (wX (l.take i) (tr.take i) f)) dop.k λx y=>x=zF tr i/\y=zN (tr.take p) σ) (.vP=zF tr i)
def bY (s:Nat) (kS:List Nat) (tr:List (D × St)) (σ:St):Prop:=∀ i,i<s->kS.contains i=false->zN (tr.take (i+1)) σ=zN (tr.take i) σ
def dg (ms:List Nat) (l:List xN) (xs:List Nat) (x y:Nat):List Nat:=(List.range l.length).filterMap λj=>if j==y || (xs.contains j&&decide (x<=j)) || ordered ms x j || ordered ms y j then none else(l[j]?).bind (·.dst)
structure Qo (C : Cx) (ms : List Nat) (l : List xN) (s : Nat) (xs : List Nat) (y : Nat) (f : Fr) (σ : St) (tr : List (D × St)) (x : Nat) (dA : D) (σA : St) (tr' : List (D × St)) : Prop where
 al:∀ m2,l[y]?=some m2->vO C (zN (tr.take x) σ) (uX f) m2.k λa b=>a=dA/\b=σA
 trace:Trace C (gY l tr xs x y dA) f σA tr'
 len:tr'.length=l.length
 stays:bY s (xs.filter λi=>decide (x<=i)) tr' σA
 swap:iq C ms (gY l tr xs x y dA) s (xs.filter λi=>decide (x<=i)) tr' f σA
 free:∀ t ∈ dg ms l xs x y,(wX l tr f).get t=(wX (gY l tr xs x y dA) tr' f).get t
 OD:yV C (wX (gY l tr xs x y dA) tr' f) (zN tr' σA) (wX l tr f) (zN tr σ)
structure Q4 (C : Cx) (ms : List Nat) (l : List xN) (s : Nat) (xs : List Nat) (y : Nat) (f : Fr) (σ : St) (tr : List (D × St)) : Prop where
 trace:Trace C l f σ tr
 len:tr.length=l.length
 stays:bY s (xs ++ [y]) tr σ
 swap:iq C ms l s (xs ++ [y]) tr f σ
 alt:y<s->∀ x ∈ xs,∃ dA σA tr',Qo C ms l s xs y f σ tr x dA σA tr'
theorem least {p:Nat->Prop}:∀ n,p n->∃ m,p m/\∀ k,k<m->¬ p k:=by
 intro n
 induction n using Nat.strongRecOn with
 | _ n ih=>
  intro h
  by_cases hk:∃ k,k<n/\p k
  ·obtain⟨k,h1,h2⟩:=hk;exact ih k h1 h2
  ·exact⟨n,h,λk h1 h2=>hk ⟨k,h1,h2⟩⟩
theorem qj {a x:xN} {d:D} (h:uO a x=true):uO ⟨a.dst,none,.mv (.c d)⟩ x=true:=by
 unfold uO at h ⊢;rw [ζ] at h ⊢;refine⟨h.1,?_⟩
 split
 ·rfl
 ·rfl
theorem qk {a x:xN} {d:D} (h:uO x a=true):uO x ⟨a.dst,none,.mv (.c d)⟩= true:=by
 unfold uO at h ⊢;rw [ζ] at h ⊢;refine⟨?_,h.2⟩;have h1:=h.1
 split at h1
 ·rename_i e;rw [ζ] at h1;simp only [ζ];exact⟨rfl,h1.2⟩
 ·rfl
theorem Xc {tr:List (D × St)} {xs:List Nat} {x y:Nat} {dA:D} {i j:Nat} {a b:xN} (h:uO a b=true):uO (kC tr xs x y dA i a) (kC tr xs x y dA j b)= true:=by
 have h1:uO (kC tr xs x y dA i a) b=true:=by
  unfold kC; split
  ·exact qj h
  ·split
   ·exact qj h
   ·exact h
 conv=>lhs; rhs; unfold kC
 split
 ·exact qk h1
 ·split
  ·exact qk h1
  ·exact h1
theorem YP {C:Cx} (hm:C.P.follows .mixedOrders=true) {ms:List Nat} {l:List xN} {s:Nat} {xs:List Nat} {y:Nat} {f:Fr} {σ:St} {tr:List (D × St)} {Q:Exit->Fr->St->Prop}
  (h:Q4 C ms l s xs y f σ tr) (hQ:Q .normal (wX l tr f) (zN tr σ)):wpS C (.mY ms l s xs y) f σ Q:=by
 intro code hc E a w G;obtain⟨id,ops,rfl,hd,hq,rfl,R⟩:=ZH hc;obtain⟨k1,hlen,hstays,hswap0,halt⟩:=h;have hsl:=R.len;obtain⟨hdl,hdg⟩:=yJ hd;have hdl2:l.length=ops.size:=by simpa using hdl
 have mu0:∀ i,i<s->(wF C.own l i=true ↔ (xs ++ [y]).contains i=true):=λi hi=>by rw [R.kS i hi]; simp [η]
 have mu0f:∀ i,i<s->wF C.own l i=false->(xs ++ [y]).contains i=false:=λi hi h=>by
  cases e:(xs ++ [y]).contains i with
  | false=>rfl
  | true=>rw [(mu0 i hi).2 e] at h; cases h
 have sp:wg ops l s (wF C.own l) (λi j=>xs.contains i&&j==y):=lV R.ok;have bk:wc ops:=lU R.ok;have lts:∀ x ∈ xs,x<s:=λx hx=>(R.lt x hx).2
 have loudAt:∀ x ∈ xs,zY l x=false:=λx hx=>by obtain⟨o,h1,h2,_⟩:=R.zd x hx;rw [zA h1]; exact h2
 have loudM:∀ m,m<s->wF C.own l m=true->zY l m=false:=λm hms hmm=>by
  rcases(R.kS m hms).1 hmm with h | rfl
  ·exact loudAt m h
  ·obtain⟨m2,ly,hal0,_⟩:=R.alloc hms;rw [zA ly]; exact(lW hal0).2
 have stays1:∀ i,i<s->wF C.own l i=false->zN (tr.take (i+1)) σ=zN (tr.take i) σ:=λi hi him=>hstays i hi (mu0f i hi him)
 have G':Good C E a { w with drawn:=w.drawn+1 } f σ:=by obtain⟨ι,G⟩:=G;have hk:Kept w w.drew λ_=>False:=(Kept.refl _ _).drew;have hS:=G.pY.ext hk;exact⟨ι,⟨G.size,G.defers.yY rfl (ν _) λD hD=>hD,G.nx,G.kept.drew,hS,G.uJ,G.sW,G.stay,G.fr.yY (λb hb _=>rfl) (λ_ _ h=>h) hk.shape (λ_ _=>rfl) (ν _)⟩⟩
 have hf0:∀ j,(Array.replicate ops.size false).getD j false=false:=getD_replicate_false ops.size
 refine wpIn_region_any hm (mD (ds:=l) (tr:=tr) (s:=s) (mu:=wF C.own l) (f:=f) (σ:=σ) (xo:=λi j=>xs.contains i&&j==y) (l0:=λ_=>false) hdl (λi o h=>by obtain⟨dop,h1,h2⟩:=hdg i o h; exact⟨dop,h1,λ_=>h2⟩) sp bk (λi j h=>by simp only [ζ,beq_iff_eq,η,decide_eq_true_eq] at h;rw [h.2]; exact(R.lt i h.1).1) k1 hlen hsl loudM stays1 (λi dop p his him hps hdop hns hor=>?_) (λa w G'=>⟨_,_,G',hQ⟩) (λfuel listed a w i j hfew I hi hxo hlj=>?_) _ _ _ _ ?_ ⟨by simp,(λ_ j _ h=>by rw [hf0] at h; cases h),(λ_ h=>by cases h),(λj o _ hT=>by rw [hf0] at hT; cases hT),f,λt=>?_,?_⟩)
 ·exact hswap0 i dop p his (mu0f i his him) hps hdop hns λm hms hmm=>hor m hms ((mu0 m hms).2 hmm)
 ·-- THE OBJECT COMES FIRST
  simp only [ζ,beq_iff_eq,η,decide_eq_true_eq] at hxo;obtain⟨hjx,rfl⟩:=hxo;obtain⟨hun,o,ho,hall⟩:=mem_ready.1 hi;have hlt:i<ops.size:=(μ.1 ho).1
  have his:i<s:=by
   by_cases h:i<s
   ·exact h
   ·have:=R.LK h; omega
  obtain⟨m2,ly,hal0,hm2⟩:=R.alloc his;obtain⟨hal,hal2⟩:=lW hal0;have hg2:=tV hm2;have hTi:listed.getD i false=false:=getD_both hun;have hol:ops.toList[i]?=some o:=by simpa using ho
  obtain⟨dop,hdop,hmk⟩:=hdg i o hol;obtain rfl:dop=m2:=by rw [ly] at hdop; exact(Option.some.inj hdop).symm
  have hTlen:∀ j,listed.getD j false=true->j<ops.toList.length:=by
   intro j hj
   rcases ξ j listed.size with h | h
   ·simp; rw [<- I.size]; exact h
   ·simp [Array.getElem?_eq_none h] at hj
  have late:∀ k,listed.getD k false=false->∀ m,ordered (yZ ops.toList []) k m=true->listed.getD m false=false:=by
   intro k hk m hm2
   by_cases h:listed.getD m false=true
   ·have this:listed.getD k false=true:=tS (T:=λj=>listed.getD j false) I.closed hTlen m h k hm2;rw [hk] at this;cases this
   ·simpa using h
  have hopsj:∀ j,j<l.length->ops.toList[j]?=some (ops.toList.getD j o):=λj hj=>by
   have:j<ops.toList.length:=by omega
   simp only [List.getD,θ this,ε]
  have hdsj:∀ j,j<l.length->l[j]?=some (l.getD j dop):=λj hj=>by simp [List.getD,hj]
  have post0:∀ k,k<l.length->s<=k->zY l k=false->listed.getD k false=false:=by
   intro k hk hks hns;rw [zA (hdsj k hk)] at hns
   rcases sp (hopsj k hk) (hdsj k hk) ly (by omega:i<k) with h | ⟨_,h | h | h | h⟩
   ·exact late i hTi k h
   ·omega
   ·rw [hal2] at h; cases h
   ·rw [hns] at h; cases h
   ·simp at h; omega
  obtain⟨x,⟨hx,hlx⟩,hmin⟩:=least (p:=λn=>n ∈ xs/\listed.getD n false=false) j ⟨hjx,hlj⟩
  have before:∀ k,k ∈ xs->k<x->listed.getD k false=true:=λk hk hkx=>by
   cases e:listed.getD k false with
   | true=>rfl
   | false=>exact absurd ⟨hk,e⟩ (hmin k hkx)
  have behind:∀ k,k ∈ xs->x<=k->listed.getD k false=false:=λk hk hkx=>by
   by_cases e:x=k
   ·subst e; exact hlx
   ·obtain⟨ox,lx,sx,_⟩:=R.zd x hx;obtain⟨ok,lk,sk,_⟩:=R.zd k hk;have hks:=lts k hk;have hki:=(R.lt k hk).1
    rcases sp (hopsj k (by omega)) lk lx (by omega:x<k) with h | ⟨_,h | h | h | h⟩
    ·exact late x hlx k h
    ·exact absurd ⟨(R.kS x (lts x hx)).2 (.inl hx),(R.kS k hks).2 (.inl hk)⟩ h.2
    ·rw [sx] at h; cases h
    ·rw [sk] at h; cases h
    ·simp only [ζ,beq_iff_eq] at h; omega
  have hxi:=(R.lt x hx).1;obtain⟨dA,σA,tr',A⟩:=halt his x hx;have hA:=A.al _ ly;have j1:=A.trace;obtain⟨l',hl'⟩:∃ l',l'=gY l tr xs x i dA:=⟨_,rfl⟩;have hll:l'.length=l.length:=by rw [hl']; exact qh
  have hlen':tr'.length=l'.length:=by rw [A.len,hll]
  have lat:∀ k,l'[k]?=(l[k]?).map (kC tr xs x i dA k):=λk=>by rw [hl']; exact UE k
  have same:∀ k o',¬ k=i->¬ (xs.contains k=true/\k<x)->kC tr xs x i dA k o'=o':=λk o' h1 h2=>by unfold kC; rw [if_neg h1,if_neg h2]
  have lsame:∀ k,¬ k=i->¬ (xs.contains k=true/\k<x)->l'[k]?=l[k]?:=λk h1 h2=>by
   rw [lat]
   cases e:l[k]? with
   | none=>rfl
   | some o'=>rw [δ,same k o' h1 h2]
  have ly':l'[i]?=some ⟨dop.dst,none,.mv (.c dA)⟩:=by rw [lat,ly,δ]; unfold kC; rw [if_pos rfl]
  have ldst:∀ k,zE l' k=zE l k:=λk=>by
   unfold zE; rw [lat]
   cases e:l[k]? with
   | none=>rfl
   | some o'=>simp [qi]
  rw [<- hl'] at j1
  have tdy:zF tr' i=dA:=by obtain⟨d,σ',h1,h2⟩:=j1.at i _ ly';simp only [xF,vO,pW,uX] at h2;simp only [zF,h1,δ,ε];exact h2.1.symm
  have hT':∀ k,(listed.setIfInBounds i true).getD k false=if i=k then true else listed.getD k false:=by
   intro k
   by_cases h:i=k
   ·subst h;have:i<listed.size:=by rw [I.size]; exact hlt
    simp [this]
   ·rw [if_neg h];exact getD_set_ne false h
  obtain⟨g,hg,G2⟩:=I.WN
  have hsil:∀ (ds:List xN) (tr:List (D × St)) (f:Fr) (σ:St) (mu:Nat->Bool),Trace C ds f σ tr->(∀ i,i<s->mu i=false->zN (tr.take (i+1)) σ=zN (tr.take i) σ)->∀ j,j<ds.length->quiet ds mu s j=true->zN (tr.take (j+1)) σ=zN (tr.take j) σ:=by
   intro ds tr f σ mu ht hpre j hj hs
   by_cases hsj:zY ds j=true
   ·have ho:ds[j]?=some ds[j]:=θ hj;obtain⟨d,σ',h1,h2⟩:=ht.at j _ ho;rw [lX tr σ j _ h1];simp only [zY,ho,δ,ε] at hsj;unfold xF at h2
    split at h2
    ·exact(tB hsj h2).1
    ·split at h2
     ·exact(Classical.em _).elim (λhbw=>(tB hsj ((wH h2).1 hbw)).1) (λhbw=>((wH h2).2 hbw).2)
     ·exact h2.2
     ·exact h2.elim
   ·simp only [quiet,Bool.or_eq_true,hsj,false_or,ζ,decide_eq_true_eq,Bool.false_eq_true,Bool.not_eq_true'] at hs;exact hpre j hs.1 hs.2
  have hst:SV (quiet l (wF C.own l) s) tr σ (λi=>listed.getD i false) l.length=zN (tr.take x) σ:=by
   rw [nW (i:=x) (hsil l tr f σ _ k1 stays1) l.length (ν _) λk hk hq=>?_,Nat.min_eq_right (by omega)];obtain⟨h1,h2⟩:=wO.1 hq
   rcases ξ k s with h | h
   ·rcases(R.kS k h).1 (h2.resolve_right (by omega)) with h3 | rfl
    ·refine⟨λhT=>?_,λhkx=>before k h3 hkx⟩
     rcases ξ k x with h4 | h4
     ·exact h4
     ·rw [behind k h3 h4] at hT; cases hT
    ·exact⟨(λhT=>by rw [hTi] at hT; cases hT),λhkx=>by omega⟩
   ·exact⟨(λhT=>by rw [post0 k hk h h1] at hT; cases hT),λhkx=>by omega⟩
  rw [hst] at G2
  have key:xF dop g (vO C (zN (tr.take x) σ) (uX g) dop.k λx y=>x=dA/\y=σA) (D.vP=dA/\zN (tr.take x) σ=σA):=by simp only [xF,hg2];exact oF (λx hx=>by rw [hal] at hx; cases hx) hA
  have muX:∀ k,(xs.filter λi=>decide (x<=i)).contains k=true ↔ k ∈ xs/\x<=k:=λk=>by simp [η,List.mem_filter]
  have hstep:=kZ (next:=wpAnyIn C.F 0 C.P .any ops (LQ C E Q) fuel (listed.setIfInBounds i true)) (Q:=LQ C E Q) (K:=λx y=>x=dA/\y=σA) hmk G2 (tT key (λh=>h) (λh=>h)) (λa' w' d' σ'' G3 hk=>by
   obtain⟨rfl,rfl⟩:=hk
   refine mD (ds:=l') (tr:=tr') (s:=s) (mu:=λk=>(xs.filter λi=>decide (x<=i)).contains k) (f:=f) (σ:=σ'') (xo:=λ_ _=>false) (l0:=λk=>decide (k=i) || (xs.contains k&&decide (k<x))) (by omega) (λk o' h=>?_) (λ{i1 j1 oj di dj} h1 h2 h3 h4=>?_) bk (λ_ _ h=>by cases h) j1 hlen' (by omega) (λm hms hmm=>?_) (λk hk him=>A.stays k hk him) (λk dop2 p his him hps hdq hns hor=>?_) (λa w G'=>⟨_,_,A.OD E a w (by rw [<- hl']; exact G'),hQ⟩) (λ_ _ _ _ _ _ _ _ _ h=>by cases h) _ _ _ _ hfew ⟨by simp [I.size],(λ_ _ h=>by cases h),λk hk=>?_,λk ok hk hT e he hb=>?_,g.put dop.dst d',λt=>?_,?_⟩
   ·obtain⟨dop3,g1,g2⟩:=hdg k o' h;refine⟨_,by rw [lat,g1]; rfl,λh=>?_⟩;simp only [Bool.or_eq_false_iff,decide_eq_false_iff_not,Bool.and_eq_false_iff] at h;rw [same k dop3 h.1 (λhh=>by rcases h.2 with e | e; rw [hh.1] at e; cases e; exact e hh.2)];exact g2
   ·have hj':j1<l.length:=by have:=(List.getElem?_eq_some_iff.1 h2).1; omega
    have hi':i1<l.length:=by omega
    have e2:=hdsj j1 hj';have e3:=hdsj i1 hi';rw [lat,e2] at h2;rw [lat,e3] at h3;simp only [δ,Option.some.injEq] at h2 h3;subst h2; subst h3
    rcases sp h1 e2 e3 h4 with h | ⟨h,h5⟩
    ·exact .inl h
    ·refine .inr ⟨Xc h,?_⟩
     have sil:∀ k o',(k=i\/(xs.contains k=true/\k<x))->(kC tr xs x i d' k o').k.yG=true:=λk o' hk=>by
      unfold kC
      by_cases e:k=i
      ·rw [if_pos e]; rfl
      ·rw [if_neg e,if_pos (hk.resolve_left e)]; rfl
     by_cases hz1:i1=i\/(xs.contains i1=true/\i1<x)
     ·exact .inr (.inl (sil _ _ hz1))
     by_cases hz2:j1=i\/(xs.contains j1=true/\j1<x)
     ·exact .inr (.inr (.inl (sil _ _ hz2)))
     rw [same _ _ (λe=>hz1 (.inl e)) (λe=>hz1 (.inr e)),same _ _ (λe=>hz2 (.inl e)) (λe=>hz2 (.inr e))]
     rcases h5 with h5 | h5 | h5 | h5
     ·refine .inl ⟨h5.1,λ⟨q1,q2⟩=>h5.2 ⟨?_,?_⟩⟩
      ·exact(R.kS i1 (by omega)).2 (.inl ((muX i1).1 q1).1)
      ·exact(R.kS j1 (by omega)).2 (.inl ((muX j1).1 q2).1)
     ·exact .inr (.inl h5)
     ·exact .inr (.inr (.inl h5))
     ·simp only [ζ,beq_iff_eq] at h5;exact absurd (.inl h5.2) hz2
   ·obtain⟨h1,h2⟩:=(muX m).1 hmm;have:=(R.lt m h1).1;have e:=lsame m (by omega) (λhh=>by omega);have:=loudAt m h1;unfold zY at this ⊢;rw [e]; exact this
   ·rw [hl'] at hdq ⊢;exact A.swap k dop2 p his him hps hdq hns hor
   ·simp only [Bool.or_eq_true,decide_eq_true_eq,ζ,η] at hk;rw [hT']
    by_cases e:i=k
    ·rw [if_pos e]
    ·rw [if_neg e];have hk:=hk.resolve_left (λe'=>e e'.symm);exact before k hk.1 hk.2
   ·by_cases h:i=k
    ·subst h;rw [hol] at hk;simp at hk; subst hk;exact getD_set_true (hall e he hb)
    ·rw [hT',if_neg h] at hT;exact getD_set_true (I.closed k ok hk hT e he hb)
   ·have hnd:(l'.filterMap (·.dst)).Nodup:=by
     have:l'.filterMap (·.dst)= l.filterMap (·.dst):=by
      have e:l'.map (·.dst)= l.map (·.dst):=by
       apply List.ext_getElem?;intro k;rw [κ,κ,lat]
       cases l[k]? with
       | none=>rfl
       | some o'=>simp [qi]
      have e2:∀ l:List xN,l.filterMap (·.dst)= (l.map (·.dst)).filterMap (λo=>o):=λl=>by rw [List.filterMap_map]; rfl
      rw [e2,e2,e]
     rw [this]; exact R.nodup
    by_cases hdt:dop.dst=some t
    ·rw [hdt,Fr.pN,if_pos rfl,pM (i:=i) (by rw [hT' i]; simp) (by rw [ldst,zE,ly]; exact hdt) l'.length (by omega) λk h1 h2 h3=>?_]
     ·exact tdy.symm
     ·have:=kV hnd h3 (by rw [ldst,zE,ly]; exact hdt:zE l' i=some t);omega
    ·have e1:(g.put dop.dst d').get t=g.get t:=by
      cases hdd:dop.dst with
      | none=>rfl
      | some u=>rw [Fr.pN,if_neg (λe=>by subst e; exact hdt hdd)]
     rw [e1,hg t,hll];refine(vh ldst l.length λk hk hkt=>?_).symm;have hki:k≠i:=λe=>by subst e; rw [zE,ly] at hkt; exact hdt hkt
     refine⟨by rw [hT',if_neg (λe=>hki e.symm)],λhT=>?_⟩
     have hfr:t ∈ dg (yZ ops.toList []) l xs x i:=by
      unfold dg;refine List.mem_filterMap.2 ⟨k,List.mem_range.2 hk,?_⟩
      have o1:ordered (yZ ops.toList []) x k=false:=by
       cases h:ordered (yZ ops.toList []) x k with
       | false=>rfl
       | true=>rw [late x hlx k h] at hT; cases hT
      have o2:ordered (yZ ops.toList []) i k=false:=by
       cases h:ordered (yZ ops.toList []) i k with
       | false=>rfl
       | true=>rw [late i hTi k h] at hT; cases hT
      have o3:¬ (k ∈ xs/\x<=k):=λhh=>by rw [behind k hh.1 hh.2] at hT; cases hT
      rw [if_neg (by simp [o1,o2,hki]; intro h; exact Nat.lt_of_not_le λh'=>o3 ⟨h,h'⟩)];exact hkt
     have:=A.free t hfr;rw [<- hl'] at this;rw [eJ hlen R.nodup hk hkt,eJ hlen' hnd (by omega:k<l'.length) ((ldst k).trans hkt)] at this;exact this.symm
   ·have:SV (quiet l' (λk=>(xs.filter λi=>decide (x<=i)).contains k) s) tr' σ'' (λk=>(listed.setIfInBounds i true).getD k false) l'.length=σ'':=by
     rw [nW (i:=0) (hsil l' tr' f σ'' _ j1 (λk hk him=>A.stays k hk him)) l'.length (ν _) λk hk hq=>⟨λhT=>?_,λh=>by omega⟩]
     ·simp [zN]
     ·exfalso;obtain⟨h1,h2⟩:=wO.1 hq;have hki:k≠i:=λh=>by subst h; rw [zA ly'] at h1; cases h1
      rw [hT',if_neg (λh=>hki h.symm)] at hT
      rcases h2 with h2 | h2
      ·obtain⟨h3,h4⟩:=(muX k).1 h2;rw [behind k h3 h4] at hT; cases hT
      ·have e:=lsame k hki (λhh=>by omega);rw [post0 k (by omega) h2 (by unfold zY at h1 ⊢; rw [<- e]; exact h1)] at hT; cases hT
    rw [this];exact G3)
  unfold wpOpIn;simp only [ho];exact hstep
 ·exact Nat.le_trans (List.length_filter_le _ _) (by simp)
 ·rw [gP (i:=0) l.length λj _ _=>⟨(λh=>by rw [hf0] at h; cases h),λh=>by omega⟩];simp [LV]
 ·have:SV (quiet l (wF C.own l) s) tr σ (λi=>(Array.replicate ops.size false).getD i false) l.length=σ:=by refine(wh (k:=0) _ λj _ _ (hT:(Array.replicate ops.size false).getD j false=true)=>by rw [hf0] at hT; cases hT).trans (if_neg λh=>?_);have h2:(Array.replicate ops.size false).getD 0 false=true:=h.2.1;rw [hf0] at h2; cases h2
  rw [this];exact G'
end Go.Pd

/- Part XR. -/
namespace Go.Pd
open Go
section
variable [vU]
def Yq (P:Program) (gi:FuncId):Prop:=oI P gi/\∀ (l Bs o b off n cap:Nat) (sa:Option Addr) (va vb:Nat->Value) (J:Nat->World->Prop),n<=maxLen->(0<n->sa=some ⟨b,off,none⟩) ->
 (∀ k W,J k W->W.cell? ⟨Bs,o,none⟩= some (.slice sa n cap)/\ ∀ i,i<n->W.cell? ⟨b,off+i*2,none⟩= some (va i)/\ W.cell? ⟨b,off+i*2+1,none⟩= some (vb i))->(∀ k W,J k W->J k W.drew) ->
 (∀ k W,k<n->J k W->YieldAt Fence.wide 0 P l #[.int .i64 ((n-1-k:Nat):Int),.agg #[va (n-1-k),vb (n-1-k)]] W λe W'=>e = .returned (.bool true)/\ J (k+1) W') ->
 ∀ W,J 0 W->CallsIn Fence.wide 0 P gi #[.func (.yield l) #[] #[],.pointer (some ⟨Bs,o,none⟩)] W λe W'=>(∃ v,e = .returned v)/\ J n W'
variable {C : Cx} {E : Env} {a : Act} {w : World} {f : Fr} {σ : St} {ι : Nat -> Nat}
theorem yX.lay (G:yX C E a w f σ ι) (o:Obj):yX C E a (w.alloc o) f σ ι:=by have hk:=Kept.alloc w o λ_=>False;exact⟨G.size,G.defers.yY rfl hk.size (λD hD=>hk.mark id hD),G.nx,G.kept.trans hk (λ_ _ h=>h) (λ_ _ h=>h.elim),G.pY.ext hk,G.uJ,G.sW,G.stay,λt=>(G.fr t).yY (λb hb _=>hk.block b hb id) (λ_ _ h=>h) hk.shape (λ_ _=>rfl) (ν _)⟩
abbrev tz (E:Env) (w:World) (σ:St) (ι:Nat->Nat) (o:Obj):Env:=⟨w.alloc o,λb=>E.M0 b\/b=w.heap.size,λb=>tA ι σ b\/b=w.heap.size,ι,E.B⟩
theorem yX.YY (G:yX C E a w f σ ι) (o:Obj):yX { C with n0:=σ.nx } (tz E w σ ι o) a (w.alloc o) f σ ι:=by
 have hk:=Kept.alloc w o λ_=>False;have hS:=G.pY.R2 o;refine⟨G.size,G.defers.yY rfl hk.size (λD hD=>hk.mark id hD),ν _,Kept.refl _ _,hS,hS.uJ,λk o hk=>.inr (.inl ⟨k,o,hk,rfl⟩),λ_ _=>rfl,λt=>(G.fr t).yY (λb hb _=>hk.block b hb id) (λb hb hx=>?_) hk.shape (λ_ _=>rfl) (ν _)⟩
 rcases hx with (hx | hx) | hx
 ·exact .inl hx
 ·omega
 ·exact .inr hx
theorem yX.end_ {a0:Act} {w0:World} {f0:Fr} {σ0:St} {ι0:Nat->Nat} {q0:Obj} (G0:yX C E a0 w0 f0 σ0 ι0) (G:yX { C with n0:=σ0.nx } (tz E w0 σ0 ι0 q0) a w f σ ι):yX C E a w f σ ι:=by
 have hsz:E.w0.heap.size<=w0.heap.size:=G0.kept.size
 have hown:∀ b,tA ι0 σ0 b->E.w0.heap.size<=b\/E.K0 b:=by rintro b ⟨k,o,hk,rfl⟩;exact G0.sW k o hk
 have h1:Kept w0 (w0.alloc q0) λ_=>False:=Kept.alloc w0 q0 _;have hs1:(w0.alloc q0).heap.size=w0.heap.size+1:=by show (w0.heap.push q0).size=_; simp
 have hnx:σ0.nx<=σ.nx:=G.nx;have hnx0:=G0.nx
 refine⟨G.size,G.defers,by omega,?_,G.pY.less λb hb=>.inl hb,G0.uJ,λk o hk=>?_,λk hk=>?_,λt=>(G.fr t).yY (λ_ _ _=>rfl) (λb _ hb=>hb.imp .inl id) (λb cur e h=>⟨cur,h,rfl⟩) (λ_ _=>rfl) (ν _)⟩
 ·refine G0.kept.trans (h1.trans G.kept (K'':=λb=>tA ι0 σ0 b\/b=w0.heap.size) (λ_ _ h=>h.elim) λ_ _ h=>h) (λ_ _ h=>h) λb hb hx=>?_
  rcases hx with hx | hx
  ·rcases hown b hx with h | h
   ·omega
   ·exact h
  ·omega
 ·rcases G.sW k o hk with h | h | h
  ·have h':(w0.alloc q0).heap.size<=ι k:=h;left; omega
  ·exact hown _ h
  ·left; rw [h]; exact hsz
 ·have:=G.stay k (show k<σ0.nx by omega);exact this.trans (G0.stay k hk)
theorem yX.back {a2:Act} {w2:World} {f2:Fr} {σ2:St} {ι2:Nat->Nat} {q:Obj} {rd:Option Nat} (hq:∀ x,q≠Obj.deferred x) (G1:yX C E a w f σ ι) (G2:yX { C with n0:=σ.nx,rd:=rd } (tz E w σ ι q) a2 w2 f2 σ2 ι2):yX { C with n0:=σ.nx } (tz E w σ ι q) a w2 f σ2 ι2:=by
 have G:=G1.YY q;have hl:(w.alloc q).heap[w.heap.size]?=some q:=World.alloc_heap_new w q
 refine⟨G.size,G.defers.yY rfl G2.kept.size (λD hD=>G2.kept.mark (λh=>?_) hD),G2.nx,G2.kept,G2.pY,G2.uJ,G2.sW,G2.stay,λt=>?_⟩
 ·rcases h with h | h
  ·exact G.pY.iX hD h
  ·rw [h,hl] at hD;exact hq _ (Option.some.inj hD)
 ·refine(G.fr t).yY (λb hb hM=>G2.kept.block b hb λh=>hM (h.elim (λh=>.inr h) λh=>.inl (.inr h))) (λb hb hM=>?_) G2.kept.shape (λk hk=>G2.stay k hk) G2.nx
  rcases hM with hM | ⟨k,o,hk,rfl⟩
  ·exact .inl hM
  ·rcases G2.sW k o hk with h | h | h
   ·have:(w.alloc q).heap.size<=ι2 k:=h;omega
   ·exact .inr h
   ·exact .inl (.inr h)
theorem yX.RJ {rd:Option Nat} (G:yX C E a w f σ ι):yX { C with rd:=rd } E a w f σ ι:=⟨G.size,G.defers,G.nx,G.kept,G.pY,G.uJ,G.sW,G.stay,G.fr⟩
theorem yX.QE (G:yX C E a w f σ ι):yX C E a w.drew f σ ι:=by have hk:Kept w w.drew λ_=>False:=(Kept.refl _ _).drew;exact⟨G.size,G.defers.yY rfl (ν _) λD hD=>hD,G.nx,G.kept.drew,G.pY.ext hk,G.uJ,G.sW,G.stay,G.fr.yY (λb hb _=>rfl) (λ_ _ h=>h) hk.shape (λ_ _=>rfl) (ν _)⟩
theorem yX.bare (G:yX C E a w f σ ι):yX C E { tmps:=a.tmps,defers:=[] } w f σ ι:=⟨G.size,.none rfl G.defers.1,G.nx,G.kept,G.pY,G.uJ,G.sW,G.stay,G.fr⟩
theorem yX.XI {b0:Nat} {w':World} (G:yX C E a w f σ ι) (hk:Kept w w' λb=>b=b0) (hM:E.M0 b0) (hK:E.K0 b0) (hd:∀ x,w.heap[b0]?≠some (Obj.deferred x)):yX C E a w' f σ ι:=G.tick hk hM hK hd
theorem yC.bt {M0:Nat->Prop} (hS:yC M0 w σ ι) {D:Nat} {x:Loop} (h:w.heap[D]?=some (Obj.loop x)):¬ tA ι σ D:=by
 rintro ⟨k,o,hk,rfl⟩
 rcases(hS.holds k o hk).2 with ⟨_,cur,e,h1,_⟩ | ⟨_,es,h1,_⟩
 ·rw [h] at h1; cases h1
 ·rw [h] at h1; cases h1
theorem ZJ {P:Program} {N:Nat} {own:List Nat} {code:Code} {g:wQ} {ps:List Nat} {x y:DC} (h:vC P N own code=some (.jL g ps x y)):∃ g0 ps0 a c,code = .rangeFunc g0 ps0 a c/\xM N g0=some g/\ps0.toList=ps/\vC P N own a=some x/\vC P N own c=some y:=by
 cases code with
 | region id ops draw=>rcases vQ h with ⟨_,_,e⟩ | ⟨_,⟨_,_,_,_,e⟩ | ⟨_,_,_,_,e⟩ | ⟨_,_,_,_,e⟩⟩ | ⟨_,_,⟨_,_,_,e⟩,_⟩ <;> cases e
 | rangeFunc g0 ps0 a c=> simp only [vC,zO,DC.jL.injEq] at h;obtain⟨g',hg,dx,hx,dy,hy,rfl,rfl,rfl,rfl⟩:=h;exact⟨g0,ps0,a,c,rfl,hg,rfl,hx,hy⟩
 | seq a b=> simp only [vC,zO] at h;obtain⟨dx,hx,dy,hy,h⟩:=h;rcases wW dx dy with e | ⟨_,_,_,_,_,_,_,_,_,_,_,_,e,_⟩ <;> rw [e] at h <;> cases h
 | _=>simp [vC,γ] at h
theorem rk (hrd:C.rd=none) {g:wQ} {p0 p1:Nat} {dx dy:DC} {Q:Exit->Fr->St->Prop} {gi:FuncId} {xZ:List (List D)} {els0:D} (hB:Yq C.P gi) (hg:uX f g = .fn gi [.ptr [els0]]) (he:els0 = .sl 2 xZ\/(els0 = .xU/\xZ = [])) (hp:p0<C.N/\p1<C.N)
  (J:Nat->St->Prop) (h0:J 0 σ)
  (round:∀ l k σk,k<xZ.length->J k σk->wpS { C with n0:=σ.nx,rd:=some l } dx ((f.put (some p0) (.int .i64 ((xZ.length-1-k:Nat):Int))).put (some p1) (.agg (xZ.getD (xZ.length-1-k) []))) σk
   (qT (λf1 σ1=>wpS { C with n0:=σ.nx,rd:=some l } dy f1 σ1 λe f2 σ2=>e = .normal/\∃ f3 σ3,yV { C with n0:=σ.nx,rd:=some l } f2 σ2 f3 σ3/\J (k+1) σ3) λ_ _ _=>False))
  (done:∀ σ',J xZ.length σ'->Q .normal f σ'):wpS C (.jL g [p0,p1] dx dy) f σ Q:=by
 intro code hc E a w ⟨ι,G⟩;obtain⟨g0,ps0,x,y,rfl,hg0,hps,hx,hy⟩:=ZJ hc;obtain rfl:ps0 = #[p0,p1]:=by rw [<- hps]
 obtain⟨vs,hv,hv1,hv2⟩:=(hg ▸ qW G.fr hg0).jY;have hv1':vs.size=1:=hv1;have hvp:=hv2 0 (by show 0<1; omega);obtain⟨Bs,o,vs0,hvB,_,hMB,hcB,hrB⟩:=R.sP (cs:=[els0]) hvp
 have hlb:vs = #[.pointer (some ⟨Bs,o,none⟩)]:=by
  refine Array.ext (by rw [hv1']; rfl) λi h1 h2=>?_;have hi0:i=0:=by rw [hv1'] at h1; omega
  subst hi0;have:vs.getD 0 undef=vs[0]:=by simp [Array.getD,h1]
  rw [this] at hvB;rw [hvB]; rfl
 have hcB0:=hcB 0 (by show 0<1; omega);have hrB0:=hrB 0 (by show 0<1; omega);generalize vs0 0=sv at hcB0 hrB0
 obtain⟨sa,b,off,cap,va,vb,hsv,hnm,hsa,hcel⟩:∃ (sa:Option Addr) (b off cap:Nat) (va vb:Nat->Value),sv = .slice sa xZ.length cap/\xZ.length<=maxLen/\(0<xZ.length->sa=some ⟨b,off,none⟩/\ ¬ yR E.M0 ι σ b)/\
   ∀ i,i<xZ.length->w.cell? ⟨b,off+i*2,none⟩= some (va i)/\ w.cell? ⟨b,off+i*2+1,none⟩= some (vb i)/\ (xZ.getD i []).length=2/\RP (yR E.M0 ι σ) w (va i) ((xZ.getD i []).getD 0 .top)/\ RP (yR E.M0 ι σ) w (vb i) ((xZ.getD i []).getD 1 .top):=by
  rcases he with rfl | ⟨rfl,rfl⟩
  ·rcases(R.pure (ι:=ι) (n:=σ.nx) hrB0).kA with ⟨ad,cap,e1,rfl,hcap⟩ | ⟨b,off,cap,vs,e1,g1,g2,g3,g4,g5,g6,g7⟩
   ·exact⟨ad,0,0,cap,λ_=>undef,λ_=>undef,e1,by simp,λh=>absurd h (by simp),λi hi=>absurd hi (by simp)⟩
   ·refine⟨_,b,off,cap,λi=>vs i 0,λi=>vs i 1,e1,by omega,λ_=>⟨rfl,g2⟩,λi hi=>?_⟩;have hm:xZ.getD i [] ∈ xZ:=by simp [List.getD,hi]
    have q0:=g6 i hi 0 (by omega);rw [Nat.add_zero] at q0;exact⟨q0,g6 i hi 1 (by omega),g5 _ hm,g7 i hi 0 (by omega),g7 i hi 1 (by omega)⟩
  ·have:=(R.pure (ι:=ι) (n:=σ.nx) hrB0).uW;exact⟨none,0,0,0,λ_=>undef,λ_=>undef,this,by simp,λh=>absurd h (by simp),λi hi=>absurd hi (by simp)⟩
 subst hsv;have hF:C.F=Fence.wide:=by unfold Cx.F; rw [hrd]; rfl
 rw [hF];obtain⟨w',hw'⟩:∃ w',w'=w.alloc (.deferred (some [])):=⟨_,rfl⟩;have G':yX C E a w' f σ ι:=by rw [hw']; exact G.lay _
 have hws:w'.heap.size=w.heap.size+1:=by rw [hw']; show (w.heap.push _).size=_; simp
 have hkw:Kept w w' λ_=>False:=by rw [hw']; exact Kept.alloc w _ _
 have hD':w'.heap[w.heap.size]?=some (Obj.deferred (some [])):=by rw [hw']; exact World.alloc_heap_new w _
 refine wpIn_rangeFunc λfn _=>?_;obtain⟨rec,hrec⟩:∃ rec:LoopState->Option Code->Loop,rec=λst pe=>{ state:=st,pending:=pe,fn,tmps:=a.tmps,params:=#[p0,p1],assign:=x,body:=y,defers:=w.heap.size }:=⟨_,rfl⟩;obtain⟨W1,hW1⟩:∃ W1,W1=w'.alloc (.loop (rec .ready none)):=⟨_,rfl⟩;have hk1:Kept w' W1 λ_=>False:=by rw [hW1]; exact Kept.alloc w' _ _
 have hl1:W1.heap[w.heap.size+1]?=some (Obj.loop (rec .ready none)):=by rw [hW1,<- hws]; exact World.alloc_heap_new w' _
 have hD1:W1.heap[w.heap.size]?=some (Obj.deferred (some [])):=hk1.mark id hD';have hs1:W1.heap.size=w.heap.size+2:=by rw [hW1]; show (w'.heap.push _).size=_; simp; omega
 refine⟨w.heap.size+1,[{ target:=.collected w.heap.size,args:=#[] }],W1,{ target:=.fn (.func gi) vs,args:=#[.func (.yield (w.heap.size+1)) #[] #[]] },W1,gi,#[.func (.yield (w.heap.size+1)) #[] #[]]++vs,W1,?_,?_,λ_ _=>trivial,?_,λh=>absurd (show false=true from h) (by decide),?_⟩
 ·have:=run_enterLoop_outer (P:=C.P) (w:=w) fn a.tmps #[p0,p1] x y;rw [hW1,hw',hrec];exact this
 ·simp only [resolve,hv];simp [go_sem]
 ·have:=nK hB.1 (#[.func (.yield (w.heap.size+1)) #[] #[]]++vs) W1;simpa [invoke,go_sem] using this
 rw [hlb]
 have hblk:∀ {W:World} {σk:St} {ιk:Nat->Nat},yX { C with n0:=σ.nx } (tz E w' σ ι (.loop (rec .ready none))) a W f σk ιk->∀ b',b'<w.heap.size->¬ yR E.M0 ι σ b'->W.heap[b']?=w.heap[b']?:=λ{W σk ιk} Gk b' hb hM=>by
  have e1:=Gk.kept.block b' (by show b'<(w'.alloc _).heap.size; rw [<- hW1]; omega) λh=>h.elim (λh=>hM (.inr h)) λh=>by omega
  have e2:(w'.alloc (.loop (rec .ready none))).heap[b']?=w'.heap[b']?:=by rw [<- hW1]; exact hk1.block b' (by omega) id
  exact e1.trans (e2.trans (hkw.block b' hb id))
 refine(hB.2 (w.heap.size+1) Bs o b off xZ.length cap sa va vb (λk W=>∃ σk ιk,J k σk/\yX { C with n0:=σ.nx } (tz E w' σ ι (.loop (rec .ready none))) a W f σk ιk/\W.heap[w.heap.size+1]?=some (Obj.loop (rec .ready none))/\ W.heap[w.heap.size]?=some (Obj.deferred (some []))) hnm (λh=>(hsa h).1) ?_ ?_ ?_ W1 ⟨σ,ι,h0,by rw [hW1]; exact G'.YY _,hl1,hD1⟩).mono ?_
 ·rintro k W ⟨σk,ιk,_,Gk,_,_⟩;have hB1:=hblk Gk Bs (iW hcB0) hMB;refine⟨by rw [World.cell?_of_block (w:=w) hB1]; rw [Nat.add_zero] at hcB0; exact hcB0,λi hi=>?_⟩;obtain⟨q1,q2,_⟩:=hcel i hi;have hb1:=hblk Gk b (iW q1) (hsa (by omega)).2;exact⟨by rw [World.cell?_of_block (w:=w) hb1]; exact q1,by rw [World.cell?_of_block (w:=w) hb1]; exact q2⟩
 ·rintro k W ⟨σk,ιk,hJ,Gk,hl,hD⟩;exact⟨σk,ιk,hJ,Gk.QE,hl,hD⟩
 ·rintro k W hk ⟨σk,ιk,hJ,Gk,hl,hD⟩;obtain⟨_,_,q3,q4,q5⟩:=hcel (xZ.length-1-k) (by omega);have hy0:=run_yield (P:=C.P) (args:=#[.int .i64 ((xZ.length-1-k:Nat):Int),.agg #[va (xZ.length-1-k),vb (xZ.length-1-k)]]) hl (by rw [hrec]; rfl);rw [hrec] at hy0;refine⟨fn,_,x,y,hy0,roundIn_of_wpIn trivial ?_⟩
  have hMk:∀ b',b'<w.heap.size->yR (tz E w' σ ι (.loop (rec .ready none))).M0 ιk σk b'->yR E.M0 ι σ b':=λb' hb' hM=>by
   rcases hM with (hM | hM) | ⟨k',o',hk',rfl⟩
   ·exact .inl hM
   ·have:b'=w'.heap.size:=hM;omega
   ·rcases Gk.sW k' o' hk' with h | h | h
    ·have:W1.heap.size<=ιk k':=by rw [hW1]; exact h
     omega
    ·exact .inr h
    ·have:ιk k'=w'.heap.size:=h;omega
  have hRk:∀ {v:Value} {d:D},RP (yR E.M0 ι σ) w v d->RP (yR (tz E w' σ ι (.loop (rec .ready none))).M0 ιk σk) W v d:=λh=>h.yY (hblk Gk) hMk;have hmin:IntKind.i64.min = -9223372036854775808:=rfl;have hmax:IntKind.i64.max=9223372036854775807:=rfl;have hml:xZ.length<=9223372036854775807:=by simp only [maxLen] at hnm; omega
  have G1:=((Gk.open_.RJ (rd:=some (w.heap.size+1))).bare.set (dst:=some p0) (v:=.int .i64 ((xZ.length-1-k:Nat):Int)) (d:=.int .i64 ((xZ.length-1-k:Nat):Int)) (.pure (.int (by omega))) (λt ht=>by cases ht; exact hp.1)).set (dst:=some p1)
   (v:=.agg #[va (xZ.length-1-k),vb (xZ.length-1-k)]) (d:=.agg (xZ.getD (xZ.length-1-k) [])) (.pure (.agg (by rw [q3]; rfl) λj hj=>by
    rw [q3] at hj;have:j=0\/j=1:=by omega
    rcases this with rfl | rfl
    ·exact hRk q4
    ·exact hRk q5)) (λt ht=>by cases ht; exact hp.2)
  have hr:=round (w.heap.size+1) k σk hk hJ x hx _ _ _ ⟨ιk,G1⟩
  have hact:({ tmps:=(#[p0,p1].zip #[Value.int .i64 ((xZ.length-1-k:Nat):Int),Value.agg #[va (xZ.length-1-k),vb (xZ.length-1-k)]]).foldl (λtmps (t,a)=>tmps.setIfInBounds t a) a.tmps,defers:=[] }:Act)=
    (({ tmps:=a.tmps,defers:=[] }:Act).put (some p0) (.int .i64 ((xZ.length-1-k:Nat):Int))).put (some p1) (.agg #[va (xZ.length-1-k),vb (xZ.length-1-k)]):=by simp [Act.put]
  rw [<- hact] at hr;refine wpIn_mono hr λe a1 w1 hq=>?_;obtain⟨f1,σ1,⟨ι1,G1'⟩,hq⟩:=hq
  cases e with
  | normal=>
   have hl1':=G1'.kept.mark (Gk.pY.bt hl) hl;have hD1':=G1'.kept.mark (Gk.pY.iX hD) hD;have Gc:=(Gk.RJ (rd:=some (w.heap.size+1))).close_ G1';have hlt1:=(μ.1 hl1').1;obtain⟨r6,hr6⟩:∃ r6,r6 = { rec .ready none with state:=.busy }:=⟨_,rfl⟩;have hbr:=run_beginRound (P:=C.P) hl1' (by rw [hrec]);rw [<- hr6] at hbr;have G2:=Gc.XI (w':=w1.putObj (w.heap.size+1) (.loop r6)) (pK hl1' λ_ _ e=>by cases e) (.inr hws.symm) (.inr hws.symm) λx e=>by rw [hl1'] at e; cases e
   have hl2:(w1.putObj (w.heap.size+1) (.loop r6)).heap[w.heap.size+1]?=some (Obj.loop r6):=World.putObj_heap_same hlt1;have hD2:(w1.putObj (w.heap.size+1) (.loop r6)).heap[w.heap.size]?=some (Obj.deferred (some [])):=(World.putObj_heap_other (by omega)).trans hD1';refine⟨_,hbr,?_⟩;have hr2:=hq y hy _ _ _ ⟨ι1,G2.open_⟩;refine wpIn_mono hr2 λe a2 w2 hq2=>?_;obtain⟨f2,σ2,⟨ι2,G3⟩,rfl,f3,σ3,hwk,hJ3⟩:=hq2;have hl3:=G3.kept.mark (G2.pY.bt hl2) hl2;have hD3:=G3.kept.mark (G2.pY.iX hD2) hD2;obtain⟨ι3,G5⟩:=hwk _ a2 w2 ⟨ι2,G2.close_ G3⟩;have hend:=run_endRound (P:=C.P) none hl3;have hr7:({ r6 with state:=if (none:Option Code).isNone then .ready else .done,pending:=none }:Loop)= rec .ready none:=by rw [hr6,hrec]; rfl
   rw [hr7] at hend;have hlt2:=(μ.1 hl3).1;have G6:=G5.XI (w':=w2.putObj (w.heap.size+1) (.loop (rec .ready none))) (pK hl3 λ_ _ e=>by cases e) (.inr hws.symm) (.inr hws.symm) λx e=>by rw [hl3] at e; cases e
   exact⟨_,_,hend,rfl,σ3,ι3,hJ3,G'.back (rd:=some (w.heap.size+1)) (λ_ e=>by cases e) G6,World.putObj_heap_same hlt2,(World.putObj_heap_other (by omega)).trans hD3⟩
  | exit id=>exact hq.elim
  | goto t=>exact hq.elim
  | ret=>exact hq.elim
  | panic ch=>exact hq.elim
  | outgrown=>exact hq.elim
 ·rintro e W' ⟨⟨v,rfl⟩,σ',ι',hJ',Ge,hl,hD⟩
  obtain⟨r5,hend⟩:∃ r5,(Instr.endLoop (w.heap.size+1)).run C.P W' = .ok none (W'.putObj (w.heap.size+1) (.loop r5)):=by
   have hend:=run_endLoop (P:=C.P) hl (by rw [hrec]; simp);have hpe:(rec .ready none).pending=none:=by rw [hrec]
   rw [hpe] at hend;exact⟨_,hend⟩
  refine⟨none,_,hend,f,σ',⟨ι',?_⟩,done σ' hJ'⟩;have hlt:w.heap.size+1<W'.heap.size:=(μ.1 hl).1;have G3:=Ge.XI (w':=W'.putObj (w.heap.size+1) (.loop r5)) (pK hl λ_ _ e=>by cases e) (.inr hws.symm) (.inr hws.symm) λx e=>by rw [hl] at e; cases e
  have G4:=G'.end_ G3;have hD4:(W'.putObj (w.heap.size+1) (.loop r5)).heap[w.heap.size]?=some (Obj.deferred (some [])):=(World.putObj_heap_other (by omega)).trans hD;obtain⟨hB0,l0,hd1,hd2,hd3⟩:=G4.defers;obtain⟨_,l1,he1,_,he3⟩:=G.defers
  refine⟨G4.size,⟨hB0,w.heap.size :: l0,?_,?_,?_⟩,G4.nx,G4.kept,G4.pY,G4.uJ,G4.sW,G4.stay,G4.fr⟩
  ·show [_]++a.defers=_;rw [hd1]; rfl
  ·refine List.nodup_cons.2 ⟨λhm=>?_,hd2⟩;have hmem:({ target:=.collected w.heap.size,args:=#[] }:Deferred)∈ a.defers:=by rw [hd1]; exact List.mem_map.2 ⟨_,hm,rfl⟩
   rw [he1] at hmem;obtain⟨D,hDl,hDe⟩:=List.mem_map.1 hmem
   have hDw:D=w.heap.size:=by have:=congrArg Deferred.target hDe;simpa using this
   have:=(μ.1 (he3 D hDl).1).1;omega
  ·intro D hD2
   rcases List.mem_cons.1 hD2 with rfl | hD2
   ·exact⟨hD4,G.defers.1⟩
   ·exact hd3 D hD2
end
end Go.Pd
