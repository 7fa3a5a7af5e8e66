/- Part XN. -/
import Derived.Test.YtjmfdgonjighpaaZqXA
import Derived.Test.YtjmfdgonjighpaaZqXS
set_option linter.unusedSectionVars false
set_option linter.unusedVariables false
set_option linter.unusedSimpArgs false
set_option linter.defProp false
set_option maxRecDepth 20000
set_option maxHeartbeats 1000000
open Option renaming map_eq_some_iff->γ,map_some->δ,bind_eq_some_iff->ε,getD_some->ζ
open Bool renaming and_eq_true->η,false_eq_true->θ
open List renaming all_eq_true->κ,contains_eq_mem->μ,getElem?_eq_getElem->ν,getElem?_map->ξ,length_take->ο
open Nat renaming le_refl->π,lt_or_ge->υ
namespace Go.Pd
open Go
variable [vA]
theorem U5 {P:Program} {N:Nat} {own:List Nat} {code:Code} {ms:List Nat} {l:List xN} {s:Nat} {xs:List Nat} {y:Nat} (h:tW P N own code=some (.mK ms l s xs y)) :
  ∃ id ops,code = .region id ops true/\wI (lW P N own ops) ops.toList=some l/\own.contains 77777=false/\ms=yI ops.toList []/\T4 own ops.toList l s xs y:=by
 cases code with
 | region id ops draw=>
  simp only [tW] at h
  split at h
  ·rename_i d hd;cases h
   rcases nF hd with ⟨_,h2 | h2 | h2⟩ | ⟨_,h2,_⟩
   ·obtain⟨_,_,_,_,_,_,_,_,_,_,_,_,_,_,_,e⟩:=tS h2; cases e
   ·obtain⟨_,_,_,_,_,_,_,_,_,_,_,_,_,_,e⟩:=oG h2; cases e
   ·obtain⟨_,_,_,_,_,_,_,_,_,_,_,e⟩:=oF h2; cases e
   ·obtain⟨_,_,_,_,_,_,_,_,_,_,_,_,_,_,_,e⟩:=tS h2; cases e
  ·simp only [Option.bind_eq_bind,ε] at h;obtain⟨l,hl,h⟩:=h
   split at h
   ·rename_i hdr
    split at h
    ·rename_i hok
     split at h
     ·rename_i d hv;cases h;obtain⟨_,_,_,_,_,_,e,_⟩:=nH hv;cases e
     ·rcases qK h with h | ⟨_,_,e,hR⟩
      case inr=> cases e;subst hdr;exact⟨id,ops,rfl,hl,hok.1,rfl,hR⟩
      rcases pC h with ⟨e,_⟩ | ⟨_,_,_,_,_,e,_⟩ | ⟨_,_,_,_,_,_,_,_,_,_,_,e,_⟩ <;> cases e
    ·split at h
     ·rename_i hq
      split at h
      ·rename_i d hd;cases h;obtain⟨_,_,_,_,_,_,_,e,hp,hR⟩:=nG hd;cases e
      ·obtain⟨_,_,e,hR⟩:=pT h;cases e;subst hdr;exact⟨id,ops,rfl,hl,hq,rfl,hR⟩
     ·cases h
   ·simp at h
 | rangeFunc g0 ps0 a c=> simp [tW,ε] at h
 | seq a b=> simp only [tW,zO] at h;obtain⟨dx,hx,dy,hy,h⟩:=h;rcases vT dx dy with e | ⟨_,_,_,_,_,_,_,_,_,_,_,_,e,_⟩ <;> rw [e] at h <;> cases h
 | _=>simp [tW,ε] at h
def fC (tr:List (D × St)) (xs:List Nat) (x y:Nat) (dA:D) (i:Nat) (o:xN):xN:= if i=y then⟨o.dst,none,.mv (.c dA)⟩ else if xs.contains i=true/\i<x then⟨o.dst,none,.mv (.c (wK tr i))⟩ else o
def fA (l:List xN) (tr:List (D × St)) (xs:List Nat) (x y:Nat) (dA:D):List xN:=l.mapIdx λi o=>fC tr xs x y dA i o
theorem Ri {l:List xN} {tr:List (D × St)} {xs:List Nat} {x y:Nat} {dA:D} (i:Nat):(fA l tr xs x y dA)[i]?=(l[i]?).map (fC tr xs x y dA i):=by unfold fA; rw [List.getElem?_mapIdx]
theorem z8 {l:List xN} {tr:List (D × St)} {xs:List Nat} {x y:Nat} {dA:D}:(fA l tr xs x y dA).length=l.length:=by simp [fA]
theorem y6 {tr:List (D × St)} {xs:List Nat} {x y:Nat} {dA:D} {i:Nat} {o:xN}:(fC tr xs x y dA i o).dst=o.dst:=by
 unfold fC; split
 ·rfl
 ·split <;> rfl
def jw (C:Cx) (ms:List Nat) (l:List xN) (s:Nat) (jE:List Nat) (tr:List (D × St)) (f:Fr) (σ:St):Prop:=
 ∀ i dop p,i<s->jE.contains i=false->p<=s->l[i]?=some dop->dop.k.zH=false->(∀ m,m<s->jE.contains m=true->(m<p->ordered ms i m=false)/\ (p<=m->ordered ms m i=false)) ->
  xR dop (wM (l.take i) (tr.take i) f) (zC C (zB (tr.take p) σ) (wP (wM (l.take i) (tr.take i) f)) dop.k λx y=>x=wK tr i/\y=zB (tr.take p) σ) (.uO=wK tr i)
def wc (s:Nat) (jE:List Nat) (tr:List (D × St)) (σ:St):Prop:=∀ i,i<s->jE.contains i=false->zB (tr.take (i+1)) σ=zB (tr.take i) σ
def dw (ms:List Nat) (l:List xN) (xs:List Nat) (x y:Nat):List Nat:=(List.range l.length).filterMap λj=>if j==y || (xs.contains j&&decide (x<=j)) || ordered ms x j || ordered ms y j then none else(l[j]?).bind (·.dst)
structure Sw (C : Cx) (ms : List Nat) (l : List xN) (s : Nat) (xs : List Nat) (y : Nat) (f : Fr) (σ : St) (tr : List (D × St)) (x : Nat) (dA : D) (σA : St) (tr' : List (D × St)) : Prop where
 al:∀ m2,l[y]?=some m2->zC C (zB (tr.take x) σ) (wP f) m2.k λa b=>a=dA/\b=σA
 trace:Trace C (fA l tr xs x y dA) f σA tr'
 len:tr'.length=l.length
 stays:wc s (xs.filter λi=>decide (x<=i)) tr' σA
 swap:jw C ms (fA l tr xs x y dA) s (xs.filter λi=>decide (x<=i)) tr' f σA
 free:∀ t ∈ dw ms l xs x y,(wM l tr f).get t=(wM (fA l tr xs x y dA) tr' f).get t
 MN:yJ C (wM (fA l tr xs x y dA) tr' f) (zB tr' σA) (wM l tr f) (zB tr σ)
structure ON (C : Cx) (ms : List Nat) (l : List xN) (s : Nat) (xs : List Nat) (y : Nat) (f : Fr) (σ : St) (tr : List (D × St)) : Prop where
 trace:Trace C l f σ tr
 len:tr.length=l.length
 stays:wc s (xs ++ [y]) tr σ
 swap:jw C ms l s (xs ++ [y]) tr f σ
 alt:y<s->∀ x ∈ xs,∃ dA σA tr',Sw C ms l s xs y f σ tr x dA σA tr'
theorem least {p:Nat->Prop}:∀ n,p n->∃ m,p m/\∀ k,k<m->¬ p k:=by
 intro n
 induction n using Nat.strongRecOn with
 | _ n ih=>
  intro h
  by_cases hk:∃ k,k<n/\p k
  ·obtain⟨k,h1,h2⟩:=hk;exact ih k h1 h2
  ·exact⟨n,h,λk h1 h2=>hk ⟨k,h1,h2⟩⟩
theorem y7 {a x:xN} {d:D} (h:tH a x=true):tH ⟨a.dst,none,.mv (.c d)⟩ x=true:=by
 unfold tH at h ⊢;rw [η] at h ⊢;refine⟨h.1,?_⟩
 split
 ·rfl
 ·rfl
theorem y8 {a x:xN} {d:D} (h:tH x a=true):tH x ⟨a.dst,none,.mv (.c d)⟩= true:=by
 unfold tH at h ⊢;rw [η] at h ⊢;refine⟨?_,h.2⟩;have h1:=h.1
 split at h1
 ·rename_i e;rw [η] at h1;simp only [η];exact⟨rfl,h1.2⟩
 ·rfl
theorem WG {tr:List (D × St)} {xs:List Nat} {x y:Nat} {dA:D} {i j:Nat} {a b:xN} (h:tH a b=true):tH (fC tr xs x y dA i a) (fC tr xs x y dA j b)= true:=by
 have h1:tH (fC tr xs x y dA i a) b=true:=by
  unfold fC; split
  ·exact y7 h
  ·split
   ·exact y7 h
   ·exact h
 conv=>lhs; rhs; unfold fC
 split
 ·exact y8 h1
 ·split
  ·exact y8 h1
  ·exact h1
theorem vy {C:Cx} (hm:C.P.follows .mixedOrders=true) {ms:List Nat} {l:List xN} {s:Nat} {xs:List Nat} {y:Nat} {f:Fr} {σ:St} {tr:List (D × St)} {Q:Exit->Fr->St->Prop}
  (h:ON C ms l s xs y f σ tr) (hQ:Q .normal (wM l tr f) (zB tr σ)):wpS C (.mK ms l s xs y) f σ Q:=by
 intro code hc E a w G;obtain⟨id,ops,rfl,hd,hq,rfl,R⟩:=U5 hc;obtain⟨k1,hlen,hstays,hswap0,halt⟩:=h;have hsl:=R.len;obtain⟨hdl,hdg⟩:=zA hd;have hdl2:l.length=ops.size:=by simpa using hdl
 have mu0:∀ i,i<s->(vC C.own l i=true ↔ (xs ++ [y]).contains i=true):=λi hi=>by rw [R.jE i hi]; simp [μ]
 have mu0f:∀ i,i<s->vC C.own l i=false->(xs ++ [y]).contains i=false:=λi hi h=>by
  cases e:(xs ++ [y]).contains i with
  | false=>rfl
  | true=>rw [(mu0 i hi).2 e] at h; cases h
 have sp:jt ops l s (vC C.own l) (λi j=>xs.contains i&&j==y):=gY R.ok;have bk:js ops:=gZ R.ok;have lts:∀ x ∈ xs,x<s:=λx hx=>(R.lt x hx).2
 have loudAt:∀ x ∈ xs,wT l x=false:=λx hx=>by obtain⟨o,h1,h2,_⟩:=R.lq x hx;rw [wA h1]; exact h2
 have loudM:∀ m,m<s->vC C.own l m=true->wT l m=false:=λm hms hmm=>by
  rcases(R.jE m hms).1 hmm with h | rfl
  ·exact loudAt m h
  ·obtain⟨m2,ly,hal0,_⟩:=R.alloc hms;rw [wA ly]; exact(gX hal0).2
 have stays1:∀ i,i<s->vC C.own l i=false->zB (tr.take (i+1)) σ=zB (tr.take i) σ:=λi hi him=>hstays i hi (mu0f i hi him)
 have G':Good C E a { w with drawn:=w.drawn+1 } f σ:=by obtain⟨ι,G⟩:=G;have hk:Kept w w.drew λ_=>False:=(Kept.refl _ _).drew;have hS:=G.oC.ext hk;exact⟨ι,⟨G.size,G.defers.xC rfl (π _) λD hD=>hD,G.nx,G.kept.drew,hS,G.oS,G.rQ,G.stay,G.fr.xC (λb hb _=>rfl) (λ_ _ h=>h) hk.shape (λ_ _=>rfl) (π _)⟩⟩
 have hf0:∀ j,(Array.replicate ops.size false).getD j false=false:=getD_replicate_false ops.size
 refine wpIn_region_any hm (iI (ds:=l) (tr:=tr) (s:=s) (mu:=vC C.own l) (f:=f) (σ:=σ) (xo:=λi j=>xs.contains i&&j==y) (l0:=λ_=>false) hdl (λi o h=>by obtain⟨dop,h1,h2⟩:=hdg i o h; exact⟨dop,h1,λ_=>h2⟩) sp bk (λi j h=>by simp only [η,beq_iff_eq,μ,decide_eq_true_eq] at h;rw [h.2]; exact(R.lt i h.1).1) k1 hlen hsl loudM stays1 (λi dop p his him hps hdop hns hor=>?_) (λa w G'=>⟨_,_,G',hQ⟩) (λfuel listed a w i j hfew I hi hxo hlj=>?_) _ _ _ _ ?_ ⟨by simp,(λ_ j _ h=>by rw [hf0] at h; cases h),(λ_ h=>by cases h),(λj o _ hT=>by rw [hf0] at hT; cases hT),f,λt=>?_,?_⟩)
 ·exact hswap0 i dop p his (mu0f i his him) hps hdop hns λm hms hmm=>hor m hms ((mu0 m hms).2 hmm)
 ·-- THE OBJECT COMES FIRST
  simp only [η,beq_iff_eq,μ,decide_eq_true_eq] at hxo;obtain⟨hjx,rfl⟩:=hxo;obtain⟨hun,o,ho,hall⟩:=mem_ready.1 hi;have hlt:i<ops.size:=(Array.getElem?_eq_some_iff.1 ho).1
  have his:i<s:=by
   by_cases h:i<s
   ·exact h
   ·have:=R.KX h; omega
  obtain⟨m2,ly,hal0,hm2⟩:=R.alloc his;obtain⟨hal,hal2⟩:=gX hal0;have hg2:=sH hm2;have hTi:listed.getD i false=false:=getD_both hun;have hol:ops.toList[i]?=some o:=by simpa using ho
  obtain⟨dop,hdop,hmk⟩:=hdg i o hol;obtain rfl:dop=m2:=by rw [ly] at hdop; exact(Option.some.inj hdop).symm
  have hTlen:∀ j,listed.getD j false=true->j<ops.toList.length:=by
   intro j hj
   rcases υ j listed.size with h | h
   ·simp; rw [<- I.size]; exact h
   ·simp [Array.getElem?_eq_none h] at hj
  have late:∀ k,listed.getD k false=false->∀ m,ordered (yI ops.toList []) k m=true->listed.getD m false=false:=by
   intro k hk m hm2
   by_cases h:listed.getD m false=true
   ·have this:listed.getD k false=true:=sE (T:=λj=>listed.getD j false) I.closed hTlen m h k hm2;rw [hk] at this;cases this
   ·simpa using h
  have hopsj:∀ j,j<l.length->ops.toList[j]?=some (ops.toList.getD j o):=λj hj=>by
   have:j<ops.toList.length:=by omega
   simp only [List.getD,ν this,ζ]
  have hdsj:∀ j,j<l.length->l[j]?=some (l.getD j dop):=λj hj=>by simp [List.getD,hj]
  have post0:∀ k,k<l.length->s<=k->wT l k=false->listed.getD k false=false:=by
   intro k hk j6 hns;rw [wA (hdsj k hk)] at hns
   rcases sp (hopsj k hk) (hdsj k hk) ly (by omega:i<k) with h | ⟨_,h | h | h | h⟩
   ·exact late i hTi k h
   ·omega
   ·rw [hal2] at h; cases h
   ·rw [hns] at h; cases h
   ·simp at h; omega
  obtain⟨x,⟨hx,hlx⟩,hmin⟩:=least (p:=λn=>n ∈ xs/\listed.getD n false=false) j ⟨hjx,hlj⟩
  have before:∀ k,k ∈ xs->k<x->listed.getD k false=true:=λk hk hkx=>by
   cases e:listed.getD k false with
   | true=>rfl
   | false=>exact absurd ⟨hk,e⟩ (hmin k hkx)
  have behind:∀ k,k ∈ xs->x<=k->listed.getD k false=false:=λk hk hkx=>by
   by_cases e:x=k
   ·subst e; exact hlx
   ·obtain⟨ox,lx,sx,_⟩:=R.lq x hx;obtain⟨ok,lk,sk,_⟩:=R.lq k hk;have j6:=lts k hk;have hki:=(R.lt k hk).1
    rcases sp (hopsj k (by omega)) lk lx (by omega:x<k) with h | ⟨_,h | h | h | h⟩
    ·exact late x hlx k h
    ·exact absurd ⟨(R.jE x (lts x hx)).2 (.inl hx),(R.jE k j6).2 (.inl hk)⟩ h.2
    ·rw [sx] at h; cases h
    ·rw [sk] at h; cases h
    ·simp only [η,beq_iff_eq] at h; omega
  have hxi:=(R.lt x hx).1;obtain⟨dA,σA,tr',A⟩:=halt his x hx;have hA:=A.al _ ly;have j1:=A.trace;obtain⟨l',hl'⟩:∃ l',l'=fA l tr xs x i dA:=⟨_,rfl⟩;have hll:l'.length=l.length:=by rw [hl']; exact z8
  have hlen':tr'.length=l'.length:=by rw [A.len,hll]
  have lat:∀ k,l'[k]?=(l[k]?).map (fC tr xs x i dA k):=λk=>by rw [hl']; exact Ri k
  have same:∀ k o',¬ k=i->¬ (xs.contains k=true/\k<x)->fC tr xs x i dA k o'=o':=λk o' h1 h2=>by unfold fC; rw [if_neg h1,if_neg h2]
  have lsame:∀ k,¬ k=i->¬ (xs.contains k=true/\k<x)->l'[k]?=l[k]?:=λk h1 h2=>by
   rw [lat]
   cases e:l[k]? with
   | none=>rfl
   | some o'=>rw [δ,same k o' h1 h2]
  have ly':l'[i]?=some ⟨dop.dst,none,.mv (.c dA)⟩:=by rw [lat,ly,δ]; unfold fC; rw [if_pos rfl]
  have ldst:∀ k,wC l' k=wC l k:=λk=>by
   unfold wC; rw [lat]
   cases e:l[k]? with
   | none=>rfl
   | some o'=>simp [y6]
  rw [<- hl'] at j1
  have tdy:wK tr' i=dA:=by obtain⟨d,σ',h1,h2⟩:=j1.at i _ ly';simp only [xR,zC,pW,wP] at h2;simp only [wK,h1,δ,ζ];exact h2.1.symm
  have hT':∀ k,(listed.setIfInBounds i true).getD k false=if i=k then true else listed.getD k false:=by
   intro k
   by_cases h:i=k
   ·subst h;have:i<listed.size:=by rw [I.size]; exact hlt
    simp [this]
   ·rw [if_neg h];exact getD_set_ne false h
  obtain⟨g,hg,G2⟩:=I.Xy
  have hsil:∀ (ds:List xN) (tr:List (D × St)) (f:Fr) (σ:St) (mu:Nat->Bool),Trace C ds f σ tr->(∀ i,i<s->mu i=false->zB (tr.take (i+1)) σ=zB (tr.take i) σ)->∀ j,j<ds.length->quiet ds mu s j=true->zB (tr.take (j+1)) σ=zB (tr.take j) σ:=by
   intro ds tr f σ mu ht hpre j hj hs
   by_cases hsj:wT ds j=true
   ·have ho:ds[j]?=some ds[j]:=ν hj;obtain⟨d,σ',h1,h2⟩:=ht.at j _ ho;rw [iE tr σ j _ h1];simp only [wT,ho,δ,ζ] at hsj;unfold xR at h2
    split at h2
    ·exact(rD hsj h2).1
    ·split at h2
     ·exact(Classical.em _).elim (λhbw=>(rD hsj ((vD h2).1 hbw)).1) (λhbw=>((vD h2).2 hbw).2)
     ·exact h2.2
     ·exact h2.elim
   ·simp only [quiet,Bool.or_eq_true,hsj,false_or,η,decide_eq_true_eq,θ,Bool.not_eq_true'] at hs;exact hpre j hs.1 hs.2
  have hst:SV (quiet l (vC C.own l) s) tr σ (λi=>listed.getD i false) l.length=zB (tr.take x) σ:=by
   rw [kJ (i:=x) (hsil l tr f σ _ k1 stays1) l.length (π _) λk hk hq=>?_,Nat.min_eq_right (by omega)];obtain⟨h1,h2⟩:=vF.1 hq
   rcases υ k s with h | h
   ·rcases(R.jE k h).1 (h2.resolve_right (by omega)) with h3 | rfl
    ·refine⟨λhT=>?_,λhkx=>before k h3 hkx⟩
     rcases υ k x with h4 | h4
     ·exact h4
     ·rw [behind k h3 h4] at hT; cases hT
    ·exact⟨(λhT=>by rw [hTi] at hT; cases hT),λhkx=>by omega⟩
   ·exact⟨(λhT=>by rw [post0 k hk h h1] at hT; cases hT),λhkx=>by omega⟩
  rw [hst] at G2
  have key:xR dop g (zC C (zB (tr.take x) σ) (wP g) dop.k λx y=>x=dA/\y=σA) (D.uO=dA/\zB (tr.take x) σ=σA):=by simp only [xR,hg2];exact lB (λx hx=>by rw [hal] at hx; cases hx) hA
  have muX:∀ k,(xs.filter λi=>decide (x<=i)).contains k=true ↔ k ∈ xs/\x<=k:=λk=>by simp [μ,List.mem_filter]
  have hstep:=gE (next:=wpAnyIn C.F 0 C.P .any ops (LQ C E Q) fuel (listed.setIfInBounds i true)) (Q:=LQ C E Q) (K:=λx y=>x=dA/\y=σA) hmk G2 (sF key (λh=>h) (λh=>h)) (λa' w' d' σ'' G3 hk=>by
   obtain⟨rfl,rfl⟩:=hk
   refine iI (ds:=l') (tr:=tr') (s:=s) (mu:=λk=>(xs.filter λi=>decide (x<=i)).contains k) (f:=f) (σ:=σ'') (xo:=λ_ _=>false) (l0:=λk=>decide (k=i) || (xs.contains k&&decide (k<x))) (by omega) (λk o' h=>?_) (λ{i1 j1 oj di dj} h1 h2 h3 h4=>?_) bk (λ_ _ h=>by cases h) j1 hlen' (by omega) (λm hms hmm=>?_) (λk hk him=>A.stays k hk him) (λk dop2 p his him hps hdq hns hor=>?_) (λa w G'=>⟨_,_,A.MN E a w (by rw [<- hl']; exact G'),hQ⟩) (λ_ _ _ _ _ _ _ _ _ h=>by cases h) _ _ _ _ hfew ⟨by simp [I.size],(λ_ _ h=>by cases h),λk hk=>?_,λk ok hk hT e he hb=>?_,g.put dop.dst d',λt=>?_,?_⟩
   ·obtain⟨dop3,g1,g2⟩:=hdg k o' h;refine⟨_,by rw [lat,g1]; rfl,λh=>?_⟩;simp only [Bool.or_eq_false_iff,decide_eq_false_iff_not,Bool.and_eq_false_iff] at h;rw [same k dop3 h.1 (λhh=>by rcases h.2 with e | e; rw [hh.1] at e; cases e; exact e hh.2)];exact g2
   ·have hj':j1<l.length:=by have:=(List.getElem?_eq_some_iff.1 h2).1; omega
    have hi':i1<l.length:=by omega
    have e2:=hdsj j1 hj';have e3:=hdsj i1 hi';rw [lat,e2] at h2;rw [lat,e3] at h3;simp only [δ,Option.some.injEq] at h2 h3;subst h2; subst h3
    rcases sp h1 e2 e3 h4 with h | ⟨h,h5⟩
    ·exact .inl h
    ·refine .inr ⟨WG h,?_⟩
     have sil:∀ k o',(k=i\/(xs.contains k=true/\k<x))->(fC tr xs x i d' k o').k.zH=true:=λk o' hk=>by
      unfold fC
      by_cases e:k=i
      ·rw [if_pos e]; rfl
      ·rw [if_neg e,if_pos (hk.resolve_left e)]; rfl
     by_cases hz1:i1=i\/(xs.contains i1=true/\i1<x)
     ·exact .inr (.inl (sil _ _ hz1))
     by_cases hz2:j1=i\/(xs.contains j1=true/\j1<x)
     ·exact .inr (.inr (.inl (sil _ _ hz2)))
     rw [same _ _ (λe=>hz1 (.inl e)) (λe=>hz1 (.inr e)),same _ _ (λe=>hz2 (.inl e)) (λe=>hz2 (.inr e))]
     rcases h5 with h5 | h5 | h5 | h5
     ·refine .inl ⟨h5.1,λ⟨q1,q2⟩=>h5.2 ⟨?_,?_⟩⟩
      ·exact(R.jE i1 (by omega)).2 (.inl ((muX i1).1 q1).1)
      ·exact(R.jE j1 (by omega)).2 (.inl ((muX j1).1 q2).1)
     ·exact .inr (.inl h5)
     ·exact .inr (.inr (.inl h5))
     ·simp only [η,beq_iff_eq] at h5;exact absurd (.inl h5.2) hz2
   ·obtain⟨h1,h2⟩:=(muX m).1 hmm;have:=(R.lt m h1).1;have e:=lsame m (by omega) (λhh=>by omega);have:=loudAt m h1;unfold wT at this ⊢;rw [e]; exact this
   ·rw [hl'] at hdq ⊢;exact A.swap k dop2 p his him hps hdq hns hor
   ·simp only [Bool.or_eq_true,decide_eq_true_eq,η,μ] at hk;rw [hT']
    by_cases e:i=k
    ·rw [if_pos e]
    ·rw [if_neg e];have hk:=hk.resolve_left (λe'=>e e'.symm);exact before k hk.1 hk.2
   ·by_cases h:i=k
    ·subst h;rw [hol] at hk;simp at hk; subst hk;exact getD_set_true (hall e he hb)
    ·rw [hT',if_neg h] at hT;exact getD_set_true (I.closed k ok hk hT e he hb)
   ·have hnd:(l'.filterMap (·.dst)).Nodup:=by
     have:l'.filterMap (·.dst)= l.filterMap (·.dst):=by
      have e:l'.map (·.dst)= l.map (·.dst):=by
       apply List.ext_getElem?;intro k;rw [ξ,ξ,lat]
       cases l[k]? with
       | none=>rfl
       | some o'=>simp [y6]
      have e2:∀ l:List xN,l.filterMap (·.dst)= (l.map (·.dst)).filterMap (λo=>o):=λl=>by rw [List.filterMap_map]; rfl
      rw [e2,e2,e]
     rw [this]; exact R.nodup
    by_cases hdt:dop.dst=some t
    ·rw [hdt,Fr.mR,if_pos rfl,mO (i:=i) (by rw [hT' i]; simp) (by rw [ldst,wC,ly]; exact hdt) l'.length (by omega) λk h1 h2 h3=>?_]
     ·exact tdy.symm
     ·have:=gC hnd h3 (by rw [ldst,wC,ly]; exact hdt:wC l' i=some t);omega
    ·have e1:(g.put dop.dst d').get t=g.get t:=by
      cases hdd:dop.dst with
      | none=>rfl
      | some u=>rw [Fr.mR,if_neg (λe=>by subst e; exact hdt hdd)]
     rw [e1,hg t,hll];refine(ij ldst l.length λk hk hkt=>?_).symm;have hki:k≠i:=λe=>by subst e; rw [wC,ly] at hkt; exact hdt hkt
     refine⟨by rw [hT',if_neg (λe=>hki e.symm)],λhT=>?_⟩
     have aJ:t ∈ dw (yI ops.toList []) l xs x i:=by
      unfold dw;refine List.mem_filterMap.2 ⟨k,List.mem_range.2 hk,?_⟩
      have o1:ordered (yI ops.toList []) x k=false:=by
       cases h:ordered (yI ops.toList []) x k with
       | false=>rfl
       | true=>rw [late x hlx k h] at hT; cases hT
      have o2:ordered (yI ops.toList []) i k=false:=by
       cases h:ordered (yI ops.toList []) i k with
       | false=>rfl
       | true=>rw [late i hTi k h] at hT; cases hT
      have o3:¬ (k ∈ xs/\x<=k):=λhh=>by rw [behind k hh.1 hh.2] at hT; cases hT
      rw [if_neg (by simp [o1,o2,hki]; intro h; exact Nat.lt_of_not_le λh'=>o3 ⟨h,h'⟩)];exact hkt
     have:=A.free t aJ;rw [<- hl'] at this;rw [zp hlen R.nodup hk hkt,zp hlen' hnd (by omega:k<l'.length) ((ldst k).trans hkt)] at this;exact this.symm
   ·have:SV (quiet l' (λk=>(xs.filter λi=>decide (x<=i)).contains k) s) tr' σ'' (λk=>(listed.setIfInBounds i true).getD k false) l'.length=σ'':=by
     rw [kJ (i:=0) (hsil l' tr' f σ'' _ j1 (λk hk him=>A.stays k hk him)) l'.length (π _) λk hk hq=>⟨λhT=>?_,λh=>by omega⟩]
     ·simp [zB]
     ·exfalso;obtain⟨h1,h2⟩:=vF.1 hq;have hki:k≠i:=λh=>by subst h; rw [wA ly'] at h1; cases h1
      rw [hT',if_neg (λh=>hki h.symm)] at hT
      rcases h2 with h2 | h2
      ·obtain⟨h3,h4⟩:=(muX k).1 h2;rw [behind k h3 h4] at hT; cases hT
      ·have e:=lsame k hki (λhh=>by omega);rw [post0 k (by omega) h2 (by unfold wT at h1 ⊢; rw [<- e]; exact h1)] at hT; cases hT
    rw [this];exact G3)
  unfold wpOpIn;simp only [ho];exact hstep
 ·exact Nat.le_trans (List.length_filter_le _ _) (by simp)
 ·rw [bK (i:=0) l.length λj _ _=>⟨(λh=>by rw [hf0] at h; cases h),λh=>by omega⟩];simp [LV]
 ·have:SV (quiet l (vC C.own l) s) tr σ (λi=>(Array.replicate ops.size false).getD i false) l.length=σ:=by refine(jv (k:=0) _ λj _ _ (hT:(Array.replicate ops.size false).getD j false=true)=>by rw [hf0] at hT; cases hT).trans (if_neg λh=>?_);have h2:(Array.replicate ops.size false).getD 0 false=true:=h.2.1;rw [hf0] at h2; cases h2
  rw [this];exact G'
end Go.Pd

/- Part XE. -/
namespace Go.Pd
open Go
variable [vA]
structure Fn where
 n:Nat
 code:DC
 res:List lT
 own:List Nat
inductive Ex where
 | normal
 | exit (id:Nat)
 | ret
def Ex.to : Ex->Exit
 | .normal=>.normal
 | .exit i=>.exit i
 | .ret=>.ret
def Qr (op:BinOp) (k:IntKind) (a:Int) (k':IntKind) (b:Int):Option D:=
 match op with
 | .shl=>if 0<=b then some (.int k (yp k a b)) else none
 | .shr=>if 0<=b then some (.int k (b9 k a b)) else none
 | .quo=>if k=k'/\b≠0 then some (.int k (k.wrap (a.tdiv b))) else none
 | .rem=>if k=k'/\b≠0 then some (.int k (a.tmod b)) else none
 | .add=>if k=k' then some (.int k (k.wrap (a+b))) else none
 | .sub=>if k=k' then some (.int k (k.wrap (a-b))) else none
 | .mul=>if k=k' then some (.int k (k.wrap (a*b))) else none
 | .and=>if k=k' then some (.int k (mH .and k a b)) else none
 | .or=>if k=k' then some (.int k (mH .or k a b)) else none
 | .xor=>if k=k' then some (.int k (mH .xor k a b)) else none
 | .andNot=>if k=k' then some (.int k (mH .andNot k a b)) else none
 | .eql=>if k=k' then some (.bool (a==b)) else none
 | .neq=>if k=k' then some (.bool (a != b)) else none
 | .lss=>if k=k' then some (.bool (decide (a<b))) else none
 | .leq=>if k=k' then some (.bool (decide (a<=b))) else none
 | .gtr=>if k=k' then some (.bool (decide (a > b))) else none
 | .geq=>if k=k' then some (.bool (decide (a >= b))) else none
theorem Rk {op:BinOp} {k:IntKind} {a:Int} {k':IntKind} {b:Int} {d:D} (h:Qr op k a k' b=some d) {K:D->Prop} (hK:K d):qI op k a k' b K:=by cases op <;> simp only [Qr] at h <;> split at h <;> simp at h <;> subst h <;> simp_all [qI]
def Ka (φ:D->Option D) (sz:Nat) (xZ:List (List D)):Option (List (List D)):=wI (λrow=>if row.length=sz then wI φ row else none) xZ
def fz (σ:St):Nat->D->Option D
 | 0,_=>none
 | n+1,d=>if d.xO=true then some d else match d with
  | .agg cs=>(wI (fz σ n) cs).map .agg
  | .fn f cs=>(wI (fz σ n) cs).map (.fn f)
  | .yD cs=>(wI (fz σ n) cs).map .yD
  | .wZ key sz len=>match σ.get key with
   | some ob=>if 0<sz/\ob.sz=sz/\len<=ob.xZ.length then(Ka (fz σ n) sz (ob.xZ.take len)).map (.sl sz) else if sz=1/\0<ob.xZ.length/\0<ob.sz/\len<=ob.sz/\(ob.xZ.getD 0 []).length=ob.sz then(wI (fz σ n) ((ob.xZ.getD 0 []).take len)).map (λcs=>.sl 1 (cs.map λc=>[c])) else none
   | none=>none
  | .ref key sz i off=>match σ.get key with
   | some ob=>if ob.sz=sz/\i<ob.xZ.length/\off<sz/\(ob.xZ.getD i []).length=sz then(wI (fz σ n) ((ob.xZ.getD i []).drop off)).map .ptr else none
   | none=>none
  | _=>none
theorem Seen.flat {σ:St} {K:Nat->Prop} {key n:Nat} {ob:Ob} {cs:List D} (hob:σ.get key=some ob) (hk:¬ K key) (h0:0<ob.xZ.length) (hs:0<ob.sz) (hn:n<=ob.sz) (hl:cs.length=n)
  (h:∀ j,j<n->Seen σ K ((ob.xZ.getD 0 []).getD j .top) (cs.getD j .top)):Seen σ K (.wZ key 1 n) (.sl 1 (cs.map λc=>[c])):=λM0 w ι v hS hR=>by
 subst hl;obtain⟨cap,cur,e,rfl,k1,k2,k3,k4,k5⟩:=hR.tE;obtain⟨_,cur',e',c1,c2,c3,c4⟩:=yZ.rows (hS.holds key ob hob).2 k4;rw [k4] at c1;simp at c1;obtain⟨rfl,rfl⟩:=c1;have el:(cs.map λc=>[c]).length=cs.length:=List.length_map ..;have hsz:ob.sz<=ob.xZ.length*ob.sz:=Nat.le_mul_of_pos_left _ h0
 have:=RP.sl (M:=Mk M0 ι σ K) (w:=w) (b:=ι key) (off:=0) (cap:=cap) (sz:=1) (xZ:=cs.map λc=>[c]) (λi _=>cur.getD i undef) Nat.one_pos (Mk.not hS hob hk) (by rw [el]; exact k2) k3 (λe he=>by
  obtain⟨c,_,rfl⟩:=List.mem_map.1 he; rfl) (λi hi j hj=>by
  rw [el] at hi;obtain rfl:j=0:=by omega
  have:i<cur.size:=by omega
  rw [Nat.zero_add,Nat.mul_one,Nat.add_zero,cell_of_row _ _ _ _ _ _ k4];simp [this]) (λi hi j hj=>by
  rw [el] at hi;obtain rfl:j=0:=by omega
  have h1:=c4 0 h0 i (by omega);rw [Nat.zero_mul,Nat.zero_add] at h1;have h2:=h i hi M0 w ι _ hS h1.2;have e3:((cs.map λc=>[c]).getD i []).getD 0 .top=cs.getD i .top:=by simp [List.getD,hi]
  rw [e3]; exact h2)
 rw [el] at this;exact this
theorem sW {σ:St} {φ:D->Option D} (hφ:∀ d d',φ d=some d'->Seen σ (λ_=>False) d d'):∀ {cs ds:List D},wI φ cs=some ds->nX σ (λ_=>False) cs ds
 | [],ds,h=>by simp [wI] at h; subst h; trivial
 | c :: cs,ds,h=>by
  unfold wI at h
  split at h
  ·rename_i b bs h1 h2;simp at h; subst h;exact⟨hφ _ _ h1,sW hφ h2⟩
  ·cases h
theorem xy {σ:St}:∀ (n:Nat) (d d':D),fz σ n d=some d'->Seen σ (λ_=>False) d d'
 | 0,d,d',h=>by simp [fz] at h
 | n + 1,d,d',h=>by
  have ih:=xy (σ:=σ) n;unfold fz at h
  split at h
  ·rename_i hp;simp at h; subst h;exact Seen.pure hp
  split at h
  ·rw [γ] at h;obtain⟨cs,h1,rfl⟩:=h;exact Seen.agg (sW ih h1)
  ·rw [γ] at h;obtain⟨cs,h1,rfl⟩:=h;exact Seen.fn (sW ih h1)
  ·rw [γ] at h;obtain⟨cs,h1,rfl⟩:=h;exact Seen.yD (sW ih h1)
  ·split at h
   ·rename_i key sz len _ _ ob hob
    split at h
    ·rename_i hc;rw [γ] at h;obtain⟨xZ,h1,rfl⟩:=h;obtain⟨l1,l2⟩:=zA h1;have hl:xZ.length=len:=by rw [l1,ο]; omega
     have row:∀ i,i<len->∃ r,xZ.getD i []=r/\(ob.xZ.getD i []).length=sz/\wI (fz σ n) (ob.xZ.getD i [])= some r:=λi hi=>by
      have hi':i<ob.xZ.length:=by omega
      obtain⟨b,h2,h3⟩:=l2 i (ob.xZ.getD i []) (by simp [List.getD,hi',hi])
      split at h3
      ·rename_i h4;exact⟨b,by simp [List.getD,h2],h4,h3⟩
      ·cases h3
     refine Seen.wZ hob id hc.1 hc.2.1 hc.2.2 hl (λe he=>?_) λi hi j hj=>?_
     ·obtain⟨i,hi,rfl⟩:=List.getElem_of_mem he;obtain⟨r,r1,r2,r3⟩:=row i (by omega);have:xZ[i]=r:=by rw [<- r1]; simp [List.getD,hi]
      rw [this,(zA r3).1,r2]
     ·obtain⟨r,r1,r2,r3⟩:=row i hi;rw [r1];exact(sW ih r3).at_ j (by rw [(zA r3).1]; omega)
    ·split at h
     ·rename_i hc;obtain⟨rfl,hc⟩:=hc;rw [γ] at h;obtain⟨cs,h1,rfl⟩:=h;have hl:=(zA h1).1;rw [ο] at hl;have hcl:cs.length=len:=by rw [hl]; omega
      refine Seen.flat hob id hc.1 hc.2.1 hc.2.2.1 hcl λj hj=>?_;have:=(sW ih h1).at_ j (by omega);have e:((ob.xZ.getD 0 []).take len).getD j .top=(ob.xZ.getD 0 []).getD j .top:=by simp only [List.getD,List.getElem?_take,if_pos hj]
      rwa [e] at this
     ·cases h
   ·cases h
  ·split at h
   ·rename_i key sz i off _ _ ob hob
    split at h
    ·rename_i hc;rw [γ] at h;obtain⟨cs,h1,rfl⟩:=h;have hl:=(zA h1).1;rw [List.length_drop] at hl;refine Seen.ref hob id hc.1 hc.2.1 (by omega) (by omega) λj hj=>?_;have:=(sW ih h1).at_ j hj;have e:((ob.xZ.getD i []).drop off).getD j .top=(ob.xZ.getD i []).getD (off+j) .top:=by simp [List.getD,List.getElem?_drop]
     rwa [e] at this
    ·cases h
   ·cases h
  ·cases h
theorem xU.gc {P:Program} {g:FuncId} {args:List D} {σ σ1:St} {d:D} {objs':List (Nat × Ob)} (h:xU P g args σ d σ1) (hs:∀ k o,St.look objs' k=some o->σ1.get k=some o):xU P g args σ d ⟨σ1.nx,objs'⟩:=by refine⟨h.ord,λM0 w ι vals hS hl hv=>(h.run M0 w ι vals hS hl hv).mono λe w' hh=>?_⟩;obtain⟨v,ι',rfl,k1,k2,k3,k4,k5,k6⟩:=hh;exact⟨v,ι',rfl,k1,k2.sub hs,k3,k4,λk o hk=>k5 k o (hs k o hk),k6.xC (λ_ _ _=>rfl) (λb _ hb=>hb.imp id λ⟨k,o,h1,h2⟩=>⟨k,o,hs k o h1,h2⟩) (λ_ cur _ h=>⟨cur,h,rfl⟩) (λ_ _=>rfl) (π _)⟩
theorem xU.Xs {P:Program} {g:FuncId} {args:List D} {σ1:St} {d:D} (h:xU P g args kT d σ1) (hp:d.xO=true):zX P g args d:=by
 refine⟨h.ord,λM0 w ι vals hS hl hv=>(h.run M0 w ι vals hS hl hv).mono λe w' hh=>?_⟩;obtain⟨v,ι',rfl,k1,k2,k3,k4,k5,k6⟩:=hh;have k2':zI M0 w' ⟨σ1.nx,[]⟩ ι':=k2.sub (objs':=[]) λk o hk=>by cases hk
 refine⟨v,ι',rfl,k1,⟨k2'.oS,(λk o hk=>by cases hk),(λk k' o o' hk=>by cases hk),(λk o hk=>by cases hk),k2'.sR⟩,π _,k4,(λk o hk=>by cases hk),.pure ?_⟩;exact(k6.yq hp).xC (λ_ _ _=>rfl) λb _ hb=>hb.elim .inl λ⟨k,o,h1,h2⟩=>by cases h1
theorem xU.jm {P:Program} {g:FuncId} {args:List D} {σ1:St} {d d':D} (h:xU P g args kT d σ1) (hd:Seen σ1 (λ_=>False) d d'):zX P g args d':=by
 refine⟨h.ord,λM0 w ι vals hS hl hv=>(h.run M0 w ι vals hS hl hv).mono λe w' hh=>?_⟩;obtain⟨v,ι',rfl,k1,k2,k3,k4,k5,k6⟩:=hh;have k2':zI M0 w' ⟨σ1.nx,[]⟩ ι':=k2.sub (objs':=[]) λk o hk=>by cases hk
 refine⟨v,ι',rfl,k1,⟨k2'.oS,(λk o hk=>by cases hk),(λk k' o o' hk=>by cases hk),(λk o hk=>by cases hk),k2'.sR⟩,π _,k4,(λk o hk=>by cases hk),.pure ?_⟩;exact(hd M0 w' ι' v k2 k6).xC (λ_ _ _=>rfl) λb _ hb=>hb.elim .inl λ⟨k,o,h1,h2⟩=>by cases h1
def yt {α:Type} (φ:α->α->Bool):List α->List α->Bool
 | [],[]=>true
 | a :: l,b :: m=>φ a b&&yt φ l m
 | _,_=>false
theorem eZ {α:Type} {φ:α->α->Bool} (hφ:∀ a b,φ a b=true->a=b):∀ {l m:List α},yt φ l m=true->l=m
 | [],[],_=>rfl
 | a :: l,b :: m,h=>by simp only [yt,η] at h;rw [hφ _ _ h.1,eZ hφ h.2]
 | [],_ :: _,h=>by simp [yt] at h
 | _ :: _,[],h=>by simp [yt] at h
def ft : Nat->D->D->Bool
 | n+1,.sl s e,.sl s' e'=>decide (s=s')&& yt (yt (ft n)) e e'
 | n+1,.agg a,.agg b=>yt (ft n) a b
 | n+1,.yD a,.yD b=>yt (ft n) a b
 | n+1,.fn f a,.fn g b=>decide (f=g)&& yt (ft n) a b
 | n+1,.ptr a,.ptr b=>yt (ft n) a b
 | _,.top,.top=>true
 | _,.uO,.uO=>true
 | _,.int k n,.int k' n'=>decide (k=k')&& decide (n=n')
 | _,.bool a,.bool b=>decide (a=b)
 | _,.xI,.xI=>true
 | _,.emp,.emp=>true
 | _,.ref a b c d,.ref a' b' c' d'=>decide (a=a')&& decide (b=b')&& decide (c=c')&& decide (d=d')
 | _,.wZ a b c,.wZ a' b' c'=>decide (a=a')&& decide (b=b')&& decide (c=c')
 | _,.sub a b c d,.sub a' b' c' d'=>decide (a=a')&& decide (b=b')&& decide (c=c')&& decide (d=d')
 | _,.yV a,.yV a'=>decide (a=a')
 | _,.pA,.pA=>true
 | _,.sP,.sP=>true
 | _,.pN,.pN=>true
 | _,_,_=>false
theorem kL : ∀ (n:Nat) (a b:D),ft n a b=true->a=b
 | 0,a,b,h=>by cases a <;> cases b <;> simp [ft] at h <;> simp [h]
 | n+1,a,b,h=>by
  have ih:=kL n
  cases a <;> cases b <;> simp only [ft,η,decide_eq_true_eq,θ] at h <;>
   first
   | rfl
   | (rw [eZ ih h]; done)
   | (rw [h.1,eZ ih h.2]; done)
   | (rw [h.1,eZ (λ_ _ h=>eZ ih h) h.2]; done)
   | simp [h]
def Xw (f g:Fr):Bool:=yt (λp q=>decide (p.1=q.1)&& ft 30 p.2 q.2) f g
theorem gL {f g:Fr} (h:Xw f g=true):f=g:=eZ (λa b h=>by simp only [η,decide_eq_true_eq] at h;exact Prod.ext h.1 (kL _ _ _ h.2)) h
def RV : Nat->D->Bool
 | n+1,.agg cs=>cs.all (RV n)
 | n+1,.yD cs=>cs.all (RV n)
 | _,.int _ _=>true
 | _,.bool _=>true
 | _,.xI=>true
 | _,.emp=>true
 | _,.uO=>true
 | _,.wZ ..=>true
 | _,.sub ..=>true
 | _,.ref ..=>true
 | _,.yV _=>true
 | _,_=>false
theorem kc : ∀ (n:Nat) (d:D),RV n d=true->d.fl=true
 | 0,d,h=>by cases d <;> simp [RV] at h <;> simp [D.fl]
 | n+1,d,h=>by
  have ih:=kc n
  cases d <;> simp only [RV,κ] at h <;> first
   | (rw [Xm]; exact κ.2 λe he=>ih e (h e he))
   | (rw [Xn]; exact κ.2 λe he=>ih e (h e he))
   | (exact Bool.noConfusion h)
   | simp [D.fl]
def MS (xX:List (Nat × Ob)):Bool:=xX.all λp=>p.2.xZ.all λe=>e.all (RV 30)
theorem VH {xX:List (Nat × Ob)} (h:MS xX=true):∀ p ∈ xX,∀ e ∈ p.2.xZ,D.TN e=true:=λp hp e he=> κ.2 λd hd=>kc 30 d (κ.1 (κ.1 (κ.1 h p hp) e he) d hd)
theorem xU.Oh {P:Program} {g:FuncId} {args args':List D} {d d':D} {σ:St} {m:Nat} {xX:List (Nat × Ob)} (hc:xU P g args' kT d ⟨m,xX⟩) (hl':nX σ (λ_=>False) args args') (hf:d.fl=true) (ho:∀ p ∈ xX,∀ e ∈ p.2.xZ,D.TN e=true)
  (hd:Seen ⟨m,xX⟩ (λ_=>False) d d'):xU P g args σ d' σ:=by
 refine⟨hc.ord,λM0 w ι vals hS hl hv=>?_⟩;have S1:zI (λ_=>False) w kT ι:=⟨λb hb=>hb.elim,(λk o hk=>by cases hk),(λk k' o o' hk=>by cases hk),(λk o hk=>by cases hk),hS.sR.xC (π _) (λ_ _ _=>rfl) λb _ hb=>hb.elim False.elim λ⟨k,o,hk,_⟩=>by cases hk⟩
 have e1:∀ (ι':Nat->Nat) b,yO (λ_=>False) ι' kT b->False:=by
  intro ι' b hb
  rcases hb with hb | ⟨k,o,hk,_⟩
  ·exact hb
  ·cases hk
 have hlen:=hl'.len;refine(hc.run _ w ι vals S1 (by omega) λj hj=>.pure (((hl'.at_ j hj).f M0 w ι _ hS (hv j (by omega))).xC (λ_ _ _=>rfl) λb _ hb=>e1 ι b hb)).mono λe w' hh=>?_;obtain⟨v,ι',rfl,k1,k2,k3,k4,k5,k6⟩:=hh;have K0:Kept w w' λ_=>False:=k1.mono λb _ ⟨k,o,hk,_⟩=>by cases hk
 have fresh:∀ k o,St.get ⟨m,xX⟩ k=some o->w.heap.size<=ι' k:=by
  intro k o hk
  rcases k5 _ _ hk with h | ⟨k0,o0,hk0,_⟩
  ·exact h
  ·cases hk0
 have S2:zI (yO M0 ι σ) w' ⟨m,xX⟩ ι':=by
  refine⟨λb hb=>Nat.lt_of_lt_of_le (yO.lt hS hb) K0.size,λk o hk=>?_,k2.inj,λk o hk hm=>?_,hS.sR.xC K0.size (λb hb hM=>K0.block b hb id) λb hb hm=>?_⟩
  ·obtain⟨g1,g20⟩:=k2.holds k o hk;exact⟨g1,yZ.fl g20 (ho (k,o) (vU hk))⟩
  ·have:=fresh _ _ hk;have:=yO.lt hS hm;omega
  ·rcases hm with hm | ⟨k,o,hk,rfl⟩
   ·exact hm
   ·have:=fresh _ _ hk;omega
 exact⟨v,ι,rfl,K0.none _,hS.ext K0,π _,λ_ _=>rfl,λk o hk=>.inr ⟨k,o,hk,rfl⟩,.pure ((hd _ w' ι' v S2 (k6.fl hf)).xC (λ_ _ _=>rfl) λb _ hb=>.inl hb)⟩
abbrev zG :=FuncId->List D->St->Option (D × St)
def Xr (call:zG) (σ:St) (g:FuncId) (args:List D):Option D:=
 if D.xT args=true then match call g args kT with
  | some (d,σ1)=>if d.xO=true then some d else fz σ1 30 d
  | none=>none
 else match wI (fz σ 30) args with
  | some args'=>match call g args' kT with
   | some (d,σ1)=>if d.flat=true/\d.xO=true then some d else if (RV 30 d&&MS σ1.xX)= true then fz σ1 30 d else none
   | none=>none
  | none=>none
def Vg (call:zG) (σ:St) (g:FuncId) (args:List D):Option (D × St):=
 if D.xT args=true then match call g args kT with
  | some (d,σ1)=>if d.xO=true then some (d,σ) else some (d.shift σ.nx,⟨σ.nx+σ1.nx,vS σ.nx σ1.xX++σ.xX⟩)
  | none=>none
 else match call g args σ with
  | some r=>some r
  | none=>match wI (fz σ 30) args with
   | some args'=>match call g args' kT with
    | some (d,σ1)=>if (RV 30 d&&MS σ1.xX)= true then some (d.shift σ.nx,⟨σ.nx+σ1.nx,vS σ.nx σ1.xX++σ.xX⟩) else none
    | none=>none
   | none=>none
def tT (P:Program) (call:zG):Prop:=∀ g args σ d σ',call g args σ=some (d,σ')->xU P g args σ d σ'
theorem ZE {P:Program} {call:zG} (hc:tT P call) {σ:St} {g:FuncId} {args:List D} {d:D} (h:Xr call σ g args=some d):xU P g args σ d σ:=by
 unfold Xr at h
 split at h
 ·rename_i hp
  split at h
  ·rename_i d1 σ1 h1
   split at h
   ·rename_i h2;simp at h; subst h;exact xU.yU ((hc _ _ _ _ _ h1).Xs h2) hp
   ·exact xU.yU ((hc _ _ _ _ _ h1).jm (xy 30 _ _ h)) hp
  ·cases h
 ·split at h
  ·rename_i args' h0
   split at h
   ·rename_i d1 σ1 h1
    split at h
    ·rename_i h2;simp at h; subst h;exact xU.Vf ((hc _ _ _ _ _ h1).Xs h2.2) (sW (xy 30) h0) h2.1
    ·split at h
     ·rename_i h3;rw [η] at h3;exact xU.Oh (hc _ _ _ _ _ h1) (sW (xy 30) h0) (kc 30 _ h3.1) (VH h3.2) (xy 30 _ _ h)
     ·cases h
   ·cases h
  ·cases h
theorem Tz {P:Program} {call:zG} (hc:tT P call) {σ:St} {g:FuncId} {args:List D} {d:D} {σ':St} (h:Vg call σ g args=some (d,σ')):xU P g args σ d σ':=by
 unfold Vg at h
 split at h
 ·rename_i hp
  split at h
  ·rename_i d1 σ1 h1
   split at h
   ·rename_i h2;simp at h;obtain⟨rfl,rfl⟩:=h;exact xU.yU ((hc _ _ _ _ _ h1).Xs h2) hp
   ·simp at h;obtain⟨rfl,rfl⟩:=h;exact xU.own (hc _ _ _ _ _ h1) hp
  ·cases h
 ·split at h
  ·rename_i r h1;cases h;exact hc _ _ _ _ _ h1
  ·split at h
   ·rename_i args' h2
    split at h
    ·rename_i d1 σ1 h3
     split at h
     ·rename_i h4;simp at h;obtain⟨rfl,rfl⟩:=h;rw [η] at h4;exact xU.QA (hc _ _ _ _ _ h3) (sW (xy 30) h2) (kc 30 _ h4.1) (VH h4.2)
     ·cases h
    ·cases h
   ·cases h
def ej (kk:IntKind):List (List D)->Bool
 | []=>true
 | [.int k _,_] :: r=>if k=kk then ej kk r else false
 | _=>false
theorem cK {kk:IntKind}:∀ {xZ:List (List D)},ej kk xZ=true->lP kk xZ
 | [],_=>λrow h=>by cases h
 | e :: r,h=>by
  unfold ej at h
  split at h
  ·rename_i heq; cases heq
  ·rename_i k n d r' heq;cases heq
   split at h
   ·rename_i hk;subst hk;intro row hrow
    rcases List.mem_cons.1 hrow with rfl | hrow
    ·exact⟨n,d,rfl⟩
    ·exact cK h row hrow
   ·cases h
  ·cases h
def ze : List (List D)->Option (List (List Int × D))
 | []=>some []
 | [.agg cs,d] :: r=>match nS cs,ze r with
  | some x,some l=>some ((x,d) :: l)
  | _,_=>none
 | _=>none
theorem cR : ∀ {xZ:List (List D)} {l:List (List Int × D)},ze xZ=some l->xZ=vZ l
 | [],l,h=>by simp [ze] at h; subst h; rfl
 | e :: r,l,h=>by
  unfold ze at h
  split at h
  ·rename_i heq; cases heq
  ·rename_i cs d r' heq;cases heq
   split at h
   ·rename_i x l' h1 h2;simp at h; subst h;rw [sG h1,cR h2];rfl
   ·cases h
  ·cases h
def O8 (n:Nat):Option D->Option Int
 | none=>some n
 | some (.int _ m)=>some m
 | _=>none
def Qv (sz:Nat) (x:D) (lo hi:Option D):Option D:=
 match x with
 | .sl sz' xZ=>match RW lo,O8 xZ.length hi with
  | some l,some h=>if sz=sz'/\0<=l/\l<=h/\h<=xZ.length then some (.sl sz ((xZ.take h.toNat).drop l.toNat)) else none
  | _,_=>none
 | .wZ key sz' len=>match RW lo,O8 len hi with
  | some l,some h=>if sz=sz'/\0<=l/\l<=h/\h<=len then some (if l=0 then .wZ key sz h.toNat else if l=h then .emp else .sub key sz l.toNat (h.toNat-l.toNat)) else none
  | _,_=>none
 | _=>none
def YT (σ:St) (n:Nat) (ag:Bool) (x:D):Option D:=
 match x with
 | .ref key sz i off=>match σ.get key with
  | some o=>if o.sz=sz/\i<o.xZ.length/\off+n<=sz/\(ag=true\/n=1) then some (vR ag (((o.xZ.getD i []).drop off).take n)) else none
  | none=>none
 | .ptr cs=>if n<=cs.length/\(ag=true\/n=1) then some (vR ag (cs.take n)) else none
 | _=>none
def Vi (σ:St) (zero:D) (ok:Bool) (m k:D):Option D:=
 match m,k with
 | .yV key,.int kk x=>match σ.get key with
  | some o=>if o.sz=0/\ej kk o.xZ=true then some (qV ok zero (qT x o.xZ 0)) else none
  | none=>none
 | .sP,.int _ _=>some (qV ok zero none)
 | _,_=>none
def pE (call:zG) (σ:St) (ev:vK->D):DK->Option D
 | .mv x=>some (ev x)
 | .pick c a b=>match ev c with
  | .bool t=>if t=true then some (ev a) else some (ev b)
  | _=>none
 | .bin op x y=>match ev x,ev y with
  | .int k a,.int k' b=>Qr op k a k' b
  | _,_=>none
 | .beq neg x y=>match ev x,ev y with
  | .bool a,.bool b=>some (.bool (if neg then a != b else a==b))
  | _,_=>none
 | .iW neg x y=>match ev x,ev y with
  | .xI,.xI=>some (.bool (!neg))
  | .wZ ..,.xI=>some (.bool neg)
  | .emp,.xI=>some (.bool neg)
  | .sl _ (_ :: _),.xI=>some (.bool neg)
  | _,_=>none
 | .nt x=>match ev x with
  | .bool b=>some (.bool (!b))
  | _=>none
 | .neg x=>match ev x with
  | .int k a=>some (.int k (k.wrap (0-a)))
  | _=>none
 | .R1 x=>match ev x with
  | .int k a=>some (.int k (mH .xor k (if k.signed then -1 else k.max) a))
  | _=>none
 | .geq neg n x y=>match ev x,ev y with
  | .agg cs,.agg ds=>match nS cs,nS ds with
   | some xs,some ys=>if xs.length=n/\ys.length=n then some (.bool (if neg then !decide (xs=ys) else decide (xs=ys))) else none
   | _,_=>none
  | _,_=>none
 | .fk x=>match ev x with
  | .yV key=>match σ.get key with
   | some o=>if o.sz=0/\o.xZ.length<=1000000 then some (.int .i64 o.xZ.length) else none
   | none=>none
  | _=>none
 | .conv k x=>match ev x with
  | .int _ n=>some (.int k (k.wrap n))
  | _=>none
 | .fv off x=>match ev x with
  | .ref key sz i o=>some (.ref key sz i (o+off))
  | .ptr cs=>if off<cs.length then some (.ptr (cs.drop off)) else none
  | _=>none
 | .Xz off n ag x=>match ev x with
  | .agg cs=>if off+n<=cs.length/\(ag=true\/n=1) then some (vR ag ((cs.drop off).take n)) else none
  | _=>none
 | .idx sz x i=>match ev x,ev i with
  | .sl sz' xZ,.int _ n=>if sz=sz'/\0<=n/\n<xZ.length then some (.ptr (xZ.getD n.toNat [])) else none
  | .wZ key sz' len,.int _ n=>if sz=sz'/\0<=n/\n<len then some (.ref key sz n.toNat 0) else none
  | .sub key sz' lo len,.int _ n=>if sz=sz'/\0<=n/\n<len then some (.ref key sz (lo+n.toNat) 0) else none
  | _,_=>none
 | .Qy n sz x i=>match ev x,ev i with
  | .ref key s j off,.int _ p=>if 0<=p/\p<n then some (.ref key s j (off+p.toNat*sz)) else none
  | _,_=>none
 | .fg n x=>match ev x with
  | .ref key s 0 0=>match σ.get key with
   | some ob=>if ob.sz=s/\0<ob.xZ.length/\n<=s/\n<=maxLen then some (.wZ key 1 n) else none
   | none=>none
  | _=>none
 | .build zero parts=>(xz zero (parts.map λp=>(p.1,p.2.1,ev p.2.2))).map .agg
 | .rJ sz len zero parts=>match fT sz (List.replicate len zero) (parts.map λp=>(p.1,ev p.2)) with
  | some es=>if (es.all D.xT)= true then some (.sl sz es) else none
  | none=>none
 | .len x=>match ev x with
  | .sl _ xZ=>some (.int .i64 xZ.length)
  | .wZ _ _ n=>some (.int .i64 n)
  | .sub _ _ _ n=>some (.int .i64 n)
  | .xI=>some (.int .i64 0)
  | .emp=>some (.int .i64 0)
  | _=>none
 | .mn x y=>match ev x,ev y with
  | .int k a,.int k' b=>if k=k' then some (.int k (if b<a then b else a)) else none
  | _,_=>none
 | .yv x y z=>match ev x,ev y,ev z with
  | .int k a,.int k' b,.int k'' c=>if k=k'/\k=k'' then some (.int k (if c<(if b<a then b else a) then c else if b<a then b else a)) else none
  | _,_,_=>none
 | .mx x y=>match ev x,ev y with
  | .int k a,.int k' b=>if k=k' then some (.int k (if b > a then b else a)) else none
  | _,_=>none
 | .lV x i=>match ev x with
  | .yD vs=>if i<vs.length then some (vs.getD i .top) else none
  | _=>none
 | .j7 f caps=>some (.fn f (caps.map ev))
 | .load n ag x=>YT σ n ag (ev x)
 | .Zg sz x lo hi=>Qv sz (ev x) (lo.map ev) (hi.map ev)
 | .call fn args=>match ev fn with
  | .fn g caps=>Xr call σ g (args.map ev++caps)
  | _=>none
 | .W6 x=>match ev x with
  | .ref key sz i off=>some (.ref key sz i off)
  | .ptr cs=>some (.ptr cs)
  | .fn f cs=>some (.fn f cs)
  | _=>none
 | .fH zero ok m k=>Vi σ zero ok (ev m) (ev k)
 | .mW n zero ok m k=>match ev m,ev k with
  | .yV key,.agg cs=>match σ.get key,nS cs with
   | some o,some x=>match ze o.xZ with
    | some l=>if o.sz=0/\x.length=n/\(l.all λp=>p.1.length==n)= true then some (qV ok zero (uJ x l 0)) else none
    | none=>none
   | _,_=>none
  | _,_=>none
 | _=>none
theorem ba {C:Cx} {σ:St} {ev:vK->D} {n:Nat} {ag:Bool} {x:vK} {d:D} (h:YT σ n ag (ev x)= some d) {K:D->Prop} (hK:K d):pW C σ ev (.load n ag x) K:=by
 simp only [pW];unfold YT at h
 split at h
 ·rename_i key sz i off he;rw [he];simp only
  split at h
  ·rename_i o ho;rw [ho];simp only
   split at h
   ·rename_i hc;simp at h; subst h;exact⟨hc.1,hc.2.1,hc.2.2.1,hc.2.2.2,hK⟩
   ·cases h
  ·cases h
 ·rename_i cs he;rw [he];simp only
  split at h
  ·rename_i hc;simp at h; subst h;exact⟨hc.1,hc.2,hK⟩
  ·cases h
 ·cases h
theorem Sh {C:Cx} {σ:St} {ev:vK->D} {sz:Nat} {x:vK} {lo hi:Option vK} {d:D} (h:Qv sz (ev x) (lo.map ev) (hi.map ev)= some d) {K:D->Prop} (hK:K d):pW C σ ev (.Zg sz x lo hi) K:=by
 have hh:∀ {n:Nat} {m:Int},O8 n (hi.map ev)= some m->(match hi.map ev with | none=>m=n | some (.int _ q)=>m=q | some _=>False):=λ{n m} he=>by
  unfold O8 at he
  split at he
  ·rename_i e0; rw [e0]; simp at he; exact he.symm
  ·rename_i e0; rw [e0]; simp at he; exact he.symm
  ·cases he
 simp only [pW];unfold Qv at h
 split at h
 ·rename_i sz' xZ he;rw [he];simp only
  split at h
  ·rename_i l m h1 h2
   split at h
   ·rename_i hc;simp at h; subst h;exact⟨hc.1,l,m,h1,hh h2,hc.2.1,hc.2.2.1,hc.2.2.2,hK⟩
   ·cases h
  ·cases h
 ·rename_i key sz' len he;rw [he];simp only
  split at h
  ·rename_i l m h1 h2
   split at h
   ·rename_i hc;simp only [Option.some.injEq] at h; subst h;exact⟨hc.1,l,m,h1,hh h2,hc.2.1,hc.2.2.1,hc.2.2.2,hK⟩
   ·cases h
  ·cases h
 ·cases h
theorem U1 {C:Cx} {σ:St} {ev:vK->D} {zero:D} {ok:Bool} {m k:vK} {d:D} (h:Vi σ zero ok (ev m) (ev k)= some d) {K:D->Prop} (hK:K d):pW C σ ev (.fH zero ok m k) K:=by
 simp only [pW];unfold Vi at h
 split at h
 ·rename_i key kk x h1 h2;rw [h1,h2];simp only
  split at h
  ·rename_i o ho;rw [ho];simp only
   split at h
   ·rename_i hc;simp at h; subst h;exact⟨hc.1,cK hc.2,hK⟩
   ·cases h
  ·cases h
 ·rename_i h1 h2;rw [h1,h2];simp at h; subst h;exact hK
 ·cases h
theorem YW {C:Cx} {call:zG} (hc:tT C.P call) {σ:St} {ev:vK->D}:∀ {k:DK} {d:D},pE call σ ev k=some d->∀ {K:D->Prop},K d->pW C σ ev k K
 | .load n ag x,d,h,K,hK=>ba h hK
 | .Zg sz x lo hi,d,h,K,hK=>Sh h hK
 | .fH zero ok m k,d,h,K,hK=>U1 h hK
 | .bin op x y,d,h,K,hK=>by
  simp only [pE] at h;simp only [pW]
  split at h
  ·rename_i h1 h2;rw [h1,h2];exact Rk h hK
  ·cases h
 | .call fn args,d,h,K,hK=>by
  simp only [pE] at h;simp only [pW]
  split at h
  ·rename_i h1;rw [h1];exact⟨d,ZE hc h,hK⟩
  ·cases h
 | .mW n zero ok m k,d,h,K,hK=>by
  simp only [pE] at h;simp only [pW]
  split at h
  ·rename_i key cs h1 h2;rw [h1,h2];simp only
   split at h
   ·rename_i o x h3 h4;rw [h3];simp only
    split at h
    ·rename_i l h5
     split at h
     ·rename_i h6;simp at h; subst h;exact⟨h6.1,x,l,⟨sG h4,cR h5,h6.2.1,λp hp=>by have:=κ.1 h6.2.2 p hp; simpa using this⟩,hK⟩
     ·cases h
    ·cases h
   ·cases h
  ·cases h
 | .build zero parts,d,h,K,hK=>by simp only [pE] at h;simp only [pW];rw [γ] at h;obtain⟨cs,h1,rfl⟩:=h;rw [h1];exact hK
 | .mv x,d,h,K,hK=>by simp only [pE,Option.some.injEq] at h; subst h; exact hK
 | .j7 f caps,d,h,K,hK=>by simp only [pE,Option.some.injEq] at h; subst h; exact hK
 | .pick c a b,d,h,K,hK=>by
  simp only [pE] at h;simp only [pW]
  split at h
  ·rename_i t h1;rw [h1];simp only;split at h <;> (simp only [Option.some.injEq] at h; subst h; simp_all)
  ·cases h
 | .iW neg x y,d,h,K,hK=>by simp only [pE] at h;simp only [pW];split at h <;> (first | (rename_i h1 h2; rw [h1,h2]; simp only [Option.some.injEq] at h; subst h; exact hK) | cases h)
 | .beq ..,d,h,K,hK | .nt _,d,h,K,hK | .neg _,d,h,K,hK | .R1 _,d,h,K,hK | .conv ..,d,h,K,hK | .len _,d,h,K,hK | .W6 _,d,h,K,hK=>by simp only [pE] at h;simp only [pW];split at h <;> first | (simp only [Option.some.injEq] at h; subst h; simp_all; done) | cases h
 | .geq neg n x y,d,h,K,hK=>by
  simp only [pE] at h;simp only [pW]
  split at h
  ·rename_i cs ds h1 h2;rw [h1,h2];simp only
   split at h
   ·rename_i xs ys h3 h4;rw [h3,h4];simp only
    split at h
    ·rename_i h5;simp only [Option.some.injEq] at h; subst h;exact⟨h5.1,h5.2,hK⟩
    ·cases h
   ·cases h
  ·cases h
 | .fk x,d,h,K,hK=>by
  simp only [pE] at h;simp only [pW]
  split at h
  ·rename_i key h1;rw [h1];simp only
   split at h
   ·rename_i o ho;rw [ho];simp only
    split at h
    ·rename_i h5;simp only [Option.some.injEq] at h; subst h;exact⟨h5.1,h5.2,hK⟩
    ·cases h
   ·cases h
  ·cases h
 | .fv off x,d,h,K,hK=>by
  simp only [pE] at h;simp only [pW]
  split at h
  ·rename_i h1;rw [h1];simp only [Option.some.injEq] at h; subst h;exact hK
  ·rename_i h1;rw [h1];simp only
   split at h
   ·rename_i h5;simp only [Option.some.injEq] at h; subst h;exact⟨h5,hK⟩
   ·cases h
  ·cases h
 | .Xz off n ag x,d,h,K,hK=>by
  simp only [pE] at h;simp only [pW]
  split at h
  ·rename_i h1;rw [h1];simp only
   split at h
   ·rename_i h5;simp only [Option.some.injEq] at h; subst h;exact⟨h5.1,h5.2,hK⟩
   ·cases h
  ·cases h
 | .idx sz x i,d,h,K,hK=>by
  simp only [pE] at h;simp only [pW];split at h
  case h_4=>cases h
  all_goals
   rename_i h1 h2;rw [h1,h2];simp only
   split at h
   ·rename_i h5;simp only [Option.some.injEq] at h; subst h;exact⟨h5.1,h5.2.1,h5.2.2,hK⟩
   ·cases h
 | .Qy n sz x i,d,h,K,hK=>by
  simp only [pE] at h;simp only [pW]
  split at h
  ·rename_i h1 h2;rw [h1,h2];simp only
   split at h
   ·rename_i h5;simp only [Option.some.injEq] at h; subst h;exact⟨h5.1,h5.2,hK⟩
   ·cases h
  ·cases h
 | .fg n x,d,h,K,hK=>by
  simp only [pE] at h;simp only [pW]
  split at h
  ·rename_i key s h1;rw [h1];simp only
   split at h
   ·rename_i ob ho;rw [ho];simp only
    split at h
    ·rename_i h5;simp only [Option.some.injEq] at h; subst h;exact⟨h5.1,h5.2.1,h5.2.2.1,h5.2.2.2,hK⟩
    ·cases h
   ·cases h
  ·cases h
 | .rJ sz len zero parts,d,h,K,hK=>by
  simp only [pE] at h;simp only [pW]
  split at h
  ·rename_i es h1;rw [h1];simp only
   split at h
   ·rename_i h5;simp only [Option.some.injEq] at h; subst h;exact⟨h5,hK⟩
   ·cases h
  ·cases h
 | .yv x y z,d,h,K,hK=>by
  simp only [pE] at h;simp only [pW]
  split at h
  ·rename_i h1 h2 h3;rw [h1,h2,h3];simp only
   split at h
   ·rename_i h5;simp only [Option.some.injEq] at h; subst h;exact⟨h5.1,h5.2,hK⟩
   ·cases h
  ·cases h
 | .mn x y,d,h,K,hK | .mx x y,d,h,K,hK=>by
  simp only [pE] at h;simp only [pW]
  split at h
  ·rename_i h1 h2;rw [h1,h2];simp only
   split at h
   ·rename_i h5;simp only [Option.some.injEq] at h; subst h;exact⟨h5,hK⟩
   ·cases h
  ·cases h
 | .lV x i,d,h,K,hK=>by
  simp only [pE] at h;simp only [pW]
  split at h
  ·rename_i h1;rw [h1];simp only
   split at h
   ·rename_i h5;simp only [Option.some.injEq] at h; subst h;exact⟨h5,hK⟩
   ·cases h
  ·cases h
 | .box _,d,h,K,hK | .alloc _,d,h,K,hK | .store ..,d,h,K,hK | .app ..,d,h,K,hK | .jF ..,d,h,K,hK | .lZ ..,d,h,K,hK | .j9 ..,d,h,K,hK | .yu,d,h,K,hK | .nA ..,d,h,K,hK | .qU ..,d,h,K,hK | .fF ..,d,h,K,hK | .oT ..,d,h,K,hK | .fD ..,d,h,K,hK | .j5 ..,d,h,K,hK=>by simp [pE] at h
end Go.Pd
