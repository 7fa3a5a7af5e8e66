/- Part X3. -/
import Derived.Test.YtjmfdgonjighpaaZqX2
set_option linter.unusedSectionVars false
set_option linter.unusedVariables false
set_option linter.unusedSimpArgs false
set_option linter.defProp false
open List renaming getElem?_append_left->γ,getElem?_append_right->δ,size_toArray->ε,getElem?_toArray->ζ,getElem?_take->η,length_append->θ,getElem?_eq_getElem->κ,append_assoc->μ,length_take->ν,length_drop->ξ,getElem?_drop->ο,length_replicate->π,getElem_mem->υ,getElem?_eq_some_iff->χ,ext_getElem?->ψ,length_pos_iff->ω,getElem_of_mem->Aa,getElem?_set->Ab,getElem?_replicate->Ac,getElem?_cons_zero->Ad,getElem?_eq_none->Ae,getElem?_set_ne->Af,getElem?_modify->Ag,all_eq_true->Ah
open Nat renaming le_refl->Ai,lt_succ_self->Aj,mul_le_mul_right->Ak,add_mul->Al,le_succ->Am,add_zero->An,mul_one->Ao,le_trans->Ap,zero_add->Aq,sub_zero->Ar,mul_comm->As,le_of_eq->Au,div_lt_iff_lt_mul->Av
open Array renaming getD_eq_getD_getElem?->Aw,getElem?_append_left->Ax,length_toList->Ay,getElem?_eq_some_iff->Az,size_append->A0,getElem?_append_right->A3,getElem?_toList->A4,getElem?_modify->A5,toList_modify->A6
open Option renaming bind_eq_some_iff->A7,map_eq_some_iff->A8,bind_eq_bind->A9,getD_some->Ba,map_some->Bb,isSome_iff_exists->Bc
open Int renaming eq_ofNat_of_zero_le->Be,toNat_natCast->Bf
namespace Go.Pd
open Go
variable [vA]
section
variable {P : Program}
theorem gU {w:World} {t ty e:TypeId} {i:TypeInfo} (ht:P.underlying t=some (.slice e)) (hi:P.info? e=some i) (b ax:Option Addr) (n c cx:Nat) (hnc:n<=c) :
  (Builtin.append_ #[t,t] ty #[.slice b n c,.slice ax 0 cx]).run P w = .ok (.slice b n c) w:=by
 cases b <;> cases ax <;> simp [Builtin.append_,run_underlying ht,sizeOf,typeInfo,hi,Builtin.lenOf,hnc,Builtin.firstCells,loadCells,loadCellsFrom,storeCells]
theorem sj {w:World} {t ty e e':TypeId} {i:TypeInfo} (ht:P.underlying t=some (.slice e)) (hi:P.info? e=some i)
  (g off sLen sCap:Nat) (cur:Array Value) (hg:w.heap[g]?=some (Obj.cells cur e' (0,0)))
  (a:Addr) (m c:Nat) (news:List Value) (hl:news.length=m*i.size) (hnews:∀ j u,news[j]?=some u->w.cell? (a.add j)= some u) (h1:∀ u ∈ news,u.oneCell'=true)
  (hroom:sLen+m<=sCap) (hfit:off+sLen*i.size+news.length<=cur.size) :
  (Builtin.append_ #[t,t] ty #[.slice (some ⟨g,off,none⟩) sLen sCap,.slice (some a) m c]).run P w =
   .ok (.slice (some ⟨g,off,none⟩) (sLen+m) sCap) (w.setRow g (cur.toList.take (off+sLen*i.size)++ news++cur.toList.drop (off+sLen*i.size+news.length)).toArray):=by
 have hf:=run_firstCells_some (P:=P) w i.size m a m c news hl hnews;have hst:=run_storeCells_at P g (off+sLen*i.size) e' news 0 cur w hg (by simpa using hfit) h1;simp only [An] at hst;simp [Builtin.append_,run_underlying ht,sizeOf,typeInfo,hi,Builtin.lenOf,hroom,hf,Addr.add_lit,hst]
theorem n9 {w:World} {t ty e e':TypeId} {i:TypeInfo} (ht:P.underlying t=some (.slice e)) (hi:P.info? e=some i)
  (g sLen sCap:Nat) (cur:Array Value) (hg:w.heap[g]?=some (Obj.cells cur e' (0,0)))
  (a:Addr) (m c:Nat) (news:List Value) (hl:news.length=m*i.size) (hnews:∀ j u,news[j]?=some u->w.cell? (a.add j)= some u) (h1:∀ u ∈ news,u.oneCell'=true)
  (hroom:sLen+m<=sCap) (hfit:sLen*i.size+news.length<=cur.size) :
  (Builtin.append_ #[t,t] ty #[.slice (some ⟨g,0,none⟩) sLen sCap,.slice (some a) m c]).run P w =
   .ok (.slice (some ⟨g,0,none⟩) (sLen+m) sCap) (w.setRow g (cur.toList.take (sLen*i.size)++ news++cur.toList.drop (sLen*i.size+news.length)).toArray):=by
 have hf:=run_firstCells_some (P:=P) w i.size m a m c news hl hnews;have hst:=run_storeCells_at P g (sLen*i.size) e' news 0 cur w hg (by simpa using hfit) h1;simp only [An] at hst;simp [Builtin.append_,run_underlying ht,sizeOf,typeInfo,hi,Builtin.lenOf,hroom,hf,Addr.add_lit,hst]
end
section
variable {M : Nat -> Prop} {w : World} {ι : Nat -> Nat} {n : Nat}
structure RowsIn (M : Nat -> Prop) (w : World) (ι : Nat -> Nat) (n sz : Nat) (cur : Nat -> Value) (xZ : List (List D)) : Prop where
 len:∀ el ∈ xZ,el.length=sz
 cell:∀ i,i<xZ.length->∀ j,j<sz->(cur (i*sz+j)).oneCell'=true/\R M w ι n (cur (i*sz+j)) ((xZ.getD i []).getD j .top)
theorem RowsIn.congr {sz:Nat} {cur cur':Nat->Value} {xZ:List (List D)} (h:RowsIn M w ι n sz cur xZ) (he:∀ q,q<xZ.length*sz->cur' q=cur q):RowsIn M w ι n sz cur' xZ:=⟨h.len,λi hi j hj=>by rw [he _ (nT hi hj)]; exact h.cell i hi j hj⟩
theorem RowsIn.take {sz:Nat} {cur:Nat->Value} {xZ:List (List D)} (h:RowsIn M w ι n sz cur xZ) (m:Nat):RowsIn M w ι n sz cur (xZ.take m):=by
 refine⟨λel he=>h.len el (List.mem_of_mem_take he),λi hi j hj=>?_⟩;simp only [ν] at hi
 have e:(xZ.take m).getD i []=xZ.getD i []:=by
  have:i<m:=by omega
  simp [List.getD,η,this]
 rw [e];exact h.cell i (by omega) j hj
theorem RowsIn.drop {sz:Nat} {cur:Nat->Value} {xZ:List (List D)} (h:RowsIn M w ι n sz cur xZ) (m:Nat):RowsIn M w ι n sz (λq=>cur (m*sz+q)) (xZ.drop m):=by
 refine⟨λel he=>h.len el (List.mem_of_mem_drop he),λi hi j hj=>?_⟩;simp only [ξ] at hi;have e:(xZ.drop m).getD i []=xZ.getD (m+i) []:=by simp [List.getD]
 have e2:m*sz+(i*sz+j)= (m+i)* sz+j:=by rw [Al]; omega
 rw [e];simp only [e2];exact h.cell (m+i) (by omega) j hj
theorem RowsIn.append {sz:Nat} {cur cur2 cur':Nat->Value} {xZ els2:List (List D)} (h:RowsIn M w ι n sz cur xZ) (h2:RowsIn M w ι n sz cur2 els2)
  (he:∀ q,q<xZ.length*sz->cur' q=cur q) (he2:∀ q,q<els2.length*sz->cur' (xZ.length*sz+q)= cur2 q):RowsIn M w ι n sz cur' (xZ++els2):=by
 refine⟨λel hm=>?_,λi hi j hj=>?_⟩
 ·rcases List.mem_append.1 hm with hm | hm
  ·exact h.len el hm
  ·exact h2.len el hm
 ·simp only [θ] at hi
  by_cases hlt:i<xZ.length
  ·have e:(xZ++els2).getD i []=xZ.getD i []:=by simp only [List.getD,γ hlt]
   rw [e,he _ (nT hlt hj)];exact h.cell i hlt j hj
  ·have e:(xZ++els2).getD i []=els2.getD (i-xZ.length) []:=by simp only [List.getD];rw [δ (by omega)]
   have hlt2:i-xZ.length<els2.length:=by omega
   have e2:i*sz+j=xZ.length*sz+((i-xZ.length)* sz+j):=by
    have:i=xZ.length+(i-xZ.length):=by omega
    conv=>lhs; rw [this,Al]
    omega
   rw [e,e2,he2 _ (nT hlt2 hj)];exact h2.cell _ hlt2 j hj
theorem RowsIn.iK {key:Nat} {ob:Ob} (h:wb M w ι n key ob) (h0:0<ob.sz):∃ (cur:Array Value) (e:TypeId),w.heap[ι key]?=some (Obj.cells cur e (0,0))/\ ob.xZ.length*ob.sz<=cur.size/\RowsIn M w ι n ob.sz (λq=>cur.getD q undef) ob.xZ:=by obtain⟨cur,e,h1,h2,h3,h4⟩:=yZ.cells h h0;exact⟨cur,e,h1,h3,h2,h4⟩
theorem cm {M0:Nat->Prop} {σ:St} {sz:Nat} {y:D} {rows:List (List D)} {v:Value} (hS:zI M0 w σ ι) (hr:R (yO M0 ι σ) w ι σ.nx v y) (hrows:rowsOf σ sz y=some rows) (hone:∀ r ∈ rows,zN r=true) :
  ∃ ad c,v = .slice ad rows.length c/\(rows = []\/∃ b off,ad=some ⟨b,off,none⟩/\ ∃ vs:Nat->Value,(∀ q,q<rows.length*sz->w.cell? ⟨b,off+q,none⟩= some (vs q))/\ RowsIn (yO M0 ι σ) w ι σ.nx sz vs rows):=by
 have oneget:∀ (r:List D) (j:Nat),zN r=true->j<r.length->(r.getD j .top).one=true:=by
  intro r j h hj;have:r.getD j .top=r[j]:=by simp [List.getD,hj]
  rw [this];exact Ah.1 h _ (υ hj)
 unfold rowsOf at hrows
 split at hrows
 ·rename_i sz' xZ
  split at hrows
  ·rename_i he;subst he;simp at hrows; subst hrows
   rcases hr.kN with ⟨ad,cap,e1,rfl,hcap⟩ | ⟨b,off,cap,vs,e1,g1,g2,g3,g4,g5,g6,g7⟩
   ·exact⟨ad,cap,e1,.inl rfl⟩
   ·refine⟨_,cap,e1,.inr ⟨b,off,rfl,λq=>vs (q / sz) (q % sz),λq hq=>?_,g5,λi hi j hj=>?_⟩⟩
    ·have h1:q / sz<xZ.length:=(Av g1).2 hq;have h2:q % sz<sz:=Nat.mod_lt _ g1;have:=g6 _ h1 _ h2
     have e:off+q / sz*sz+q % sz=off+q:=by have:=Nat.div_add_mod q sz;rw [As] at this;omega
     rw [e] at this;exact this
    ·have e1:(i*sz+j)/ sz=i:=by rw [As,Nat.mul_add_div g1,Nat.div_eq_of_lt hj,An]
     have e2:(i*sz+j) % sz=j:=by rw [As,Nat.mul_add_mod]; exact Nat.mod_eq_of_lt hj
     simp only [e1,e2];have hr:=R.pure (ι:=ι) (n:=σ.nx) (g7 i hi j hj);have hmem:xZ.getD i [] ∈ xZ:=by simp [List.getD,hi]
     exact⟨gN hr (oneget _ _ (hone _ hmem) (by rw [g5 _ hmem]; exact hj)),hr⟩
  ·simp at hrows
 ·simp at hrows; subst hrows;exact⟨none,0,hr.uA,.inl rfl⟩
 ·simp at hrows; subst hrows;obtain⟨ad,cap,e1⟩:=hr.gK;exact⟨_,cap,e1,.inl rfl⟩
 ·rename_i key sz' m
  split at hrows
  ·rename_i he;subst he
   split at hrows
   ·rename_i ob hob
    split at hrows
    ·rename_i hc;obtain⟨hc1,hc2⟩:=hc;simp at hrows; subst hrows;obtain⟨cap,cur,e,e1,k1,k2,k3,k4,k5⟩:=hr.tE;obtain⟨_,cur',e',h1,h2,h3,h4⟩:=yZ.rows (hS.holds key ob hob).2 k4;rw [k4] at h1;simp at h1;obtain⟨rfl,rfl⟩:=h1;have hlen:(ob.xZ.take m).length=m:=by simp; omega
     rw [hlen]
     refine⟨_,_,e1,.inr ⟨ι key,0,rfl,λq=>cur.getD q undef,λq hq=>?_,?_⟩⟩
     ·have:m*sz<=cap*sz:=Ak _ k2;have hq':q<cur.size:=by omega
      rw [cell_of_row _ _ _ _ _ _ k4,Aq];simp [hq']
     ·have:=RowsIn.take (M:=yO M0 ι σ) (w:=w) (ι:=ι) (n:=σ.nx) (sz:=ob.sz) (cur:=λq=>cur.getD q undef) ⟨h2,h4⟩ m;rw [hc1] at this;exact this
    ·simp at hrows
   ·simp at hrows
  ·simp at hrows
 ·simp at hrows
end
theorem nI {r:List D} (h:zN r=true) {j:Nat} (hj:j<r.length):(r.getD j .top).one=true:=by
 have:r.getD j .top=r[j]:=by simp [List.getD,hj]
 rw [this];exact Ah.1 h _ (υ hj)
theorem cd {M:Nat->Prop} {w:World} {ι:Nat->Nat} {n:Nat} {cs:Array Value} {ds:List D} (h:bU M w ι n cs ds) (hone:zN ds=true):RowsIn M w ι n ds.length (λq=>cs.getD q undef) [ds]:=by
 refine⟨by simp,λi hi j hj=>?_⟩;have:i=0:=by simp at hi; exact hi
 subst this;have hr:=h.2 j hj;have e:0*ds.length+j=j:=by simp
 simp only [e];exact⟨gN hr (nI hone hj),hr⟩
theorem zI.set {M0:Nat->Prop} {w:World} {σ:St} {ι:Nat->Nat} {key:Nat} {ob ob':Ob} {cur cur':Array Value} {e:TypeId} (h:zI M0 w σ ι) (hob:σ.get key=some ob) (hc:w.heap[ι key]?=some (Obj.cells cur e (0,0))) (hsz:cur'.size=cur.size) (h0:0<ob'.sz)
  (hfit:ob'.xZ.length*ob'.sz<=cur.size) (hrows:RowsIn (yO M0 ι σ) w ι σ.nx ob'.sz (λq=>cur'.getD q undef) ob'.xZ) :
  zI M0 (w.setRow (ι key) cur') (σ.set key ob') ι/\Kept w (w.setRow (ι key) cur') (rB ι σ):=by
 have hk:Kept w (w.setRow (ι key) cur') (rB ι σ):=by
  refine⟨rfl,rfl,rfl,by simp,λb hb hn=>setRow_other _ _ _ _ λe=>hn ⟨key,ob,hob,e.symm⟩,λb c t hbc=>?_,Ai _⟩
  by_cases hbk:b=ι key
  ·subst hbk;rw [hc] at hbc;simp at hbc;obtain⟨rfl,rfl⟩:=hbc;exact⟨cur',setRow_heap _ _ _ _ _ _ hc,hsz⟩
  ·exact⟨c,by rw [setRow_other _ _ _ _ hbk]; exact hbc,rfl⟩
 refine⟨(h.renew (ob:=ob') (σ2:=σ.set key ob') (ι':=ι) key hk (Ai _) (h.holds key ob hob).1 (λ_ _=>rfl) (λk o hko=>?_) (λ_ _=>rfl) (.inr ⟨key,ob,hob,rfl⟩) (h.notM key ob hob) (λk o hko zL=>?_) (λk o hko zL=>?_) ?_).1,hk⟩
 ·rw [vG] at hko
  split at hko
  ·rename_i he;subst he;rw [hob] at hko;simp at hko;exact .inl ⟨rfl,hko.symm⟩
  ·rename_i he;exact .inr ⟨λe=>he e.symm,hko⟩
 ·rw [vG,if_neg (λe=>zL e.symm)] at hko;exact λe=>zL (h.inj k key o ob hko hob e)
 ·rw [vG,if_neg (λe=>zL e.symm)] at hko;exact setRow_other _ _ _ _ λe=>zL (h.inj k key o ob hko hob e)
 ·exact .inl ⟨h0,cur',e,setRow_heap _ _ _ _ _ _ hc,hrows.len,by rw [hsz]; exact hfit,hrows.cell⟩
end Go.Pd
namespace Go.Pd
open Go
variable [vA]
def DK.impure : DK->Bool
 | .box _ | .alloc _ | .store .. | .app .. | .jF .. | .lZ .. | .j9 .. | .call .. | .yu | .nA .. | .qU .. | .fF .. | .oT .. | .fD .. | .j5 ..=>true
 | _=>false
theorem vk {C:Cx} {σ:St} {ev:vK->D} {k:DK} {K:D->St->Prop} (hp:k.impure=false) (h:zC C σ ev k K):pW C σ ev k λd=>K d σ:=by unfold zC at h;cases k <;> first | exact h | simp [DK.impure] at hp
inductive fq (P : Program) (N : Nat) (own : List Nat) (o : Oper) : DK -> Prop
 | box {t x x'} (h:o.op = .box t x) (hx:xM N x=some x'):fq P N own o (.box x')
 | alloc {e z} (h:o.op = .alloc e) (hz:oB P e=some z):fq P N own o (.alloc z)
 | store {t x y n x' y'} (h:o.op = .store t x y) (hn:uD P t=some n) (hx:xM N x=some x') (hy:xM N y=some y'):fq P N own o (.store n x' y')
 | jF {t l c e l' c' z} {i:TypeInfo} (h:o.op = .makeSlice t l c) (he:P.underlying t=some (.slice e)) (hi:P.info? e=some i) (h0:0<i.size) (hz:oB P e=some z) (hl:xM N l=some l') (hc:xM N c=some c') (hzl:z.length=i.size) :
   fq P N own o (.jF i.size i.bytes z l' c')
 | lZ {t len ps e z parts} {i:TypeInfo} (h:o.op = .buildSlice t len ps) (he:P.underlying t=some (.slice e)) (hi:P.info? e=some i) (h0:0<i.size) (hz:oB P e=some z) (hzl:z.length=i.size) (hs:len*i.size<=1000)
   (hps:wI (λ(p:Nat × Operand)=>do pure (p.1,<- xM N p.2)) ps.toList=some parts):fq P N own o (.lZ i.size len z parts)
 | call {f args ts f' xs} (h:o.op = .call { callee:=.value f,args:=args,argTypes:=ts }) (hf:xM N f=some f') (hx:wI (xM N) args.toList=some xs):fq P N own o (.call f' xs)
 | app {x y t x' y' e z} {i:TypeInfo} (h:o.op = .call { callee:=.builtin .append,args:=#[x,y],argTypes:=#[t,t] }) (he:P.underlying t=some (.slice e)) (hi:P.info? e=some i) (h0:0<i.size) (hz:oB P e=some z) (hzl:z.length=i.size)
   (hx:xM N x=some x') (hy:xM N y=some y'):fq P N own o (.app i.size i.bytes x' y')
 | bad:fq P N own o (.alloc [])
 | j9 {x t x' e z d} {i:TypeInfo} (h:o.op = .call { callee:=.builtin .clear,args:=#[x],argTypes:=#[t] }) (he:P.underlying t=some (.slice e)) (hi:P.info? e=some i) (h1:i.size=1) (hz:i.zero=some z) (hd:D.leaf z=some d) (hx:xM N x=some x'):fq P N own o (.j9 d x')
 | j5 {x y t u x' y' e} {i:TypeInfo} (h:o.op = .call { callee:=.builtin .copy,args:=#[x,y],argTypes:=#[t,u] }) (he:P.underlying t=some (.slice e)) (hi:P.info? e=some i) (h1:i.size=1) (hx:xM N x=some x') (hy:xM N y=some y'):fq P N own o (.j5 x' y')
 | yu {t r} (h:o.op = .makeMap t r) (hr:r=none\/∃ k n,r=some (.const (.int k n))) (hm:∃ kt et,P.underlying t=some (.map kt et)):fq P N own o .yu
 | nA {t m k x m' k' x' d} (h:o.op = .mapUpdate t m k x\/o.op = .insert t m k x) (hm:yh P t=some d) (h1:xM N m=some m') (h2:xM N k=some k') (h3:xM N x=some x'):fq P N own o (.nA m' k' x')
 | qU {t m k x m' k' x' n d} (h:o.op = .mapUpdate t m k x) (hm:zi P t=some (n,d)) (h1:xM N m=some m') (h2:xM N k=some k') (h3:xM N x=some x'):fq P N own o (.qU n m' k' x')
 | fF {t m k m' k' d} (h:o.op = .mapEntry t m k) (hm:yh P t=some d) (h1:xM N m=some m') (h2:xM N k=some k'):fq P N own o (.fF d m' k')
 | oT {t m k m' k' n d} (h:o.op = .mapEntry t m k) (hm:zi P t=some (n,d)) (h1:xM N m=some m') (h2:xM N k=some k'):fq P N own o (.oT n d m' k')
 | fD {t m k x m' k' x'} (h:o.op = .entryStore t m k x) (h1:xM N m=some m') (h2:xM N k=some k') (h3:xM N x=some x'):fq P N own o (.fD m' k' x')
theorem PL {P:Program} {t:TypeId} (h:((yh P t).isSome || (zi P t).isSome)= true):∃ kt et,P.underlying t=some (.map kt et):=by
 rw [Bool.or_eq_true] at h
 rcases h with h | h
 ·obtain⟨d,hd⟩:=Bc.1 h;obtain⟨k,e,_,_,_,h1,_⟩:=cL hd;exact⟨k,e,h1⟩
 ·obtain⟨⟨n,d⟩,hd⟩:=Bc.1 h;obtain⟨k,e,_,_,h1,_⟩:=cM hd;exact⟨k,e,h1⟩
theorem Q5 {P:Program} {N:Nat} {own:List Nat} {o:Oper} {k:DK} (hk:Ze P N own o=some k) (hi:k.impure=true):fq P N own o k:=by
 cases hop:o.op <;> simp only [Ze,hop] at hk
 case box t x=> simp only [zO] at hk;obtain⟨x',hx,rfl⟩:=hk;exact .box hop hx
 case alloc e=> simp only [zO] at hk;obtain⟨z,hz,rfl⟩:=hk;exact .alloc hop hz
 case store t x y=> simp only [zO] at hk;obtain⟨n,hn,x',hx,y',hy,rfl⟩:=hk;exact .store hop hn hx hy
 case makeMap t r=>
  split at hk
  ·split at hk
   ·rename_i hc;cases hk;exact .yu hop (.inl rfl) (PL hc)
   ·cases hk
  ·split at hk
   ·rename_i hc;cases hk;exact .yu hop (.inr ⟨_,_,rfl⟩) (PL hc)
   ·cases hk
  ·simp at hk
 case lookup t m k' ok=>
  split at hk
  ·simp only [zO] at hk;obtain⟨_,_,_,_,rfl⟩:=hk;simp [DK.impure] at hi
  ·simp only [zO] at hk;obtain⟨_,_,_,_,_,_,rfl⟩:=hk;simp [DK.impure] at hi
 case mapUpdate t m k' x=>
  split at hk
  ·rename_i d hd;simp only [zO] at hk;obtain⟨m1,h1,k1,h2,x1,h3,rfl⟩:=hk;exact .nA (.inl hop) hd h1 h2 h3
  ·simp only [zO] at hk;obtain⟨⟨n,d⟩,hd,m1,h1,k1,h2,x1,h3,rfl⟩:=hk;exact .qU hop hd h1 h2 h3
 case insert t m k' x=> simp only [zO] at hk;obtain⟨d,hd,m1,h1,k1,h2,x1,h3,rfl⟩:=hk;exact .nA (.inr hop) hd h1 h2 h3
 case mapEntry t m k'=>
  simp only [zO] at hk
  split at hk
  ·rename_i d hd;simp only [A7,Option.some.injEq] at hk;obtain⟨m1,h1,k1,h2,rfl⟩:=hk;exact .fF hop hd h1 h2
  ·simp only [A7,Option.some.injEq] at hk;obtain⟨⟨n,d⟩,hd,m1,h1,k1,h2,rfl⟩:=hk;exact .oT hop hd h1 h2
 case entryStore t m k' x=>
  split at hk
  ·simp only [zO] at hk;obtain⟨m1,h1,k1,h2,x1,h3,rfl⟩:=hk;exact .fD hop h1 h2 h3
  ·cases hk
 case makeSlice t l c=>
  simp only [zO] at hk;obtain⟨e,he,i,hi',sz,hsz,z,hz,l',hl,c',hc,hk⟩:=hk
  split at hk
  ·rename_i hzl;simp at hk; subst hk;have hs:0<i.size/\sz=i.size:=by unfold mJ at hsz; split at hsz <;> simp_all
   obtain⟨hs,rfl⟩:=hs;have ht:P.underlying t=some (.slice e):=by unfold sliceB at he; split at he <;> simp_all
   exact .jF hop ht hi' hs hz hl hc hzl
  ·simp at hk
 case buildSlice t len ps=>
  simp only [zO] at hk;obtain⟨e,he,m,hm,sz,hm',zero,hz,parts,hps,hk⟩:=hk
  split at hk
  ·rename_i hzl;simp only [uD,A8] at hm;obtain⟨inf,hinf,rfl⟩:=hm;have hs:0<inf.size/\sz=inf.size:=by unfold mJ at hm'; split at hm' <;> simp_all
   obtain⟨hs,rfl⟩:=hs;have ht:P.underlying t=some (.slice e):=by unfold sliceB at he; split at he <;> simp_all
   unfold mkLit at hk
   split at hk
   ·split at hk
    ·simp at hk; subst hk;exact .lZ hop ht hinf hs hz hzl.1 hzl.2 hps
    ·simp at hk; subst hk; simp [DK.impure] at hi
   ·simp at hk
  ·simp at hk
 case call c=>
  unfold Xo at hk;obtain⟨callee,args,ts⟩:=c;simp only at hk
  split at hk
  ·simp only [zO] at hk;obtain⟨f',hf,xs,hxs,rfl⟩:=hk;exact .call hop hf hxs
  ·rename_i b;simp only [A9,A7] at hk;obtain⟨xs,hxs,hk⟩:=hk;obtain⟨hl,hg⟩:=zA hxs;obtain⟨args⟩:=args;obtain⟨ts⟩:=ts;simp only at hxs hk hl hg;unfold aS at hk
   split at hk
   ·split at hk
    ·split at hk
     ·cases hk; simp [DK.impure] at hi
     ·split at hk
      ·cases hk; simp [DK.impure] at hi
      ·cases hk
    ·simp at hk
   ·split at hk
    ·simp at hk; subst hk; simp [DK.impure] at hi
    ·simp at hk; subst hk; simp [DK.impure] at hi
    ·simp at hk
   ·split at hk
    ·simp at hk; subst hk; simp [DK.impure] at hi
    ·simp at hk
   ·split at hk
    ·rename_i x y t u;simp only [A9,A7] at hk;obtain⟨e,he,i,hi',sz,hsz,z,hz,hk⟩:=hk
     split at hk
     ·rename_i htu;obtain⟨rfl,hzl⟩:=htu;simp at hk; subst hk;have hs:0<i.size/\sz=i.size:=by unfold mJ at hsz; split at hsz <;> simp_all
      obtain⟨hs,rfl⟩:=hs;have ht:P.underlying t=some (.slice e):=by unfold sliceB at he; split at he <;> simp_all
      match args,hl with
      | [x0,y0],_=> obtain⟨x1,hx1,hf⟩:=hg 0 x0 rfl;obtain⟨y1,hy1,hf'⟩:=hg 1 y0 rfl;simp at hx1 hy1; subst hx1; subst hy1;exact .app hop ht hi' hs hz hzl hf hf'
     ·simp at hk
    ·simp at hk
   ·split at hk
    ·rename_i x t;simp only [A9,A7] at hk;obtain⟨e,he,i,hi',z,hz,d,hd,hk⟩:=hk
     split at hk
     ·rename_i h1;simp at hk; subst hk;have ht:P.underlying t=some (.slice e):=by unfold sliceB at he; split at he <;> simp_all
      match args,hl with
      | [x0],_=> obtain⟨x1,hx1,hf⟩:=hg 0 x0 rfl;simp at hx1; subst hx1;exact .j9 hop ht hi' h1 hz hd hf
     ·simp at hk
    ·simp at hk
   ·split at hk
    ·rename_i x y t u;simp only [A9,A7] at hk;obtain⟨e,he,i,hi',hk⟩:=hk
     split at hk
     ·rename_i h1;simp at hk; subst hk;have ht:P.underlying t=some (.slice e):=by unfold sliceB at he; split at he <;> simp_all
      match args,hl with
      | [x0,y0],_=> obtain⟨x1,hx1,hf⟩:=hg 0 x0 rfl;obtain⟨y1,hy1,hf'⟩:=hg 1 y0 rfl;simp at hx1 hy1; subst hx1; subst hy1;exact .j5 hop ht hi' h1 hf hf'
     ·simp at hk
    ·simp at hk
   ·simp at hk
  ·simp at hk
 case move x=>simp only [A8] at hk; obtain⟨_,_,rfl⟩:=hk; simp [DK.impure] at hi
 case assign x=>simp only [A8] at hk; obtain⟨_,_,rfl⟩:=hk; simp [DK.impure] at hi
 case nilCheck x=>simp only [A8] at hk; obtain⟨_,_,rfl⟩:=hk; simp [DK.impure] at hi
 case pick c x y=> simp only [zO] at hk;obtain⟨_,_,_,_,_,_,rfl⟩:=hk;simp [DK.impure] at hi
 case build t ps=>
  split at hk
  ·simp only [zO] at hk;obtain⟨_,_,_,_,_,_,rfl⟩:=hk;simp [DK.impure] at hi
  ·simp only [zO] at hk;obtain⟨_,_,_,_,_,_,rfl⟩:=hk;simp [DK.impure] at hi
  ·simp at hk
 case load t x=>
  simp only [zO] at hk;obtain⟨_,_,_,_,_,_,hk⟩:=hk
  split at hk
  ·simp at hk; subst hk; simp [DK.impure] at hi
  ·simp at hk
 case binOp op t x y u=>
  simp only [zO] at hk;obtain⟨_,_,_,_,hk⟩:=hk;unfold mkBin at hk
  split at hk
  ·split at hk
   ·simp at hk; subst hk; simp [DK.impure] at hi
   ·split at hk
    ·simp at hk; subst hk; simp [DK.impure] at hi
    ·simp at hk
  ·split at hk
   ·simp at hk; subst hk; simp [DK.impure] at hi
   ·split at hk
    ·simp at hk; subst hk; simp [DK.impure] at hi
    ·simp at hk
  ·simp at hk; subst hk; simp [DK.impure] at hi
  ·split at hk
   ·simp at hk
   ·split at hk
    ·simp only [A8] at hk;obtain⟨_,_,rfl⟩:=hk;simp [DK.impure] at hi
    ·split at hk
     ·simp only [A8] at hk;obtain⟨_,_,rfl⟩:=hk;simp [DK.impure] at hi
     ·simp at hk
  ·simp at hk
 case unOp op t x=> simp only [zO] at hk;obtain⟨_,_,hk⟩:=hk;cases op <;> simp [Qs] at hk <;> subst hk <;> simp [DK.impure] at hi
 case convert s t x=>
  split at hk
  ·simp only [zO] at hk;obtain⟨_,_,rfl⟩:=hk;simp [DK.impure] at hi
  ·simp at hk
 case makeInterface=>simp at hk; subst hk; exact .bad
 case panic=>simp at hk; subst hk; exact .bad
 case makeFunc fn first caps=>
  split at hk
  ·simp only [zO] at hk;obtain⟨_,_,hk⟩:=hk
   split at hk
   ·simp at hk; subst hk; simp [DK.impure] at hi
   ·simp at hk
  ·simp at hk
 case slice t x lo hi mx=>
  simp only [zO] at hk
  split at hk
  ·simp only [A7] at hk;obtain⟨_,_,_,_,_,_,_,_,_,_,hk⟩:=hk
   split at hk
   ·simp at hk; subst hk; simp [DK.impure] at hi
   ·simp at hk
  ·split at hk
   ·simp only [A7] at hk;obtain⟨_,_,_,_,hk⟩:=hk
    split at hk
    ·simp at hk; subst hk; simp [DK.impure] at hi
    ·simp at hk
   ·simp at hk
 case fieldAddr t x i=> simp only [zO] at hk;obtain⟨_,_,_,_,_,_,_,_,rfl⟩:=hk;simp [DK.impure] at hi
 case field t x i=> simp only [zO] at hk;obtain⟨_,_,_,_,_,_,_,_,rfl⟩:=hk;simp [DK.impure] at hi
 case indexAddr t x y=>
  split at hk
  ·simp only [zO] at hk;obtain⟨_,_,_,_,_,_,_,_,rfl⟩:=hk;simp [DK.impure] at hi
  ·split at hk
   ·simp only [A9,A7] at hk;obtain⟨_,_,_,_,_,_,hk⟩:=hk
    split at hk
    ·simp at hk; subst hk; simp [DK.impure] at hi
    ·simp at hk
   ·simp only [A9,A7,Option.some.injEq] at hk;obtain⟨_,_,_,_,_,_,_,_,rfl⟩:=hk;simp [DK.impure] at hi
   ·simp at hk
 case extract x i=> simp only [zO] at hk;obtain⟨_,_,rfl⟩:=hk;simp [DK.impure] at hi
 all_goals simp at hk
theorem ZU {M:Nat->Prop} {w:World} {ι:Nat->Nat} {n:Nat} {z:Array Value} {ds:List D} (h:wI D.leaf z.toList=some ds):bU M w ι n z ds:=by
 obtain⟨hl,hg⟩:=zA h;refine⟨by simpa using hl.symm,λj hj=>?_⟩;have hj':j<z.size:=by have:=hl; simp at this; omega
 obtain⟨b,hb,hf⟩:=hg j z[j] (by simp [hj']);have e1:ds.getD j .top=b:=by simp [List.getD,hb]
 have e2:z.getD j undef=z[j]:=by simp [hj']
 rw [e1,e2];exact .pure (kF hf)
theorem gH {P:Program} {t:TypeId} {ds:List D} (h:oB P t=some ds):∃ i z,P.info? t=some i/\i.zero=some z/\wI D.leaf z.cells.toList=some ds:=by unfold oB at h;simp only [A9,A7] at h;obtain⟨i,h1,z,h2,h3⟩:=h;exact⟨i,z,h1,h2,h3⟩
section
variable {C : Cx} {E : Env} {a : Act} {w : World} {f : Fr} {σ : St} {ι : Nat -> Nat} {n0 : Nat} {o : Oper} {next : Act -> World -> Prop} {Q : Exit -> Act -> World -> Prop}
theorem qH.holds {M:Nat->Prop} {kk:IntKind} {es:Array MapEntry} {xZ:List (List D)} (h:qH (R M w ι n0) kk es.toList xZ 0):yZ M w ι n0 (some (Obj.map es es.size)) ⟨0,xZ⟩:=by obtain⟨h1,_,h3⟩:=h.inv;refine .inr ⟨rfl,es,rfl,by simpa using h1,λi hi=>?_⟩;obtain⟨m,v,d,g1,g2,g3,g4⟩:=h3 i hi;exact⟨_,v,_,d,g1,by simpa using g2,g3,g4⟩
theorem uN.holds {M:Nat->Prop} {lv:List (List Int × Value)} {l:List (List Int × D)} (h:uN (R M w ι n0) lv l):yZ M w ι n0 (some (Obj.map (xL lv 0).toArray (xL lv 0).toArray.size)) ⟨0,vZ l⟩:=by refine .inr ⟨rfl,_,rfl,by simp [tR,qL,h.len],λi hi=>?_⟩;rw [qL] at hi;obtain⟨ks,v,d,g1,g2,g3,g4⟩:=h.get (i0:=0) i hi;exact⟨uY ks,v,_,d,g1,by simpa using g2,g4,g3⟩
theorem qH.set {Rel:Value->D->Prop} {kk:IntKind} {x:Int} {v:Value} {d:D} (hx:Rel (.int kk x) (.int kk x)) (hr:Rel v d):∀ {es:List MapEntry} {xZ:List (List D)} {i0:Nat} (j:Nat),qH Rel kk es xZ i0->qH Rel kk (es.set j ⟨.int kk x,v,i0+j⟩) (xZ.set j [.int kk x,d]) i0
 | [],[],i0,j,_=>trivial
 | e :: es,row :: r,i0,0,h=>⟨⟨x,v,d,rfl,rfl,hx,hr⟩,h.2⟩
 | e :: es,row :: r,i0,j+1,h=>by
  refine⟨h.1,?_⟩;have:=qH.set (x:=x) hx hr j h.2;have e1:i0+(j+1)= i0+1+j:=by omega
  rw [e1]; exact this
theorem qH.snoc {Rel:Value->D->Prop} {kk:IntKind} {x:Int} {v:Value} {d:D} (hx:Rel (.int kk x) (.int kk x)) (hr:Rel v d):∀ {es:List MapEntry} {xZ:List (List D)} {i0:Nat},qH Rel kk es xZ i0->qH Rel kk (es ++ [⟨.int kk x,v,i0+es.length⟩]) (xZ ++ [[.int kk x,d]]) i0
 | [],[],i0,_=>⟨⟨x,v,d,rfl,rfl,hx,hr⟩,trivial⟩
 | e :: es,row :: r,i0,h=>by
  refine⟨h.1,?_⟩;have:=qH.snoc (x:=x) hx hr h.2;have e1:i0+(e :: es).length=i0+1+es.length:=by simp; omega
  rw [e1]; exact this
theorem ua {es:Array MapEntry} {j:Nat} {e:MapEntry} {f:MapEntry->MapEntry} (h:es[j]?=some e):(es.modify j f).toList=es.toList.set j (f e):=by
 apply ψ;intro i;rw [A4,A5,Ab,A4]
 by_cases hij:j=i
 ·subst hij;have hlt:j<es.toList.length:=by have:=(Az.1 h).1; simpa using this
  simp only [if_pos,h,Bb,if_pos hlt]
 ·rw [if_neg hij,if_neg hij]
theorem yZ.QB {M:Nat->Prop} {es:Array MapEntry} {xZ:List (List D)} {i:Nat} {y d0 d:D} {v:Value} (h2:es.size=xZ.length)
  (h3:∀ i,i<xZ.length->∃ (kv v:Value) (x d:D),xZ.getD i [] = [x,d]/\es[i]?=some ⟨kv,v,i⟩/\ R M w ι n0 kv x/\R M w ι n0 v d) (hrow:xZ.getD i [] = [y,d0]) (hr:R M w ι n0 v d) :
  yZ M w ι n0 (some (Obj.map (es.modify i λe=>{ e with val:=v }) (es.modify i λe=>{ e with val:=v }).size)) ⟨0,xZ.set i [y,d]⟩:=by
 refine .inr ⟨rfl,_,rfl,by simpa using h2,λi' hi'=>?_⟩;rw [List.length_set] at hi';obtain⟨kv,v0,x,d1,g1,g2,g4,g3⟩:=h3 i' hi';rw [A5]
 by_cases hc:i=i'
 ·subst hc;rw [hrow] at g1;simp only [List.cons.injEq,and_true] at g1;obtain⟨rfl,rfl⟩:=g1;refine⟨kv,v,_,d,by simp [List.getD,hi'],?_,g4,hr⟩;rw [if_pos rfl,g2]; rfl
 ·exact⟨kv,v0,x,d1,by rw [<- g1]; simp [List.getD,Af hc],by rw [if_neg hc]; exact g2,g4,g3⟩
def qJ (w:World) (b:Nat) (o:Obj):World:={ w with heap:=w.heap.setIfInBounds b o }
theorem qP {P:Program} {w:World} {r:Nat} {o':Obj} (o:Obj) (hb:w.heap[r]?=some o') (hm:∃ es c,o' = .map es c):(setObj r o).run P w = .ok () (qJ w r o):=by obtain⟨es,c,rfl⟩:=hm;simp [setObj,Sem.run,hb,qJ]
theorem ZC {w:World} {b:Nat} {o o':Obj} (h:w.heap[b]?=some o'):(qJ w b o).heap[b]?=some o:=by have hlt:b<w.heap.size:=(Az.1 h).1;simp [qJ,hlt]
theorem eT {w:World} {b b':Nat} {o:Obj} (h:b'≠b):(qJ w b o).heap[b']?=w.heap[b']?:=by simp [qJ,Ne.symm h]
theorem zI.wu {M0:Nat->Prop} {key:Nat} {ob ob':Ob} {es es':Array MapEntry} {c:Nat} (h:zI M0 w σ ι) (hob:σ.get key=some ob) (hb:w.heap[ι key]?=some (Obj.map es c))
  (hh:yZ (yO M0 ι σ) w ι σ.nx (some (Obj.map es' es'.size)) ob') :
  zI M0 (qJ w (ι key) (.map es' es'.size)) (σ.set key ob') ι/\Kept w (qJ w (ι key) (.map es' es'.size)) (rB ι σ):=by
 have hk:Kept w (qJ w (ι key) (.map es' es'.size)) (rB ι σ):=by
  refine⟨rfl,rfl,rfl,by simp [qJ],λb hb' hn=>eT λe=>hn ⟨key,ob,hob,e.symm⟩,λb cc t hbc=>?_,Ai _⟩
  by_cases hbk:b=ι key
  ·subst hbk;rw [hb] at hbc; cases hbc
  ·exact⟨cc,by rw [eT hbk]; exact hbc,rfl⟩
 refine⟨(h.renew (ob:=ob') (σ2:=σ.set key ob') (ι':=ι) key hk (Ai _) (h.holds key ob hob).1 (λ_ _=>rfl) (λk o hko=>?_) (λ_ _=>rfl) (.inr ⟨key,ob,hob,rfl⟩) (h.notM key ob hob) (λk o hko zL=>?_) (λk o hko zL=>?_) ?_).1,hk⟩
 ·rw [vG] at hko
  split at hko
  ·rename_i he;subst he;rw [hob] at hko;simp at hko;exact .inl ⟨rfl,hko.symm⟩
  ·rename_i he;exact .inr ⟨λe=>he e.symm,hko⟩
 ·rw [vG,if_neg (λe=>zL e.symm)] at hko;exact λe=>zL (h.inj k key o ob hko hob e)
 ·rw [vG,if_neg (λe=>zL e.symm)] at hko;exact eT λe=>zL (h.inj k key o ob hko hob e)
 ·rw [ZC hb]; exact hh
theorem pz {kk:IntKind} {x:Int} (P:Program) (w:World):(Instr.keyThatStays (.int kk x) (.int kk x)).run P w = .ok (.int kk x) w:=by simp [Instr.keyThatStays,Instr.sameBits]
theorem gm {P:Program} {w:World} {t kt et:TypeId} {n:Nat} (ht:P.underlying t=some (.map kt et)) (h:kQ P kt=some n) {x:List Int} (hx:x.length=n) {b:Nat} {l:List (List Int × Value)} (hl:∀ p ∈ l,p.1.length=n)
  (hb:w.heap[b]?=some (.map (xL l 0).toArray (xL l 0).toArray.size)) (hno:sN x l 0=none) (v:Value) :
  (Instr.mapUpdate t (.map (some b)) (uY x) v).run P w = .ok () (qJ w b (.map (xL (l ++ [(x,v)]) 0).toArray (xL (l ++ [(x,v)]) 0).toArray.size)):=by
 have hg:(getObj b).run P w = .ok (.map (xL l 0).toArray (xL l 0).toArray.size) w:=by simp [getObj,Sem.run,hb]
 have hc:=tQ (w:=w) h false hx;have hf:=tA (w:=w) h hx l hl;rw [hno] at hf;have hw:=qP (P:=P) (.map (xL (l ++ [(x,v)]) 0).toArray (xL (l ++ [(x,v)]) 0).toArray.size) hb ⟨_,_,rfl⟩
 have e:(xL l 0).toArray.push ⟨uY x,v,(xL l 0).toArray.size⟩= (xL (l ++ [(x,v)]) 0).toArray:=by rw [jZ]; simp [tR]
 have e2:(xL (l ++ [(x,v)]) 0).toArray.size=(xL l 0).toArray.size+1:=by simp [tR]
 simp only [Instr.mapUpdate,Sem.run_bind,run_underlying ht,Result.andThen_ok,hg,hc];have e':xL l 0 ++ [⟨uY x,v,(xL l 0).length⟩]=xL (l ++ [(x,v)]) 0:=by rw [jZ]; simp [tR]
 have e3:(xL l 0).length+1=(xL (l ++ [(x,v)]) 0).length:=by simp [tR]
 simp [hf];rw [e',e3];simpa using hw
theorem fQ : ∀ (ks:List Int) (n:Nat),(((ks.map (Value.int .i64)).zip (ks.map (Value.int .i64))).all λ(x,y)=>Instr.sameBits n x y)= true
 | [],_=>rfl
 | k :: r,n=>by simp only [List.map_cons,List.zip_cons_cons,List.all_cons,Bool.and_eq_true];exact⟨by simp [Instr.sameBits],fQ r n⟩
theorem qa {P:Program} {w:World} (ks:List Int):(Instr.keyThatStays (uY ks) (uY ks)).run P w = .ok (uY ks) w:=by
 have h:Instr.sameBits 10000 (uY ks) (uY ks)= true:=by unfold uY;have:=fQ ks 9999;simp only [Instr.sameBits,beq_self_eq_true,Bool.true_and];exact this
 simp [Instr.keyThatStays,h]
theorem iJ {x:List Int}:∀ {l:List (List Int × Value)} {i j:Nat} {v:Value},sN x l i=some (j,v)->i<=j/\l[j-i]?=some (x,v)
 | [],_,_,_,h=>by cases h
 | (k,v0) :: r,i,j,v,h=>by
  unfold sN at h
  by_cases e:x=k
  ·rw [if_pos e] at h;cases h;exact⟨Ai _,by simp [e]⟩
  ·rw [if_neg e] at h;obtain⟨h1,h2⟩:=iJ h;refine⟨by omega,?_⟩;rw [show j-i=(j-(i+1))+ 1 by omega];simpa using h2
theorem nj (x:List Int) (v:Value):∀ (l:List (List Int × Value)) (i j:Nat),j<l.length->xL (l.set j (x,v)) i=(xL l i).set j ⟨uY x,v,i+j⟩
 | [],_,_,h=>by simp at h
 | (k,v0) :: r,i,0,_=>by simp [xL]
 | (k,v0) :: r,i,j+1,h=>by simp only [List.set_cons_succ,xL];rw [nj x v r (i+1) j (by simpa using h),show i+1+j=i+(j+1) by omega]
theorem uv : ∀ {l:List (List Int × Value)} {i j:Nat} {x:List Int} {v:Value},l[j]?=some (x,v)->(xL l i)[j]?=some ⟨uY x,v,i+j⟩
 | [],_,_,_,_,h=>by simp at h
 | (k,v0) :: r,i,0,x,v,h=>by simp only [Ad,Option.some.injEq,Prod.mk.injEq] at h;simp [xL,h.1,h.2]
 | (k,v0) :: r,i,j+1,x,v,h=>by have:=uv (i:=i+1) (by simpa using h);simp only [xL,List.getElem?_cons_succ];rw [this,show i+1+j=i+(j+1) by omega]
theorem gn {P:Program} {w:World} {t kt et:TypeId} {n:Nat} (ht:P.underlying t=some (.map kt et)) (h:kQ P kt=some n) {x:List Int} (hx:x.length=n) {b:Nat} {l:List (List Int × Value)} (hl:∀ p ∈ l,p.1.length=n)
  (hb:w.heap[b]?=some (.map (xL l 0).toArray (xL l 0).toArray.size)) {j:Nat} {v0:Value} (hj:sN x l 0=some (j,v0)) (v:Value) :
  (Instr.mapUpdate t (.map (some b)) (uY x) v).run P w = .ok () (qJ w b (.map (xL (l.set j (x,v)) 0).toArray (xL (l.set j (x,v)) 0).toArray.size)):=by
 have hg:(getObj b).run P w = .ok (.map (xL l 0).toArray (xL l 0).toArray.size) w:=by simp [getObj,Sem.run,hb]
 have hc:=tQ (w:=w) h false hx;have hf:=tA (w:=w) h hx l hl;rw [hj] at hf;obtain⟨_,h2⟩:=iJ hj;rw [Ar] at h2;have hjl:j<l.length:=(χ.1 h2).1;have h3:=uv (i:=0) h2;rw [Aq] at h3;have hw:=qP (P:=P) (.map (xL (l.set j (x,v)) 0).toArray (xL (l.set j (x,v)) 0).toArray.size) hb ⟨_,_,rfl⟩;have hs:=qa (P:=P) (w:=w) x
 have e:((xL l 0).toArray.modify j λe=>{ e with key:=uY x,val:=v })= (xL (l.set j (x,v)) 0).toArray:=by
  rw [nj x v l 0 j hjl,Aq];apply Array.ext';rw [A6];apply ψ;intro i;rw [Ag,Ab];have hlt:j<(xL l 0).length:=by rw [tR]; exact hjl
  by_cases hi:j=i
  ·subst hi
   have h5:(xL l 0)[j]=⟨uY x,v0,j⟩:=by rw [κ hlt] at h3;exact Option.some.inj h3
   simp [hlt,h5]
  ·simp [hi]
 have e2:(xL (l.set j (x,v)) 0).toArray.size=(xL l 0).toArray.size:=by simp [tR]
 have hat:(xL l 0).toArray[j]?=some ⟨uY x,v0,j⟩:=by simpa using h3
 simp only [Instr.mapUpdate,Sem.run_bind,run_underlying ht,Result.andThen_ok,hg,hc,hf,hat,Bb,Ba,hs,e];rw [<- e2];exact hw
theorem rv {P:Program} {w:World} {t kt et:TypeId} {n:Nat} (ht:P.underlying t=some (.map kt et)) (h:kQ P kt=some n) {inf:TypeInfo} {z:Value} (hi:P.info? et=some inf) (hz:inf.zero=some z) {x:List Int} (hx:x.length=n) {b:Nat} {l:List (List Int × Value)} (hl:∀ p ∈ l,p.1.length=n)
  (hb:w.heap[b]?=some (.map (xL l 0).toArray (xL l 0).toArray.size)) (hno:sN x l 0=none) :
  (Instr.mapEntry t (.map (some b)) (uY x)).run P w = .ok (.tuple #[z,.int .i64 l.length]) (qJ w b (.map (xL (l ++ [(x,z)]) 0).toArray (xL (l ++ [(x,z)]) 0).toArray.size)):=by
 have hg:(getObj b).run P w = .ok (.map (xL l 0).toArray (xL l 0).toArray.size) w:=by simp [getObj,Sem.run,hb]
 have hc:=tQ (w:=w) h false hx;have hf:=tA (w:=w) h hx l hl;rw [hno] at hf;have hw:=qP (P:=P) (.map (xL (l ++ [(x,z)]) 0).toArray (xL (l ++ [(x,z)]) 0).toArray.size) hb ⟨_,_,rfl⟩;simp only [Instr.mapEntry,Sem.run_bind,run_underlying ht,Result.andThen_ok,hg,hc];have e':xL l 0 ++ [⟨uY x,z,(xL l 0).length⟩]=xL (l ++ [(x,z)]) 0:=by rw [jZ]; simp [tR]
 have e3:(xL l 0).length+1=(xL (l ++ [(x,z)]) 0).length:=by simp [tR]
 simp [hf,zeroValue,typeInfo,hi,hz];rw [e',e3];simp only [ε] at hw;rw [hw];simp [goInt,tR]
theorem ry {P:Program} {w:World} {t kt et:TypeId} {n:Nat} (ht:P.underlying t=some (.map kt et)) (h:kQ P kt=some n) {x:List Int} (hx:x.length=n) {b:Nat} {l:List (List Int × Value)} (hl:∀ p ∈ l,p.1.length=n)
  (hb:w.heap[b]?=some (.map (xL l 0).toArray (xL l 0).toArray.size)) {j:Nat} {v0:Value} (hj:sN x l 0=some (j,v0)) :
  (Instr.mapEntry t (.map (some b)) (uY x)).run P w = .ok (.tuple #[v0,.int .i64 j]) (qJ w b (.map (xL l 0).toArray (xL l 0).toArray.size)):=by
 have hg:(getObj b).run P w = .ok (.map (xL l 0).toArray (xL l 0).toArray.size) w:=by simp [getObj,Sem.run,hb]
 have hc:=tQ (w:=w) h false hx;have hf:=tA (w:=w) h hx l hl;rw [hj] at hf;obtain⟨_,h2⟩:=iJ hj;rw [Ar] at h2;have hjl:j<l.length:=(χ.1 h2).1;have h3:=uv (i:=0) h2;rw [Aq] at h3;have hw:=qP (P:=P) (.map (xL l 0).toArray (xL l 0).toArray.size) hb ⟨_,_,rfl⟩;have hs:=qa (P:=P) (w:=w) x
 have e:((xL l 0).toArray.modify j λe=>{ e with key:=uY x })= (xL l 0).toArray:=by
  apply Array.ext';rw [A6];apply ψ;intro i;rw [Ag];have hlt:j<(xL l 0).length:=by rw [tR]; exact hjl
  by_cases hi:j=i
  ·subst hi
   have h5:(xL l 0)[j]=⟨uY x,v0,j⟩:=by rw [κ hlt] at h3;exact Option.some.inj h3
   simp [hlt,h5]
  ·simp [hi]
 have hat:(xL l 0).toArray[j]?=some ⟨uY x,v0,j⟩:=by simpa using h3
 simp only [Instr.mapEntry,Sem.run_bind,run_underlying ht,Result.andThen_ok,hg,hc,hf,hat,Bb,Ba,hs,e,hw,Sem.run_pure,goInt]
theorem uN.put {Rel:Value->D->Prop} {x:List Int} {v:Value} {d:D} (hr:Rel v d):∀ {a:List (List Int × Value)} {b:List (List Int × D)} {j:Nat} {v0:Value},uN Rel a b->a[j]?=some (x,v0)->uN Rel (a.set j (x,v)) (b.set j (x,d))
 | [],[],_,_,_,h=>by simp at h
 | (k,v1) :: r,(k',d1) :: r',0,v0,h,ha=>by simp only [Ad,Option.some.injEq,Prod.mk.injEq] at ha;obtain⟨rfl,rfl⟩:=ha;obtain⟨rfl,h1,h2,h3⟩:=h;exact⟨rfl,h1,hr,h3⟩
 | (k,v1) :: r,(k',d1) :: r',j+1,v0,h,ha=>⟨h.1,h.2.1,h.2.2.1,uN.put hr h.2.2.2 (by simpa using ha)⟩
section
variable {P : Program} {t kt et : TypeId} {q kk : IntKind} {b : Nat} {es : Array MapEntry} {x : Int}
theorem Uf (ht:P.underlying t=some (.map kt et)) (hk:P.underlying kt=some (.int q)) (hb:w.heap[b]?=some (.map es es.size)) (v:Value) :
  (Instr.findNow (.int q) (.int kk x) es.toList 0=some none->(Instr.mapUpdate t (.map (some b)) (.int kk x) v).run P w = .ok () (qJ w b (.map (es.push ⟨.int kk x,v,es.size⟩) (es.push ⟨.int kk x,v,es.size⟩).size)))/\
  ∀ j v',Instr.findNow (.int q) (.int kk x) es.toList 0=some (some (j,v'))->es[j]?=some ⟨.int kk x,v',j⟩ ->
   (Instr.mapUpdate t (.map (some b)) (.int kk x) v).run P w = .ok () (qJ w b (.map (es.modify j λe=>{ e with key:=.int kk x,val:=v }) (es.modify j λe=>{ e with key:=.int kk x,val:=v }).size)):=by
 have hg:(getObj b).run P w = .ok (.map es es.size) w:=by simp [getObj,Sem.run,hb]
 have hc:=oJ hk false 9999 kk x w;have hs:=pz (kk:=kk) (x:=x) P w
 refine⟨λhf=>?_,λj v' hf hj=>?_⟩
 ·have hw:=qP (P:=P) (.map (es.push ⟨.int kk x,v,es.size⟩) (es.push ⟨.int kk x,v,es.size⟩).size) hb ⟨_,_,rfl⟩;simp [Instr.mapUpdate,run_underlying ht,hg,hc,Instr.findKey,run_underlying hk,hf];simpa using hw
 ·have hw:=qP (P:=P) (.map (es.modify j λe=>{ e with key:=.int kk x,val:=v }) (es.modify j λe=>{ e with key:=.int kk x,val:=v }).size) hb ⟨_,_,rfl⟩;simp [Instr.mapUpdate,run_underlying ht,hg,hc,Instr.findKey,run_underlying hk,hf,hj,hs];simpa using hw
theorem Ue {inf:TypeInfo} {z:Value} (ht:P.underlying t=some (.map kt et)) (hk:P.underlying kt=some (.int q)) (hi:P.info? et=some inf) (hz:inf.zero=some z) (hb:w.heap[b]?=some (.map es es.size)) :
  (Instr.findNow (.int q) (.int kk x) es.toList 0=some none->(Instr.mapEntry t (.map (some b)) (.int kk x)).run P w = .ok (.tuple #[z,.int .i64 es.size]) (qJ w b (.map (es.push ⟨.int kk x,z,es.size⟩) (es.push ⟨.int kk x,z,es.size⟩).size)))/\
  ∀ j v',Instr.findNow (.int q) (.int kk x) es.toList 0=some (some (j,v'))->es[j]?=some ⟨.int kk x,v',j⟩ ->
   (Instr.mapEntry t (.map (some b)) (.int kk x)).run P w = .ok (.tuple #[v',.int .i64 j]) (qJ w b (.map (es.modify j λe=>{ e with key:=.int kk x }) (es.modify j λe=>{ e with key:=.int kk x }).size)):=by
 have hg:(getObj b).run P w = .ok (.map es es.size) w:=by simp [getObj,Sem.run,hb]
 have hc:=oJ hk false 9999 kk x w;have hs:=pz (kk:=kk) (x:=x) P w
 refine⟨λhf=>?_,λj v' hf hj=>?_⟩
 ·have hw:=qP (P:=P) (.map (es.push ⟨.int kk x,z,es.size⟩) (es.push ⟨.int kk x,z,es.size⟩).size) hb ⟨_,_,rfl⟩;simp at hw;simp [Instr.mapEntry,run_underlying ht,hg,hc,Instr.findKey,run_underlying hk,hf,zeroValue,typeInfo,hi,hz,hw,goInt]
 ·have hw:=qP (P:=P) (.map (es.modify j λe=>{ e with key:=.int kk x }) (es.modify j λe=>{ e with key:=.int kk x }).size) hb ⟨_,_,rfl⟩;simp at hw;simp [Instr.mapEntry,run_underlying ht,hg,hc,Instr.findKey,run_underlying hk,hf,hj,hs,hw,goInt]
theorem Ud {i:Nat} {kv:IntKind} (hb:w.heap[b]?=some (.map es es.size)) (hborn:∀ j,j<es.size->∃ k v,es[j]?=some ⟨k,v,j⟩) (hi:i<es.size) (v:Value) :
  (Instr.entryStore t (.map (some b)) (.int kv i) v).run P w = .ok () (qJ w b (.map (es.modify i λe=>{ e with val:=v }) (es.modify i λe=>{ e with val:=v }).size)):=by
 have hg:(getObj b).run P w = .ok (.map es es.size) w:=by simp [getObj,Sem.run,hb]
 have hf:es.findIdx? (λe=>(e.born:Int)== (i:Int))= some i:=by
  rw [Array.findIdx?_eq_some_iff_getElem]
  have at_:∀ j (h:j<es.size),es[j].born=j:=λj h=>by obtain⟨k,v,e⟩:=hborn j h;rw [Array.getElem?_eq_getElem h] at e;rw [Option.some.inj e]
  refine⟨hi,by rw [at_ i hi]; simp,λj hj=>?_⟩;rw [at_ j (by omega)];simp; omega
 have hw:=qP (P:=P) (.map (es.modify i λe=>{ e with val:=v }) (es.modify i λe=>{ e with val:=v }).size) hb ⟨_,_,rfl⟩;simp at hw;simp [Instr.entryStore,hg,asInt,asIntOf,hf,hw]
end
theorem wt {M0:Nat->Prop} {w':World} {ob:Ob} {cur:Array Value} {e:TypeId} (hS:zI M0 w σ ι) (hk:Kept w w' λ_=>False) (hc:w'.heap[w.heap.size]?=some (Obj.cells cur e (0,0))) (h0:0<ob.sz) (hfit:ob.xZ.length*ob.sz<=cur.size)
  (hrows:RowsIn (yO M0 ι σ) w ι σ.nx ob.sz (λq=>cur.getD q undef) ob.xZ) :
  zI M0 w' (σ.new ob) (uT σ ι w.heap.size)/\ (∀ k,k<σ.nx->uT σ ι w.heap.size k=ι k)/\ (∀ k o,(σ.new ob).get k=some o->w.heap.size<=uT σ ι w.heap.size k\/rB ι σ (uT σ ι w.heap.size k)):=
 hS.new hk (.inl ⟨h0,cur,e,hc,hrows.len,hfit,hrows.cell⟩)
theorem Z0 {dst:Option Nat} {k:DK} {K:D->St->Prop} (hk:Ze C.P C.N C.own o=some k) (hdst:o.dst=dst) (hN:∀ t,dst=some t->t<C.N) (G:yR C E a w f σ ι) (h:zC C σ (wP f) k K)
  (hn:∀ a' w' d σ',Good C E a' w' (f.put dst d) σ'->K d σ'->next a' w'):o.wp C.P a w next Q:=by
 have hS:=G.oC;have hR:∀ x y,xM C.N x=some y->R (yO E.M0 ι σ) w ι σ.nx (a.eval x) (wP f y):=λx y hxy=>oD G.fr hxy;have hN':∀ t,o.dst=some t->t<C.N:=λt ht=>hN t (by rw [<- hdst]; exact ht);have hownNew:∀ k ob,σ.get k=some ob->w.heap.size<=ι k\/rB ι σ (ι k):=λk ob hko=>.inr ⟨k,ob,hko,rfl⟩
 have stp:∀ {w':World} {σ':St} {ι':Nat->Nat} {v:Value} {d:D},Kept w w' (rB ι σ)->zI E.M0 w' σ' ι'->σ.nx<=σ'.nx->(∀ k,k<σ.nx->ι' k=ι k)->(∀ k o,σ'.get k=some o->w.heap.size<=ι' k\/rB ι σ (ι' k)) ->
   R (yO E.M0 ι' σ') w' ι' σ'.nx v d->K d σ'->next (a.put o.dst v) w':=by
  intro w' σ' ι' v d h1 h2 h3 h4 h5 h6 h7;refine hn _ _ _ _ ⟨ι',?_⟩ h7;rw [hdst];exact G.step h1 h2 h3 h4 h5 h6 (λt ht=>hN t ht)
 by_cases himp:k.impure=true
 ·have I :=Q5 hk himp;unfold zC at h
  cases I with
  | @box t x x' hop hx=>
   simp only at h
   split at h
   ·rename_i cs hcs;obtain⟨h1,h2,h3⟩:=h;have hc:=fZ (hR _ _ hx) hcs;have hk0:=Kept.alloc w (.cells (a.eval x).cells t) λ_=>False;obtain⟨g1,g2,g3⟩:=wt (ob:=⟨cs.length,[cs]⟩) hS hk0 (heap_alloc_new w _) h2 (by simp; rw [hc.1]; exact Ai _) (cd hc h1)
    have hrun:(execOp a.eval o).run C.P w = .ok (.value (.pointer (some ⟨w.heap.size,0,none⟩))) (w.alloc (.cells (a.eval x).cells t)):=by simp [execOp,hop,Instr.box,newVar,newRow]
    refine uZ hrun (stp (hk0.none _) g1 (Am _) g2 g3 ?_ h3);have:=R.ref (M:=yO E.M0 (uT σ ι w.heap.size) (σ.new ⟨cs.length,[cs]⟩)) (w:=w.alloc (.cells (a.eval x).cells t)) (ι:=uT σ ι w.heap.size) (n:=(σ.new ⟨cs.length,[cs]⟩).nx) (key:=σ.nx) (sz:=cs.length) (i:=0) (off:=0) (Aj _) h2;simpa [zE] using this
   ·exact h.elim
  | bad=>simp [zN] at h
  | @alloc e z hop hz=>
   obtain⟨h1,h2,h3⟩:=h;obtain⟨inf,zv,hi,hzv,hm⟩:=gH hz;have hc:=ZU (M:=yO E.M0 ι σ) (w:=w) (ι:=ι) (n:=σ.nx) hm;have hk0:=Kept.alloc w (.cells zv.cells e) λ_=>False;obtain⟨g1,g2,g3⟩:=wt (ob:=⟨z.length,[z]⟩) hS hk0 (heap_alloc_new w _) h2 (by simp; rw [hc.1]; exact Ai _) (cd hc h1)
   have hrun:(execOp a.eval o).run C.P w = .ok (.value (.pointer (some ⟨w.heap.size,0,none⟩))) (w.alloc (.cells zv.cells e)):=by simp [execOp,hop,Instr.alloc,newVar,newRow,zeroValue,typeInfo,hi,hzv]
   refine uZ hrun (stp (hk0.none _) g1 (Am _) g2 g3 ?_ h3);have:=R.ref (M:=yO E.M0 (uT σ ι w.heap.size) (σ.new ⟨z.length,[z]⟩)) (w:=w.alloc (.cells zv.cells e)) (ι:=uT σ ι w.heap.size) (n:=(σ.new ⟨z.length,[z]⟩).nx) (key:=σ.nx) (sz:=z.length) (i:=0) (off:=0) (Aj _) h2;simpa [zE] using this
  | @call fo args ts f' xs hop hf hxs=>
   simp only at h
   split at h
   ·rename_i g caps hfn;obtain⟨d,σ',hc,hK⟩:=h;obtain⟨us,h1,h2,h3⟩:=(hfn ▸ hR _ _ hf).kM;obtain⟨g1,g2⟩:=jU hR hxs
    have hrun:(execOp a.eval o).run C.P w = .ok (.enter g (args.map a.eval++us)) w:=by have:=oK hc.ord (args.map a.eval++us) w;simp [execOp,hop,resolve,h1,Deferred.ofValue,invoke,this]
    refine sy hrun hc hS (by simp [g1,h2]) (λj hj=>?_) (λv w' ι' k1 k2 k3 k4 k5 k6=>stp k1 k2 k3 k4 k5 k6 hK);simp only [θ] at hj
    by_cases hlt:j<(xs.map (wP f)).length
    ·have:=g2 j hlt;have hlt':j<(args.map a.eval).size:=by omega
     have e1:(args.map a.eval++us).getD j undef=(args.map a.eval).getD j undef:=by simp only [Aw,Ax hlt']
     have e2:(xs.map (wP f)++ caps).getD j .top=(xs.map (wP f)).getD j .top:=by simp only [List.getD,γ hlt]
     rw [e1,e2]; exact this
    ·have:=h3 (j-(xs.map (wP f)).length) (by omega)
     have e1:(args.map a.eval++us).getD j undef=us.getD (j-(xs.map (wP f)).length) undef:=by simp only [Aw];rw [A3 (by omega),g1]
     have e2:(xs.map (wP f)++ caps).getD j .top=caps.getD (j-(xs.map (wP f)).length) .top:=by simp only [List.getD];rw [δ (by omega)]
     rw [e1,e2]; exact this
   ·exact h.elim
  | @jF t l c e l' c' z inf hop he hi h0 hz hl hc hzl=>
   simp only at h
   split at h
   ·rename_i nn mm hln hcn;obtain⟨rfl,h1,h2,h3,h4⟩:=h;obtain⟨inf',zv,hi',hzv,hm⟩:=gH hz;rw [hi] at hi';simp at hi'; subst hi';have hL:=(hln ▸ hR _ _ hl).yT;have hC:=(hcn ▸ hR _ _ hc).yT;obtain⟨q,rfl⟩:=Be h1
    have hw:IntKind.i64.wrap (q:Int)= q:=by have:=hL.2;simp [IntKind.min,IntKind.max,IntKind.signed,IntKind.bits] at this;simp [IntKind.wrap,IntKind.signed,IntKind.bits];split <;> omega
    have htl:¬ ((q:Int)<0\/281474976710656<(inf.bytes:Int)* (q:Int)):=by omega
    have hcur:=wa (M:=yO E.M0 ι σ) (w:=w) (ι:=ι) (n:=σ.nx) hm hzl q
    have hrun:∃ cur:Array Value,cur=(Array.range (q*inf.size)).map (zv.cells[· % zv.cells.size]!)/\ (execOp a.eval o).run C.P w = .ok (.value (.slice (some ⟨w.heap.size,0,none⟩) q q)) (w.alloc (.cells cur e)):=by
     refine⟨_,rfl,?_⟩;have n1:¬ ((q:Int)<0):=by omega
     have n2:¬ (281474976710656<(inf.bytes:Int)* (q:Int)):=by omega
     have ask:∀ (w:World) (b:Nat),(askRoom b).run C.P w = .ok () w:=by intro w b;unfold askRoom;split <;> rfl
     by_cases hq:q*inf.size=0
     ·have hr0:Array.range 0 = #[]:=rfl;simp [execOp,hop,hL.1,hC.1,Instr.makeSlice,run_underlying he,asInt,asIntOf,typeInfo,hi,hw,n1,n2,ask,sizeOf,newRow,hq,hr0]
     ·simp [execOp,hop,hL.1,hC.1,Instr.makeSlice,run_underlying he,asInt,asIntOf,typeInfo,hi,hw,n1,n2,ask,sizeOf,newRow,hq,zeroValue,hzv]
    obtain⟨cur,hcurE,hrun⟩:=hrun;rw [<- hcurE] at hcur;have hk0:=Kept.alloc w (.cells cur e) λ_=>False
    have hrows:RowsIn (yO E.M0 ι σ) w ι σ.nx inf.size (λq=>cur.getD q undef) (List.replicate q z):=by
     refine⟨hcur.2.1,λi hi0 j hj=>⟨?_,hcur.2.2 i hi0 j hj⟩⟩;have hi1:i<q:=by simpa using hi0
     refine gN (hcur.2.2 i hi0 j hj) ?_;have e:(List.replicate q z).getD i []=z:=by simp [List.getD,hi1]
     rw [e];exact nI h3 (by omega)
    obtain⟨g1,g2,g3⟩:=wt (ob:=⟨inf.size,List.replicate q z⟩) hS hk0 (heap_alloc_new w _) h0 (by rw [hcur.1]; exact Ai _) hrows;simp only [Bf] at h4;refine uZ hrun (stp (hk0.none _) g1 (Am _) g2 g3 ?_ h4)
    have hq63:q<=maxLen:=by have:=hL.2;simp [IntKind.min,IntKind.max,IntKind.signed,IntKind.bits] at this;simp only [maxLen]; omega
    have hbk:(w.alloc (.cells cur e)).heap[uT σ ι w.heap.size σ.nx]?=some (Obj.cells cur e (0,0)):=by rw [zE]; exact heap_alloc_new w _
    have hcs:q*inf.size=cur.size:=by rw [hcur.1]; simp
    have:=R.wZ (M:=yO E.M0 (uT σ ι w.heap.size) (σ.new ⟨inf.size,List.replicate q z⟩)) (ι:=uT σ ι w.heap.size) (n:=(σ.new ⟨inf.size,List.replicate q z⟩).nx) (key:=σ.nx) (sz:=inf.size) (len:=q) (cap:=q) (Aj _) (Ai _) hq63 hbk (Au hcs);simpa [zE] using this
   ·exact h.elim
  | @lZ t len ps e z parts inf hop he hi h0 hz hzl hsmall hps=>
   simp only at h
   split at h
   ·rename_i es hfill;obtain⟨h1,h2⟩:=h;obtain⟨inf',zv,hi',hzv,hm⟩:=gH hz;rw [hi] at hi';simp at hi'; subst hi'
    have hpar:Sx (yO E.M0 ι σ) w ι σ.nx (ps.toList.map λp=>(p.1,a.eval p.2)) (parts.map λp=>(p.1,wP f p.2)):=by
     clear hfill;generalize ps.toList=l at hps;clear hk himp
     induction l generalizing parts with
     | nil=>simp [wI] at hps; subst hps; trivial
     | cons p l ih=>
      unfold wI at hps
      split at hps
      ·rename_i q qs hq hqs;simp at hps; subst hps;simp only [zO] at hq;obtain⟨y,hy,rfl⟩:=hq;exact⟨rfl,hR _ _ hy,ih hqs⟩
      ·simp at hps
    obtain⟨cs',hf,hr,hl⟩:=aM _ _ _ _ _ _ (wa (M:=yO E.M0 ι σ) (w:=w) (ι:=ι) (n:=σ.nx) hm hzl len) hpar hfill;simp only [π] at hl
    have hrun:(execOp a.eval o).run C.P w = .ok (.value (.slice (some ⟨w.heap.size,0,none⟩) len len)) (w.alloc (.cells cs' e)):=by
     by_cases hlen:len=0
     ·subst hlen;have hr0:Array.range 0 = #[]:=rfl;have hf0:Instr.fill (λi=>some (i*inf.size,inf.size)) #[] (ps.map λp=>(p.1,a.eval p.2)).toList=some cs':=by simpa [hr0] using hf
      simp at hf0;simp [execOp,hop,Instr.buildSlice,run_underlying he,sizeOf,typeInfo,zeroValue,hi,newRow,hf0,hr0]
     ·have hpos:¬ len*inf.size=0:=by rw [Nat.mul_eq_zero]; omega
      have hrun:=run_buildSlice w t e len (ps.map λp=>(p.1,a.eval p.2)) cs' inf zv he hi hzv (by omega) hpos (by simpa using hf);simp only [execOp,hop,Sem.run_bind,hrun,Result.andThen_ok];rfl
    have hk0:=Kept.alloc w (.cells cs' e) λ_=>False
    have hrows:RowsIn (yO E.M0 ι σ) w ι σ.nx inf.size (λq=>cs'.getD q undef) es:=by
     refine⟨hr.2.1,λi hi0 j hj=>⟨?_,hr.2.2 i hi0 j hj⟩⟩;refine gN (hr.2.2 i hi0 j hj) ?_;have hmem:es.getD i [] ∈ es:=by simp [List.getD,hi0]
     exact nI (h1 _ hmem) (by rw [hr.2.1 _ hmem]; exact hj)
    obtain⟨g1,g2,g3⟩:=wt (ob:=⟨inf.size,es⟩) hS hk0 (heap_alloc_new w _) h0 (by rw [hr.1]; exact Ai _) hrows;refine uZ hrun (stp (hk0.none _) g1 (Am _) g2 g3 ?_ h2)
    have hq63:len<=maxLen:=by have:len<=len*inf.size:=Nat.le_mul_of_pos_right _ h0;simp only [maxLen]; omega
    have hbk:(w.alloc (.cells cs' e)).heap[uT σ ι w.heap.size σ.nx]?=some (Obj.cells cs' e (0,0)):=by rw [zE]; exact heap_alloc_new w _
    have hcs:len*inf.size=cs'.size:=by rw [hr.1,hl]
    have:=R.wZ (M:=yO E.M0 (uT σ ι w.heap.size) (σ.new ⟨inf.size,es⟩)) (ι:=uT σ ι w.heap.size) (n:=(σ.new ⟨inf.size,es⟩).nx) (key:=σ.nx) (sz:=inf.size) (len:=len) (cap:=len) (Aj _) (Ai _) hq63 hbk (Au hcs);simpa [zE] using this
   ·exact h.elim
  | @yu t r hop hr hm=>
   simp only at h;have hk0:=Kept.alloc w (.map #[] 0) λ_=>False
   have hrun:(execOp a.eval o).run C.P w = .ok (.value (.map (some w.heap.size))) (w.alloc (.map #[] 0)):=by
    obtain⟨kt,et,h1⟩:=hm
    rcases hr with rfl | ⟨k,n,rfl⟩
    ·simp [execOp,hop,Instr.makeMap,newObj]; rfl
    ·simp [execOp,hop,Instr.makeMap,newObj,run_underlying h1,Act.eval,asInt,asIntOf]; rfl
   obtain⟨g1,g2,g3⟩:=hS.new (ob:=⟨0,[]⟩) hk0 (.inr ⟨rfl,#[],heap_alloc_new w _,rfl,λi hi=>by simp at hi⟩);refine uZ hrun (stp (hk0.none _) g1 (Am _) g2 g3 ?_ h);have:=R.yV (M:=yO E.M0 (uT σ ι w.heap.size) (σ.new ⟨0,[]⟩)) (w:=w.alloc (.map #[] 0)) (ι:=uT σ ι w.heap.size) (n:=(σ.new ⟨0,[]⟩).nx) (key:=σ.nx) (Aj _);simpa [zE] using this
  | @nA t m k x m' k' x' d0 hop hm h1 h2 h3=>
   simp only at h;obtain⟨kt,et,q,inf,z,t1,t2,_⟩:=cL hm
   split at h
   ·rename_i key kk y hb hc;obtain⟨g1,g2⟩:=(hb ▸ hR _ _ h1).qN;have g3:=(hc ▸ hR _ _ h2).yT.1
    split at h
    ·rename_i ob hob;obtain⟨c1,c2,c3⟩:=h;obtain⟨es,e1,e2,e3⟩:=yZ.mapped (hS.holds key ob hob).2 c1;have he:=qH.of e2 e3 c2
     have fin:∀ (es':Array MapEntry) (els':List (List D)),qH (R (yO E.M0 ι σ) w ι σ.nx) kk es'.toList els' 0->(Instr.mapUpdate t (.map (some (ι key))) (.int kk y) (a.eval x)).run C.P w = .ok () (qJ w (ι key) (.map es' es'.size))->K .uO (σ.set key ⟨0,els'⟩)->o.wp C.P a w next Q:=by
      intro es' els' q1 q2 q3;obtain⟨s1,s2⟩:=hS.wu hob e1 q1.holds
      have hrun:(execOp a.eval o).run C.P w = .ok .skip (qJ w (ι key) (.map es' es'.size)):=by rcases hop with hop | hop <;> simp [execOp,hop,g1,g3,q2]
      unfold Oper.wp;rw [hrun];simp only [Oper.upon];refine stp s2 s1 (Ai _) (λ_ _=>rfl) (λk ob1 hk1=>.inr ?_) (.pure .uO) q3;rw [vG] at hk1
      split at hk1
      ·rename_i he; subst he; exact⟨key,ob,hob,rfl⟩
      ·exact⟨k,ob1,hk1,rfl⟩
     obtain⟨r1,r2⟩:=Uf (x:=y) (kk:=kk) t1 t2 e1 (a.eval x);have hRx:=hR _ _ h3;have hRk:R (yO E.M0 ι σ) w ι σ.nx (.int kk y) (.int kk y):=by have:=hc ▸ hR _ _ h2; rw [g3] at this; exact this
     rcases he.find q y with ⟨f1,f2⟩ | ⟨j,v,d,f1,f2,f3,f4,f5,f6⟩
     ·unfold aE at c3;rw [f2] at c3;refine fin _ _ ?_ (r1 f1) c3;have:=he.snoc (x:=y) hRk hRx;simpa using this
     ·unfold aE at c3;rw [f2] at c3;have f4':es[j]?=some ⟨.int kk y,v,j⟩:=by simpa using f4
      refine fin _ _ ?_ (r2 j v f1 f4') c3;rw [ua f4'];have:=he.set (x:=y) hRk hRx j;simpa using this
    ·exact h.elim
   ·exact h.elim
  | @qU t m k x m' k' x' n d0 hop hm h1 h2 h3=>
   simp only at h;obtain⟨kt,et,inf,z,t1,t2,_⟩:=cM hm
   split at h
   ·rename_i key cs hb hc;obtain⟨g1,g2⟩:=(hb ▸ hR _ _ h1).qN;have g3:=hc ▸ hR _ _ h2
    split at h
    ·rename_i ob hob;obtain⟨c1,y,l,⟨c2,c4,⟨c5,c6⟩⟩,c3⟩:=h;subst c2;have g4:=iR g3;obtain⟨es,e1,e2,e3⟩:=yZ.mapped (hS.holds key ob hob).2 c1;rw [c4] at e2 e3
     obtain⟨lv,q1,q2⟩:=uN.of (Rel:=R (yO E.M0 ι σ) w ι σ.nx) (λv ks h=>iR h) (es:=es.toList) (l:=l) (i0:=0) (by rw [qL] at e2; simpa using e2) λi hi=>by obtain⟨kv,v,x,d,g1,g2,g3,g4⟩:=e3 i (by rw [qL]; exact hi);exact⟨kv,v,x,d,g1,by simpa using g2,g3,g4⟩
     have q3:es=(xL lv 0).toArray:=by rw [<- q1]
     subst q3
     have fin:∀ {lv':List (List Int × Value)} {l':List (List Int × D)},uN (R (yO E.M0 ι σ) w ι σ.nx) lv' l'->(Instr.mapUpdate t (.map (some (ι key))) (uY y) (a.eval x)).run C.P w = .ok () (qJ w (ι key) (.map (xL lv' 0).toArray (xL lv' 0).toArray.size)) ->
       K .uO (σ.set key ⟨0,vZ l'⟩)->o.wp C.P a w next Q:=by
      intro lv' l' q4 hr c3;obtain⟨s1,s2⟩:=hS.wu hob e1 q4.holds
      have hrun:(execOp a.eval o).run C.P w = .ok .skip (qJ w (ι key) (.map (xL lv' 0).toArray (xL lv' 0).toArray.size)):=by simp [execOp,hop,g1,g4,hr]
      unfold Oper.wp;rw [hrun];simp only [Oper.upon];refine stp s2 s1 (Ai _) (λ_ _=>rfl) (λk ob1 hk1=>.inr ?_) (.pure .uO) c3;rw [vG] at hk1
      split at hk1
      ·rename_i he; subst he; exact⟨key,ob,hob,rfl⟩
      ·exact⟨k,ob1,hk1,rfl⟩
     rcases q2.find y 0 with ⟨f1,f2⟩ | ⟨j,v,d,f1,f2,_⟩
     ·rw [show lN y (wP f x') l=l ++ [(y,wP f x')] by unfold lN; rw [f2]] at c3;exact fin (q2.snoc (x:=y) (g4 ▸ g3) (hR _ _ h3)) (gm t1 t2 c5 (q2.all c6) e1 f1 (a.eval x)) c3
     ·rw [show lN y (wP f x') l=l.set j (y,wP f x') by unfold lN; rw [f2]] at c3;have hat:=(iJ f1).2;rw [Ar] at hat;exact fin (q2.put (hR _ _ h3) hat) (gn t1 t2 c5 (q2.all c6) e1 f1 (a.eval x)) c3
    ·exact h.elim
   ·exact h.elim
  | @oT t m k m' k' n zero hop hm h1 h2=>
   simp only at h;obtain⟨kt,et,inf,z,t1,t2,t3,t4,t5⟩:=cM hm
   split at h
   ·rename_i key cs hb hc;obtain⟨g1,g2⟩:=(hb ▸ hR _ _ h1).qN;have g3:=hc ▸ hR _ _ h2
    split at h
    ·rename_i ob hob;obtain⟨c1,c0,y,l,⟨c2,c4,⟨c5,c6⟩⟩,c3⟩:=h;subst c2;have g4:=iR g3;obtain⟨es,e1,e2,e3⟩:=yZ.mapped (hS.holds key ob hob).2 c1;rw [c4] at e2 e3
     obtain⟨lv,q1,q2⟩:=uN.of (Rel:=R (yO E.M0 ι σ) w ι σ.nx) (λv ks h=>iR h) (es:=es.toList) (l:=l) (i0:=0) (by rw [qL] at e2; simpa using e2) λi hi=>by obtain⟨kv,v,x,d,g1,g2,g3,g4⟩:=e3 i (by rw [qL]; exact hi);exact⟨kv,v,x,d,g1,by simpa using g2,g3,g4⟩
     have q3:es=(xL lv 0).toArray:=by rw [<- q1]
     subst q3
     have fin:∀ {lv':List (List Int × Value)} {l':List (List Int × D)} (v:Value) (d:D) (i:Nat),uN (R (yO E.M0 ι σ) w ι σ.nx) lv' l'->(Instr.mapEntry t (.map (some (ι key))) (uY y)).run C.P w = .ok (.tuple #[v,.int .i64 i]) (qJ w (ι key) (.map (xL lv' 0).toArray (xL lv' 0).toArray.size)) ->
       R (yO E.M0 ι σ) w ι σ.nx v d->i<=1000000000->K (.yD [d,.int .i64 i]) (σ.set key ⟨0,vZ l'⟩)->o.wp C.P a w next Q:=by
      intro lv' l' v d i q4 hr q5 q6 c3;obtain⟨s1,s2⟩:=hS.wu hob e1 q4.holds
      have hrun:(execOp a.eval o).run C.P w = .ok (.value (.tuple #[v,.int .i64 i])) (qJ w (ι key) (.map (xL lv' 0).toArray (xL lv' 0).toArray.size)):=by simp [execOp,hop,g1,g4,hr]
      have hown:∀ b,b<w.heap.size->yO E.M0 ι (σ.set key ⟨0,vZ l'⟩) b->yO E.M0 ι σ b:=by
       rintro b _ (hb' | ⟨k1,o1,hk1,rfl⟩)
       ·exact .inl hb'
       ·rw [vG] at hk1
        split at hk1
        ·rename_i he; subst he; exact .inr ⟨key,ob,hob,rfl⟩
        ·exact .inr ⟨k1,o1,hk1,rfl⟩
      refine uZ hrun (stp s2 s1 (Ai _) (λ_ _=>rfl) (λk ob1 hk1=>.inr ?_) (.yD rfl λj hj=>?_) c3)
      ·rw [vG] at hk1
       split at hk1
       ·rename_i he; subst he; exact⟨key,ob,hob,rfl⟩
       ·exact⟨k,ob1,hk1,rfl⟩
      ·match j,hj with
       | 0,_=>exact q5.xC (λb hb hM=>s2.block b hb λho=>hM (.inr ho)) hown s2.shape (λ_ _=>rfl) (Ai _)
       | 1,_=> refine .pure (.int ?_);simp [IntKind.min,IntKind.max,IntKind.signed,IntKind.bits];omega
     have hlen:lv.length=l.length:=q2.len;have hol:ob.xZ.length=l.length:=by rw [c4,qL]
     rcases q2.find y 0 with ⟨f1,f2⟩ | ⟨j,v,d,f1,f2,f6⟩
     ·rw [f2] at c3;have rz:R (yO E.M0 ι σ) w ι σ.nx z zero:=.pure (nE t5);have:=rv t1 t2 t3 t4 c5 (q2.all c6) e1 f1;rw [hlen,<- hol] at this;exact fin z zero ob.xZ.length (q2.snoc (x:=y) (g4 ▸ g3) rz) this rz c0 c3
     ·rw [f2] at c3;have hat:=(iJ f1).2;rw [Ar] at hat;have hj:j<lv.length:=(χ.1 hat).1;rw [c4] at c3;exact fin v d j q2 (ry t1 t2 c5 (q2.all c6) e1 f1) f6 (by omega) c3
    ·exact h.elim
   ·exact h.elim
  | @fF t m k m' k' zero hop hm h1 h2=>
   simp only at h;obtain⟨kt,et,q,inf,z,t1,t2,t3,t4,t5⟩:=cL hm
   split at h
   ·rename_i key kk y hb hc;obtain⟨g1,g2⟩:=(hb ▸ hR _ _ h1).qN;have g3:=(hc ▸ hR _ _ h2).yT.1
    split at h
    ·rename_i ob hob;obtain⟨c1,c2,c0,c3⟩:=h;obtain⟨es,e1,e2,e3⟩:=yZ.mapped (hS.holds key ob hob).2 c1;have he:=qH.of e2 e3 c2
     have fin:∀ (es':Array MapEntry) (els':List (List D)) (v:Value) (d:D) (i:Nat),qH (R (yO E.M0 ι σ) w ι σ.nx) kk es'.toList els' 0->(Instr.mapEntry t (.map (some (ι key))) (.int kk y)).run C.P w = .ok (.tuple #[v,.int .i64 i]) (qJ w (ι key) (.map es' es'.size)) ->
       R (yO E.M0 ι σ) w ι σ.nx v d->i<=1000000000->K (.yD [d,.int .i64 i]) (σ.set key ⟨0,els'⟩)->o.wp C.P a w next Q:=by
      intro es' els' v d i q1 q2 q4 q5 q3;obtain⟨s1,s2⟩:=hS.wu hob e1 q1.holds
      have hrun:(execOp a.eval o).run C.P w = .ok (.value (.tuple #[v,.int .i64 i])) (qJ w (ι key) (.map es' es'.size)):=by simp [execOp,hop,g1,g3,q2]
      have hown:∀ b,b<w.heap.size->yO E.M0 ι (σ.set key ⟨0,els'⟩) b->yO E.M0 ι σ b:=by
       rintro b _ (hb' | ⟨k1,o1,hk1,rfl⟩)
       ·exact .inl hb'
       ·rw [vG] at hk1
        split at hk1
        ·rename_i he; subst he; exact .inr ⟨key,ob,hob,rfl⟩
        ·exact .inr ⟨k1,o1,hk1,rfl⟩
      refine uZ hrun (stp s2 s1 (Ai _) (λ_ _=>rfl) (λk ob1 hk1=>.inr ?_) (.yD rfl λj hj=>?_) q3)
      ·rw [vG] at hk1
       split at hk1
       ·rename_i he; subst he; exact⟨key,ob,hob,rfl⟩
       ·exact⟨k,ob1,hk1,rfl⟩
      ·match j,hj with
       | 0,_=>exact q4.xC (λb hb hM=>s2.block b hb λho=>hM (.inr ho)) hown s2.shape (λ_ _=>rfl) (Ai _)
       | 1,_=> refine .pure (.int ?_);simp [IntKind.min,IntKind.max,IntKind.signed,IntKind.bits];omega
     obtain⟨r1,r2⟩:=Ue (x:=y) (kk:=kk) t1 t2 t3 t4 e1
     rcases he.find q y with ⟨f1,f2⟩ | ⟨j,v,d,f1,f2,f3,f4,f5,f6⟩
     ·rw [f2] at c3;have rz:R (yO E.M0 ι σ) w ι σ.nx z zero:=.pure (nE t5);refine fin _ _ z zero ob.xZ.length ?_ (by rw [<- e2]; exact r1 f1) rz c0 c3;have hRk:R (yO E.M0 ι σ) w ι σ.nx (.int kk y) (.int kk y):=by have:=hc ▸ hR _ _ h2; rw [g3] at this; exact this
      have:=he.snoc (x:=y) hRk rz;simpa using this
     ·rw [f2] at c3;have f4':es[j]?=some ⟨.int kk y,v,j⟩:=by simpa using f4
      have hjl:j<ob.xZ.length:=by have:=(Az.1 f4').1; omega
      refine fin _ _ v d j ?_ (r2 j v f1 f4') f6 (by omega) c3;rw [ua f4']
      have e5:es.toList.set j ⟨.int kk y,v,j⟩= es.toList:=by
       apply ψ;intro i;rw [Ab]
       split
       ·rename_i hij; subst hij;rw [if_pos (by simpa using (Az.1 f4').1)];simpa using f4'.symm
       ·rfl
      rw [e5]; exact he
    ·exact h.elim
   ·exact h.elim
  | @fD t m k x m' k' x' hop h1 h2 h3=>
   simp only at h
   split at h
   ·rename_i key kv i hb hc;obtain⟨g1,g2⟩:=(hb ▸ hR _ _ h1).qN;have g3:=(hc ▸ hR _ _ h2).yT.1
    split at h
    ·rename_i ob hob;obtain⟨c1,c2,c3,y,d,c4,c5⟩:=h;obtain⟨es,e1,e2,e3⟩:=yZ.mapped (hS.holds key ob hob).2 c1;obtain⟨j,rfl⟩:=Be c2;rw [Bf] at c4 c5;have hj:j<es.size:=by omega
     have hh:=yZ.QB e2 e3 c4 (hR _ _ h3);obtain⟨s1,s2⟩:=hS.wu hob e1 hh
     have hrun:(execOp a.eval o).run C.P w = .ok .skip (qJ w (ι key) (.map (es.modify j λe=>{ e with val:=a.eval x }) (es.modify j λe=>{ e with val:=a.eval x }).size)):=by have:=Ud (P:=C.P) (t:=t) (kv:=kv) e1 (λj hj=>by obtain⟨kv,v,x,d,_,g,_⟩:=e3 j (by omega); exact⟨_,_,g⟩) hj (a.eval x);simp only [execOp,hop,g1,g3,Sem.run_bind,this,Result.andThen_ok];rfl
     unfold Oper.wp;rw [hrun];simp only [Oper.upon];refine stp s2 s1 (Ai _) (λ_ _=>rfl) (λk ob1 hk1=>.inr ?_) (.pure .uO) c5;rw [vG] at hk1
     split at hk1
     ·rename_i he; subst he; exact⟨key,ob,hob,rfl⟩
     ·exact⟨k,ob1,hk1,rfl⟩
    ·exact h.elim
   ·exact h.elim
  | @j9 x t x' e z d inf hop he hi h1 hz hd hx=>
   simp only at h
   have hzv:∀ w,(zeroValue e).run C.P w = .ok z w:=by intro w;simp [zeroValue,typeInfo,hi,hz]
   have hzc:z.cells = #[z]/\z.oneCell'=true:=by unfold D.leaf at hd;split at hd <;> first | exact⟨rfl,rfl⟩ | simp at hd
   have none_run:∀ (w:World) (ad:Option Addr) (cap:Nat),a.eval x = .slice ad 0 cap->(execOp a.eval o).run C.P w = .ok (.value (.tuple #[])) w:=by intro w ad cap hX;cases ad <;> simp [execOp,hop,hX,resolve,Deferred.ofValue,invoke,builtin,Builtin.clear_,run_underlying he]
   have go:∀ (key lo n cap:Nat) (ob:Ob) (els':List (List D)),a.eval x = .slice (some ⟨ι key,lo*1,none⟩) n cap->σ.get key=some ob->ob.sz=1->0<n->lo+n<=ob.xZ.length->d.one=true ->
     els'=ob.xZ.take lo++(List.replicate n [d]++ob.xZ.drop (lo+n))->K (.yD []) (σ.set key ⟨1,els'⟩)->o.wp C.P a w next Q:=by
    intro key lo n cap ob els' hX hob hsz1 hn0 hle hone hels hK;obtain⟨cur,e',c1,c2,c3⟩:=RowsIn.iK (hS.holds key ob hob).2 (by omega);rw [hsz1,Ao] at c2;rw [hsz1] at c3;have hst:=run_storeCells_at C.P (ι key) lo e' (List.replicate n z) 0 cur w c1 (by simp; omega) (by intro v hv; rw [List.eq_of_mem_replicate hv]; exact hzc.2);simp only [An,π] at hst;generalize hcur':(cur.toList.take lo++List.replicate n z++cur.toList.drop (lo+n)).toArray=cur' at hst
    have hget:∀ q,cur'.getD q undef=if lo<=q/\q<lo+n then z else cur.getD q undef:=by
     intro q;rw [<- hcur'];have hl1:(cur.toList.take lo).length=lo:=by simp; omega
     simp only [Aw,ζ,μ]
     by_cases q1:q<lo
     ·rw [γ (by omega),if_neg (by omega),η,if_pos q1];simp
     ·rw [δ (by omega),hl1]
      by_cases q2:q<lo+n
      ·rw [γ (by simp; omega),if_pos ⟨by omega,q2⟩,Ac,if_pos (by omega)];simp
      ·rw [δ (by simp; omega),if_neg (by omega),ο,π];have:lo+n+(q-lo-n)= q:=by omega
       rw [this];simp
    have hsize:cur'.size=cur.size:=by rw [<- hcur'];simp only [ε,θ,ν,ξ,π,Ay];omega
    have hlen:els'.length=ob.xZ.length:=by rw [hels]; simp; omega
    have hat:∀ i,i<ob.xZ.length->els'.getD i []=if lo<=i/\i<lo+n then [d] else ob.xZ.getD i []:=by
     intro i hi;rw [hels];have hl1:(ob.xZ.take lo).length=lo:=by simp; omega
     simp only [List.getD]
     by_cases q1:i<lo
     ·rw [γ (by omega),if_neg (by omega),η,if_pos q1]
     ·rw [δ (by omega),hl1]
      by_cases q2:i<lo+n
      ·rw [γ (by simp; omega),if_pos ⟨by omega,q2⟩,Ac,if_pos (by omega)];rfl
      ·rw [δ (by simp; omega),if_neg (by omega),ο,π];have:lo+n+(i-lo-n)= i:=by omega
       rw [this]
    have hrows:RowsIn (yO E.M0 ι σ) w ι σ.nx 1 (λq=>cur'.getD q undef) els':=by
     refine⟨λel hel=>?_,λi hi j hj=>?_⟩
     ·obtain⟨i,hi,rfl⟩:=Aa hel;have:=hat i (by omega);simp only [List.getD,κ hi,Ba] at this;rw [this]
      split
      ·rfl
      ·have hi2:i<ob.xZ.length:=by omega
       rw [κ hi2];exact c3.len _ (υ hi2)
     ·have hi2:i<ob.xZ.length:=by omega
      have hj0:j=0:=by omega
      subst hj0;simp only [Ao,An,hget,hat i hi2]
      by_cases hc:lo<=i/\i<lo+n
      ·rw [if_pos hc,if_pos hc];exact⟨hzc.2,.pure (kF hd)⟩
      ·rw [if_neg hc,if_neg hc];have:=c3.cell i hi2 0 (Aj 0);simpa using this
    obtain⟨g1,g2⟩:=hS.set (ob':=⟨1,els'⟩) hob c1 hsize (Aj 0) (by simp only [Ao]; omega) hrows
    have hzz:(Builtin.zeroCells z.cells n).toList=List.replicate n z:=by
     rw [hzc.1];simp [Builtin.zeroCells]
     apply List.ext_getElem
     ·simp
     ·intro i h1 h2;simp [Nat.mod_one]
    have hrun:(execOp a.eval o).run C.P w = .ok (.value (.tuple #[])) (w.setRow (ι key) cur'):=by obtain⟨m,rfl⟩:∃ m,n=m+1:=⟨n-1,by omega⟩;rw [Ao] at hX;simp [execOp,hop,hX,resolve,Deferred.ofValue,invoke,builtin,Builtin.clear_,run_underlying he,hzv,hzz,hst]
    refine uZ hrun (stp g2 g1 (Ai _) (λ_ _=>rfl) (λk o hk=>?_) (.yD rfl (λj hj=>by simp at hj)) hK)
    by_cases ek:k=key
    ·subst ek; exact .inr ⟨k,_,hob,rfl⟩
    ·rw [vG,if_neg (λe=>ek e.symm)] at hk;exact .inr ⟨k,o,hk,rfl⟩
   split at h
   ·rename_i hb;exact uZ (none_run w none 0 (hb ▸ hR _ _ hx).uA) (stp (Kept.refl _ _) hS (Ai _) (λ_ _=>rfl) hownNew (.yD rfl (λj hj=>by simp at hj)) h)
   ·rename_i hb;obtain⟨ad,cap,e1⟩:=(hb ▸ hR _ _ hx).gK;exact uZ (none_run w (some ad) cap e1) (stp (Kept.refl _ _) hS (Ai _) (λ_ _=>rfl) hownNew (.yD rfl (λj hj=>by simp at hj)) h)
   ·rename_i key sz n hb
    split at h
    ·rename_i ob hob;obtain⟨rfl,g1,g2,g3,g4,g5⟩:=h;obtain⟨cap,cur,e',e1,_⟩:=(hb ▸ hR _ _ hx).tE;exact go key 0 n cap ob _ (by rw [e1]) hob g1 g2 (by omega) g4 (by simp) g5
    ·exact h.elim
   ·rename_i key sz lo n hb
    split at h
    ·rename_i ob hob;obtain⟨rfl,g1,g2,g3,g4,g5⟩:=h;obtain⟨cap,off,cur,e',e1,_,q1,_,_,q2⟩:=(hb ▸ hR _ _ hx).mU;obtain⟨rfl,_⟩:=q2.resolve_left (by omega);exact go key lo n cap ob _ e1 hob g1 g2 g3 g4 rfl g5
    ·exact h.elim
   ·exact h.elim
  | @j5 x y t u x' y' e inf hop he hi h1 hx hy=>
   simp only at h
   split at h
   ·exact h.elim
   rename_i rows hrows;obtain⟨hone,h⟩:=h;obtain⟨ad,cx,hY,hsrc⟩:=cm hS (hR _ _ hy) hrows hone
   have go:∀ (key lo n cap:Nat) (ob:Ob) (els':List (List D)),a.eval x = .slice (some ⟨ι key,lo*1,none⟩) n cap->n<=maxLen->σ.get key=some ob->ob.sz=1->0<min n rows.length->lo+n<=ob.xZ.length ->
     els'=ob.xZ.take lo++(rows.take (min n rows.length)++ ob.xZ.drop (lo+min n rows.length))->K (.int .i64 ((min n rows.length:Nat):Int)) (σ.set key ⟨1,els'⟩)->o.wp C.P a w next Q:=by
    intro key lo n cap ob els' hX hcm hob hsz1 hm0 hle hels hK;generalize hmm:min n rows.length=m at hm0 hels hK;have hmn:m<=n:=by omega
    have hmr:m<=rows.length:=by omega
    rcases hsrc with hnil | ⟨b,off,rfl,vs,hc,hri⟩
    ·subst hnil; simp at hmr; omega
    obtain⟨cur,e',c1,c2,c3⟩:=RowsIn.iK (hS.holds key ob hob).2 (by omega);rw [hsz1,Ao] at c2;rw [hsz1] at c3;generalize hzs:(List.range m).map vs=zs;have hzl:zs.length=m:=by rw [<- hzs]; simp
    have hzg:∀ q,q<m->zs[q]?=some (vs q):=by intro q hq;rw [<- hzs];simp [hq]
    have hz1:∀ u ∈ zs,u.oneCell'=true:=by intro u hu;rw [<- hzs] at hu;simp only [List.mem_map,List.mem_range] at hu;obtain⟨q,hq,rfl⟩:=hu;have:=(hri.cell q (by omega) 0 (Aj 0)).1;simpa using this
    have hst:=run_storeCells_at C.P (ι key) lo e' zs 0 cur w c1 (by omega) hz1;simp only [An,hzl] at hst;generalize hcur':(cur.toList.take lo++zs++cur.toList.drop (lo+m)).toArray=cur' at hst
    have hget:∀ q,cur'.getD q undef=if lo<=q/\q<lo+m then vs (q-lo) else cur.getD q undef:=by
     intro q;rw [<- hcur'];have hl1:(cur.toList.take lo).length=lo:=by simp; omega
     simp only [Aw,ζ,μ]
     by_cases q1:q<lo
     ·rw [γ (by omega),if_neg (by omega),η,if_pos q1];simp
     ·rw [δ (by omega),hl1]
      by_cases q2:q<lo+m
      ·rw [γ (by omega),if_pos ⟨by omega,q2⟩,hzg _ (by omega)];simp
      ·rw [δ (by omega),if_neg (by omega),ο,hzl];have:lo+m+(q-lo-m)= q:=by omega
       rw [this];simp
    have hsize:cur'.size=cur.size:=by rw [<- hcur'];simp only [ε,θ,ν,ξ,hzl,Ay];omega
    have hlen:els'.length=ob.xZ.length:=by rw [hels]; simp; omega
    have hat:∀ i,i<ob.xZ.length->els'.getD i []=if lo<=i/\i<lo+m then rows.getD (i-lo) [] else ob.xZ.getD i []:=by
     intro i hi;rw [hels];have hl1:(ob.xZ.take lo).length=lo:=by simp; omega
     have hl2:(rows.take m).length=m:=by simp; omega
     simp only [List.getD]
     by_cases q1:i<lo
     ·rw [γ (by omega),if_neg (by omega),η,if_pos q1]
     ·rw [δ (by omega),hl1]
      by_cases q2:i<lo+m
      ·rw [γ (by omega),if_pos ⟨by omega,q2⟩,η,if_pos (by omega)]
      ·rw [δ (by omega),if_neg (by omega),ο,hl2];have:lo+m+(i-lo-m)= i:=by omega
       rw [this]
    have hrows:RowsIn (yO E.M0 ι σ) w ι σ.nx 1 (λq=>cur'.getD q undef) els':=by
     refine⟨λel hel=>?_,λi hi j hj=>?_⟩
     ·obtain⟨i,hi,rfl⟩:=Aa hel;have:=hat i (by omega);simp only [List.getD,κ hi,Ba] at this;rw [this]
      split
      ·have hi2:i-lo<rows.length:=by omega
       rw [κ hi2];exact hri.len _ (υ hi2)
      ·have hi2:i<ob.xZ.length:=by omega
       rw [κ hi2];exact c3.len _ (υ hi2)
     ·have hi2:i<ob.xZ.length:=by omega
      have hj0:j=0:=by omega
      subst hj0;simp only [Ao,An,hget,hat i hi2]
      by_cases hc:lo<=i/\i<lo+m
      ·rw [if_pos hc,if_pos hc];have:=hri.cell (i-lo) (by omega) 0 (Aj 0);simpa using this
      ·rw [if_neg hc,if_neg hc];have:=c3.cell i hi2 0 (Aj 0);simpa using this
    obtain⟨g1,g2⟩:=hS.set (ob':=⟨1,els'⟩) hob c1 hsize (Aj 0) (by simp only [Ao]; omega) hrows
    have hfc:=run_firstCells_some (P:=C.P) (w:=w) 1 m ⟨b,off,none⟩ rows.length cx zs (by omega) (λj v hj=>by
     have hjm:j<m:=by
      rcases Nat.lt_or_ge j m with q | q
      ·exact q
      ·rw [Ae (by omega)] at hj; cases hj
     rw [hzg j hjm] at hj;cases hj;rw [Addr.add_lit];exact hc j (by omega))
    have hrun:(execOp a.eval o).run C.P w = .ok (.value (goInt m)) (w.setRow (ι key) cur'):=by
     have hmin:Nat.min rows.length n=m:=by rw [<- hmm]; exact Nat.min_comm _ _
     rw [Ao] at hX;simp [execOp,hop,hX,hY,resolve,Deferred.ofValue,invoke,builtin,Builtin.copy_,run_underlying he,sizeOf,typeInfo,hi,h1,Builtin.lenOf,hmin,hfc,hst]
    refine uZ hrun (stp g2 g1 (Ai _) (λ_ _=>rfl) (λk o hk=>?_) (.pure (.int ⟨?_,?_⟩)) hK)
    ·by_cases ek:k=key
     ·subst ek; exact .inr ⟨k,_,hob,rfl⟩
     ·rw [vG,if_neg (λe=>ek e.symm)] at hk;exact .inr ⟨k,o,hk,rfl⟩
    ·have:IntKind.i64.min = -9223372036854775808:=rfl;omega
    ·have:IntKind.i64.max=9223372036854775807:=rfl;simp only [maxLen] at hcm;omega
   split at h
   ·rename_i key sz n hb
    split at h
    ·rename_i ob hob;obtain⟨rfl,g1,g3,g4,g5⟩:=h;obtain⟨cap,cur,e',e1,_,k1,k2,_⟩:=(hb ▸ hR _ _ hx).tE;exact go key 0 n cap ob _ (by rw [e1]) (Ap k1 k2) hob g1 g4 (by omega) (by simp) g5
    ·exact h.elim
   ·rename_i key sz lo n hb
    split at h
    ·rename_i ob hob;obtain⟨rfl,g1,g3,g4,g5⟩:=h;obtain⟨cap,off,cur,e',e1,_,q1,k2,_,q2⟩:=(hb ▸ hR _ _ hx).mU;obtain⟨rfl,_⟩:=q2.resolve_left (by omega);exact go key lo n cap ob _ e1 (Ap q1 k2) hob g1 g4 g3 rfl g5
    ·exact h.elim
   ·exact h.elim
  | @store t x y m x' y' hop hm hx hy=>
   simp only at h
   split at h
   ·rename_i key sz i off ds ha hds
    split at h
    ·rename_i ob hob;obtain⟨h1,h2,h3,h4,h5,h6⟩:=h;obtain⟨hX,hlt,hs0⟩:=(ha ▸ hR _ _ hx).uV;have hv:=fZ (hR _ _ hy) hds;simp only [uD,A8] at hm;obtain⟨inf,hinf,rfl⟩:=hm;obtain⟨cur,e,c1,c2,c3⟩:=RowsIn.iK (hS.holds key ob hob).2 (by rw [h1]; exact hs0);subst h1
     have hlast:i*ob.sz+ob.sz<=cur.size:=by have:(i+1)* ob.sz<=ob.xZ.length*ob.sz:=Ak _ h2;rw [Al] at this;omega
     have hvl:(a.eval y).cells.toList.length=inf.size:=by simp [hv.1,h3]
     have hone:∀ u ∈ (a.eval y).cells.toList,u.oneCell'=true:=by
      intro u hu;obtain⟨j,hj,rfl⟩:=Aa hu;have hj':j<ds.length:=by rw [hvl] at hj; omega
      have hjs:j<(a.eval y).cells.size:=by rw [hv.1]; exact hj'
      have:=gN (hv.2 j hj') (nI h5 hj');simpa [hjs] using this
     have hst:=run_storeCells_at C.P (ι key) (i*ob.sz+off) e (a.eval y).cells.toList 0 cur w c1 (by rw [hvl]; omega) hone;simp only [An] at hst;generalize hcur':(cur.toList.take (i*ob.sz+off)++ (a.eval y).cells.toList++cur.toList.drop (i*ob.sz+off+(a.eval y).cells.toList.length)).toArray=cur' at hst
     have hget:∀ q,cur'.getD q undef=if i*ob.sz+off<=q/\q<i*ob.sz+off+inf.size then(a.eval y).cells.getD (q-(i*ob.sz+off)) undef else cur.getD q undef:=by
      intro q;rw [<- hcur'];have hl1:(cur.toList.take (i*ob.sz+off)).length=i*ob.sz+off:=by simp; omega
      simp only [Aw,ζ,μ]
      by_cases q1:q<i*ob.sz+off
      ·rw [γ (by omega),if_neg (by omega),η,if_pos q1];simp
      ·rw [δ (by omega),hl1]
       by_cases q2:q<i*ob.sz+off+inf.size
       ·rw [γ (by omega),if_pos ⟨by omega,q2⟩];simp
       ·rw [δ (by omega),if_neg (by omega),ο,hvl];have:i*ob.sz+off+inf.size+(q-(i*ob.sz+off)-inf.size)= q:=by omega
        rw [this];simp
     have hsize:cur'.size=cur.size:=by rw [<- hcur'];simp only [ε,θ,ν,ξ,hvl,Ay];omega
     have hel:(ob.xZ.getD i []).length=ob.sz:=by
      have:ob.xZ.getD i []=ob.xZ[i]:=by simp [List.getD,h2]
      rw [this]; exact c3.len _ (υ h2)
     have hrows:RowsIn (yO E.M0 ι σ) w ι σ.nx ob.sz (λq=>cur'.getD q undef) (ob.xZ.set i (oR (ob.xZ.getD i []) off ds)):=by
      refine⟨λel he=>?_,λi' hi' j hj=>?_⟩
      ·rcases List.mem_or_eq_of_mem_set he with h | rfl
       ·exact c3.len el h
       ·rw [cP]; exact hel
      ·simp only [List.length_set] at hi';simp only [hget]
       by_cases hc:i'=i
       ·subst hc;have e1:(ob.xZ.set i' (oR (ob.xZ.getD i' []) off ds)).getD i' []=oR (ob.xZ.getD i' []) off ds:=by simp [List.getD,hi']
        rw [e1,vq _ _ _ _ (by omega)]
        by_cases hin:off<=j/\j<off+ds.length
        ·rw [if_pos (by omega),if_pos hin];have e2:i'*ob.sz+j-(i'*ob.sz+off)= j-off:=by omega
         rw [e2];have hj':j-off<ds.length:=by omega
         exact⟨gN (hv.2 _ hj') (nI h5 hj'),hv.2 _ hj'⟩
        ·rw [if_neg (by omega),if_neg hin];exact c3.cell i' hi' j hj
       ·have e1:(ob.xZ.set i (oR (ob.xZ.getD i []) off ds)).getD i' []=ob.xZ.getD i' []:=by simp [List.getD,Af (λe=>hc e.symm)]
        rw [e1,if_neg (by intro hh; exact hc (Y1 hj (by omega) (by omega)))];exact c3.cell i' hi' j hj
     obtain⟨g1,g2⟩:=hS.set (ob':=⟨ob.sz,ob.xZ.set i (oR (ob.xZ.getD i []) off ds)⟩) hob c1 hsize hs0 (by simpa using c2) hrows
     have hrun:(execOp a.eval o).run C.P w = .ok .skip (w.setRow (ι key) cur'):=by
      have hsz:¬ ((a.eval y).cells.size≠inf.size):=by rw [hv.1,h3]; simp
      have hsz':(a.eval y).cells.size=inf.size:=by rw [hv.1,h3]
      simp [execOp,hop,hX,Instr.storeAt,Instr.sureAddr,storeVar,sizeOf,typeInfo,hinf,hsz',hst]
     unfold Oper.wp;rw [hrun];simp only [Oper.upon];refine stp g2 g1 (Ai _) (λ_ _=>rfl) (λk ob1 hk1=>.inr ?_) (.pure .uO) h6;rw [vG] at hk1
     split at hk1
     ·rename_i he; subst he; exact⟨key,ob,hob,rfl⟩
     ·exact⟨k,ob1,hk1,rfl⟩
    ·exact h.elim
   ·exact h.elim
  | @app x y t x' y' e z inf hop he hi h0 hz hzl hx hy=>
   simp only at h
   split at h
   ·exact h.elim
   ·rename_i rows hrows;obtain⟨h1,h⟩:=h;obtain⟨ad,cx,hY,hsrc⟩:=cm hS (hR _ _ hy) hrows h1;obtain⟨inf',zv,hi',hzv,hm⟩:=gH hz;rw [hi] at hi';simp at hi'; subst hi'
    have lift:∀ {v s:Value} {w':World},a.eval x=s->(Builtin.append_ #[t,t] o.type #[s,.slice ad rows.length cx]).run C.P w = .ok v w'->(execOp a.eval o).run C.P w = .ok (.value v) w':=by intro v s w' hs hr;simp [execOp,hop,resolve,invoke,builtin,hs,hY,hr]
    have hnews:rows ≠ []->∃ (b off:Nat) (news:List Value),ad=some ⟨b,off,none⟩/\ news.length=rows.length*inf.size/\(∀ j u,news[j]?=some u->w.cell? ((⟨b,off,none⟩:Addr).add j)= some u)/\ (∀ u ∈ news,u.oneCell'=true)/\
      RowsIn (yO E.M0 ι σ) w ι σ.nx inf.size (λq=>news.getD q undef) rows:=by
     intro zL
     rcases hsrc with h | ⟨b,off,rfl,vs,hc,hri⟩
     ·exact absurd h zL
     ·refine⟨b,off,(List.range (rows.length*inf.size)).map vs,rfl,by simp,λj u hj=>?_,λu hu=>?_,hri.congr λq hq=>by simp [List.getD,hq]⟩
      ·simp only [List.getElem?_map,A8] at hj;obtain⟨j',hj',rfl⟩:=hj
       have hj2:j<rows.length*inf.size:=by
        rcases Nat.lt_or_ge j (rows.length*inf.size) with h | h
        ·exact h
        ·simp [Ae (by simpa using h:(List.range (rows.length*inf.size)).length<=j)] at hj'
       have e1:j'=j:=by simpa [hj2] using hj'.symm
       subst e1;rw [Addr.add_lit];exact hc j' hj2
      ·simp only [List.mem_map,List.mem_range] at hu;obtain⟨q,hq,rfl⟩:=hu;have d1:q / inf.size<rows.length:=(Av h0).2 hq;have d2:q % inf.size<inf.size:=Nat.mod_lt _ h0;have:=(hri.cell _ d1 _ d2).1;rw [As,Nat.div_add_mod] at this;exact this
    split at h
    ·-- to nil
     rename_i hxn;obtain⟨h2,h3,h4,h5⟩:=h;have hX:=(hxn ▸ hR _ _ hx).uA
     by_cases zL:rows = []
     ·subst zL;exact uZ (lift hX (gU he hi none ad 0 0 cx (Ai _))) (stp (Kept.refl _ _) hS (Ai _) (λ_ _=>rfl) hownNew (.pure .xI) (h4 rfl))
     ·obtain⟨b,off,news,rfl,hl,hc,hone,hri⟩:=hnews zL;have hpos:0<rows.length:=ω.2 zL;have hr:=run_append_nil (P:=C.P) w t o.type e inf zv he hi hzv ⟨b,off,none⟩ rows.length cx news hl hc hpos (by omega) (by omega);have hk0:Kept w (w.drew.alloc (.cells (news.toArray++Builtin.zeroCells zv.cells (grownCap w rows.length 0 e-rows.length)) e)) λ_=>False:=Kept.trans (Kept.refl w λ_=>False).drew (Kept.alloc _ _ _) (λ_ _ h=>h) (λ_ _ h=>h);have hbk:(w.drew.alloc (.cells (news.toArray++Builtin.zeroCells zv.cells (grownCap w rows.length 0 e-rows.length)) e)).heap[w.heap.size]?=some (Obj.cells (news.toArray++Builtin.zeroCells zv.cells (grownCap w rows.length 0 e-rows.length)) e (0,0)):=heap_alloc_new w.drew _;have hzs:zv.cells.size=inf.size:=by have:=(zA hm).1; simp at this; omega
      have hge:=grownCap_ge w rows.length 0 e
      have hcs:(news.toArray++Builtin.zeroCells zv.cells (grownCap w rows.length 0 e-rows.length)).size=grownCap w rows.length 0 e*inf.size:=by rw [A0,ε,hl,size_zeroCells,hzs,<- Al];congr 1; omega
      obtain⟨g1,g2,g3⟩:=wt (ob:=⟨inf.size,rows⟩) hS hk0 hbk h0 (by rw [hcs]; exact Ak _ hge) (hri.congr λq hq=>by simp only [Aw,List.getD];rw [Ax (by rw [ε,hl]; exact hq)];simp)
      refine uZ (lift hX hr) (stp (hk0.none _) g1 (Am _) g2 g3 ?_ (h5 zL));have hcm:grownCap w rows.length 0 e<=maxLen:=grownCap_le_maxLen w _ _ _ (by simp only [maxLen]; omega);have hbk':=hbk;rw [<- zE σ ι w.heap.size] at hbk';have:=R.wZ (M:=yO E.M0 (uT σ ι w.heap.size) (σ.new ⟨inf.size,rows⟩)) (ι:=uT σ ι w.heap.size) (n:=(σ.new ⟨inf.size,rows⟩).nx) (key:=σ.nx) (sz:=inf.size) (len:=rows.length) (Aj _) hge hcm hbk' (Au hcs.symm);rw [zE] at this;exact this
    ·-- to one's own
     rename_i key sz' m hxo
     split at h
     ·rename_i ob hob;obtain⟨rfl,h2,h3,h4,h5,h6⟩:=h;obtain⟨cap,cur,e',hX,k1,k2,k3,k4,k5⟩:=(hxo ▸ hR _ _ hx).tE;obtain⟨cur',e'',c1,c2,c3⟩:=RowsIn.iK (hS.holds key ob hob).2 (by omega);rw [k4] at c1;simp at c1;obtain⟨rfl,rfl⟩:=c1;rw [h2] at c2 c3;have holdrows:=c3.take m;have hlen:(ob.xZ.take m).length=m:=by simp; omega
      have hfit:m*inf.size<=cur.size:=by have:m*inf.size<=ob.xZ.length*inf.size:=Ak _ h3;omega
      have fin:∀ (w':World) (b:Nat) (cc:Array Value) (te:TypeId) (cap':Nat),Kept w w' (rB ι σ)->(w.heap.size<=b\/b=ι key)->(∀ k o,σ.get k=some o->k≠key->w'.heap[ι k]?=w.heap[ι k]?) ->
        w'.heap[b]?=some (Obj.cells cc te (0,0))->cap'*inf.size<=cc.size->m+rows.length<=cap'->cap'<=maxLen ->
        RowsIn (yO E.M0 ι σ) w ι σ.nx inf.size (λq=>cc.getD q undef) (ob.xZ.take m++rows)->(execOp a.eval o).run C.P w = .ok (.value (.slice (some ⟨b,0,none⟩) (m+rows.length) cap')) w'->Oper.wp C.P o a w next Q:=by
       intro w' b cc te cap' q1 q2 q3 q4 q5 q6 q7 q8 q9
       have hM:¬ E.M0 b:=by
        rcases q2 with q2 | rfl
        ·intro hm; have:=hS.oS _ hm; omega
        ·exact hS.notM key ob hob
       obtain⟨g1,g2,g3⟩:=hS.renew (ob:=⟨inf.size,ob.xZ.take m++rows⟩) (σ2:=(σ.erase key).new ⟨inf.size,ob.xZ.take m++rows⟩) (ι':=uT σ ι b) σ.nx q1 (Am _) (Aj _) (λk hk=>lF _ _ _ (by omega)) (λk o1 hko=>by
         rw [qM] at hko
         split at hko
         ·rename_i he; exact .inl ⟨he.symm,(Option.some.inj hko).symm⟩
         ·rename_i he;rw [pS] at hko
          split at hko
          ·cases hko
          ·exact .inr ⟨λe=>he e.symm,hko⟩) (λk zL=>lF _ _ _ zL) (by rw [zE]; exact q2.imp id λe=>⟨key,ob,hob,e.symm⟩) (by rw [zE]; exact hM) (λk o1 hko zL=>by
         rw [zE];rw [qM,if_neg (λe=>zL e.symm),pS] at hko
         split at hko
         ·cases hko
         ·rename_i hke
          rcases q2 with q2 | rfl
          ·have:=rB.lt hS ⟨k,o1,hko,rfl⟩; omega
          ·exact λe=>hke (hS.inj k key o1 ob hko hob e).symm) (λk o1 hko zL=>by
         rw [qM,if_neg (λe=>zL e.symm),pS] at hko
         split at hko
         ·cases hko
         ·rename_i hke;exact q3 k o1 hko λe=>hke e.symm) (by
         rw [zE];refine .inl ⟨h0,cc,te,q4,q8.len,?_,q8.cell⟩;refine Ap ?_ q5;refine Ak _ ?_;simp only [θ,hlen]; exact q6)
       refine uZ q9 (stp q1 g1 (Am _) g2 g3 ?_ h6);have q4':=q4;rw [<- zE σ ι b] at q4';have:=R.wZ (M:=yO E.M0 (uT σ ι b) ((σ.erase key).new ⟨inf.size,ob.xZ.take m++rows⟩)) (ι:=uT σ ι b) (n:=((σ.erase key).new ⟨inf.size,ob.xZ.take m++rows⟩).nx) (key:=σ.nx) (sz:=inf.size) (len:=m+rows.length) (Aj _) q6 q7 q4' q5;rw [zE] at this;exact this
      by_cases zL:rows = []
      ·subst zL;have hz:=gU (P:=C.P) (w:=w) (ty:=o.type) he hi (some ⟨ι key,0,none⟩) ad m cap cx k2;refine fin w (ι key) cur _ cap (Kept.refl _ _) (.inr rfl) (λ_ _ _ _=>rfl) k4 k5 (by simpa using k2) k3 ?_ (lift hX hz);simpa using holdrows
      ·obtain⟨b,off,news,rfl,hl,hc,hone,hri⟩:=hnews zL;have hpos:0<rows.length:=ω.2 zL
       by_cases hroom:m+rows.length<=cap
       ·have hfit2:m*inf.size+news.length<=cur.size:=by rw [hl,<- Al]; exact Ap (Ak _ hroom) k5
        have hr:=n9 (P:=C.P) (w:=w) (ty:=o.type) he hi (ι key) m cap cur k4 ⟨b,off,none⟩ rows.length cx news hl hc hone hroom hfit2;generalize hcc:(cur.toList.take (m*inf.size)++ news++cur.toList.drop (m*inf.size+news.length)).toArray=cc at hr
        have hsz:cc.size=cur.size:=by rw [<- hcc];simp only [ε,θ,ν,ξ,Ay];omega
        have hl1:(cur.toList.take (m*inf.size)).length=m*inf.size:=by simp; omega
        refine fin _ (ι key) cc _ cap ?_ (.inr rfl) (λk o1 hko hne1=>setRow_other _ _ _ _ λe=>hne1 (hS.inj k key o1 ob hko hob e)) (setRow_heap _ _ _ _ _ _ k4) (by rw [hsz]; exact k5) hroom k3 ?_ (lift hX hr)
        ·refine⟨rfl,rfl,rfl,by simp,λb' hb hn=>setRow_other _ _ _ _ λe=>hn ⟨key,ob,hob,e.symm⟩,λb' c t' hbc=>?_,Ai _⟩
         by_cases hbk:b'=ι key
         ·subst hbk;rw [k4] at hbc;simp at hbc;obtain⟨rfl,rfl⟩:=hbc;exact⟨cc,setRow_heap _ _ _ _ _ _ k4,hsz⟩
         ·exact⟨c,by rw [setRow_other _ _ _ _ hbk]; exact hbc,rfl⟩
        ·refine holdrows.append hri (λq hq=>?_) (λq hq=>?_)
         ·rw [hlen] at hq;rw [<- hcc];simp only [Aw,ζ,μ];rw [γ (by omega),η,if_pos hq];simp
         ·rw [hlen,<- hcc];simp only [Aw,ζ,μ,List.getD];rw [δ (by omega),hl1,γ (by omega)];simp
       ·have holds:∀ (j:Nat) (v:Value),(cur.toList.take (m*inf.size))[j]?=some v->w.cell? ((⟨ι key,0,none⟩:Addr).add j)= some v:=by
         intro j v hj;rw [Addr.add_lit,cell_of_row _ _ _ _ _ _ k4];rw [η] at hj
         split at hj
         ·simpa using hj
         ·cases hj
        have hl1:(cur.toList.take (m*inf.size)).length=m*inf.size:=by simp; omega
        have hr:=run_append_grow (P:=C.P) w t o.type e inf zv he hi hzv ⟨ι key,0,none⟩ m cap _ hl1 holds ⟨b,off,none⟩ rows.length cx news hl hc (by omega) (by omega) (growslice_fits (by omega) h4);have hk0:Kept w (w.drew.alloc (.cells ((cur.toList.take (m*inf.size)).toArray++news.toArray++Builtin.zeroCells zv.cells (grownCap w (m+rows.length) cap e-(m+rows.length))) e)) λ_=>False:=Kept.trans (Kept.refl w λ_=>False).drew (Kept.alloc _ _ _) (λ_ _ h=>h) (λ_ _ h=>h);have hzs:zv.cells.size=inf.size:=by have:=(zA hm).1; simp at this; omega
        have hge:=grownCap_ge w (m+rows.length) cap e;have hcm:grownCap w (m+rows.length) cap e<=maxLen:=grownCap_le_maxLen w _ _ _ (by simp only [maxLen]; omega)
        have hs1:((cur.toList.take (m*inf.size)).toArray++news.toArray).size=(m+rows.length)* inf.size:=by rw [A0,ε,ε,hl1,hl,Al]
        have hcs:((cur.toList.take (m*inf.size)).toArray++news.toArray++Builtin.zeroCells zv.cells (grownCap w (m+rows.length) cap e-(m+rows.length))).size=grownCap w (m+rows.length) cap e*inf.size:=by rw [A0,hs1,size_zeroCells,hzs,<- Al];congr 1; omega
        refine fin _ w.heap.size _ e _ (hk0.none _) (.inl (Ai _)) (λk o1 hko _=>hk0.block _ (rB.lt hS ⟨k,o1,hko,rfl⟩) id) (heap_alloc_new w.drew _) (Au hcs.symm) hge hcm ?_ (lift hX hr)
        refine holdrows.append hri (λq hq=>?_) (λq hq=>?_)
        ·rw [hlen] at hq;simp only [Aw];rw [Ax (by rw [hs1,Al]; omega),Ax (by rw [ε,hl1]; exact hq),ζ,η,if_pos hq];simp
        ·rw [hlen];simp only [Aw,List.getD];rw [Ax (by rw [hs1,Al]; omega),A3 (by rw [ε,hl1]; omega),ε,hl1,ζ];simp
     ·exact h.elim
    ·-- to the rest of one's own
     rename_i key sz' lo m hxo
     split at h
     ·rename_i ob hob;obtain⟨_,rfl,h2,h3,h4,h5,h6⟩:=h;obtain⟨cap,off,cur,e',hX,k1,k2,k3,k4,k5⟩:=(hxo ▸ hR _ _ hx).mU;obtain⟨cur',e'',c1,c2,c3⟩:=RowsIn.iK (hS.holds key ob hob).2 (by omega);rw [k4] at c1;simp at c1;obtain⟨rfl,rfl⟩:=c1;rw [h2] at c2 c3;have hall:=c3.take (lo+m);have htk:ob.xZ.take (lo+m)= ob.xZ.take lo++(ob.xZ.drop lo).take m:=List.take_add;have hl1:(ob.xZ.take lo).length=lo:=by simp; omega
      have hl2:((ob.xZ.drop lo).take m).length=m:=by simp; omega
      have hfit:(lo+m)* inf.size<=cur.size:=Ap (Ak _ h3) c2
      have fin:∀ (w':World) (b off':Nat) (cc:Array Value) (te:TypeId) (cap':Nat) (pre:List (List D)),(pre = []\/pre=ob.xZ.take lo)->Kept w w' (rB ι σ)->(w.heap.size<=b\/b=ι key)->(∀ k o,σ.get k=some o->k≠key->w'.heap[ι k]?=w.heap[ι k]?) ->
        w'.heap[b]?=some (Obj.cells cc te (0,0))->(cap'=0\/(off'=pre.length*inf.size/\(pre.length+cap')* inf.size<=cc.size))->m+rows.length<=cap'->cap'<=maxLen->(pre++((ob.xZ.drop lo).take m++rows)).length*inf.size<=cc.size ->
        RowsIn (yO E.M0 ι σ) w ι σ.nx inf.size (λq=>cc.getD q undef) (pre++((ob.xZ.drop lo).take m++rows))->(execOp a.eval o).run C.P w = .ok (.value (.slice (some ⟨b,off',none⟩) (m+rows.length) cap')) w'->Oper.wp C.P o a w next Q:=by
       intro w' b off' cc te cap' pre hpre q1 q2 q3 q4 q5 q6 q7 q75 q8 q9
       have hM:¬ E.M0 b:=by
        rcases q2 with q2 | rfl
        ·intro hm; have:=hS.oS _ hm; omega
        ·exact hS.notM key ob hob
       obtain⟨g1,g2,g3⟩:=hS.renew (ob:=⟨inf.size,pre++((ob.xZ.drop lo).take m++rows)⟩) (σ2:=(σ.erase key).new ⟨inf.size,pre++((ob.xZ.drop lo).take m++rows)⟩) (ι':=uT σ ι b) σ.nx q1 (Am _) (Aj _) (λk hk=>lF _ _ _ (by omega)) (λk o1 hko=>by
         rw [qM] at hko
         split at hko
         ·rename_i he; exact .inl ⟨he.symm,(Option.some.inj hko).symm⟩
         ·rename_i he;rw [pS] at hko
          split at hko
          ·cases hko
          ·exact .inr ⟨λe=>he e.symm,hko⟩) (λk zL=>lF _ _ _ zL) (by rw [zE]; exact q2.imp id λe=>⟨key,ob,hob,e.symm⟩) (by rw [zE]; exact hM) (λk o1 hko zL=>by
         rw [zE];rw [qM,if_neg (λe=>zL e.symm),pS] at hko
         split at hko
         ·cases hko
         ·rename_i hke
          rcases q2 with q2 | rfl
          ·have:=rB.lt hS ⟨k,o1,hko,rfl⟩; omega
          ·exact λe=>hke (hS.inj k key o1 ob hko hob e).symm) (λk o1 hko zL=>by
         rw [qM,if_neg (λe=>zL e.symm),pS] at hko
         split at hko
         ·cases hko
         ·rename_i hke;exact q3 k o1 hko λe=>hke e.symm) (by
         rw [zE];exact .inl ⟨h0,cc,te,q4,q8.len,q75,q8.cell⟩)
       refine uZ q9 (stp q1 g1 (Am _) g2 g3 ?_ (h6 pre hpre));have q4':=q4;rw [<- zE σ ι b] at q4';have:=R.sub (M:=yO E.M0 (uT σ ι b) ((σ.erase key).new ⟨inf.size,pre++((ob.xZ.drop lo).take m++rows)⟩)) (ι:=uT σ ι b) (n:=((σ.erase key).new ⟨inf.size,pre++((ob.xZ.drop lo).take m++rows)⟩).nx) (key:=σ.nx) (sz:=inf.size) (lo:=pre.length) (len:=m+rows.length) (off:=off') (Aj _) q6 q7 q4' q5;rw [zE] at this;exact this
      by_cases zL:rows = []
      ·subst zL;have hz:=gU (P:=C.P) (w:=w) (ty:=o.type) he hi (some ⟨ι key,off,none⟩) ad m cap cx k2
       refine fin w (ι key) off cur _ cap (ob.xZ.take lo) (.inr rfl) (Kept.refl _ _) (.inr rfl) (λ_ _ _ _=>rfl) k4 (by rw [hl1]; exact k5) (by simpa using k2) k3 ?_ ?_ (lift hX hz)
       ·rw [List.append_nil,<- htk,ν,Nat.min_eq_left h3]; exact hfit
       ·rw [List.append_nil,<- htk]; exact hall
      ·obtain⟨b,o2,news,rfl,hl,hc,hone,hri⟩:=hnews zL;have hpos:0<rows.length:=ω.2 zL
       by_cases hroom:m+rows.length<=cap
       ·obtain⟨ho,hcs⟩:=k5.resolve_left (by omega);have e0:off+m*inf.size=(lo+m)* inf.size:=by rw [ho,Al]
        have hfit2:off+m*inf.size+news.length<=cur.size:=by rw [e0,hl,<- Al]; exact Ap (Ak _ (by omega)) hcs
        have hr:=sj (P:=C.P) (w:=w) (ty:=o.type) he hi (ι key) off m cap cur k4 ⟨b,o2,none⟩ rows.length cx news hl hc hone hroom hfit2;rw [e0] at hr hfit2;generalize hcc:(cur.toList.take ((lo+m)* inf.size)++ news++cur.toList.drop ((lo+m)* inf.size+news.length)).toArray=cc at hr
        have hsz:cc.size=cur.size:=by rw [<- hcc];simp only [ε,θ,ν,ξ,Ay];omega
        have hl3:(cur.toList.take ((lo+m)* inf.size)).length=(lo+m)* inf.size:=by simp; omega
        have hlt:(ob.xZ.take (lo+m)).length=lo+m:=by rw [ν,Nat.min_eq_left h3]
        refine fin _ (ι key) off cc _ cap (ob.xZ.take lo) (.inr rfl) ?_ (.inr rfl) (λk o1 hko hne1=>setRow_other _ _ _ _ λe=>hne1 (hS.inj k key o1 ob hko hob e)) (setRow_heap _ _ _ _ _ _ k4) (.inr ⟨by rw [hl1]; exact ho,by rw [hsz,hl1]; exact hcs⟩) hroom k3 ?_ ?_ (lift hX hr)
        ·refine⟨rfl,rfl,rfl,by simp,λb' hb hn=>setRow_other _ _ _ _ λe=>hn ⟨key,ob,hob,e.symm⟩,λb' c t' hbc=>?_,Ai _⟩
         by_cases hbk:b'=ι key
         ·subst hbk;rw [k4] at hbc;simp at hbc;obtain⟨rfl,rfl⟩:=hbc;exact⟨cc,setRow_heap _ _ _ _ _ _ k4,hsz⟩
         ·exact⟨c,by rw [setRow_other _ _ _ _ hbk]; exact hbc,rfl⟩
        ·rw [<- μ,<- htk,θ,hlt,hsz];exact Ap (Ak _ (by omega)) hcs
        ·rw [<- μ,<- htk]
         refine hall.append hri (λq hq=>?_) (λq hq=>?_)
         ·rw [hlt] at hq;rw [<- hcc];simp only [Aw,ζ,μ];rw [γ (by omega),η,if_pos hq];simp
         ·rw [hlt,<- hcc];simp only [Aw,ζ,μ,List.getD];rw [δ (by omega),hl3,γ (by omega)];simp
       ·-- it moves
        have hof:0<m->off=lo*inf.size:=λhm=>(k5.resolve_left (by omega)).1;generalize hold:(cur.toList.drop (lo*inf.size)).take (m*inf.size)= olds
        have hlo:olds.length=m*inf.size:=by rw [<- hold];simp only [ν,ξ,Ay];rw [Al] at hfit; omega
        have hog:∀ q,q<m*inf.size->olds[q]?=cur[lo*inf.size+q]?:=λq hq=>by rw [<- hold,η,if_pos hq,ο]; simp
        have holds:∀ (j:Nat) (v:Value),olds[j]?=some v->w.cell? ((⟨ι key,off,none⟩:Addr).add j)= some v:=by
         intro j v hj;have hjl:j<m*inf.size:=by rw [<- hlo]; exact(χ.1 hj).1
         rw [hog j hjl] at hj
         have hm:0<m:=by
          rcases Nat.eq_zero_or_pos m with h | h
          ·rw [h] at hjl; simp at hjl
          ·exact h
         rw [Addr.add_lit,cell_of_row _ _ _ _ _ _ k4,hof hm];exact hj
        have hcon:RowsIn (yO E.M0 ι σ) w ι σ.nx inf.size (λq=>olds.getD q undef) ((ob.xZ.drop lo).take m):=((c3.drop lo).take m).congr λq hq=>by rw [hl2] at hq;simp only [List.getD,hog q hq,Aw]
        have hr:=run_append_grow (P:=C.P) w t o.type e inf zv he hi hzv ⟨ι key,off,none⟩ m cap olds hlo holds ⟨b,o2,none⟩ rows.length cx news hl hc (by omega) (by omega) (growslice_fits (by omega) h4);have hk0:Kept w (w.drew.alloc (.cells (olds.toArray++news.toArray++Builtin.zeroCells zv.cells (grownCap w (m+rows.length) cap e-(m+rows.length))) e)) λ_=>False:=Kept.trans (Kept.refl w λ_=>False).drew (Kept.alloc _ _ _) (λ_ _ h=>h) (λ_ _ h=>h);have hzs:zv.cells.size=inf.size:=by have:=(zA hm).1; simp at this; omega
        have hge:=grownCap_ge w (m+rows.length) cap e;have hcm:grownCap w (m+rows.length) cap e<=maxLen:=grownCap_le_maxLen w _ _ _ (by simp only [maxLen]; omega)
        have hs1:(olds.toArray++news.toArray).size=(m+rows.length)* inf.size:=by rw [A0,ε,ε,hlo,hl,Al]
        have hcs:(olds.toArray++news.toArray++Builtin.zeroCells zv.cells (grownCap w (m+rows.length) cap e-(m+rows.length))).size=grownCap w (m+rows.length) cap e*inf.size:=by rw [A0,hs1,size_zeroCells,hzs,<- Al];congr 1; omega
        refine fin _ w.heap.size 0 _ e _ [] (.inl rfl) (hk0.none _) (.inl (Ai _)) (λk o1 hko _=>hk0.block _ (rB.lt hS ⟨k,o1,hko,rfl⟩) id) (heap_alloc_new w.drew _) (.inr ⟨by simp,by rw [hcs]; simp⟩) hge hcm ?_ ?_ (lift hX hr)
        ·rw [List.nil_append,θ,hl2,hcs];exact Ak _ hge
        ·rw [List.nil_append]
         refine hcon.append hri (λq hq=>?_) (λq hq=>?_)
         ·rw [hl2] at hq;simp only [Aw];rw [Ax (by rw [hs1,Al]; omega),Ax (by rw [ε,hlo]; exact hq),ζ];simp [List.getD]
         ·rw [hl2];simp only [Aw,List.getD];rw [Ax (by rw [hs1,Al]; omega),A3 (by rw [ε,hlo]; omega),ε,hlo,ζ];simp
     ·exact h.elim
    ·exact h.elim
 ·have hp:k.impure=false:=by simpa using himp
  refine US hk (vk hp h) hS hR λv d w' hK k1 k2 k3=>stp k1 k2 (Ai _) (λ_ _=>rfl) hownNew k3 hK
end
end Go.Pd
namespace Go.Pd
open Go
variable [vA]
def cG (N:Nat) (ops:Array Oper) (o:Oper) (dop:xN):Prop:=(o.guard=none/\dop.guard=none)\/∃ j b oj d,o.guard=some (j,b)/\ ops[j]?=some oj/\oj.dst=some d/\d<N/\dop.guard=some (d,b)
theorem vg {P:Program} {N:Nat} {own:List Nat} {ops:Array Oper} {o:Oper} {dop:xN} (h:lW P N own ops o=some dop) :
  Ze P N own o=some dop.k/\o.dst=dop.dst/\(∀ t,dop.dst=some t->t<N)/\ cG N ops o dop:=by
 unfold lW at h;simp only [zO] at h;obtain⟨k,hk,dst,hdst,g,hg,rfl⟩:=h
 refine⟨hk,?_,?_,?_⟩
 ·split at hdst
  ·split at hdst
   ·rename_i d hd hlt; simp at hdst; subst hdst; exact hd
   ·simp at hdst
  ·rename_i hd; simp at hdst; subst hdst; exact hd
 ·intro t ht;simp only at ht
  split at hdst
  ·split at hdst
   ·rename_i d hd hlt; simp at hdst; subst hdst; simp at ht; subst ht; exact hlt
   ·simp at hdst
  ·simp at hdst; subst hdst; simp at ht
 ·split at hg
  ·rename_i hgd;simp at hg; subst hg;exact .inl ⟨hgd,rfl⟩
  ·rename_i j b hgd;simp only [A7] at hg;obtain⟨oj,hoj,d,hd,hg⟩:=hg
   split at hg
   ·rename_i hlt;simp at hg; subst hg;exact .inr ⟨j,b,oj,d,hgd,hoj,hd,hlt,rfl⟩
   ·simp at hg
section
variable {C : Cx} {E : Env} {a : Act} {w : World} {f : Fr} {σ : St} {ι : Nat -> Nat} {ops : Array Oper} {o : Oper} {dop : xN} {next : Act -> World -> Prop} {Q : Exit -> Act -> World -> Prop}
theorem v8 (h:cG C.N ops o dop) (hg:dop.guard=none) (y:Nat->Option Bool):Region.wanted o y=true:=by
 rcases h with ⟨h1,_⟩ | ⟨j,b,oj,d,_,_,_,_,h2⟩
 ·simp [Region.wanted,h1]
 ·rw [h2] at hg; cases hg
theorem z6 {M:Nat->Prop} {n:Nat} (h:cG C.N ops o dop) {d:Nat} {b:Bool} (hg:dop.guard=some (d,b)) (hf:TK M w ι n a.tmps f) (hs:a.tmps.size=C.N) :
  (∀ c,f.get d = .bool c->Region.wanted o (yielded ops a.tmps)= (c==b))/\ (f.get d = .uO->Region.wanted o (yielded ops a.tmps)= false):=by
 rcases h with ⟨_,h1⟩ | ⟨j,b',oj,d',h1,h2,h3,h4,h5⟩
 ·rw [h1] at hg; cases hg
 ·rw [h5] at hg;simp at hg;obtain⟨rfl,rfl⟩:=hg;have hd:d'<a.tmps.size:=by rw [hs]; exact h4
  have hr:=hf d';have e0:a.tmps.getD d' undef=a.tmps[d']:=by simp [hd]
  have hy:yielded ops a.tmps j=match a.tmps[d'] with | .bool b=>some b | _=>none:=by unfold yielded;simp [h2,h3,hd];generalize a.tmps[d']=v;cases v <;> rfl
  refine⟨λc hc=>?_,λhu=>?_⟩
  ·rw [hc] at hr;have:=hr.nL;rw [e0] at this;rw [this] at hy;simp only [Region.wanted,h1,hy];rfl
  ·rw [hu] at hr;have:=hr.Sj;rw [e0] at this;rw [this] at hy;simp only [Region.wanted,h1,hy,undef];rfl
theorem jf {K:D->St->Prop} (hop:lW C.P C.N C.own ops o=some dop) (hG:Good C E a w f σ) (h:xR dop f (zC C σ (wP f) dop.k K) (K .uO σ))
  (hn:∀ a' w' d σ',Good C E a' w' (f.put dop.dst d) σ'->K d σ'->next a' w') :
  if Region.wanted o (yielded ops a.tmps) then o.wp C.P a w next Q else next (a.put o.dst undef) w:=by
 obtain⟨hk,hdst,hN,hgr⟩:=vg hop;obtain⟨ι,G⟩:=hG;have yes:zC C σ (wP f) dop.k K->o.wp C.P a w next Q:=λh=>Z0 hk hdst hN G h hn
 have no:K .uO σ->next (a.put o.dst undef) w:=λh=>by rw [hdst];exact hn _ _ _ _ ⟨ι,G.step (Kept.refl _ _) G.oC (Ai _) (λ_ _=>rfl) (λk ob hko=>.inr ⟨k,ob,hko,rfl⟩) (.pure .uO) hN⟩ h
 unfold xR at h
 split at h
 ·rename_i hg;rw [v8 hgr hg,if_pos rfl];exact yes h
 ·rename_i d want hg;obtain⟨h1,h2⟩:=z6 hgr hg G.fr G.size
  split at h
  ·rename_i b hb;rw [h1 b hb]
   by_cases hbw:b=want
   ·subst hbw;simp;exact yes ((vD h).1 rfl)
   ·have:(b==want)= false:=by simpa using hbw
    rw [this];simp;exact no ((vD h).2 hbw)
  ·rename_i hu;rw [h2 hu];simp;exact no h
  ·exact h.elim
theorem sF {o:xN} {f:Fr} {p q p' q':Prop} (h:xR o f p q) (hp:p->p') (hq:q->q'):xR o f p' q':=by
 unfold xR at *
 split at h
 ·exact hp h
 ·split at h
  ·exact bM (λe=>hp ((vD h).1 e)) (λe=>hq ((vD h).2 e))
  ·exact hq h
  ·exact h.elim
theorem Ou {o:Oper} {a:Act} {w:World} {next:Act->World->Prop} {Q:Exit->Act->World->Prop} (hd:∀ c,o.op ≠ .defer c) (h:o.wp C.P a w next Q):o.wpIn C.F 0 C.P a w next Q:=by
 refine⟨λ_ _=>trivial,?_⟩;rw [Oper.semAt_eq _ _ _ hd];unfold Oper.wp at h;generalize (execOp a.eval o).run C.P w=r at h ⊢
 cases r with
 | ok n w'=>
  cases n with
  | value v=>exact h
  | skip=>exact h
  | defer d=>exact h
  | enter f args=>exact⟨λe=>absurd (show false=true from e) (by decide),(callsIn_wide (n:=0-1)).2 h⟩
  | row row args=>exact⟨λe=>absurd (show false=true from e) (by decide),λc cs _=>(let ⟨v,w'',r,s⟩:=h c cs; ⟨v,w'',r,stepsIn_wide.2 s⟩)⟩
  | _=>exact h.elim
 | halt x w'=>
  cases x with
  | panic v=>exact h
  | _=>exact h.elim
theorem XH {P:Program} {N:Nat} {own:List Nat} {o:Oper} {k:DK} (hk:Ze P N own o=some k):∀ c,o.op ≠ .defer c:=λc hc=>by simp [Ze,hc] at hk
theorem gE {K:D->St->Prop} (hop:lW C.P C.N C.own ops o=some dop) (hG:Good C E a w f σ) (h:xR dop f (zC C σ (wP f) dop.k K) (K .uO σ))
  (hn:∀ a' w' d σ',Good C E a' w' (f.put dop.dst d) σ'->K d σ'->next a' w') :
  if Region.wanted o (yielded ops a.tmps) then o.wpIn C.F 0 C.P a w next Q else(∀ f,o.about C.P w a.eval=some f->C.F.fn f)/\ next (a.put o.dst undef) w:=by
 have:=jf (Q:=Q) hop hG h hn
 split
 ·rename_i hw; rw [if_pos hw] at this; exact Ou (XH (vg hop).1) this
 ·rename_i hw; rw [if_neg hw] at this; exact⟨λ_ _=>trivial,this⟩
theorem cC {K:Fr->St->Prop} (hQ:∀ a w f σ,Good C E a w f σ->K f σ->Q .normal a w):∀ (l:List Oper) (ds:List xN) (a:Act) (w:World) (f:Fr) (σ:St),wI (lW C.P C.N C.own ops) l=some ds->Good C E a w f σ->tP C ds f σ K ->
  wpListIn C.F 0 C.P ops Q l a w
 | [],ds,a,w,f,σ,hm,G,h=>by simp [wI] at hm; subst hm;exact hQ _ _ _ _ G h
 | o :: l,ds,a,w,f,σ,hm,G,h=>by
  unfold wI at hm
  split at hm
  ·rename_i dop ds' hd hds;simp at hm; subst hm;simp only [tP,R4] at h;exact gE (next:=wpListIn C.F 0 C.P ops Q l) (Q:=Q) (K:=λd σ'=>tP C ds' (f.put dop.dst d) σ' K) hd G h (λa' w' d σ' G' h'=>cC hQ l ds' a' w' _ _ hds G' h')
  ·simp at hm
theorem ue {K:Fr->St->Prop} (hQ:∀ a w f σ,Good C E a w f σ->K f σ->Q .normal a w):∀ (l:List Oper) (ds:List xN) (a:Act) (w:World) (f:Fr) (σ:St),wI (lW C.P C.N C.own ops) l=some ds->Good C E a w f σ->tP C ds f σ K ->
  wpList C.P ops Q l a w
 | [],ds,a,w,f,σ,hm,G,h=>by simp [wI] at hm; subst hm;exact hQ _ _ _ _ G h
 | o :: l,ds,a,w,f,σ,hm,G,h=>by
  unfold wI at hm
  split at hm
  ·rename_i dop ds' hd hds;simp at hm; subst hm;simp only [tP,R4] at h;have:=jf (next:=wpList C.P ops Q l) (Q:=Q) (K:=λd σ'=>tP C ds' (f.put dop.dst d) σ' K) hd G h (λa' w' d σ' G' h'=>ue hQ l ds' a' w' _ _ hds G' h');unfold wpList
   split
   ·rename_i hw; rw [if_pos hw] at this; exact .inl this
   ·rename_i hw; rw [if_neg hw] at this; exact this
  ·simp at hm
end
end Go.Pd
