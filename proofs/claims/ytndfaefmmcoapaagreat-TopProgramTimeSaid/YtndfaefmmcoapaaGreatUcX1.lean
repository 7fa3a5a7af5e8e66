/- Part X1. -/
import Derived.Orders
import Derived.StillTail
import Derived.Below
import Derived.Laws.AppendOwn
import Derived.Laws.World
import Derived.WalkKit
import Derived.CallsIn
import Derived.OrdersIn
import Derived.TacticsIn
import Derived.ChangeKeysEq
import Derived.Laws.StructEq
set_option linter.unusedSectionVars false
set_option linter.unusedVariables false
set_option linter.unusedSimpArgs false
set_option linter.defProp false
open Nat renaming lt_of_lt_of_le->γ,le_trans->δ,le_refl->ε
open List renaming length_cons->ζ,getElem?_eq_getElem->η,drop_eq_nil_of_le->θ
open Option renaming bind_eq_some_iff->κ,bind_eq_bind->μ
namespace Go.Pd
open Go
def zO := And.intro @μ.{0} (And.intro @κ.{0,0} (And.intro @Option.pure_def.{0} @Option.some.injEq.{0}))
inductive D where
 | top
 | tF
 | int (k:IntKind) (n:Int)
 | bool (b:Bool)
 | str (s:ByteArray)
 | sl (sz:Nat) (xV:List (List D))
 | xO
 | emp
 | agg (cs:List D)
 | wK (vs:List D)
 | fn (f:FuncId) (caps:List D)
 | ref (key sz i off:Nat)
 | yM (key sz len:Nat)
 | sub (key sz lo len:Nat)
 | ptr (cs:List D)
 | yI (key:Nat)
 | oM
 | qY
 | sP
 | aG (b:Nat)
 deriving Inhabited
structure Ob where
 sz:Nat
 xV:List (List D)
 deriving Inhabited
structure St where
 nx:Nat
 xZ:List (Nat × Ob)
def St.look : List (Nat × Ob)->Nat->Option Ob
 | [],_=>none
 | (j,o) :: r,k=>if j=k then some o else St.look r k
def St.get (σ:St) (k:Nat):Option Ob:=St.look σ.xZ k
abbrev Fr :=List (Nat × D)
def Fr.get : Fr->Nat->D
 | [],_=>.top
 | (t,d) :: r,s=>if t=s then d else Fr.get r s
inductive RP (M : Nat -> Prop) (w : World) : Value -> D -> Prop
 | top (v:Value):RP M w v .top
 | tF:RP M w undef .tF
 | int {k:IntKind} {n:Int} (h:k.min<=n/\n<=k.max):RP M w (.int k n) (.int k n)
 | bool (b:Bool):RP M w (.bool b) (.bool b)
 | str {s:ByteArray} (h:s.size<=maxLen):RP M w (.string s) (.str s)
 | nq (a:Option Addr) (cap sz:Nat) (h:a=none->cap=0):RP M w (.slice a 0 cap) (.sl sz [])
 | emp (a:Addr) (cap:Nat):RP M w (.slice (some a) 0 cap) .emp
 | sl {b off cap sz:Nat} {xV:List (List D)} (vs:Nat->Nat->Value) (hs:0<sz) (hM:¬ M b) (hc:xV.length<=cap) (hm:cap<=maxLen) (hl:∀ e ∈ xV,e.length=sz)
   (hcell:∀ i,i<xV.length->∀ j,j<sz->w.cell? ⟨b,off+i*sz+j,none⟩= some (vs i j))
   (hr:∀ i,i<xV.length->∀ j,j<sz->RP M w (vs i j) ((xV.getD i []).getD j .top)):RP M w (.slice (some ⟨b,off,none⟩) xV.length cap) (.sl sz xV)
 | xO:RP M w (.slice none 0 0) .xO
 | ptr {b off:Nat} {cs:List D} (vs:Nat->Value) (hs:0<cs.length) (hM:¬ M b) (hcell:∀ j,j<cs.length->w.cell? ⟨b,off+j,none⟩= some (vs j))
   (hr:∀ j,j<cs.length->RP M w (vs j) (cs.getD j .top)):RP M w (.pointer (some ⟨b,off,none⟩)) (.ptr cs)
 | agg {vs:Array Value} {cs:List D} (hl:vs.size=cs.length) (hr:∀ j,j<cs.length->RP M w (vs.getD j undef) (cs.getD j .top)):RP M w (.agg vs) (.agg cs)
 | wK {vs:Array Value} {cs:List D} (hl:vs.size=cs.length) (hr:∀ j,j<cs.length->RP M w (vs.getD j undef) (cs.getD j .top)):RP M w (.tuple vs) (.wK cs)
 | fn {f:FuncId} {vs:Array Value} {cs:List D} (hl:vs.size=cs.length) (hr:∀ j,j<cs.length->RP M w (vs.getD j undef) (cs.getD j .top)):RP M w (.func (.func f) #[] vs) (.fn f cs)
 | oM:RP M w (.pointer none) .oM
 | qY:RP M w (.map none) .qY
 | sP:RP M w .nilFunc .sP
 | aG (b:Nat):RP M w (.pointer (some ⟨b,0,none⟩)) (.aG b)
inductive R (M : Nat -> Prop) (w : World) (ι : Nat -> Nat) (n : Nat) : Value -> D -> Prop
 | pure {v:Value} {d:D} (h:RP M w v d):R M w ι n v d
 | ref {key sz i off:Nat} (hk:key<n) (hs:0<sz):R M w ι n (.pointer (some ⟨ι key,i*sz+off,none⟩)) (.ref key sz i off)
 | yM {key sz len cap:Nat} {cur:Array Value} {e:TypeId} (hk:key<n) (h1:len<=cap) (h2:cap<=maxLen) (h3:w.heap[ι key]?=some (Obj.cells cur e (0,0))) (h4:cap*sz=cur.size) :
   R M w ι n (.slice (some ⟨ι key,0,none⟩) len cap) (.yM key sz len)
 | sub {key sz lo len cap off:Nat} {cur:Array Value} {e:TypeId} (hk:key<n) (h1:len<=cap) (h2:cap<=maxLen) (h3:w.heap[ι key]?=some (Obj.cells cur e (0,0))) (h4:cap=0\/(off=lo*sz/\(lo+cap)* sz=cur.size)) :
   R M w ι n (.slice (some ⟨ι key,off,none⟩) len cap) (.sub key sz lo len)
 | yI {key:Nat} (hk:key<n):R M w ι n (.map (some (ι key))) (.yI key)
 | agg {vs:Array Value} {cs:List D} (hl:vs.size=cs.length) (hr:∀ j,j<cs.length->R M w ι n (vs.getD j undef) (cs.getD j .top)):R M w ι n (.agg vs) (.agg cs)
 | wK {vs:Array Value} {cs:List D} (hl:vs.size=cs.length) (hr:∀ j,j<cs.length->R M w ι n (vs.getD j undef) (cs.getD j .top)):R M w ι n (.tuple vs) (.wK cs)
 | fn {f:FuncId} {vs:Array Value} {cs:List D} (hl:vs.size=cs.length) (hr:∀ j,j<cs.length->R M w ι n (vs.getD j undef) (cs.getD j .top)):R M w ι n (.func (.func f) #[] vs) (.fn f cs)
theorem R.top {M:Nat->Prop} {w:World} {ι:Nat->Nat} {n:Nat} (v:Value):R M w ι n v .top:=.pure (.top v)
structure Kept (w w' : World) (K : Nat -> Prop) : Prop where
 os:w'.os=w.os
 tape:w'.tape=w.tape
 output:w'.output=w.output
 size:w.heap.size<=w'.heap.size
 block:∀ b,b<w.heap.size->¬ K b->w'.heap[b]?=w.heap[b]?
 shape:∀ (b:Nat) (cur:Array Value) (e:TypeId),w.heap[b]?=some (Obj.cells cur e (0,0))->∃ cur':Array Value,w'.heap[b]?=some (Obj.cells cur' e (0,0))/\ cur'.size=cur.size
 drawn:w.drawn<=w'.drawn
theorem Kept.refl (w:World) (K:Nat->Prop):Kept w w K:=⟨rfl,rfl,rfl,ε _,λ_ _ _=>rfl,λ_ cur _ h=>⟨cur,h,rfl⟩,ε _⟩
theorem Kept.mono {w w':World} {K K':Nat->Prop} (h:Kept w w' K) (hk:∀ b,b<w.heap.size->K b->K' b):Kept w w' K':=⟨h.os,h.tape,h.output,h.size,λb hb hn=>h.block b hb λhK=>hn (hk b hb hK),h.shape,h.drawn⟩
theorem Kept.trans {w w' w'':World} {K K' K'':Nat->Prop} (h:Kept w w' K) (h':Kept w' w'' K') (h1:∀ b,b<w.heap.size->K b->K'' b) (h2:∀ b,b<w.heap.size->K' b->K'' b):Kept w w'' K'':=
 ⟨h'.os.trans h.os,h'.tape.trans h.tape,h'.output.trans h.output,δ h.size h'.size,
  λb hb hn=>(h'.block b (γ hb h.size) λhk=>hn (h2 b hb hk)).trans (h.block b hb λhk=>hn (h1 b hb hk)),
  λb cur e hc=>let ⟨c1,e1,s1⟩:=h.shape b cur e hc; let ⟨c2,e2,s2⟩:=h'.shape b c1 e e1; ⟨c2,e2,s2.trans s1⟩,δ h.drawn h'.drawn⟩
theorem Kept.below {w w':World} (h:Kept w w' λ_=>False):RowKit.Below w.heap.size w w':=⟨h.os,h.tape,h.output,h.size,λk hk=>h.block k hk id⟩
theorem Kept.alloc (w:World) (o:Obj) (K:Nat->Prop):Kept w (w.alloc o) K:=
 ⟨rfl,rfl,rfl,by show w.heap.size<=(w.heap.push o).size; simp,λb hb _=>heap_alloc_old w o hb,
  λb cur e h=>⟨cur,by rw [heap_alloc_old w o (Array.getElem?_eq_some_iff.1 h).1]; exact h,rfl⟩,ε _⟩
theorem Kept.drew {w w':World} {K:Nat->Prop} (h:Kept w w' K):Kept w w'.drew K:=⟨h.os,h.tape,h.output,h.size,h.block,h.shape,Nat.le_succ_of_le h.drawn⟩
theorem vk {w:World} {a:Addr} {v:Value} (h:w.cell? a=some v):a.block<w.heap.size:=World.block_lt_of_cell? w a h
theorem RP.yD {M M':Nat->Prop} {w w':World} (hb:∀ b,b<w.heap.size->¬ M b->w'.heap[b]?=w.heap[b]?) (hM:∀ b,b<w.heap.size->M' b->M b) {v:Value} {d:D} (h:RP M w v d):RP M' w' v d:=by
 induction h with
 | top v=>exact .top v
 | tF=>exact .tF
 | int h=>exact .int h
 | bool b=>exact .bool b
 | str h=>exact .str h
 | nq a cap sz h=>exact .nq a cap sz h
 | emp a cap=>exact .emp a cap
 | @sl b off cap sz xV vs hs hMb hc hm hl hcell hr ih=>
  rcases Nat.eq_zero_or_pos xV.length with h0 | h0
  ·have:xV = []:=List.eq_nil_of_length_eq_zero h0;subst this;exact .nq _ _ _ (by simp)
  ·have hlt:b<w.heap.size:=vk (hcell 0 h0 0 hs);refine .sl vs hs (λhm'=>hMb (hM b hlt hm')) hc hm hl (λi hi j hj=>?_) ih;rw [World.cell?_of_block (w:=w) (hb b hlt hMb)];exact hcell i hi j hj
 | xO=>exact .xO
 | @ptr b off cs vs hs hMb hcell hr ih=> have hlt:b<w.heap.size:=vk (hcell 0 hs);refine .ptr vs hs (λhm'=>hMb (hM b hlt hm')) (λj hj=>?_) ih;rw [World.cell?_of_block (w:=w) (hb b hlt hMb)];exact hcell j hj
 | agg hl hr ih=>exact .agg hl ih
 | wK hl hr ih=>exact .wK hl ih
 | fn hl hr ih=>exact .fn hl ih
 | oM=>exact .oM
 | qY=>exact .qY
 | sP=>exact .sP
 | aG b=>exact .aG b
theorem R.yD {M M':Nat->Prop} {w w':World} {ι ι':Nat->Nat} {n n':Nat} (hb:∀ b,b<w.heap.size->¬ M b->w'.heap[b]?=w.heap[b]?) (hM:∀ b,b<w.heap.size->M' b->M b)
  (hs:∀ (b:Nat) (cur:Array Value) (e:TypeId),w.heap[b]?=some (Obj.cells cur e (0,0))->∃ cur':Array Value,w'.heap[b]?=some (Obj.cells cur' e (0,0))/\ cur'.size=cur.size)
  (hi:∀ k,k<n->ι' k=ι k) (hn:n<=n') {v:Value} {d:D} (h:R M w ι n v d):R M' w' ι' n' v d:=by
 induction h with
 | pure h=>exact .pure (h.yD hb hM)
 | ref hk h0=>rw [<- hi _ hk]; exact .ref (γ hk hn) h0
 | @yM key sz len cap cur e hk h1 h2 h3 h4=> obtain⟨cur',h5,h6⟩:=hs _ _ _ h3;rw [<- hi _ hk] at h5 ⊢;exact .yM (γ hk hn) h1 h2 h5 (h4.trans h6.symm)
 | @sub key sz lo len cap off cur e hk h1 h2 h3 h4=> obtain⟨cur',h5,h6⟩:=hs _ _ _ h3;rw [<- hi _ hk] at h5 ⊢;exact .sub (γ hk hn) h1 h2 h5 (h4.imp id λh=>⟨h.1,h.2.trans h6.symm⟩)
 | yI hk=>rw [<- hi _ hk]; exact .yI (γ hk hn)
 | agg hl hr ih=>exact .agg hl ih
 | wK hl hr ih=>exact .wK hl ih
 | fn hl hr ih=>exact .fn hl ih
def yG (M0:Nat->Prop) (ι:Nat->Nat) (σ:St) (b:Nat):Prop:=M0 b\/∃ k o,σ.get k=some o/\ι k=b
def yK (M:Nat->Prop) (w:World) (ι:Nat->Nat) (n:Nat) (nU:Option Obj) (o:Ob):Prop:=
 (0<o.sz/\∃ (cur:Array Value) (e:TypeId),nU=some (Obj.cells cur e (0,0))/\ (∀ el ∈ o.xV,el.length=o.sz)/\ o.xV.length*o.sz<=cur.size /\
  ∀ i,i<o.xV.length->∀ j,j<o.sz->(cur.getD (i*o.sz+j) undef).oneCell'=true/\R M w ι n (cur.getD (i*o.sz+j) undef) ((o.xV.getD i []).getD j .top)) \/
 (o.sz=0/\∃ es:Array MapEntry,nU=some (Obj.map es es.size)/\ es.size=o.xV.length /\
  ∀ i,i<o.xV.length->∃ (kv v:Value) (x d:D),o.xV.getD i [] = [x,d]/\es[i]?=some ⟨kv,v,i⟩/\ R M w ι n kv x/\R M w ι n v d)
def tl (M:Nat->Prop) (w:World) (ι:Nat->Nat) (n key:Nat) (o:Ob):Prop:=yK M w ι n w.heap[ι key]? o
theorem yK.imp {M M':Nat->Prop} {w w':World} {ι ι':Nat->Nat} {n n':Nat} {nU:Option Obj} {o:Ob} (h:yK M w ι n nU o) (hr:∀ {v:Value} {d:D},R M w ι n v d->R M' w' ι' n' v d):yK M' w' ι' n' nU o:=by
 rcases h with ⟨h0,cur,e,h1,h2,h3,h4⟩ | ⟨h0,es,h1,h2,h3⟩
 ·exact .inl ⟨h0,cur,e,h1,h2,h3,λi hi j hj=>⟨(h4 i hi j hj).1,hr (h4 i hi j hj).2⟩⟩
 ·refine .inr ⟨h0,es,h1,h2,λi hi=>?_⟩;obtain⟨kv,v,x,d,g1,g2,g3,g4⟩:=h3 i hi;exact⟨kv,v,x,d,g1,g2,hr g3,hr g4⟩
theorem yK.cells {M:Nat->Prop} {w:World} {ι:Nat->Nat} {n:Nat} {nU:Option Obj} {o:Ob} (h:yK M w ι n nU o) (h0:0<o.sz) :
  ∃ (cur:Array Value) (e:TypeId),nU=some (Obj.cells cur e (0,0))/\ (∀ el ∈ o.xV,el.length=o.sz)/\ o.xV.length*o.sz<=cur.size /\
  ∀ i,i<o.xV.length->∀ j,j<o.sz->(cur.getD (i*o.sz+j) undef).oneCell'=true/\R M w ι n (cur.getD (i*o.sz+j) undef) ((o.xV.getD i []).getD j .top):=by
 rcases h with ⟨_,h⟩ | ⟨h,_⟩
 ·exact h
 ·omega
theorem yK.rows {M:Nat->Prop} {w:World} {ι:Nat->Nat} {n:Nat} {nU:Option Obj} {o:Ob} {cur0:Array Value} {e0:TypeId} (h:yK M w ι n nU o) (hc:nU=some (Obj.cells cur0 e0 (0,0))) :
  0<o.sz/\∃ (cur:Array Value) (e:TypeId),nU=some (Obj.cells cur e (0,0))/\ (∀ el ∈ o.xV,el.length=o.sz)/\ o.xV.length*o.sz<=cur.size /\
  ∀ i,i<o.xV.length->∀ j,j<o.sz->(cur.getD (i*o.sz+j) undef).oneCell'=true/\R M w ι n (cur.getD (i*o.sz+j) undef) ((o.xV.getD i []).getD j .top):=by
 rcases h with h | ⟨_,es,h1,_⟩
 ·exact h
 ·rw [hc] at h1; cases h1
theorem yK.mapped {M:Nat->Prop} {w:World} {ι:Nat->Nat} {n:Nat} {nU:Option Obj} {o:Ob} (h:yK M w ι n nU o) (h0:o.sz=0) :
  ∃ es:Array MapEntry,nU=some (Obj.map es es.size)/\ es.size=o.xV.length /\
  ∀ i,i<o.xV.length->∃ (kv v:Value) (x d:D),o.xV.getD i [] = [x,d]/\es[i]?=some ⟨kv,v,i⟩/\ R M w ι n kv x/\R M w ι n v d:=by
 rcases h with ⟨h,_⟩ | ⟨_,h⟩
 ·omega
 ·exact h
theorem yK.isSome {M:Nat->Prop} {w:World} {ι:Nat->Nat} {n:Nat} {nU:Option Obj} {o:Ob} (h:yK M w ι n nU o):∃ b,nU=some b:=by
 rcases h with ⟨_,cur,e,h1,_⟩ | ⟨_,es,h1,_⟩
 ·exact⟨_,h1⟩
 ·exact⟨_,h1⟩
def Pf (M:Nat->Prop) (w:World) (ι:Nat->Nat) (n:Nat) (tmps:Array Value) (f:Fr):Prop:=∀ t,R M w ι n (tmps.getD t undef) (f.get t)
end Go.Pd
namespace Go.Pd
open Go
def vG {α β:Type} (f:α->Option β):List α->Option (List β)
 | []=>some []
 | a :: r=>match f a,vG f r with
  | some b,some bs=>some (b :: bs)
  | _,_=>none
theorem vM {α β:Type} {f:α->Option β}:∀ {l:List α} {bs:List β},vG f l=some bs->bs.length=l.length/\∀ (j:Nat) (a:α),l[j]?=some a->∃ b,bs[j]?=some b/\f a=some b
 | [],bs,h=>by simp [vG] at h; subst h; simp
 | a :: r,bs,h=>by
  unfold vG at h
  split at h
  ·rename_i b bs' h1 h2;simp at h; subst h;obtain⟨h3,h4⟩:=vM h2;refine⟨by simp [h3],λj x hx=>?_⟩
   cases j with
   | zero=>simp at hx; subst hx; exact⟨b,by simp,h1⟩
   | succ j=>simp at hx; obtain⟨c,hc,hf⟩:=h4 j x hx; exact⟨c,by simpa using hc,hf⟩
  ·simp at h
def D.leaf : Value->Option D
 | .int k n=>if k.min<=n/\n<=k.max then some (.int k n) else none
 | .bool b=>some (.bool b)
 | .slice none 0 0=>some .xO
 | .pointer none=>some .oM
 | .map none=>some .qY
 | .nilFunc=>some .sP
 | _=>none
def D.ofValue (v:Value):Option D:=
 match v with
 | .agg cs=>(vG D.leaf cs.toList).map .agg
 | v=>D.leaf v
def D.one : D->Bool
 | .top | .tF | .agg _ | .wK _=>false
 | _=>true
def D.cells : D->Option (List D)
 | .agg cs=>some cs
 | .top | .tF | .wK _=>none
 | d=>some [d]
mutual
def D.xD : D->Bool
 | .ref .. | .yM .. | .sub .. | .yI _=>false
 | .agg cs | .wK cs | .fn _ cs=>D.xR cs
 | _=>true
def D.xR : List D->Bool
 | []=>true
 | d :: r=>d.xD&&D.xR r
end
def kQ : List D->Nat->List D->List D
 | cs,_,[]=>cs
 | cs,o,d :: ds=>kQ (cs.set o d) (o+1) ds
def ug : List D->List (Nat × Nat × D)->Option (List D)
 | cs,[]=>some cs
 | cs,(o,s,d) :: r=>match d.cells with
  | some ds=>if ds.length=s/\o+s<=cs.length then ug (kQ cs o ds) r else none
  | none=>none
def zk (sz:Nat):List (List D)->List (Nat × D)->Option (List (List D))
 | es,[]=>some es
 | es,(i,d) :: r=>match d.cells with
  | some ds=>if ds.length=sz/\i<es.length then zk sz (es.set i ds) r else none
  | none=>none
def pU (ag:Bool) (cs:List D):D:=if ag then .agg cs else cs.headD .top
inductive uO where
 | t (n:Nat)
 | c (d:D)
inductive DK where
 | mv (x:uO)
 | pick (c a b:uO)
 | bin (op:BinOp) (x y:uO)
 | beq (neg:Bool) (x y:uO)
 | eA (neg:Bool) (x y:uO)
 | nt (x:uO)
 | neg (x:uO)
 | Kx (x:uO)
 | geq (neg:Bool) (n:Nat) (x y:uO)
 | TK (x:uO)
 | conv (k:IntKind) (x:uO)
 | NK (off:Nat) (x:uO)
 | PN (off n:Nat) (ag:Bool) (x:uO)
 | idx (sz:Nat) (x i:uO)
 | build (zero:List D) (parts:List (Nat × Nat × uO))
 | uC (sz len:Nat) (zero:List D) (parts:List (Nat × uO))
 | len (x:uO)
 | mn (x y:uO)
 | mx (x y:uO)
 | TF (x:uO) (i:Nat)
 | u0 (f:FuncId) (caps:List uO)
 | load (n:Nat) (ag:Bool) (x:uO)
 | lu (sz:Nat) (x:uO) (lo hi:Option uO)
 | call (fn:uO) (args:List uO)
 | box (x:uO)
 | alloc (zero:List D)
 | store (n:Nat) (a x:uO)
 | app (sz bytes:Nat) (x y:uO)
 | mD (sz bytes:Nat) (zero:List D) (len cap:uO)
 | mF (sz len:Nat) (zero:List D) (parts:List (Nat × uO))
 | YH (zero:D) (x:uO)
 | LB (x:uO)
 | lh
 | wh (zero:D) (ok:Bool) (m k:uO)
 | gX (m k x:uO)
 | zn (n:Nat) (zero:D) (ok:Bool) (m k:uO)
 | kF (n:Nat) (m k x:uO)
 | wg (zero:D) (m k:uO)
 | wc (m s x:uO)
 | YQ (x y:uO)
structure yX where
 dst:Option Nat
 guard:Option (Nat × Bool)
 k:DK
inductive DC where
 | skip
 | oN (pre post:List yX)
 | nh (pre:List yX) (m:yX) (mid:List yX) (un:Bool) (post:List yX)
 | nf (pre:List yX) (m1:yX) (mid1:List yX) (m2:yX) (mid2:List yX) (post:List yX)
 | dC (pre:List yX) (m1:yX) (mid1:List yX) (m2:yX) (mid2:List yX) (post:List yX) (free:List Nat)
 | cE (pre:List yX) (m:yX) (mid:List yX) (un:Bool) (post:List yX) (fl:List Bool)
 | seq (a b:DC)
 | cond (c:uO) (a b:DC)
 | block (id:Nat) (c:DC)
 | loop (c:DC)
 | exit (id:Nat)
 | ret
 | TW (pre:List yX) (it:Nat) (m:uO)
 | TT (it nx more:Nat)
 | TS (it pair:Nat) (rest:List yX)
 | bU (pre:List yX) (it:Nat) (m:uO) (out nx more next pair:Nat) (rest:List yX) (code:DC)
 | wk (f:uO) (ps:List Nat) (a c:DC)
def yW (N:Nat):Operand->Option uO
 | .tmp t=>if t<N then some (.t t) else none
 | .const v=>(D.ofValue v).map .c
 | .func f=>some (.c (.fn f []))
 | .global _=>none
section
variable (P : Program) (N : Nat)
def pR (t:TypeId):Option Bool:=
 match P.underlying t with
 | some (.struct _) | some (.array _ _)=>some true
 | some _=>some false
 | none=>none
def sX (t:TypeId):Option Nat:=(P.info? t).map (·.size)
def kJ (t:TypeId):Option (List D):=do
 let i <- P.info? t
 let z <- i.zero
 vG D.leaf z.cells.toList
def tq (t:TypeId) (f:Nat):Option (Nat × TypeId):=
 match P.underlying t with
 | some (.struct fs)=>(fs[f]?).map λx=>(x.offset,x.type)
 | _=>none
def sliceB (t:TypeId):Option TypeId:=
 match P.underlying t with
 | some (.slice e)=>some e
 | _=>none
def hZ (n:Nat):Option Nat:=if 0<n then some n else none
def xp (x:Option Operand):Option (Option uO):=
 match x with
 | some x=>(yW N x).map some
 | none=>some none
def zl : List Field->Nat->Bool
 | [],_=>true
 | f :: fs,o=>f.name != "_"&&(f.offset==o)&& (match P.underlying f.type with | some (.int .i64)=>true | _=>false)&& zl fs (o+1)
def gW (t:TypeId):Option Nat:=match P.underlying t with
 | some (.struct fs)=>if zl P fs.toList 0&&!P.stoodInHeld t then some fs.size else none
 | _=>none
def mkBin (op:BinOp) (t:TypeId) (x y:uO):Option DK:=
 match P.underlying t with
 | some .bool=>if op = .eql then some (.beq false x y) else if op = .neq then some (.beq true x y) else none
 | some (.slice _)=>if op = .eql then some (.eA false x y) else if op = .neq then some (.eA true x y) else none
 | some (.int _)=>some (.bin op x y)
 | some (.struct _)=>if P.eqGuardType P.depth t then none else if op = .eql then(gW P t).map λn=>.geq false n x y else if op = .neq then(gW P t).map λn=>.geq true n x y else none
 | _=>none
def Me (op:UnOp) (x:uO):Option DK:=
 match op with
 | .not=>some (.nt x)
 | .neg=>some (.neg x)
 | .xor=>some (.Kx x)
 | _=>none
def yv (b:Builtin) (args:List uO) (ts:List TypeId):Option DK:=
 match b with
 | .len=>match args,ts with
  | [x],[t]=>match sliceB P t with
   | some _=>some (.len x)
   | none=>match P.underlying t with
    | some (.map _ _)=>some (.TK x)
    | _=>none
  | _,_=>none
 | .min=>match args with
  | [x,y]=>some (.mn x y)
  | _=>none
 | .max=>match args with
  | [x,y]=>some (.mx x y)
  | _=>none
 | .append=>match args,ts with
  | [x,y],[t,u]=>do
   let e <- sliceB P t
   let i <- P.info? e
   let sz <- hZ i.size
   let zero <- kJ P e
   if t=u/\zero.length=sz then some (.app sz i.bytes x y) else none
  | _,_=>none
 | .clear=>match args,ts with
  | [x],[t]=>do
   let e <- sliceB P t
   let i <- P.info? e
   let z <- i.zero
   let d <- D.leaf z
   if i.size=1 then some (.YH d x) else none
  | _,_=>none
 | .copy=>match args,ts with
  | [x,y],[t,_]=>do
   let e <- sliceB P t
   let i <- P.info? e
   if i.size=1 then some (.YQ x y) else none
  | _,_=>none
 | _=>none
def Y1 (c:Call):Option DK:=
 match c.callee with
 | .value f=>do pure (.call (<- yW N f) (<- vG (yW N) c.args.toList))
 | .builtin b=>do yv P b (<- vG (yW N) c.args.toList) c.argTypes.toList
 | .invoke _ _=>none
def mkLit (own:List Nat) (dst:Option Nat) (sz len:Nat) (zero:List D) (parts:List (Nat × uO)):Option DK:=
 match dst with
 | some d=>if own.contains d then some (.mF sz len zero parts) else some (.uC sz len zero parts)
 | none=>none
def xy (t:TypeId):Option D:=
 match P.underlying t with
 | some (.map k e)=>match P.underlying k with
  | some (.int _)=>do
   let i <- P.info? e
   let z <- i.zero
   D.ofValue z
  | _=>none
 | _=>none
def r9 (t:TypeId):Option (Nat × D):=
 match P.underlying t with
 | some (.map k e)=>do
  let n <- gW P k
  let i <- P.info? e
  let z <- i.zero
  let d <- D.ofValue z
  pure (n,d)
 | _=>none
def Vc (own:List Nat) (o:Oper):Option DK:=
 match o.op with
 | .move x=>(yW N x).map .mv
 | .assign x=>(yW N x).map .mv
 | .pick c a b=>do pure (.pick (<- yW N c) (<- yW N a) (<- yW N b))
 | .alloc e=>do pure (.alloc (<- kJ P e))
 | .box _ x=>do pure (.box (<- yW N x))
 | .build t ps=>
  match P.underlying t with
  | some (.struct fs)=>do
   let zero <- kJ P t
   let places <- fs.toList.mapM (λf=>(P.info? f.type).map λi=>(f.offset,i.size))
   let parts <- vG (λ(p:Nat × Operand)=>do
    let q <- places[p.1]?
    pure (q.1,q.2,<- yW N p.2)) ps.toList
   pure (.build zero parts)
  | _=>none
 | .buildSlice t len ps=>do
  let e <- sliceB P t
  let sz <- hZ (<- sX P e)
  let zero <- kJ P e
  let parts <- vG (λ(p:Nat × Operand)=>do pure (p.1,<- yW N p.2)) ps.toList
  if zero.length=sz/\len*sz<=1000 then mkLit own o.dst sz len zero parts else none
 | .load t x=>do
  let ag <- pR P t
  let n <- sX P t
  let x' <- yW N x
  if ag=true\/n=1 then pure (.load n ag x') else none
 | .store t a x=>do pure (.store (<- sX P t) (<- yW N a) (<- yW N x))
 | .binOp op t x y _=>do mkBin P op t (<- yW N x) (<- yW N y)
 | .unOp op _ x=>do Me op (<- yW N x)
 | .convert src dst x=>
  match P.underlying src,P.underlying dst with
  | some (.int _),some (.int k)=>do pure (.conv k (<- yW N x))
  | _,_=>none
 | .makeFunc fn first caps=>
  match fn with
  | .func f=>do
   let cs <- vG (yW N) caps.toList
   if first = #[] then pure (.u0 f cs) else none
  | _=>none
 | .makeSlice t l c=>do
  let e <- sliceB P t
  let i <- P.info? e
  let sz <- hZ i.size
  let zero <- kJ P e
  let l' <- yW N l
  let c' <- yW N c
  if zero.length=sz then pure (.mD sz i.bytes zero l' c') else none
 | .slice t x lo hi mx=>do
  let e <- sliceB P t
  let sz <- hZ (<- sX P e)
  let lo' <- xp N lo
  let hi' <- xp N hi
  let x' <- yW N x
  match mx with
  | none=>pure (.lu sz x' lo' hi')
  | some _=>none
 | .fieldAddr t x f=>do
  let q <- tq P t f
  let _ <- hZ (<- sX P q.2)
  pure (.NK q.1 (<- yW N x))
 | .field t x f=>do
  let q <- tq P t f
  pure (.PN q.1 (<- sX P q.2) (<- pR P q.2) (<- yW N x))
 | .indexAddr t x i=>
  match sliceB P t with
  | some e=>do pure (.idx (<- hZ (<- sX P e)) (<- yW N x) (<- yW N i))
  | none=>
   match P.underlying t,i with
   | some (.array n e),.const (.int _ p)=>do
    let sz <- hZ (<- sX P e)
    let x' <- yW N x
    if 0<=p/\p<n then some (.NK (p.toNat*sz) x') else none
   | _,_=>none
 | .extract x i=>do pure (.TF (<- yW N x) i)
 | .call c=>Y1 P N c
 | .nilCheck x=>(yW N x).map .LB
 | .makeMap t r=>
  match r with
  | none=>if (xy P t).isSome || (r9 P t).isSome then some .lh else none
  | some (.const (.int _ _))=>if (xy P t).isSome || (r9 P t).isSome then some .lh else none
  | _=>none
 | .lookup t m k ok=>match xy P t with
  | some z=>do pure (.wh z ok (<- yW N m) (<- yW N k))
  | none=>do
   let p <- r9 P t
   pure (.zn p.1 p.2 ok (<- yW N m) (<- yW N k))
 | .mapUpdate t m k x=>match xy P t with
  | some _=>do pure (.gX (<- yW N m) (<- yW N k) (<- yW N x))
  | none=>do
   let p <- r9 P t
   pure (.kF p.1 (<- yW N m) (<- yW N k) (<- yW N x))
 | .insert t m k x=>do
  let _ <- xy P t
  pure (.gX (<- yW N m) (<- yW N k) (<- yW N x))
 | .mapEntry t m k=>do pure (.wg (<- xy P t) (<- yW N m) (<- yW N k))
 | .entryStore t m s x=>do
  let _ <- xy P t
  pure (.wc (<- yW N m) (<- yW N s) (<- yW N x))
 | .makeInterface _ _ | .panic _=>some (.alloc [])
 | _=>none
def jE (own:List Nat) (ops:Array Oper) (o:Oper):Option yX:=do
 let k <- Vc P N own o
 let dst <- (match o.dst with | some d=>if d<N then some (some d) else none | none=>some none)
 let g <- (match o.guard with
  | none=>some none
  | some (j,b)=>do
   let oj <- ops[j]?
   let d <- oj.dst
   if d<N then some (some (d,b)) else none)
 pure ⟨dst,g,k⟩
end
def DK.wN : DK->Bool
 | .mv _ | .LB _ | .pick .. | .bin .. | .beq .. | .geq .. | .nt _ | .neg _ | .Kx _ | .conv .. | .NK .. | .PN .. | .TF .. | .u0 .. | .mn .. | .mx .. | .build .. | .idx .. | .len _ | .eA ..=>true
 | _=>false
def DK.still : DK->Bool
 | .box _ | .alloc _ | .store .. | .app .. | .mD .. | .mF .. | .YH .. | .lh | .gX .. | .kF .. | .wg .. | .wc .. | .YQ ..=>false
 | _=>true
def DK.YC : DK->List uO
 | .mv x | .LB x | .nt x | .neg x | .Kx x | .TK x | .conv _ x | .NK _ x | .PN _ _ _ x | .len x | .TF x _ | .load _ _ x | .box x | .YH _ x=>[x]
 | .pick c a b=>[c,a,b]
 | .bin _ x y | .beq _ x y | .geq _ _ x y | .eA _ x y | .idx _ x y | .mn x y | .mx x y | .store _ x y | .app _ _ x y | .mD _ _ _ x y | .YQ x y=>[x,y]
 | .build _ ps=>ps.map (·.2.2)
 | .uC _ _ _ ps | .mF _ _ _ ps=>ps.map (·.2)
 | .u0 _ cs=>cs
 | .lu _ x lo hi=>x :: (lo.toList++hi.toList)
 | .call f xs=>f :: xs
 | .alloc _ | .lh=>[]
 | .wh _ _ m k | .wg _ m k | .zn _ _ _ m k=>[m,k]
 | .gX m k x | .wc m k x | .kF _ m k x=>[m,k,x]
def uO.Jb : uO->Option Nat
 | .t n=>some n
 | .c _=>none
def yX.names (o:yX):List Nat:=o.k.YC.filterMap uO.Jb++(match o.guard with | some (g,_)=>[g] | none=>[])
def wW : List Oper->List Nat->List Nat
 | [],acc=>acc
 | o :: rest,acc=>wW rest (acc ++ [o.after.foldl (λs e=>if Region.binds .any e then s ||| 2 ^ e.on ||| acc.getD e.on 0 else s) 0])
def ordered (ms:List Nat) (i j:Nat):Bool:=(ms.getD j 0).testBit i
def kR (x y:yX):Bool:=
 (match x.dst with | some d=>!y.names.contains d&&y.dst != some d | none=>true)&&
 (match y.dst with | some d=>!x.names.contains d | none=>true)
def bF (ops:List Oper) (ds:List yX) (s:Nat) (mu:Nat->Bool) (xo:Nat->Nat->Bool):Bool:=
 let ms:=wW ops []
 (List.range ops.length).all λj=>
  match ops[j]?,ds[j]? with
  | some oj,some dj=>(oj.after.toList.all λe=>!Region.binds .any e || decide (e.on<j))&& (List.range j).all λi=>
   match ds[i]? with
   | some di=>ordered ms i j || (kR di dj&&((decide (j<s)&& !(mu i&&mu j)) || di.k.wN || dj.k.wN || xo i j))
   | none=>false
  | _,_=>false
def tp (ops:List Oper) (ds:List yX) (s:Nat) (mu:Nat->Bool):Bool:=bF ops ds s mu λ_ _=>false
def wV (own:List Nat) (o:yX):Bool:=match o.dst,o.guard with
 | some d,none=>own.contains (1000000+d)
 | _,_=>false
def qG (own:List Nat) (ds:List yX) (i:Nat):Bool:=match ds[i]? with
 | some d=>wV own d
 | none=>false
def tV (own:List Nat):List yX->Nat
 | []=>0
 | o :: r=>if o.k.still || wV own o then tV own r+1 else 0
def vF (l:List yX):Bool:=(l.all λo=>o.dst.isSome)&& decide (l.map (·.dst)).Nodup
def sS (ms:List Nat) (m:Nat):List yX->Nat->Bool
 | [],_=>true
 | o :: r,j=>(o.k.wN || ordered ms m j)&& sS ms m r (j+1)
def T8 (own:List Nat) (ops:List Oper) (l:List yX) (s:Nat):Option DC:=
 let h:=l.take s
 match h.findIdx? (wV own) with
 | none=>some (.oN h (l.drop s))
 | some m=>match h[m]? with
  | none=>none
  | some o=>
   let r:=h.drop (m+1)
   match r.findIdx? (wV own) with
   | none=>if vF (h.take m)&& vF r&&!o.k.wN then some (.nh (h.take m) o r (!sS (wW ops []) m r (m+1)) (l.drop s)) else none
   | some n=>match r[n]? with
    | none=>none
    | some o2=>if ((r.drop (n+1)).findIdx? (wV own)).isNone&&(vF (h.take m)&& vF (r.take n)&& vF (r.drop (n+1)))&& (!o.k.wN&&!o2.k.wN)&& (sS (wW ops []) m (r.take n) (m+1)&& sS (wW ops []) (m+1+n) (r.drop (n+1)) (m+1+n+1)) then
      some (.nf (h.take m) o (r.take n) o2 (r.drop (n+1)) (l.drop s)) else none
def dh (own:List Nat) (ops:List Oper) (l:List yX) (s:Nat):Option DC:=
 let h:=l.take s
 match h.findIdx? (wV own) with
 | none=>none
 | some m=>match h[m]? with
  | none=>none
  | some o=>
   let r:=h.drop (m+1)
   if own.contains (2000000+o.dst.getD 0)&& (r.findIdx? (wV own)).isNone&&vF (h.take m)&& vF r&&!o.k.wN then
    some (.cE (h.take m) o r (!sS (wW ops []) m r (m+1)) (l.drop s) ((List.range m).map λi=>ordered (wW ops []) i m)) else none
def T4 (ms:List Nat) (x y:Nat) (l:List yX):List Nat:=(List.range l.length).filterMap λj=>if j==x || j==y || ordered ms x j || ordered ms y j then none else(l[j]?).bind (·.dst)
def vm : DK->Bool
 | .alloc _=>true
 | _=>false
def Y2 (own:List Nat) (ops:List Oper) (l:List yX) (s:Nat):Option DC:=
 let h:=l.take s
 match h.findIdx? (wV own) with
 | none=>none
 | some m=>match h[m]? with
  | none=>none
  | some o=>
   let r:=h.drop (m+1)
   match r.findIdx? (wV own) with
   | none=>none
   | some n=>match r[n]? with
    | none=>none
    | some o2=>if ((r.drop (n+1)).findIdx? (wV own)).isNone&&vF h&&decide (l.filterMap (·.dst)).Nodup&&(!o.k.wN&&vm o2.k)&& bF ops l s (qG own l) (λi j=>i==m&&j==m+1+n) then
      some (.dC (h.take m) o (r.take n) o2 (r.drop (n+1)) (l.drop s) (T4 (wW ops []) m (m+1+n) l)) else none
def Sh (P:Program) (t:TypeId):Bool:=match P.underlying t with
 | some (.map _ _)=>true
 | _=>false
def bS (P:Program) (N:Nat) (own:List Nat) (ops:Array Oper):Option DC:=
 match ops.toList.getLast? with
 | some o=>match o.op,o.dst,o.guard with
  | .range t x,some it,none=>do
   let m <- yW N x
   let pre <- vG (jE P N own ops) ops.toList.dropLast
   if Sh P t=true/\it<N then some (.TW pre it m) else none
  | _,_,_=>none
 | none=>none
def ke (N:Nat) (ops:Array Oper):Option DC:=
 match ops.toList with
 | [o2,o3]=>match o2.op,o2.dst,o2.guard,o3.op,o3.dst,o3.guard with
  | .next (.tmp it) false,some nx,none,.extract (.tmp nx') 0,some more,none=>if nx'=nx/\nx<N/\more<N then some (.TT it nx more) else none
  | _,_,_,_,_,_=>none
 | _=>none
def kd (P:Program) (N:Nat) (own:List Nat) (ops:Array Oper):Option DC:=
 match ops.toList with
 | o :: l=>match o.op,o.dst,o.guard with
  | .entry (.tmp it),some pair,none=>do
   let rest <- vG (jE P N own ops) l
   if pair<N then some (.TS it pair rest) else none
  | _,_,_=>none
 | _=>none
def uf (o:Oper):Bool:=match o.op with
 | .move _ | .assign _ | .nilCheck _ | .fieldAddr .. | .indexAddr .. | .load ..=>true
 | _=>false
def tu (P:Program) (N:Nat) (own:List Nat) (ops:Array Oper) (draw:Bool):Option DC:=
 if draw then(if (ops.toList.dropLast.all λo=>uf o&&o.guard.isNone)&& Region.lexTailB .any ops (ops.size-1) then bS P N own ops else none) else match bS P N own ops with
  | some d=>some d
  | none=>match ke N ops with
   | some d=>some d
   | none=>kd P N own ops
def PW (x y:DC):DC:=
 match x,y with
 | .TW pre it m,.block out (.loop (.seq (.TT it1 nx more) (.seq (.cond (.t more1) .skip (.exit out1)) (.block next (.seq (.TS it2 pair rest) code)))))=> if it1=it/\it2=it/\more1=more/\out1=out/\it≠nx/\it≠more/\it≠pair then .bU pre it m out nx more next pair rest code else .seq x y
 | _,_=>.seq x y
def tT (P:Program) (N:Nat) (own:List Nat):Code->Option DC
 | .skip=>some .skip
 | .region _ ops draw=>match tu P N own ops draw with
  | some d=>some d
  | none=>do
   let l <- vG (jE P N own ops) ops.toList
   if draw then
    let s:=tV own l
    if own.contains 77777=false/\tp ops.toList l s (qG own l)= true then(match dh own ops.toList l s with | some d=>some d | none=>T8 own ops.toList l s) else if own.contains 77777=false then Y2 own ops.toList l s else none
   else pure (.oN [] l)
 | .seq a b=>do pure (PW (<- tT P N own a) (<- tT P N own b))
 | .cond c a b=>do pure (.cond (<- yW N c) (<- tT P N own a) (<- tT P N own b))
 | .block id c=>do pure (.block id (<- tT P N own c))
 | .loop c=>do pure (.loop (<- tT P N own c))
 | .rangeFunc f ps a c=>do pure (.wk (<- yW N f) ps.toList (<- tT P N own a) (<- tT P N own c))
 | .exit id=>some (.exit id)
 | .ret=>some .ret
 | _=>none
end Go.Pd
namespace Go.Pd
open Go
def rB (f:Fr):uO->D
 | .t n=>f.get n
 | .c d=>d
def tY (op:BinOp) (k:IntKind) (a b:Int):Int:=
 match op with
 | .and=>k.wrap (BitVec.ofInt k.bits a &&& BitVec.ofInt k.bits b).toNat
 | .or=>k.wrap (BitVec.ofInt k.bits a ||| BitVec.ofInt k.bits b).toNat
 | .xor=>k.wrap (BitVec.ofInt k.bits a ^^^ BitVec.ofInt k.bits b).toNat
 | _=>k.wrap (BitVec.ofInt k.bits a &&& ~~~BitVec.ofInt k.bits b).toNat
def nk (k:IntKind) (a b:Int):Int:=k.wrap (a*2 ^ (min b.toNat k.bits))
def fb (k:IntKind) (a b:Int):Int:=a.fdiv (2 ^ (min b.toNat k.bits))
def oL (op:BinOp) (k:IntKind) (a:Int) (k':IntKind) (b:Int) (K:D->Prop):Prop:=
 match op with
 | .shl=>0<=b/\K (.int k (nk k a b))
 | .shr=>0<=b/\K (.int k (fb k a b))
 | .add=>k=k'/\K (.int k (k.wrap (a+b)))
 | .sub=>k=k'/\K (.int k (k.wrap (a-b)))
 | .mul=>k=k'/\K (.int k (k.wrap (a*b)))
 | .quo=>k=k'/\b≠0/\K (.int k (k.wrap (a.tdiv b)))
 | .rem=>k=k'/\b≠0/\K (.int k (a.tmod b))
 | .and=>k=k'/\K (.int k (tY .and k a b))
 | .or=>k=k'/\K (.int k (tY .or k a b))
 | .xor=>k=k'/\K (.int k (tY .xor k a b))
 | .andNot=>k=k'/\K (.int k (tY .andNot k a b))
 | .eql=>k=k'/\K (.bool (a==b))
 | .neq=>k=k'/\K (.bool (a != b))
 | .lss=>k=k'/\K (.bool (decide (a<b)))
 | .leq=>k=k'/\K (.bool (decide (a<=b)))
 | .gtr=>k=k'/\K (.bool (decide (a > b)))
 | .geq=>k=k'/\K (.bool (decide (a >= b)))
def Own (ι:Nat->Nat) (σ:St) (b:Nat):Prop:=∃ k o,σ.get k=some o/\ι k=b
class uM where
 pE:List (Nat × List Value)
variable [uM]
def jw (w:World) (M:Nat->Prop):Prop:=∀ p ∈ uM.pE,p.1<w.heap.size/\¬ M p.1/\∀ j v,p.2[j]?=some v->w.cell? ⟨p.1,j,none⟩= some v
theorem jw.yD {M M':Nat->Prop} {w w':World} (h:jw w M) (hs:w.heap.size<=w'.heap.size) (hb:∀ b,b<w.heap.size->¬ M b->w'.heap[b]?=w.heap[b]?) (hM:∀ b,b<w.heap.size->M' b->M b):jw w' M':=λp hp=>
 let ⟨h1,h2,h3⟩:=h p hp
 ⟨γ h1 hs,λhm=>h2 (hM _ h1 hm),λj v hv=>by rw [World.cell?_of_block (w:=w) (hb _ h1 h2)]; exact h3 j v hv⟩
structure wZ (M0 : Nat -> Prop) (w : World) (σ : St) (ι : Nat -> Nat) : Prop where
 sO:∀ b,M0 b->b<w.heap.size
 holds:∀ k o,σ.get k=some o->k<σ.nx/\tl (yG M0 ι σ) w ι σ.nx k o
 inj:∀ k k' o o',σ.get k=some o->σ.get k'=some o'->ι k=ι k'->k=k'
 notM:∀ k o,σ.get k=some o->¬ M0 (ι k)
 pE:jw w (yG M0 ι σ)
def tJ (P:Program) (g:FuncId):Prop:=∃ fn,P.funcs[g]?=some fn/\(fn.name == "runtime.NumGoroutine")= false/\fn.body.isNone=false
structure xY (P : Program) (g : FuncId) (args : List D) (σ : St) (d : D) (σ' : St) : Prop where
 ord:tJ P g
 run:∀ (M0:Nat->Prop) (w:World) (ι:Nat->Nat) (vals:Array Value),wZ M0 w σ ι->vals.size=args.length ->
  (∀ j,j<args.length->R (yG M0 ι σ) w ι σ.nx (vals.getD j undef) (args.getD j .top)) ->
  Calls P g vals w λe w'=>∃ v ι',e = .returned v/\Kept w w' (Own ι σ)/\ wZ M0 w' σ' ι'/\σ.nx<=σ'.nx/\(∀ k,k<σ.nx->ι' k=ι k)/\
   (∀ k o,σ'.get k=some o->w.heap.size<=ι' k\/Own ι σ (ι' k))/\ R (yG M0 ι' σ') w' ι' σ'.nx v d
structure Cx where
 P:Program
 N:Nat
 n0:Nat:=0
 own:List Nat:=[]
 rd:Option Nat:=none
def Cx.F (C:Cx):Fence:={ Fence.wide with round:=C.rd }
def LA : Option D->Option Int
 | none=>some 0
 | some (.int _ n)=>some n
 | _=>none
omit [uM] in
theorem uQ {c:Prop} [Decidable c] {p q:Prop} (h:if c then p else q):(c->p)/\ (¬ c->q):=⟨λhc=>by rwa [if_pos hc] at h,λhc=>by rwa [if_neg hc] at h⟩
omit [uM] in
theorem xn {c:Prop} [Decidable c] {p q:Prop} (h1:c->p) (h2:¬ c->q):if c then p else q:=by
 by_cases h:c
 ·rw [if_pos h]; exact h1 h
 ·rw [if_neg h]; exact h2 h
omit [uM] in
theorem VR {t:Bool} {p q:Prop} (h:if t=true then p else q):(t=true->p)/\ (t=false->q):=⟨λhc=>(uQ h).1 hc,λhc=>(uQ h).2 (by simp [hc])⟩
def zj (P:Program) (g:FuncId) (args:List D) (σ:St) (K:D->Prop):Prop:=∃ d,xY P g args σ d σ/\K d
def p3 (P:Program) (g:FuncId) (args:List D) (σ:St) (K:D->St->Prop):Prop:=∃ d σ',xY P g args σ d σ'/\K d σ'
def iC (kk:IntKind) (xV:List (List D)):Prop:=∀ row ∈ xV,∃ m d,row = [D.int kk m,d]
def oJ (x:Int):List (List D)->Nat->Option (Nat × D)
 | [],_=>none
 | [.int _ m,d] :: r,i=>if x=m then some (i,d) else oJ x r (i+1)
 | _ :: r,i=>oJ x r (i+1)
def uk (kk:IntKind) (xV:List (List D)) (x:Int) (d:D):List (List D):=
 match oJ x xV 0 with
 | some (i,_)=>xV.set i [.int kk x,d]
 | none=>xV ++ [[.int kk x,d]]
def qC (ok:Bool) (zero:D) (r:Option (Nat × D)):D:= if ok then .wK [(r.map (·.2)).getD zero,.bool r.isSome] else(r.map (·.2)).getD zero
def sM (l:List (List Int × D)):List (List D):=l.map λp=>[.agg (p.1.map (D.int .i64)),p.2]
def mZ (x:List Int):List (List Int × D)->Nat->Option (Nat × D)
 | [],_=>none
 | (k,d) :: r,i=>if x=k then some (i,d) else mZ x r (i+1)
def xm : List D->Option (List Int)
 | []=>some []
 | .int .i64 a :: r=>(xm r).map (a :: ·)
 | _=>none
theorem fU : ∀ {cs:List D} {xs:List Int},xm cs=some xs->cs=xs.map (D.int .i64)
 | [],xs,h=>by cases h; rfl
 | d :: r,xs,h=>by
  unfold xm at h
  split at h
  ·rename_i e; cases e
  ·rename_i a r' e;cases e;rw [Option.map_eq_some_iff] at h;obtain⟨ys,h1,rfl⟩:=h;rw [fU h1]; rfl
  ·cases h
def bP (y:List Int) (x:D) (l:List (List Int × D)):List (List Int × D):=match mZ y l 0 with
 | some (i,_)=>l.set i (y,x)
 | none=>l ++ [(y,x)]
def pW (C:Cx) (σ:St) (ev:uO->D):DK->(D->Prop)->Prop
 | .mv x,K=>K (ev x)
 | .pick c a b,K=>match ev c with
  | .bool t=>if t=true then K (ev a) else K (ev b)
  | _=>False
 | .bin op x y,K=>match ev x,ev y with
  | .int k a,.int k' b=>oL op k a k' b K
  | _,_=>False
 | .beq neg x y,K=>match ev x,ev y with
  | .bool a,.bool b=>K (.bool (if neg then a != b else a==b))
  | _,_=>False
 | .eA neg x y,K=>match ev x,ev y with
  | .xO,.xO=>K (.bool (!neg))
  | .yM ..,.xO | .xO,.yM ..=>K (.bool neg)
  | .emp,.xO | .xO,.emp=>K (.bool neg)
  | .sl _ (_ :: _),.xO=>K (.bool neg)
  | _,_=>False
 | .nt x,K=>match ev x with
  | .bool b=>K (.bool (!b))
  | _=>False
 | .neg x,K=>match ev x with
  | .int k a=>K (.int k (k.wrap (0-a)))
  | _=>False
 | .Kx x,K=>match ev x with
  | .int k a=>K (.int k (tY .xor k (if k.signed then -1 else k.max) a))
  | _=>False
 | .geq neg n x y,K=>match ev x,ev y with
  | .agg cs,.agg ds=>match xm cs,xm ds with
   | some xs,some ys=>xs.length=n/\ys.length=n/\K (.bool (if neg then !decide (xs=ys) else decide (xs=ys)))
   | _,_=>False
  | _,_=>False
 | .TK x,K=>match ev x with
  | .yI key=>match σ.get key with
   | some o=>o.sz=0/\o.xV.length<=1000000/\K (.int .i64 o.xV.length)
   | none=>False
  | _=>False
 | .conv k x,K=>match ev x with
  | .int _ n=>K (.int k (k.wrap n))
  | _=>False
 | .NK off x,K=>match ev x with
  | .ref key sz i o=>K (.ref key sz i (o+off))
  | .ptr cs=>off<cs.length/\K (.ptr (cs.drop off))
  | _=>False
 | .PN off n ag x,K=>match ev x with
  | .agg cs=>off+n<=cs.length/\(ag=true\/n=1)/\ K (pU ag ((cs.drop off).take n))
  | _=>False
 | .idx sz x i,K=>match ev x,ev i with
  | .sl sz' xV,.int _ n=>sz=sz'/\0<=n/\n<xV.length/\K (.ptr (xV.getD n.toNat []))
  | .yM key sz' len,.int _ n=>sz=sz'/\0<=n/\n<len/\K (.ref key sz n.toNat 0)
  | .sub key sz' lo len,.int _ n=>sz=sz'/\0<=n/\n<len/\K (.ref key sz (lo+n.toNat) 0)
  | _,_=>False
 | .build zero parts,K=>match ug zero (parts.map λp=>(p.1,p.2.1,ev p.2.2)) with
  | some cs=>K (.agg cs)
  | none=>False
 | .uC sz len zero parts,K=>match zk sz (List.replicate len zero) (parts.map λp=>(p.1,ev p.2)) with
  | some es=>(es.all D.xR)= true/\K (.sl sz es)
  | none=>False
 | .len x,K=>match ev x with
  | .sl _ xV=>K (.int .i64 xV.length)
  | .yM _ _ n=>K (.int .i64 n)
  | .sub _ _ _ n=>K (.int .i64 n)
  | .xO=>K (.int .i64 0)
  | .emp=>K (.int .i64 0)
  | _=>False
 | .mn x y,K=>match ev x,ev y with
  | .int k a,.int k' b=>k=k'/\K (.int k (if b<a then b else a))
  | _,_=>False
 | .mx x y,K=>match ev x,ev y with
  | .int k a,.int k' b=>k=k'/\K (.int k (if b > a then b else a))
  | _,_=>False
 | .TF x i,K=>match ev x with
  | .wK vs=>i<vs.length/\K (vs.getD i .top)
  | _=>False
 | .u0 f caps,K=>K (.fn f (caps.map ev))
 | .load n ag x,K=>match ev x with
  | .ref key sz i off=>match σ.get key with
   | some o=>o.sz=sz/\i<o.xV.length/\off+n<=sz/\(ag=true\/n=1)/\ K (pU ag (((o.xV.getD i []).drop off).take n))
   | none=>False
  | .ptr cs=>n<=cs.length/\(ag=true\/n=1)/\ K (pU ag (cs.take n))
  | _=>False
 | .lu sz x lo hi,K=>match ev x with
  | .sl sz' xV=>sz=sz'/\∃ l h:Int,LA (lo.map ev)= some l/\(match hi.map ev with | none=>h=xV.length | some (.int _ n)=>h=n | some _=>False)/\ 0<=l/\l<=h/\h<=xV.length/\K (.sl sz ((xV.take h.toNat).drop l.toNat))
  | .yM key sz' len=>sz=sz'/\∃ l h:Int,LA (lo.map ev)= some l/\(match hi.map ev with | none=>h=len | some (.int _ n)=>h=n | some _=>False)/\ 0<=l/\l<=h/\h<=len/\K (if l=0 then .yM key sz h.toNat else if l=h then .emp else .sub key sz l.toNat (h.toNat-l.toNat))
  | .sub key sz' lo0 len=>sz=sz'/\∃ l h:Int,LA (lo.map ev)= some l/\(match hi.map ev with | none=>h=len | some (.int _ n)=>h=n | some _=>False)/\ 0<=l/\l<=h/\h<=len/\K (.sub key sz (lo0+l.toNat) (h.toNat-l.toNat))
  | _=>False
 | .call fn args,K=>match ev fn with
  | .fn g caps=>zj C.P g (args.map ev++caps) σ K
  | _=>False
 | .LB x,K=>match ev x with
  | .ref key sz i off=>K (.ref key sz i off)
  | .ptr cs=>K (.ptr cs)
  | .fn f cs=>K (.fn f cs)
  | _=>False
 | .wh zero ok m k,K=>match ev m,ev k with
  | .yI key,.int kk x=>match σ.get key with
   | some o=>o.sz=0/\iC kk o.xV/\K (qC ok zero (oJ x o.xV 0))
   | none=>False
  | .qY,.int _ _=>K (qC ok zero none)
  | _,_=>False
 | .zn n zero ok m k,K=>match ev m,ev k with
  | .yI key,.agg cs=>match σ.get key with
   | some o=>o.sz=0/\∃ (x:List Int) (l:List (List Int × D)),(cs=x.map (D.int .i64)/\ o.xV=sM l/\x.length=n/\∀ p ∈ l,p.1.length=n)/\ K (qC ok zero (mZ x l 0))
   | none=>False
  | _,_=>False
 | _,_=>False
def Fr.put (f:Fr):Option Nat->D->Fr
 | some t,d=>(t,d) :: f
 | none,_=>f
def zL : List (Nat × Ob)->Nat->Ob->List (Nat × Ob)
 | [],_,_=>[]
 | (j,o) :: r,k,o'=>if j=k then(j,o') :: r else(j,o) :: zL r k o'
def St.set (σ:St) (k:Nat) (o:Ob):St:=⟨σ.nx,zL σ.xZ k o⟩
def St.new (σ:St) (o:Ob):St:=⟨σ.nx+1,(σ.nx,o) :: σ.xZ⟩
def yC : List (Nat × Ob)->Nat->List (Nat × Ob)
 | [],_=>[]
 | (j,o) :: r,k=>if j=k then yC r k else(j,o) :: yC r k
def St.erase (σ:St) (k:Nat):St:=⟨σ.nx,yC σ.xZ k⟩
def vT (cs:List D):Bool:=cs.all D.one
def rowsOf (σ:St) (sz:Nat):D->Option (List (List D))
 | .sl sz' xV=>if sz=sz' then some xV else none
 | .xO=>some []
 | .emp=>some []
 | .yM key sz' n=>if sz=sz' then(match σ.get key with | some o=>if o.sz=sz/\n<=o.xV.length then some (o.xV.take n) else none | none=>none) else none
 | _=>none
def sR (C:Cx) (σ:St) (ev:uO->D) (k:DK) (K:D->St->Prop):Prop:=
 match k with
 | .box x=>match (ev x).cells with
  | some cs=>vT cs=true/\0<cs.length/\K (.ref σ.nx cs.length 0 0) (σ.new ⟨cs.length,[cs]⟩)
  | none=>False
 | .alloc zero=>vT zero=true/\0<zero.length/\K (.ref σ.nx zero.length 0 0) (σ.new ⟨zero.length,[zero]⟩)
 | .store n a x=>match ev a,(ev x).cells with
  | .ref key sz i off,some ds=>match σ.get key with
   | some ob=>ob.sz=sz/\i<ob.xV.length/\ds.length=n/\off+n<=sz/\vT ds=true/\K .tF (σ.set key ⟨sz,ob.xV.set i (kQ (ob.xV.getD i []) off ds)⟩)
   | none=>False
  | _,_=>False
 | .app sz bytes x y=>match rowsOf σ sz (ev y) with
  | none=>False
  | some rows=>(∀ r ∈ rows,vT r=true)/\ match ev x with
   | .xO=>rows.length*bytes<=140737488355328/\rows.length<=8000000000000/\(rows = []->K .xO σ)/\ (rows ≠ []->K (.yM σ.nx sz rows.length) (σ.new ⟨sz,rows⟩))
   | .yM key sz' n=>match σ.get key with
    | some ob=>sz=sz'/\ob.sz=sz/\n<=ob.xV.length/\(n+rows.length)* bytes<=140737488355328/\n+rows.length<=8000000000000 /\
     K (.yM σ.nx sz (n+rows.length)) ((σ.erase key).new ⟨sz,ob.xV.take n++rows⟩)
    | none=>False
   | .sub key sz' lo n=>match σ.get key with
    | some ob=>C.own.contains 77777=true/\sz=sz'/\ob.sz=sz/\lo+n<=ob.xV.length/\(n+rows.length)* bytes<=140737488355328/\n+rows.length<=8000000000000 /\
     ∀ pre:List (List D),(pre = []\/pre=ob.xV.take lo)->K (.sub σ.nx sz pre.length (n+rows.length)) ((σ.erase key).new ⟨sz,pre++((ob.xV.drop lo).take n++rows)⟩)
    | none=>False
   | _=>False
 | .mD sz bytes zero len cap=>match ev len,ev cap with
  | .int .i64 n,.int .i64 m=>n=m/\0<=n/\bytes*n<=281474976710656/\vT zero=true/\K (.yM σ.nx sz n.toNat) (σ.new ⟨sz,List.replicate n.toNat zero⟩)
  | _,_=>False
 | .mF sz len zero parts=>match zk sz (List.replicate len zero) (parts.map λp=>(p.1,ev p.2)) with
  | some es=>(∀ e ∈ es,vT e=true)/\ K (.yM σ.nx sz len) (σ.new ⟨sz,es⟩)
  | none=>False
 | .YH zero x=>match ev x with
  | .xO=>K (.wK []) σ
  | .emp=>K (.wK []) σ
  | .yM key sz n=>match σ.get key with
   | some ob=>sz=1/\ob.sz=1/\0<n/\n<=ob.xV.length/\zero.one=true/\K (.wK []) (σ.set key ⟨1,List.replicate n [zero]++ob.xV.drop n⟩)
   | none=>False
  | .sub key sz lo n=>match σ.get key with
   | some ob=>sz=1/\ob.sz=1/\0<n/\lo+n<=ob.xV.length/\zero.one=true/\K (.wK []) (σ.set key ⟨1,ob.xV.take lo++(List.replicate n [zero]++ob.xV.drop (lo+n))⟩)
   | none=>False
  | _=>False
 | .call fn args=>match ev fn with
  | .fn g caps=>p3 C.P g (args.map ev++caps) σ K
  | _=>False
 | .YQ x y=>match rowsOf σ 1 (ev y) with
  | none=>False
  | some rows=>(∀ r ∈ rows,vT r=true)/\ match ev x with
   | .yM key sz n=>match σ.get key with
    | some ob=>sz=1/\ob.sz=1/\n<=ob.xV.length/\0<min n rows.length/\K (.int .i64 ((min n rows.length:Nat):Int)) (σ.set key ⟨1,rows.take (min n rows.length)++ ob.xV.drop (min n rows.length)⟩)
    | none=>False
   | .sub key sz lo n=>match σ.get key with
    | some ob=>sz=1/\ob.sz=1/\lo+n<=ob.xV.length/\0<min n rows.length/\K (.int .i64 ((min n rows.length:Nat):Int)) (σ.set key ⟨1,ob.xV.take lo++(rows.take (min n rows.length)++ ob.xV.drop (lo+min n rows.length))⟩)
    | none=>False
   | _=>False
 | .lh=>K (.yI σ.nx) (σ.new ⟨0,[]⟩)
 | .gX m k x=>match ev m,ev k with
  | .yI key,.int kk y=>match σ.get key with
   | some o=>o.sz=0/\iC kk o.xV/\K .tF (σ.set key ⟨0,uk kk o.xV y (ev x)⟩)
   | none=>False
  | _,_=>False
 | .kF n m k x=>match ev m,ev k with
  | .yI key,.agg cs=>match σ.get key with
   | some o=>o.sz=0/\∃ (y:List Int) (l:List (List Int × D)),(cs=y.map (D.int .i64)/\ o.xV=sM l/\(y.length=n/\∀ p ∈ l,p.1.length=n))/\ K .tF (σ.set key ⟨0,sM (bP y (ev x) l)⟩)
   | none=>False
  | _,_=>False
 | .wg zero m k=>match ev m,ev k with
  | .yI key,.int kk y=>match σ.get key with
   | some o=>o.sz=0/\iC kk o.xV/\o.xV.length<=1000000000/\(match oJ y o.xV 0 with
    | some (i,d)=>K (.wK [d,.int .i64 i]) (σ.set key ⟨0,o.xV⟩)
    | none=>K (.wK [zero,.int .i64 o.xV.length]) (σ.set key ⟨0,o.xV ++ [[.int kk y,zero]]⟩))
   | none=>False
  | _,_=>False
 | .wc m s x=>match ev m,ev s with
  | .yI key,.int _ i=>match σ.get key with
   | some o=>o.sz=0/\0<=i/\i<o.xV.length/\(∃ kk y d,o.xV.getD i.toNat [] = [.int kk y,d]/\K .tF (σ.set key ⟨0,o.xV.set i.toNat [.int kk y,ev x]⟩))
   | none=>False
  | _,_=>False
 | k=>pW C σ ev k λd=>K d σ
def Mm (C:Cx) (o:yX) (f:Fr) (σ:St) (K:Fr->St->Prop):Prop:=sR C σ (rB f) o.k λd σ'=>K (f.put o.dst d) σ'
def yF (o:yX) (f:Fr) (yes no:Prop):Prop:=
 match o.guard with
 | none=>yes
 | some (j,want)=>match f.get j with
  | .bool b=>if b=want then yes else no
  | .tF=>no
  | _=>False
def tS (C:Cx):List yX->Fr->St->(Fr->St->Prop)->Prop
 | [],f,σ,K=>K f σ
 | o :: rest,f,σ,K=>yF o f (Mm C o f σ λf σ=>tS C rest f σ K) (tS C rest (f.put o.dst .tF) σ K)
def wL (C:Cx) (σ:St):List yX->Fr->(Fr->Prop)->Prop
 | [],f,K=>K f
 | o :: rest,f,K=>yF o f (pW C σ (rB f) o.k λd=>wL C σ rest (f.put o.dst d) K) (wL C σ rest (f.put o.dst .tF) K)
structure Env where
 w0:World
 M0:Nat->Prop
 K0:Nat->Prop
 ι0:Nat->Nat
 B:Nat
def Marks (B:Nat) (a:Act) (w:World):Prop:=B<=w.heap.size/\∃ l:List Nat,a.defers=l.map (λD=>{ target:=.collected D,args:=#[] })/\ l.Nodup/\∀ D ∈ l,w.heap[D]?=some (Obj.deferred (some []))/\ B<=D
theorem Marks.yD {B:Nat} {a a':Act} {w w':World} (h:Marks B a w) (ha:a'.defers=a.defers) (hs:w.heap.size<=w'.heap.size) (hk:∀ D:Nat,w.heap[D]?=some (Obj.deferred (some []))->w'.heap[D]?=some (Obj.deferred (some []))):Marks B a' w':=
 let ⟨h0,l,h1,h2,h3⟩:=h
 ⟨δ h0 hs,l,ha.trans h1,h2,λD hD=>⟨hk D (h3 D hD).1,(h3 D hD).2⟩⟩
theorem Marks.none {B:Nat} {a:Act} {w:World} (h:a.defers = []) (hB:B<=w.heap.size):Marks B a w:=⟨hB,[],h,.nil,λD hD=>by cases hD⟩
theorem Kept.mark {w w':World} {K:Nat->Prop} {D:Nat} {o:Obj} (hk:Kept w w' K) (hn:¬ K D) (h:w.heap[D]?=some o):w'.heap[D]?=some o:=(hk.block D (Array.getElem?_eq_some_iff.1 h).1 hn).trans h
theorem wZ.bJ {M0:Nat->Prop} {w:World} {σ:St} {ι:Nat->Nat} (hS:wZ M0 w σ ι) {D:Nat} {x:Option (List Deferred)} (h:w.heap[D]?=some (Obj.deferred x)):¬ Own ι σ D:=by
 rintro ⟨k,o,hk,rfl⟩
 rcases(hS.holds k o hk).2 with ⟨_,cur,e,h1,_⟩ | ⟨_,es,h1,_⟩
 ·rw [h] at h1; cases h1
 ·rw [h] at h1; cases h1
structure yL (C : Cx) (E : Env) (a : Act) (w : World) (f : Fr) (σ : St) (ι : Nat -> Nat) : Prop where
 size:a.tmps.size=C.N
 defers:Marks E.B a w
 nx:C.n0<=σ.nx
 kept:Kept E.w0 w E.K0
 nL:wZ E.M0 w σ ι
 sO:∀ b,E.M0 b->b<E.w0.heap.size
 rH:∀ k o,σ.get k=some o->E.w0.heap.size<=ι k\/E.K0 (ι k)
 stay:∀ k,k<C.n0->ι k=E.ι0 k
 fr:Pf (yG E.M0 ι σ) w ι σ.nx a.tmps f
def Good (C:Cx) (E:Env) (a:Act) (w:World) (f:Fr) (σ:St):Prop:=∃ ι,yL C E a w f σ ι
def TJ (C:Cx) (pre:List yX) (dst:Option Nat) (mid:List yX) (un:Bool) (f:Fr) (σ:St) (K:Fr->St->Prop) (f1:Fr) (d:D) (σ1:St):Prop:= wL C σ1 pre f (λg=>g=f1)/\ wL C σ1 mid (f1.put dst d) λf2=>(if un=true then wL C σ mid (f1.put dst d) (λg=>g=f2) else True)/\ K f2 σ1
def wpS (C:Cx) (dc:DC) (f:Fr) (σ:St) (Q:Exit->Fr->St->Prop):Prop:= ∀ code,tT C.P C.N C.own code=some dc->∀ E a w,Good C E a w f σ->code.wpIn C.F 0 C.P (λe a' w'=>∃ f' σ',Good C E a' w' f' σ'/\Q e f' σ') a w
def oK (next:Fr->St->Prop) (Q:Exit->Fr->St->Prop):Exit->Fr->St->Prop
 | .normal,f,σ=>next f σ
 | e,f,σ=>Q e f σ
def rI (id:Nat) (Q:Exit->Fr->St->Prop):Exit->Fr->St->Prop
 | .exit i,f,σ=>if i=id then Q .normal f σ else Q (.exit i) f σ
 | e,f,σ=>Q e f σ
def tw (C:Cx) (it:Nat) (m:uO) (out nx more next pair:Nat) (rest:List yX) (code:DC) (f:Fr) (σ:St) (Q:Exit->Fr->St->Prop):Prop:=
 ∃ key xV,C.rd=none/\rB f m = .yI key/\σ.get key=some ⟨0,xV⟩/\ ∀ b:Nat,∃ I:List Nat->Fr->St->Prop,(∃ f1 σ1,(∀ E a w,Good { C with n0:=max C.n0 (key+1) } E a w (f.put (some it) (.aG b)) σ->Good { C with n0:=max C.n0 (key+1) } E a w f1 σ1)/\ I [] f1 σ1)/\
  (∀ seen f σ,I seen f σ->f.get it = .aG b/\σ.get key=some ⟨0,xV⟩)/\
  ∀ seen f σ,I seen f σ->seen.Nodup->(∀ j ∈ seen,j<xV.length) ->
   (seen.length=xV.length->Q .normal ((f.put (some nx) .top).put (some more) .top) σ)/\
   ∀ i,i<xV.length->i ∉ seen->tS { C with n0:=max C.n0 (key+1) } rest (((f.put (some nx) .top).put (some more) .top).put (some pair) (.wK (xV.getD i []))) σ λf σ=>wpS { C with n0:=max C.n0 (key+1) } code f σ (rI next (oK (I (seen ++ [i])) (rI out Q)))
def cH (C:Cx):DC->Fr->St->(Exit->Fr->St->Prop)->Prop
 | .TW ..,_,_,_=>False
 | .TT ..,_,_,_=>False
 | .TS ..,_,_,_=>False
 | .bU pre it m out nx more next pair rest code,f,σ,Q=>tS C pre f σ λf σ=>tw C it m out nx more next pair rest code f σ Q
 | .skip,f,σ,Q=>Q .normal f σ
 | .oN pre post,f,σ,Q=>wL C σ pre f λf=>tS C post f σ λf σ=>Q .normal f σ
 | .nh pre m mid un post,f,σ,Q=>wL C σ pre f λf1=>sR C σ (rB f1) m.k λd σ1=>TJ C pre m.dst mid un f σ (λf σ=>tS C post f σ λf σ=>Q .normal f σ) f1 d σ1
 | .nf pre m1 mid1 m2 mid2 post,f,σ,Q=>wL C σ pre f λf1=>sR C σ (rB f1) m1.k λd1 σ1=>wL C σ1 pre f (λg=>g=f1)/\ wL C σ1 mid1 (f1.put m1.dst d1) λf2=>sR C σ1 (rB f2) m2.k λd2 σ2=> wL C σ2 pre f (λg=>g=f1)/\ wL C σ2 mid1 (f1.put m1.dst d1) (λg=>g=f2)/\ wL C σ2 mid2 (f2.put m2.dst d2) λf3=>tS C post f3 σ2 λf σ=>Q .normal f σ
 | .seq a b,f,σ,Q=>cH C a f σ (oK (λf σ=>cH C b f σ Q) Q)
 | .cond c a b,f,σ,Q=>match rB f c with
  | .bool t=>if t=true then cH C a f σ Q else cH C b f σ Q
  | _=>False
 | .block id c,f,σ,Q=>cH C c f σ (rI id Q)
 | .loop c,f,σ,Q=>wpS C (.loop c) f σ Q
 | .wk g ps a c,f,σ,Q=>wpS C (.wk g ps a c) f σ Q
 | .dC pre m1 mid1 m2 mid2 post free,f,σ,Q=>wpS C (.dC pre m1 mid1 m2 mid2 post free) f σ Q
 | .cE pre m mid un post fl,f,σ,Q=>wpS C (.cE pre m mid un post fl) f σ Q
 | .exit id,f,σ,Q=>Q (.exit id) f σ
 | .ret,f,σ,Q=>Q .ret f σ
@[congr] theorem L5 {C : Cx} {dc : DC} {f f' : Fr} {σ : St} {Q : Exit -> Fr -> St -> Prop} (h : f = f') : wpS C dc f σ Q = wpS C dc f' σ Q := by rw [h]
@[congr] theorem Mr {P : Program} {g : FuncId} {args args' : List D} {σ : St} {K : D -> Prop} (h : args = args') : zj P g args σ K = zj P g args' σ K := by rw [h]
@[congr] theorem Ms {P : Program} {g : FuncId} {args args' : List D} {σ : St} {K : D -> St -> Prop} (h : args = args') : p3 P g args σ K = p3 P g args' σ K := by rw [h]
theorem zj.go {P:Program} {g:FuncId} {args:List D} {σ:St} {K:D->Prop} {d:D} (h:xY P g args σ d σ) (hk:K d):zj P g args σ K:=⟨d,h,hk⟩
theorem p3.go {P:Program} {g:FuncId} {args:List D} {σ:St} {K:D->St->Prop} {d:D} {σ':St} (h:xY P g args σ d σ') (hk:K d σ'):p3 P g args σ K:=⟨d,σ',h,hk⟩
end Go.Pd
namespace Go.Pd
open Go
variable [uM]
section inv
variable {M : Nat -> Prop} {w : World} {ι : Nat -> Nat} {n : Nat} {v : Value}
theorem R.zJ {k:IntKind} {x:Int} (h:R M w ι n v (.int k x)):v = .int k x/\k.min<=x/\x<=k.max:=by cases h with | pure h=>cases h with | int h=>exact⟨rfl,h⟩
theorem R.mN {b:Bool} (h:R M w ι n v (.bool b)):v = .bool b:=by cases h with | pure h=>cases h; rfl
theorem R.uG (h:R M w ι n v .xO):v = .slice none 0 0:=by cases h with | pure h=>cases h; rfl
theorem R.fD (h:R M w ι n v .emp):∃ a cap,v = .slice (some a) 0 cap:=by cases h with | pure h=>cases h; exact⟨_,_,rfl⟩
theorem R.P5 (h:R M w ι n v .tF):v=undef:=by cases h with | pure h=>cases h; rfl
theorem R.uB {key sz i off:Nat} (h:R M w ι n v (.ref key sz i off)):v = .pointer (some ⟨ι key,i*sz+off,none⟩)/\ key<n/\0<sz:=by
 cases h with
 | pure h=>cases h
 | ref hk h0=>exact⟨rfl,hk,h0⟩
theorem R.oH {key:Nat} (h:R M w ι n v (.yI key)):v = .map (some (ι key))/\ key<n:=by
 cases h with
 | pure h=>cases h
 | yI hk=>exact⟨rfl,hk⟩
theorem R.Qn (h:R M w ι n v .qY):v = .map none:=by cases h with | pure h=>cases h; rfl
theorem R.sU {key sz len:Nat} (h:R M w ι n v (.yM key sz len)) :
  ∃ (cap:Nat) (cur:Array Value) (e:TypeId),v = .slice (some ⟨ι key,0,none⟩) len cap/\key<n/\len<=cap/\cap<=maxLen/\w.heap[ι key]?=some (Obj.cells cur e (0,0))/\ cap*sz=cur.size:=by
 cases h with
 | pure h=>cases h
 | yM hk h1 h2 h3 h4=>exact⟨_,_,_,rfl,hk,h1,h2,h3,h4⟩
theorem R.lU {key sz lo len:Nat} (h:R M w ι n v (.sub key sz lo len)) :
  ∃ (cap off:Nat) (cur:Array Value) (e:TypeId),v = .slice (some ⟨ι key,off,none⟩) len cap/\key<n/\len<=cap/\cap<=maxLen/\w.heap[ι key]?=some (Obj.cells cur e (0,0))/\ (cap=0\/(off=lo*sz/\(lo+cap)* sz=cur.size)):=by
 cases h with
 | pure h=>cases h
 | sub hk h1 h2 h3 h4=>exact⟨_,_,_,_,rfl,hk,h1,h2,h3,h4⟩
theorem R.pO {cs:List D} (h:R M w ι n v (.ptr cs)):∃ (b off:Nat) (vs:Nat->Value),v = .pointer (some ⟨b,off,none⟩)/\ 0<cs.length/\¬ M b/\(∀ j,j<cs.length->w.cell? ⟨b,off+j,none⟩= some (vs j))/\ ∀ j,j<cs.length->RP M w (vs j) (cs.getD j .top):=by cases h with | pure h=>cases h with | ptr vs hs hM hc hr=>exact⟨_,_,vs,rfl,hs,hM,hc,hr⟩
theorem R.cW {sz:Nat} {xV:List (List D)} (h:R M w ι n v (.sl sz xV)) :
  (∃ a cap,v = .slice a 0 cap/\xV = []/\(a=none->cap=0))\/∃ (b off cap:Nat) (vs:Nat->Nat->Value),v = .slice (some ⟨b,off,none⟩) xV.length cap/\0<sz/\¬ M b/\xV.length<=cap/\cap<=maxLen/\(∀ e ∈ xV,e.length=sz)/\
   (∀ i,i<xV.length->∀ j,j<sz->w.cell? ⟨b,off+i*sz+j,none⟩= some (vs i j))/\ ∀ i,i<xV.length->∀ j,j<sz->RP M w (vs i j) ((xV.getD i []).getD j .top):=by
 cases h with
 | pure h=>
  cases h with
  | nq a cap sz h=>exact .inl ⟨a,cap,rfl,rfl,h⟩
  | sl vs hs hM hc hm hl hcell hr=>exact .inr ⟨_,_,_,vs,rfl,hs,hM,hc,hm,hl,hcell,hr⟩
theorem R.vi {cs:List D} (h:R M w ι n v (.agg cs)):∃ vs:Array Value,v = .agg vs/\vs.size=cs.length/\∀ j,j<cs.length->R M w ι n (vs.getD j undef) (cs.getD j .top):=by
 cases h with
 | pure h=>cases h with | agg hl hr=>exact⟨_,rfl,hl,λj hj=>.pure (hr j hj)⟩
 | agg hl hr=>exact⟨_,rfl,hl,hr⟩
theorem R.WL {cs:List D} (h:R M w ι n v (.wK cs)):∃ vs:Array Value,v = .tuple vs/\vs.size=cs.length/\∀ j,j<cs.length->R M w ι n (vs.getD j undef) (cs.getD j .top):=by
 cases h with
 | pure h=>cases h with | wK hl hr=>exact⟨_,rfl,hl,λj hj=>.pure (hr j hj)⟩
 | wK hl hr=>exact⟨_,rfl,hl,hr⟩
theorem R.cU {f:FuncId} {cs:List D} (h:R M w ι n v (.fn f cs)):∃ vs:Array Value,v = .func (.func f) #[] vs/\vs.size=cs.length/\∀ j,j<cs.length->R M w ι n (vs.getD j undef) (cs.getD j .top):=by
 cases h with
 | pure h=>cases h with | fn hl hr=>exact⟨_,rfl,hl,λj hj=>.pure (hr j hj)⟩
 | fn hl hr=>exact⟨_,rfl,hl,hr⟩
end inv
theorem Zq (k:IntKind) (x:Int):k.min<=k.wrap x/\k.wrap x<=k.max:=by cases k <;> simp [IntKind.min,IntKind.max,IntKind.wrap,IntKind.signed,IntKind.bits] <;> (try split) <;> omega
theorem RP.wrap {M:Nat->Prop} {w:World} (k:IntKind) (x:Int):RP M w (.int k (k.wrap x)) (.int k (k.wrap x)):=.int (Zq k x)
theorem Z3 {k:IntKind} {x:Int} (h:k.min<=x/\x<=k.max) (m:Nat):k.min<=x.fdiv (2 ^ m)/\ x.fdiv (2 ^ m)<=k.max:=by
 have h2:(0:Int)<2 ^ m:=Int.pow_pos (by decide);have e:x.fdiv (2 ^ m)= x / 2 ^ m:=Int.fdiv_eq_ediv_of_nonneg _ (Int.le_of_lt h2);rw [e];have hle:∀ y:Int,0<=y->y / 2 ^ m<=y:=λy hy=>Int.ediv_le_self _ hy;have h1:(1:Int)<=2 ^ m:=h2
 constructor
 ·by_cases hx:0<=x
  ·have:=Int.ediv_nonneg hx (Int.le_of_lt h2);have hm:k.min<=0:=by cases k <;> decide
   omega
  ·have:x<=x / 2 ^ m:=by refine(Int.le_ediv_iff_mul_le h2).2 ?_;have:=Int.mul_le_mul_of_nonpos_left (show x<=0 by omega) h1;omega
   omega
 ·by_cases hx:0<=x
  ·have:=hle x hx; omega
  ·have:x / 2 ^ m<0:=Int.ediv_neg_of_neg_of_pos (by omega) h2;have hm:0<=k.max:=by cases k <;> decide
   omega
theorem Zk {k:IntKind} {x y:Int} (h:k.min<=x/\x<=k.max):k.min<=x.tmod y/\x.tmod y<=k.max:=by
 have hm:k.min<=0:=by cases k <;> decide
 have hM:0<=k.max:=by cases k <;> decide
 rcases Int.le_total 0 x with hx | hx
 ·have h1:=Int.tmod_nonneg y hx
  have h2:x.tmod y<=x:=by have:=Int.natAbs_tmod x y;have h3:=Nat.mod_le x.natAbs y.natAbs;omega
  omega
 ·have h1:x.tmod y<=0:=by have:=Int.tmod_nonneg (a:=-x) y (by omega);rw [Int.neg_tmod] at this;omega
  have h2:x<=x.tmod y:=by have:=Int.natAbs_tmod x y;have h3:=Nat.mod_le x.natAbs y.natAbs;omega
  omega
theorem eX {M:Nat->Prop} {w:World} {v:Value} {d:D} (h:D.leaf v=some d):RP M w v d:=by
 unfold D.leaf at h;split at h <;> simp at h <;> (try subst h) <;> try constructor
 obtain⟨h1,rfl⟩:=h;exact .int h1
theorem Ye {vs:Array Value} {j:Nat} {v:Value} (h:vs.toList[j]?=some v):vs.getD j undef=v:=by
 have h':vs[j]?=some v:=by simpa using h
 simp [h']
theorem iJ {M:Nat->Prop} {w:World} {v:Value} {d:D} (h:D.ofValue v=some d):RP M w v d:=by
 unfold D.ofValue at h
 split at h
 ·rename_i cs;simp at h;obtain⟨ds,h1,rfl⟩:=h;obtain⟨hl,hg⟩:=vM h1;refine .agg (by simpa using hl.symm) λj hj=>?_;have hj':j<cs.toList.length:=by omega
  obtain⟨b,hb,hf⟩:=hg j _ (η hj');have e1:ds.getD j .top=b:=by simp [List.getD,hb]
  rw [e1,Ye (η hj')];exact eX hf
 ·exact eX h
theorem nJ {M:Nat->Prop} {w:World} {ι:Nat->Nat} {n N:Nat} {a:Act} {f:Fr} (hf:Pf M w ι n a.tmps f) {x:Operand} {y:uO} (h:yW N x=some y):R M w ι n (a.eval x) (rB f y):=by
 cases x with
 | tmp t=> simp [yW] at h;obtain⟨_,rfl⟩:=h;exact hf t
 | const v=> simp [yW] at h;obtain⟨d,hd,rfl⟩:=h;exact .pure (iJ hd)
 | func f=> simp [yW] at h;subst h;exact .pure (.fn (by simp) (by simp))
 | global g=>simp [yW] at h
end Go.Pd
namespace Go.Pd
open Go
variable [uM]
theorem uW {P:Program} {o:Oper} {a:Act} {w w':World} {next:Act->World->Prop} {Q:Exit->Act->World->Prop} {v:Value}
  (hx:(execOp a.eval o).run P w = .ok (.value v) w') (hn:next (a.put o.dst v) w'):o.wp P a w next Q:=by
 unfold Oper.wp; rw [hx]; exact hn
section
variable {P : Program} {N : Nat} {o : Oper} {a : Act} {w : World} {M : Nat -> Prop} {ι : Nat -> Nat} {n : Nat}
def Yields (P:Program) (o:Oper) (a:Act) (w:World) (v:Value):Prop:=(execOp a.eval o).run P w = .ok (.value v) w
theorem KT {op:BinOp} {t u:TypeId} {x y:Operand} (ho:o.op = .binOp op t x y u) {k k':IntKind} {p q:Int} (hx:a.eval x = .int k p) (hy:a.eval y = .int k' q)
  (hp:k.min<=p/\p<=k.max) {K:D->Prop} (h:oL op k p k' q K):∃ v d,Yields P o a w v/\K d/\∀ M,RP M w v d:=by
 unfold Yields;cases op <;> simp only [oL] at h
 case shl=>
  refine⟨_,_,?_,h.2,λM=>RP.wrap _ _⟩;have h0:¬ q<0:=by have:=h.1; omega
  simp [execOp,ho,hx,hy,eqGuard,binOp,Op.shift,h0,nk]
 case shr=>
  refine⟨_,_,?_,h.2,λM=>RP.int (Z3 hp _)⟩;have h0:¬ q<0:=by have:=h.1; omega
  simp [execOp,ho,hx,hy,eqGuard,binOp,Op.shift,h0,fb]
 case quo=> obtain⟨rfl,h1,h2⟩:=h;refine⟨_,_,?_,h2,λM=>RP.wrap _ _⟩;simp [execOp,ho,hx,hy,eqGuard,binOp,Op.intDiv,h1]
 case rem=> obtain⟨rfl,h1,h2⟩:=h;refine⟨_,_,?_,h2,λM=>RP.int (Zk hp)⟩;simp [execOp,ho,hx,hy,eqGuard,binOp,Op.intDiv,h1]
 all_goals
  obtain⟨rfl,h2⟩:=h;refine⟨_,_,?_,h2,λM=>by first | exact RP.wrap _ _ | exact RP.bool _⟩;simp [execOp,ho,hx,hy,eqGuard,binOp,Op.intArith,Op.intBits,Op.intCmp,tY]
theorem dw {x:Operand} (ho:o.op = .move x\/o.op = .assign x):Yields P o a w (a.eval x):=by rcases ho with ho | ho <;> simp [Yields,execOp,ho]
theorem lf {x:Operand} (ho:o.op = .nilCheck x) {v:Value} (hx:a.eval x=v) (hv:(∃ b,v = .pointer (some b))\/∃ f vs,v = .func (.func f) #[] vs):Yields P o a w v:=by rcases hv with ⟨b,rfl⟩ | ⟨f,vs,rfl⟩ <;> simp [Yields,execOp,ho,hx]
theorem Sv {c x y:Operand} (ho:o.op = .pick c x y) {t:Bool} (hc:a.eval c = .bool t):Yields P o a w (if t then a.eval x else a.eval y):=by simp [Yields,execOp,ho,hc,asBool]
theorem u9 (d:Nat) {t:TypeId} (ht:P.underlying t=some .bool) (b c:Bool):(Op.equalIn (d+1) t (.bool b) (.bool c)).run P w = .ok (b==c) w:=by simp [Op.equalIn,run_underlying ht]
theorem Wx {t:TypeId} (ht:P.underlying t=some .bool) (b c:Bool):(Op.equal t (.bool b) (.bool c)).run P w = .ok (b==c) w:=u9 9999 ht b c
theorem mc (d:Nat) {t e:TypeId} (ht:P.underlying t=some (.slice e)) {ax ay:Option Addr} {lx ly cx cy:Nat} (hn:ax=none\/ay=none) :
  (Op.equalIn (d+1) t (.slice ax lx cx) (.slice ay ly cy)).run P w = .ok (ax.isNone&&ay.isNone) w:=by
 rcases hn with rfl | rfl <;> (try cases ax) <;> (try cases ay) <;> simp [Op.equalIn,run_underlying ht]
theorem Yb {t e:TypeId} (ht:P.underlying t=some (.slice e)) {ax ay:Option Addr} {lx ly cx cy:Nat} (hn:ax=none\/ay=none) :
  (Op.equal t (.slice ax lx cx) (.slice ay ly cy)).run P w = .ok (ax.isNone&&ay.isNone) w:=mc 9999 ht hn
theorem KS {op:BinOp} {t u:TypeId} {x y:Operand} (ho:o.op = .binOp op t x y u) (hop:op = .eql\/op = .neq) (ht:P.underlying t=some .bool) {b c:Bool} (hx:a.eval x = .bool b) (hy:a.eval y = .bool c) :
  Yields P o a w (.bool (if op = .neq then b != c else b==c)):=by
 rcases hop with rfl | rfl <;> simp [Yields,execOp,ho,hx,hy,eqGuard,binOp,Wx ht] <;> (try (cases b <;> cases c <;> rfl))
theorem fP {op:BinOp} {t u e:TypeId} {x y:Operand} (ho:o.op = .binOp op t x y u) (hop:op = .eql\/op = .neq) (ht:P.underlying t=some (.slice e)) {ax ay:Option Addr} {lx ly cx cy:Nat}
  (hx:a.eval x = .slice ax lx cx) (hy:a.eval y = .slice ay ly cy) (hn:ax=none\/ay=none) :
  Yields P o a w (.bool (if op = .neq then !(ax.isNone&&ay.isNone) else ax.isNone&&ay.isNone)):=by
 rcases hop with rfl | rfl <;> simp [Yields,execOp,ho,hx,hy,eqGuard,binOp,Yb ht hn]
theorem Ke {t:TypeId} {x:Operand} (ho:o.op = .unOp .not t x) {b:Bool} (hx:a.eval x = .bool b):Yields P o a w (.bool (!b)):=by simp [Yields,execOp,ho,hx,Op.unary]
theorem Kd {t:TypeId} {x:Operand} (ho:o.op = .unOp .neg t x) {k:IntKind} {p:Int} (hx:a.eval x = .int k p):Yields P o a w (.int k (k.wrap (0-p))):=by simp [Yields,execOp,ho,hx,Op.unary,Op.intArith]
theorem KU {t:TypeId} {x:Operand} (ho:o.op = .unOp .xor t x) {k:IntKind} {p:Int} (hx:a.eval x = .int k p):Yields P o a w (.int k (tY .xor k (if k.signed then -1 else k.max) p)):=by simp [Yields,execOp,ho,hx,Op.unary,Op.intBits,tY]
theorem MV {s t:TypeId} {x:Operand} (ho:o.op = .convert s t x) {ks k k':IntKind} (hs:P.underlying s=some (.int ks)) (ht:P.underlying t=some (.int k)) {p:Int} (hx:a.eval x = .int k' p) :
  Yields P o a w (.int k (k.wrap p)):=by
 simp [Yields,execOp,ho,hx,convert,run_underlying hs,run_underlying ht,Conv.intToInt]
theorem Wd {t:TypeId} {x:Operand} {i:Nat} (ho:o.op = .fieldAddr t x i) {fs:Array Field} {f:Field} (ht:P.underlying t=some (.struct fs)) (hf:fs[i]?=some f) {inf:TypeInfo} (hi:P.info? f.type=some inf) (hs:0<inf.size)
  {b off:Nat} (hx:a.eval x = .pointer (some ⟨b,off,none⟩)):Yields P o a w (.pointer (some ⟨b,off+f.offset,none⟩)):=by
 have h0:inf.size≠0:=by omega
 simp [Yields,execOp,ho,hx,Instr.fieldAt,run_underlying ht,hf,Instr.sureAddr,fieldPlace,sizeOf,typeInfo,hi,h0,Addr.add_lit]
theorem eZ {t e:TypeId} {x y:Operand} (ho:o.op = .indexAddr t x y) {n:Nat} (ht:P.underlying t=some (.array n e)) {inf:TypeInfo} (hi:P.info? e=some inf) {b off:Nat} {k:IntKind} {p:Int}
  (hx:a.eval x = .pointer (some ⟨b,off,none⟩)) (hy:a.eval y = .int k p) (h0:0<=p) (h1:p<n):Yields P o a w (.pointer (some ⟨b,off+p.toNat*inf.size,none⟩)):=by
 simp [Yields,execOp,ho,hx,hy,Instr.indexAt,asIntOf,Instr.sureAddr,run_underlying ht,sizeOf,typeInfo,hi,h0,h1,Addr.add_lit]
theorem kA {t e:TypeId} {x y:Operand} (ho:o.op = .indexAddr t x y) (ht:P.underlying t=some (.slice e)) {inf:TypeInfo} (hi:P.info? e=some inf) {b off len cap:Nat} {k:IntKind} {p:Int}
  (hx:a.eval x = .slice (some ⟨b,off,none⟩) len cap) (hy:a.eval y = .int k p) (h0:0<=p) (h1:p<len):Yields P o a w (.pointer (some ⟨b,off+p.toNat*inf.size,none⟩)):=by
 simp [Yields,execOp,ho,hx,hy,Instr.indexAt,asIntOf,run_underlying ht,sizeOf,typeInfo,hi,h0,h1,Addr.add_lit]
theorem ku {t e ty:TypeId} {x:Operand} {ts:Array TypeId} (ho:o.op = .call { callee:=.builtin .len,args:=#[x],argTypes:=#[t] }) (ht:P.underlying t=some (.slice e)) {ad:Option Addr} {len cap:Nat}
  (hx:a.eval x = .slice ad len cap):Yields P o a w (.int .i64 len):=by
 simp [Yields,execOp,ho,hx,resolve,invoke,builtin,Builtin.len_,run_underlying ht,goInt]
theorem Ka {ts:Array TypeId} {x y:Operand} (ho:o.op = .call { callee:=.builtin .min,args:=#[x,y],argTypes:=ts }) {k k':IntKind} {p q:Int} (hx:a.eval x = .int k p) (hy:a.eval y = .int k' q) :
  Yields P o a w (.int k (if q<p then q else p)):=by
 simp [Yields,execOp,ho,hx,hy,resolve,invoke,builtin,Builtin.min_,Builtin.min2]
theorem KZ {ts:Array TypeId} {x y:Operand} (ho:o.op = .call { callee:=.builtin .max,args:=#[x,y],argTypes:=ts }) {k k':IntKind} {p q:Int} (hx:a.eval x = .int k p) (hy:a.eval y = .int k' q) :
  Yields P o a w (.int k (if q > p then q else p)):=by
 simp [Yields,execOp,ho,hx,hy,resolve,invoke,builtin,Builtin.max_,Builtin.max2]
theorem aU {P:Program} {t:TypeId} {d:D} (h:xy P t=some d):∃ k e q i z,P.underlying t=some (.map k e)/\ P.underlying k=some (.int q)/\ P.info? e=some i/\i.zero=some z/\D.ofValue z=some d:=by
 unfold xy at h
 split at h
 ·rename_i k e ht
  split at h
  ·rename_i q hk;simp only [μ,κ] at h;obtain⟨i,hi,z,hz,hd⟩:=h;exact⟨k,e,q,i,z,ht,hk,hi,hz,hd⟩
  ·simp at h
 ·simp at h
theorem MW {x:Operand} {i:Nat} (ho:o.op = .extract x i) {vs:Array Value} (hx:a.eval x = .tuple vs) (hi:i<vs.size):Yields P o a w (vs.getD i undef):=by simp [Yields,execOp,ho,hx,Instr.extract,hi]
theorem Kc {f:FuncId} {caps:Array Operand} (ho:o.op = .makeFunc (.func f) #[] caps):Yields P o a w (.func (.func f) #[] (caps.map a.eval)):=by simp [Yields,execOp,ho,Instr.makeFunc]
theorem cw {t:TypeId} {x:Operand} (ho:o.op = .load t x) {td:TypeDesc} (ht:P.underlying t=some td) (hag:pR P t=some false) {ad:Addr} {v:Value} (hx:a.eval x = .pointer (some ad)) (hc:w.cell? ad=some v) :
  Yields P o a w v:=by
 cases td <;> simp [pR,ht] at hag <;> simp [Yields,execOp,ho,hx,Instr.loadAt,Instr.sureAddr,loadVar,isAgg,run_underlying ht,load,Sem.run,hc]
theorem cz {t:TypeId} {x:Operand} (ho:o.op = .load t x) {td:TypeDesc} (ht:P.underlying t=some td) (hag:pR P t=some true) {inf:TypeInfo} (hi:P.info? t=some inf) {ad:Addr} {vs:List Value} (hl:vs.length=inf.size)
  (hx:a.eval x = .pointer (some ad)) (hc:∀ j v,vs[j]?=some v->w.cell? (ad.add j)= some v):Yields P o a w (.agg vs.toArray):=by
 have hr:=run_loadCells_list (P:=P) w ad vs hc;rw [hl] at hr;cases td <;> simp [pR,ht] at hag <;> simp [Yields,execOp,ho,hx,Instr.loadAt,Instr.sureAddr,loadVar,isAgg,run_underlying ht,sizeOf,typeInfo,hi,hr]
end
end Go.Pd

/- Part K1. -/
namespace Go.Pd
open Go
def tX (ks:List Int):Value:=.agg (ks.map (Value.int .i64)).toArray
section
variable {P : Program} {w : World}
theorem ik {f:Field} {fs:List Field} {o:Nat} (h:zl P (f :: fs) o=true):f.name ≠ "_"/\f.offset=o/\P.underlying f.type=some (.int .i64)/\ zl P fs (o+1)= true:=by
 unfold zl at h;simp only [Bool.and_eq_true,bne_iff_ne,beq_iff_eq] at h;obtain⟨⟨⟨h1,h2⟩,h3⟩,h4⟩:=h;refine⟨h1,h2,?_,h4⟩
 split at h3
 ·assumption
 ·cases h3
theorem iI {t:TypeId} {ks:List Int} {o:Nat} (ht:P.underlying t=some (.int .i64)) (h:o<ks.length):(part t (ks.map (Value.int .i64)).toArray o).run P w = .ok (.int .i64 (ks.getD o 0)) w:=by
 have e:((ks.map (Value.int .i64)).toArray)[o]?=some (.int .i64 (ks.getD o 0)):=by simp [List.getD,h]
 simp [part,isAgg,run_underlying ht,e]
theorem lH {xs ys:List Int} (d:Nat):∀ (fs:List Field) (o:Nat),zl P fs o=true->xs.length=o+fs.length->ys.length=o+fs.length ->
  (Op.eqFields (d+1) (xs.map (Value.int .i64)).toArray (ys.map (Value.int .i64)).toArray fs).run P w = .ok (decide (xs.drop o=ys.drop o)) w
 | [],o,_,hx,hy=>by rw [θ (by rw [hx]; simp),θ (by rw [hy]; simp)];simp [Op.eqFields]
 | f :: fs,o,h,hx,hy=>by
  obtain⟨h1,h2,h3,h4⟩:=ik h;simp only [ζ] at hx hy;have ih:=lH (xs:=xs) (ys:=ys) d fs (o+1) h4 (by omega) (by omega);have ex:xs.drop o=xs.getD o 0 :: xs.drop (o+1):=by simp [List.getD,show o<xs.length by omega]
  have ey:ys.drop o=ys.getD o 0 :: ys.drop (o+1):=by simp [List.getD,show o<ys.length by omega]
  subst h2;simp only [Op.eqFields,ne_eq,h1,not_false_eq_true,if_true,Sem.run_bind,iI h3 (show f.offset<xs.length by omega),iI h3 (show f.offset<ys.length by omega),Result.andThen_ok,run_equalIn_int w d f.type .i64 .i64 _ _ h3];rw [ex,ey]
  by_cases e:xs.getD f.offset 0=ys.getD f.offset 0
  ·have e1:(xs.getD f.offset 0==ys.getD f.offset 0)= true:=by simpa using e
   rw [e1];simp only [Bool.not_true,Bool.false_eq_true,if_false,List.cons.injEq,e,true_and];exact ih
  ·have e1:(xs.getD f.offset 0==ys.getD f.offset 0)= false:=by simpa using e
   rw [e1];simp only [Bool.not_false,if_true,Sem.run_pure,List.cons.injEq,e,false_and,decide_false]
theorem rh {t:TypeId} {n:Nat} (h:gW P t=some n):∃ fs,P.underlying t=some (.struct fs)/\ zl P fs.toList 0=true/\P.stoodInHeld t=false/\fs.size=n:=by
 unfold gW at h
 split at h
 ·rename_i fs hu
  split at h
  ·rename_i hc;simp only [Bool.and_eq_true,Bool.not_eq_true'] at hc;simp at h;exact⟨fs,hu,hc.1,hc.2,h⟩
  ·cases h
 ·cases h
theorem dU {t:TypeId} {n:Nat} (h:gW P t=some n) {xs ys:List Int} (hx:xs.length=n) (hy:ys.length=n):(Op.equal t (tX xs) (tX ys)).run P w = .ok (decide (xs=ys)) w:=by
 obtain⟨fs,h1,h2,h3,h4⟩:=rh h;have hf:P.fieldsOf t=fs:=by unfold Program.fieldsOf; rw [h1]
 have e:=run_equalIn_struct w 9999 t (xs.map (Value.int .i64)).toArray (ys.map (Value.int .i64)).toArray (by rw [hf]; exact h1) h3;have e2:=lH (P:=P) (w:=w) (xs:=xs) (ys:=ys) 9998 fs.toList 0 h2 (by simp; omega) (by simp; omega);rw [hf] at e;unfold Op.equal tX;rw [show Op.maxDepth=9999+1 from rfl,e,e2];simp
theorem jl {α:Type} {body:α->PUnit->Sem (ForInStep PUnit)}:∀ {l:List α},(∀ f ∈ l,(body f PUnit.unit).run P w = .ok (.yield PUnit.unit) w)->(forIn l PUnit.unit body).run P w = .ok PUnit.unit w
 | [],_=>by simp
 | f :: l,h=>by simp only [List.forIn_cons,Sem.run_bind,h f (by simp),Result.andThen_ok];exact jl λf hf=>h f (by simp [hf])
theorem UB {fs:List Field}:∀ {o:Nat},zl P fs o=true->∀ f ∈ fs,f.name ≠ "_"/\P.underlying f.type=some (.int .i64)/\ f.offset<o+fs.length:=by
 induction fs with
 | nil=>intro o _ f hf; cases hf
 | cons g fs ih=>
  intro o h f hf;obtain⟨h1,h2,h3,h4⟩:=ik h
  rcases List.mem_cons.1 hf with rfl | hf
  ·exact⟨h1,h3,by rw [h2,ζ]; omega⟩
  ·obtain⟨a,b,c⟩:=ih h4 f hf;exact⟨a,b,by rw [ζ]; omega⟩
theorem zt {t:TypeId} {n:Nat} (h:gW P t=some n) (b:Bool) (m:Nat) {xs:List Int} (hx:xs.length=n):(Instr.checkKey b (m+2) t (tX xs)).run P w = .ok () w:=by
 obtain⟨fs,h1,h2,h3,h4⟩:=rh h;unfold tX;simp only [Instr.checkKey,Sem.run_bind,run_underlying h1,Result.andThen_ok];rw [<- Array.forIn_toList]
 refine(congrArg (λr=>Result.andThen r _) (jl (l:=fs.toList) λf hf=>?_)).trans ?_
 ·obtain⟨g1,g2,g3⟩:=UB h2 f hf;simp only [ne_eq,g1,not_false_eq_true,if_true,Sem.run_bind,iI g2 (show f.offset<xs.length by rw [hx,<- h4]; simpa using g3),Result.andThen_ok,run_underlying g2,Sem.run_pure]
 ·simp
def qP (x:List Int):List (List Int × Value)->Nat->Option (Nat × Value)
 | [],_=>none
 | (k,v) :: r,i=>if x=k then some (i,v) else qP x r (i+1)
def yN : List (List Int × Value)->Nat->List MapEntry
 | [],_=>[]
 | (k,v) :: r,i=>⟨tX k,v,i⟩ :: yN r (i+1)
theorem mH {t:TypeId} {n:Nat} (h:gW P t=some n) {x:List Int} (hx:x.length=n):∀ (l:List (List Int × Value)) (i j:Nat),(∀ p ∈ l,p.1.length=n)->(Instr.findAsking t (tX x) (yN l j) i).run P w = .ok (qP x l i) w
 | [],i,j,_=>by simp [yN,Instr.findAsking,qP]
 | (k,v) :: r,i,j,hl=>by
  have he:=dU (w:=w) h hx (hl (k,v) (by simp));have ih:=mH h hx r (i+1) (j+1) λp hp=>hl p (by simp [hp]);simp only [yN,Instr.findAsking,qP,Sem.run_bind,he,Result.andThen_ok]
  by_cases e:x=k
  ·rw [decide_eq_true e,if_pos e]; simp
  ·rw [decide_eq_false e,if_neg e]; simpa using ih
theorem nZ {t:TypeId} {n:Nat} (h:gW P t=some n) {x:List Int} (hx:x.length=n) (l:List (List Int × Value)) (hl:∀ p ∈ l,p.1.length=n):(Instr.findKey t (tX x) (yN l 0)).run P w = .ok (qP x l 0) w:=by
 obtain⟨fs,h1,h2,h3,h4⟩:=rh h;unfold Instr.findKey;simp only [Sem.run_bind,run_underlying h1,Result.andThen_ok]
 cases l with
 | nil=>simp [yN,Instr.findNow,qP]
 | cons p r=> have:=mH (w:=w) h hx (p :: r) 0 0 hl;obtain⟨k,v⟩:=p;rw [show Instr.findNow (.struct fs) (tX x) (yN ((k,v) :: r) 0) 0=none from rfl];exact this
theorem oR {t:TypeId} {n:Nat} (h:gW P t=some n) (b:Bool) {x:List Int} (hx:x.length=n):(Instr.checkKey b 10000 t (tX x)).run P w = .ok () w:=zt h b 9998 hx
theorem nw {t kt et:TypeId} {n:Nat} (ht:P.underlying t=some (.map kt et)) (h:gW P kt=some n) {inf:TypeInfo} {z:Value} (hi:P.info? et=some inf) (hz:inf.zero=some z) {x:List Int} (hx:x.length=n) {b clock:Nat} {l:List (List Int × Value)} (hl:∀ p ∈ l,p.1.length=n)
  (hb:w.heap[b]?=some (.map (yN l 0).toArray clock)) (ok:Bool) :
  (Instr.lookup t (.map (some b)) (tX x) ok).run P w = .ok (if ok then .tuple #[((qP x l 0).map (·.2)).getD z,.bool (qP x l 0).isSome] else((qP x l 0).map (·.2)).getD z) w:=by
 have hg:(getObj b).run P w = .ok (.map (yN l 0).toArray clock) w:=by simp [getObj,Sem.run,hb]
 have hc:=oR (w:=w) h (yN l 0).isEmpty hx;have hf:=nZ (w:=w) h hx l hl
 cases hr:qP x l 0 with
 | none=>rw [hr] at hf; cases ok <;> simp [Instr.lookup,run_underlying ht,hg,hc,hf,zeroValue,typeInfo,hi,hz]
 | some p=>rw [hr] at hf; cases ok <;> simp [Instr.lookup,run_underlying ht,hg,hc,hf]
theorem oW (l:List (List Int × Value)):∀ i,(yN l i).length=l.length:=by
 induction l with
 | nil=>intro i; rfl
 | cons p r ih=>intro i; obtain⟨k,v⟩:=p; simp [yN,ih]
theorem cK (k:List Int) (v:Value):∀ (l:List (List Int × Value)) (i:Nat),yN (l ++ [(k,v)]) i=yN l i ++ [⟨tX k,v,i+l.length⟩]
 | [],i=>rfl
 | (k',v') :: r,i=>by show _ :: yN (r ++ [(k,v)]) (i+1)= _;rw [cK k v r (i+1)];simp [yN,Nat.add_assoc,Nat.add_comm 1]
theorem rj {t:TypeId} {n:Nat} {d:D} (h:r9 P t=some (n,d)):∃ k e i z,P.underlying t=some (.map k e)/\ gW P k=some n/\P.info? e=some i/\i.zero=some z/\D.ofValue z=some d:=by
 unfold r9 at h
 split at h
 ·rename_i k e ht;simp only [zO,Prod.mk.injEq] at h;obtain⟨m,h1,i,h2,z,h3,d',h4,rfl,rfl⟩:=h;exact⟨k,e,i,z,ht,h1,h2,h3,h4⟩
 ·cases h
end
def uI (Rel:Value->D->Prop):List (List Int × Value)->List (List Int × D)->Prop
 | [],[]=>True
 | (k,v) :: r,(k',d) :: r'=>k=k'/\Rel (tX k) (.agg (k.map (D.int .i64)))/\ Rel v d/\uI Rel r r'
 | _,_=>False
theorem uI.len {Rel:Value->D->Prop}:∀ {a:List (List Int × Value)} {b:List (List Int × D)},uI Rel a b->a.length=b.length
 | [],[],_=>rfl
 | (k,v) :: r,(k',d) :: r',h=>by simp [uI.len h.2.2.2]
theorem uI.all {Rel:Value->D->Prop} {n:Nat}:∀ {a:List (List Int × Value)} {b:List (List Int × D)},uI Rel a b->(∀ p ∈ b,p.1.length=n)->∀ p ∈ a,p.1.length=n
 | [],[],_,_,p,hp=>by cases hp
 | (k,v) :: r,(k',d) :: r',h,hb,p,hp=>by
  rcases List.mem_cons.1 hp with rfl | hp
  ·have:=hb (k',d) (by simp);rw [h.1]; exact this
  ·exact uI.all h.2.2.2 (λp hp=>hb p (by simp [hp])) p hp
theorem uI.find {Rel:Value->D->Prop} (x:List Int):∀ {a:List (List Int × Value)} {b:List (List Int × D)} (i:Nat),uI Rel a b->(qP x a i=none/\mZ x b i=none)\/∃ j v d,qP x a i=some (j,v)/\ mZ x b i=some (j,d)/\ Rel v d
 | [],[],i,_=>.inl ⟨rfl,rfl⟩
 | (k,v) :: r,(k',d) :: r',i,h=>by
  obtain⟨rfl,_,h2,h3⟩:=h;unfold qP mZ
  by_cases e:x=k
  ·rw [if_pos e,if_pos e]; exact .inr ⟨i,v,d,rfl,rfl,h2⟩
  ·rw [if_neg e,if_neg e]; exact uI.find x (i+1) h3
theorem uI.snoc {Rel:Value->D->Prop} {x:List Int} {v:Value} {d:D} (hk:Rel (tX x) (.agg (x.map (D.int .i64)))) (hr:Rel v d):∀ {a:List (List Int × Value)} {b:List (List Int × D)},uI Rel a b->uI Rel (a ++ [(x,v)]) (b ++ [(x,d)])
 | [],[],_=>⟨rfl,hk,hr,trivial⟩
 | (k,v') :: r,(k',d') :: r',h=>⟨h.1,h.2.1,h.2.2.1,uI.snoc hk hr h.2.2.2⟩
theorem uI.of {Rel:Value->D->Prop} (hR:∀ v ks,Rel v (.agg (ks.map (D.int .i64)))->v=tX ks):∀ {es:List MapEntry} {l:List (List Int × D)} {i0:Nat},es.length=l.length ->
  (∀ i,i<l.length->∃ (kv v:Value) (x d:D),(sM l).getD i [] = [x,d]/\es[i]?=some ⟨kv,v,i0+i⟩/\ Rel kv x/\Rel v d)->∃ lv,es=yN lv i0/\uI Rel lv l
 | [],[],_,_,_=>⟨[],rfl,trivial⟩
 | e :: es,(ks,d0) :: r,i0,hl,h=>by
  obtain⟨kv,v,x,d,h1,h2,h3,h4⟩:=h 0 (by simp);have h1':[D.agg (ks.map (D.int .i64)),d0] = [x,d]:=h1;simp only [List.cons.injEq,and_true] at h1';obtain⟨rfl,rfl⟩:=h1';have hk:=hR _ _ h3;simp only [List.getElem?_cons_zero,Option.some.injEq,Nat.add_zero] at h2
  obtain⟨lv,e1,e2⟩:=uI.of hR (es:=es) (l:=r) (i0:=i0+1) (by simpa using hl) λi hi=>by
   obtain⟨kv,v,x,d,g1,g2,g3,g4⟩:=h (i+1) (by simpa using hi);refine⟨kv,v,x,d,g1,?_,g3,g4⟩;have:i0+(i+1)= i0+1+i:=by omega
   rw [<- this]; simpa using g2
  exact⟨(ks,v) :: lv,by rw [h2,hk,e1]; rfl,rfl,by rw [<- hk]; exact h3,h4,e2⟩
theorem jQ (l:List (List Int × D)):(sM l).length=l.length:=by simp [sM]
theorem uI.get {Rel:Value->D->Prop}:∀ {lv:List (List Int × Value)} {l:List (List Int × D)} {i0:Nat},uI Rel lv l->∀ i,i<l.length->∃ (ks:List Int) (v:Value) (d:D),(sM l).getD i [] = [.agg (ks.map (D.int .i64)),d]/\(yN lv i0)[i]?=some ⟨tX ks,v,i0+i⟩/\ Rel v d/\Rel (tX ks) (.agg (ks.map (D.int .i64)))
 | [],[],_,_,i,hi=>by simp at hi
 | (k,v) :: r,(k',d) :: r',i0,h,i,hi=>by
  obtain⟨rfl,h1,h2,h3⟩:=h
  cases i with
  | zero=>exact⟨k,v,d,rfl,rfl,h2,h1⟩
  | succ i=>
   obtain⟨ks,v',d',g1,g2,g3,g4⟩:=uI.get (i0:=i0+1) h3 i (by simpa using hi);refine⟨ks,v',d',g1,?_,g3,g4⟩;have:i0+(i+1)= i0+1+i:=by omega
   rw [this]; simpa [yN] using g2
end Go.Pd
