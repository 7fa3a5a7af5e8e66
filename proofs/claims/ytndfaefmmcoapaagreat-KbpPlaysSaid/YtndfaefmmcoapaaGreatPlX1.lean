/- Part X1. -/
import Derived.Orders
import Derived.StillTail
import Derived.Below
import Derived.Laws.AppendOwn
import Derived.Laws.World
import Derived.WalkKit
import Derived.CallsIn
import Derived.OrdersIn
import Derived.TacticsIn
import Derived.ChangeKeysEq
import Derived.Laws.StructEq
set_option linter.unusedSectionVars false
set_option linter.unusedVariables false
set_option linter.unusedSimpArgs false
set_option linter.defProp false
open Nat renaming lt_of_lt_of_le->γ,le_trans->δ,le_refl->ε
open List renaming length_cons->ζ,getElem?_eq_getElem->η,drop_eq_nil_of_le->θ
open Option renaming bind_eq_some_iff->κ,bind_eq_bind->μ
namespace Go.Pd
open Go
def zO := And.intro @μ.{0} (And.intro @κ.{0,0} (And.intro @Option.pure_def.{0} @Option.some.injEq.{0}))
inductive D where
 | top
 | rK
 | int (k:IntKind) (n:Int)
 | bool (b:Bool)
 | str (s:ByteArray)
 | sl (sz:Nat) (xV:List (List D))
 | xL
 | emp
 | agg (cs:List D)
 | wH (vs:List D)
 | fn (f:FuncId) (caps:List D)
 | ref (key sz i off:Nat)
 | yD (key sz len:Nat)
 | sub (key sz lo len:Nat)
 | ptr (cs:List D)
 | wD (key:Nat)
 | qQ
 | oG
 | mC
 | j8 (b:Nat)
 deriving Inhabited
structure Ob where
 sz:Nat
 xV:List (List D)
 deriving Inhabited
structure St where
 nx:Nat
 xZ:List (Nat × Ob)
def St.look : List (Nat × Ob)->Nat->Option Ob
 | [],_=>none
 | (j,o) :: r,k=>if j=k then some o else St.look r k
def St.get (σ:St) (k:Nat):Option Ob:=St.look σ.xZ k
abbrev Fr :=List (Nat × D)
def Fr.get : Fr->Nat->D
 | [],_=>.top
 | (t,d) :: r,s=>if t=s then d else Fr.get r s
inductive RP (M : Nat -> Prop) (w : World) : Value -> D -> Prop
 | top (v:Value):RP M w v .top
 | rK:RP M w undef .rK
 | int {k:IntKind} {n:Int} (h:k.min<=n/\n<=k.max):RP M w (.int k n) (.int k n)
 | bool (b:Bool):RP M w (.bool b) (.bool b)
 | str {s:ByteArray} (h:s.size<=maxLen):RP M w (.string s) (.str s)
 | kd (a:Option Addr) (cap sz:Nat) (h:a=none->cap=0):RP M w (.slice a 0 cap) (.sl sz [])
 | emp (a:Addr) (cap:Nat):RP M w (.slice (some a) 0 cap) .emp
 | sl {b off cap sz:Nat} {xV:List (List D)} (vs:Nat->Nat->Value) (hs:0<sz) (hM:¬ M b) (hc:xV.length<=cap) (hm:cap<=maxLen) (hl:∀ e ∈ xV,e.length=sz)
   (hcell:∀ i,i<xV.length->∀ j,j<sz->w.cell? ⟨b,off+i*sz+j,none⟩= some (vs i j))
   (hr:∀ i,i<xV.length->∀ j,j<sz->RP M w (vs i j) ((xV.getD i []).getD j .top)):RP M w (.slice (some ⟨b,off,none⟩) xV.length cap) (.sl sz xV)
 | xL:RP M w (.slice none 0 0) .xL
 | ptr {b off:Nat} {cs:List D} (vs:Nat->Value) (hs:0<cs.length) (hM:¬ M b) (hcell:∀ j,j<cs.length->w.cell? ⟨b,off+j,none⟩= some (vs j))
   (hr:∀ j,j<cs.length->RP M w (vs j) (cs.getD j .top)):RP M w (.pointer (some ⟨b,off,none⟩)) (.ptr cs)
 | agg {vs:Array Value} {cs:List D} (hl:vs.size=cs.length) (hr:∀ j,j<cs.length->RP M w (vs.getD j undef) (cs.getD j .top)):RP M w (.agg vs) (.agg cs)
 | wH {vs:Array Value} {cs:List D} (hl:vs.size=cs.length) (hr:∀ j,j<cs.length->RP M w (vs.getD j undef) (cs.getD j .top)):RP M w (.tuple vs) (.wH cs)
 | fn {f:FuncId} {vs:Array Value} {cs:List D} (hl:vs.size=cs.length) (hr:∀ j,j<cs.length->RP M w (vs.getD j undef) (cs.getD j .top)):RP M w (.func (.func f) #[] vs) (.fn f cs)
 | qQ:RP M w (.pointer none) .qQ
 | oG:RP M w (.map none) .oG
 | mC:RP M w .nilFunc .mC
 | j8 (b:Nat):RP M w (.pointer (some ⟨b,0,none⟩)) (.j8 b)
inductive R (M : Nat -> Prop) (w : World) (ι : Nat -> Nat) (n : Nat) : Value -> D -> Prop
 | pure {v:Value} {d:D} (h:RP M w v d):R M w ι n v d
 | ref {key sz i off:Nat} (hk:key<n) (hs:0<sz):R M w ι n (.pointer (some ⟨ι key,i*sz+off,none⟩)) (.ref key sz i off)
 | yD {key sz len cap:Nat} {cur:Array Value} {e:TypeId} (hk:key<n) (h1:len<=cap) (h2:cap<=maxLen) (h3:w.heap[ι key]?=some (Obj.cells cur e (0,0))) (h4:cap*sz=cur.size) :
   R M w ι n (.slice (some ⟨ι key,0,none⟩) len cap) (.yD key sz len)
 | sub {key sz lo len cap off:Nat} {cur:Array Value} {e:TypeId} (hk:key<n) (h1:len<=cap) (h2:cap<=maxLen) (h3:w.heap[ι key]?=some (Obj.cells cur e (0,0))) (h4:cap=0\/(off=lo*sz/\(lo+cap)* sz=cur.size)) :
   R M w ι n (.slice (some ⟨ι key,off,none⟩) len cap) (.sub key sz lo len)
 | wD {key:Nat} (hk:key<n):R M w ι n (.map (some (ι key))) (.wD key)
 | agg {vs:Array Value} {cs:List D} (hl:vs.size=cs.length) (hr:∀ j,j<cs.length->R M w ι n (vs.getD j undef) (cs.getD j .top)):R M w ι n (.agg vs) (.agg cs)
 | wH {vs:Array Value} {cs:List D} (hl:vs.size=cs.length) (hr:∀ j,j<cs.length->R M w ι n (vs.getD j undef) (cs.getD j .top)):R M w ι n (.tuple vs) (.wH cs)
 | fn {f:FuncId} {vs:Array Value} {cs:List D} (hl:vs.size=cs.length) (hr:∀ j,j<cs.length->R M w ι n (vs.getD j undef) (cs.getD j .top)):R M w ι n (.func (.func f) #[] vs) (.fn f cs)
theorem R.top {M:Nat->Prop} {w:World} {ι:Nat->Nat} {n:Nat} (v:Value):R M w ι n v .top:=.pure (.top v)
structure Kept (w w' : World) (K : Nat -> Prop) : Prop where
 os:w'.os=w.os
 tape:w'.tape=w.tape
 output:w'.output=w.output
 size:w.heap.size<=w'.heap.size
 block:∀ b,b<w.heap.size->¬ K b->w'.heap[b]?=w.heap[b]?
 shape:∀ (b:Nat) (cur:Array Value) (e:TypeId),w.heap[b]?=some (Obj.cells cur e (0,0))->∃ cur':Array Value,w'.heap[b]?=some (Obj.cells cur' e (0,0))/\ cur'.size=cur.size
 drawn:w.drawn<=w'.drawn
theorem Kept.refl (w:World) (K:Nat->Prop):Kept w w K:=⟨rfl,rfl,rfl,ε _,λ_ _ _=>rfl,λ_ cur _ h=>⟨cur,h,rfl⟩,ε _⟩
theorem Kept.mono {w w':World} {K K':Nat->Prop} (h:Kept w w' K) (hk:∀ b,b<w.heap.size->K b->K' b):Kept w w' K':=⟨h.os,h.tape,h.output,h.size,λb hb hn=>h.block b hb λhK=>hn (hk b hb hK),h.shape,h.drawn⟩
theorem Kept.trans {w w' w'':World} {K K' K'':Nat->Prop} (h:Kept w w' K) (h':Kept w' w'' K') (h1:∀ b,b<w.heap.size->K b->K'' b) (h2:∀ b,b<w.heap.size->K' b->K'' b):Kept w w'' K'':=
 ⟨h'.os.trans h.os,h'.tape.trans h.tape,h'.output.trans h.output,δ h.size h'.size,
  λb hb hn=>(h'.block b (γ hb h.size) λhk=>hn (h2 b hb hk)).trans (h.block b hb λhk=>hn (h1 b hb hk)),
  λb cur e hc=>let ⟨c1,e1,s1⟩:=h.shape b cur e hc; let ⟨c2,e2,s2⟩:=h'.shape b c1 e e1; ⟨c2,e2,s2.trans s1⟩,δ h.drawn h'.drawn⟩
theorem Kept.below {w w':World} (h:Kept w w' λ_=>False):RowKit.Below w.heap.size w w':=⟨h.os,h.tape,h.output,h.size,λk hk=>h.block k hk id⟩
theorem Kept.alloc (w:World) (o:Obj) (K:Nat->Prop):Kept w (w.alloc o) K:=
 ⟨rfl,rfl,rfl,by show w.heap.size<=(w.heap.push o).size; simp,λb hb _=>heap_alloc_old w o hb,
  λb cur e h=>⟨cur,by rw [heap_alloc_old w o (Array.getElem?_eq_some_iff.1 h).1]; exact h,rfl⟩,ε _⟩
theorem Kept.drew {w w':World} {K:Nat->Prop} (h:Kept w w' K):Kept w w'.drew K:=⟨h.os,h.tape,h.output,h.size,h.block,h.shape,Nat.le_succ_of_le h.drawn⟩
theorem sf {w:World} {a:Addr} {v:Value} (h:w.cell? a=some v):a.block<w.heap.size:=World.block_lt_of_cell? w a h
theorem RP.zL {M M':Nat->Prop} {w w':World} (hb:∀ b,b<w.heap.size->¬ M b->w'.heap[b]?=w.heap[b]?) (hM:∀ b,b<w.heap.size->M' b->M b) {v:Value} {d:D} (h:RP M w v d):RP M' w' v d:=by
 induction h with
 | top v=>exact .top v
 | rK=>exact .rK
 | int h=>exact .int h
 | bool b=>exact .bool b
 | str h=>exact .str h
 | kd a cap sz h=>exact .kd a cap sz h
 | emp a cap=>exact .emp a cap
 | @sl b off cap sz xV vs hs hMb hc hm hl hcell hr ih=>
  rcases Nat.eq_zero_or_pos xV.length with h0 | h0
  ·have:xV = []:=List.eq_nil_of_length_eq_zero h0;subst this;exact .kd _ _ _ (by simp)
  ·have hlt:b<w.heap.size:=sf (hcell 0 h0 0 hs);refine .sl vs hs (λhm'=>hMb (hM b hlt hm')) hc hm hl (λi hi j hj=>?_) ih;rw [World.cell?_of_block (w:=w) (hb b hlt hMb)];exact hcell i hi j hj
 | xL=>exact .xL
 | @ptr b off cs vs hs hMb hcell hr ih=> have hlt:b<w.heap.size:=sf (hcell 0 hs);refine .ptr vs hs (λhm'=>hMb (hM b hlt hm')) (λj hj=>?_) ih;rw [World.cell?_of_block (w:=w) (hb b hlt hMb)];exact hcell j hj
 | agg hl hr ih=>exact .agg hl ih
 | wH hl hr ih=>exact .wH hl ih
 | fn hl hr ih=>exact .fn hl ih
 | qQ=>exact .qQ
 | oG=>exact .oG
 | mC=>exact .mC
 | j8 b=>exact .j8 b
theorem R.zL {M M':Nat->Prop} {w w':World} {ι ι':Nat->Nat} {n n':Nat} (hb:∀ b,b<w.heap.size->¬ M b->w'.heap[b]?=w.heap[b]?) (hM:∀ b,b<w.heap.size->M' b->M b)
  (hs:∀ (b:Nat) (cur:Array Value) (e:TypeId),w.heap[b]?=some (Obj.cells cur e (0,0))->∃ cur':Array Value,w'.heap[b]?=some (Obj.cells cur' e (0,0))/\ cur'.size=cur.size)
  (hi:∀ k,k<n->ι' k=ι k) (hn:n<=n') {v:Value} {d:D} (h:R M w ι n v d):R M' w' ι' n' v d:=by
 induction h with
 | pure h=>exact .pure (h.zL hb hM)
 | ref hk h0=>rw [<- hi _ hk]; exact .ref (γ hk hn) h0
 | @yD key sz len cap cur e hk h1 h2 h3 h4=> obtain⟨cur',h5,h6⟩:=hs _ _ _ h3;rw [<- hi _ hk] at h5 ⊢;exact .yD (γ hk hn) h1 h2 h5 (h4.trans h6.symm)
 | @sub key sz lo len cap off cur e hk h1 h2 h3 h4=> obtain⟨cur',h5,h6⟩:=hs _ _ _ h3;rw [<- hi _ hk] at h5 ⊢;exact .sub (γ hk hn) h1 h2 h5 (h4.imp id λh=>⟨h.1,h.2.trans h6.symm⟩)
 | wD hk=>rw [<- hi _ hk]; exact .wD (γ hk hn)
 | agg hl hr ih=>exact .agg hl ih
 | wH hl hr ih=>exact .wH hl ih
 | fn hl hr ih=>exact .fn hl ih
def zN (M0:Nat->Prop) (ι:Nat->Nat) (σ:St) (b:Nat):Prop:=M0 b\/∃ k o,σ.get k=some o/\ι k=b
def yI (M:Nat->Prop) (w:World) (ι:Nat->Nat) (n:Nat) (fP:Option Obj) (o:Ob):Prop:=
 (0<o.sz/\∃ (cur:Array Value) (e:TypeId),fP=some (Obj.cells cur e (0,0))/\ (∀ el ∈ o.xV,el.length=o.sz)/\ o.xV.length*o.sz<=cur.size /\
  ∀ i,i<o.xV.length->∀ j,j<o.sz->(cur.getD (i*o.sz+j) undef).oneCell'=true/\R M w ι n (cur.getD (i*o.sz+j) undef) ((o.xV.getD i []).getD j .top)) \/
 (o.sz=0/\∃ es:Array MapEntry,fP=some (Obj.map es es.size)/\ es.size=o.xV.length /\
  ∀ i,i<o.xV.length->∃ (kv v:Value) (x d:D),o.xV.getD i [] = [x,d]/\es[i]?=some ⟨kv,v,i⟩/\ R M w ι n kv x/\R M w ι n v d)
def qg (M:Nat->Prop) (w:World) (ι:Nat->Nat) (n key:Nat) (o:Ob):Prop:=yI M w ι n w.heap[ι key]? o
theorem yI.imp {M M':Nat->Prop} {w w':World} {ι ι':Nat->Nat} {n n':Nat} {fP:Option Obj} {o:Ob} (h:yI M w ι n fP o) (hr:∀ {v:Value} {d:D},R M w ι n v d->R M' w' ι' n' v d):yI M' w' ι' n' fP o:=by
 rcases h with ⟨h0,cur,e,h1,h2,h3,h4⟩ | ⟨h0,es,h1,h2,h3⟩
 ·exact .inl ⟨h0,cur,e,h1,h2,h3,λi hi j hj=>⟨(h4 i hi j hj).1,hr (h4 i hi j hj).2⟩⟩
 ·refine .inr ⟨h0,es,h1,h2,λi hi=>?_⟩;obtain⟨kv,v,x,d,g1,g2,g3,g4⟩:=h3 i hi;exact⟨kv,v,x,d,g1,g2,hr g3,hr g4⟩
theorem yI.cells {M:Nat->Prop} {w:World} {ι:Nat->Nat} {n:Nat} {fP:Option Obj} {o:Ob} (h:yI M w ι n fP o) (h0:0<o.sz) :
  ∃ (cur:Array Value) (e:TypeId),fP=some (Obj.cells cur e (0,0))/\ (∀ el ∈ o.xV,el.length=o.sz)/\ o.xV.length*o.sz<=cur.size /\
  ∀ i,i<o.xV.length->∀ j,j<o.sz->(cur.getD (i*o.sz+j) undef).oneCell'=true/\R M w ι n (cur.getD (i*o.sz+j) undef) ((o.xV.getD i []).getD j .top):=by
 rcases h with ⟨_,h⟩ | ⟨h,_⟩
 ·exact h
 ·omega
theorem yI.rows {M:Nat->Prop} {w:World} {ι:Nat->Nat} {n:Nat} {fP:Option Obj} {o:Ob} {cur0:Array Value} {e0:TypeId} (h:yI M w ι n fP o) (hc:fP=some (Obj.cells cur0 e0 (0,0))) :
  0<o.sz/\∃ (cur:Array Value) (e:TypeId),fP=some (Obj.cells cur e (0,0))/\ (∀ el ∈ o.xV,el.length=o.sz)/\ o.xV.length*o.sz<=cur.size /\
  ∀ i,i<o.xV.length->∀ j,j<o.sz->(cur.getD (i*o.sz+j) undef).oneCell'=true/\R M w ι n (cur.getD (i*o.sz+j) undef) ((o.xV.getD i []).getD j .top):=by
 rcases h with h | ⟨_,es,h1,_⟩
 ·exact h
 ·rw [hc] at h1; cases h1
theorem yI.mapped {M:Nat->Prop} {w:World} {ι:Nat->Nat} {n:Nat} {fP:Option Obj} {o:Ob} (h:yI M w ι n fP o) (h0:o.sz=0) :
  ∃ es:Array MapEntry,fP=some (Obj.map es es.size)/\ es.size=o.xV.length /\
  ∀ i,i<o.xV.length->∃ (kv v:Value) (x d:D),o.xV.getD i [] = [x,d]/\es[i]?=some ⟨kv,v,i⟩/\ R M w ι n kv x/\R M w ι n v d:=by
 rcases h with ⟨h,_⟩ | ⟨_,h⟩
 ·omega
 ·exact h
theorem yI.isSome {M:Nat->Prop} {w:World} {ι:Nat->Nat} {n:Nat} {fP:Option Obj} {o:Ob} (h:yI M w ι n fP o):∃ b,fP=some b:=by
 rcases h with ⟨_,cur,e,h1,_⟩ | ⟨_,es,h1,_⟩
 ·exact⟨_,h1⟩
 ·exact⟨_,h1⟩
def Po (M:Nat->Prop) (w:World) (ι:Nat->Nat) (n:Nat) (tmps:Array Value) (f:Fr):Prop:=∀ t,R M w ι n (tmps.getD t undef) (f.get t)
end Go.Pd
namespace Go.Pd
open Go
def uJ {α β:Type} (f:α->Option β):List α->Option (List β)
 | []=>some []
 | a :: r=>match f a,uJ f r with
  | some b,some bs=>some (b :: bs)
  | _,_=>none
theorem uT {α β:Type} {f:α->Option β}:∀ {l:List α} {bs:List β},uJ f l=some bs->bs.length=l.length/\∀ (j:Nat) (a:α),l[j]?=some a->∃ b,bs[j]?=some b/\f a=some b
 | [],bs,h=>by simp [uJ] at h; subst h; simp
 | a :: r,bs,h=>by
  unfold uJ at h
  split at h
  ·rename_i b bs' h1 h2;simp at h; subst h;obtain⟨h3,h4⟩:=uT h2;refine⟨by simp [h3],λj x hx=>?_⟩
   cases j with
   | zero=>simp at hx; subst hx; exact⟨b,by simp,h1⟩
   | succ j=>simp at hx; obtain⟨c,hc,hf⟩:=h4 j x hx; exact⟨c,by simpa using hc,hf⟩
  ·simp at h
def D.leaf : Value->Option D
 | .int k n=>if k.min<=n/\n<=k.max then some (.int k n) else none
 | .bool b=>some (.bool b)
 | .slice none 0 0=>some .xL
 | .pointer none=>some .qQ
 | .map none=>some .oG
 | .nilFunc=>some .mC
 | _=>none
def D.ofValue (v:Value):Option D:=
 match v with
 | .agg cs=>(uJ D.leaf cs.toList).map .agg
 | v=>D.leaf v
def D.one : D->Bool
 | .top | .rK | .agg _ | .wH _=>false
 | _=>true
def D.cells : D->Option (List D)
 | .agg cs=>some cs
 | .top | .rK | .wH _=>none
 | d=>some [d]
mutual
def D.xF : D->Bool
 | .ref .. | .yD .. | .sub .. | .wD _=>false
 | .agg cs | .wH cs | .fn _ cs=>D.xR cs
 | _=>true
def D.xR : List D->Bool
 | []=>true
 | d :: r=>d.xF&&D.xR r
end
def jM : List D->Nat->List D->List D
 | cs,_,[]=>cs
 | cs,o,d :: ds=>jM (cs.set o d) (o+1) ds
def qy : List D->List (Nat × Nat × D)->Option (List D)
 | cs,[]=>some cs
 | cs,(o,s,d) :: r=>match d.cells with
  | some ds=>if ds.length=s/\o+s<=cs.length then qy (jM cs o ds) r else none
  | none=>none
def vj (sz:Nat):List (List D)->List (Nat × D)->Option (List (List D))
 | es,[]=>some es
 | es,(i,d) :: r=>match d.cells with
  | some ds=>if ds.length=sz/\i<es.length then vj sz (es.set i ds) r else none
  | none=>none
def pB (ag:Bool) (cs:List D):D:=if ag then .agg cs else cs.headD .top
inductive tS where
 | t (n:Nat)
 | c (d:D)
inductive DK where
 | mv (x:tS)
 | pick (c a b:tS)
 | bin (op:BinOp) (x y:tS)
 | beq (neg:Bool) (x y:tS)
 | aG (neg:Bool) (x y:tS)
 | nt (x:tS)
 | neg (x:tS)
 | LO (x:tS)
 | geq (neg:Bool) (n:Nat) (x y:tS)
 | TB (x:tS)
 | conv (k:IntKind) (x:tS)
 | Nc (off:Nat) (x:tS)
 | PX (off n:Nat) (ag:Bool) (x:tS)
 | idx (sz:Nat) (x i:tS)
 | build (zero:List D) (parts:List (Nat × Nat × tS))
 | wC (sz len:Nat) (zero:List D) (parts:List (Nat × tS))
 | len (x:tS)
 | mn (x y:tS)
 | mx (x y:tS)
 | T8 (x:tS) (i:Nat)
 | Zf (f:FuncId) (caps:List tS)
 | load (n:Nat) (ag:Bool) (x:tS)
 | Zh (sz:Nat) (x:tS) (lo hi:Option tS)
 | call (fn:tS) (args:List tS)
 | box (x:tS)
 | alloc (zero:List D)
 | store (n:Nat) (a x:tS)
 | app (sz bytes:Nat) (x y:tS)
 | fV (sz bytes:Nat) (zero:List D) (len cap:tS)
 | kB (sz len:Nat) (zero:List D) (parts:List (Nat × tS))
 | V7 (zero:D) (x:tS)
 | Lb (x:tS)
 | j7
 | c8 (zero:D) (ok:Bool) (m k:tS)
 | bM (m k x:tS)
 | vn (n:Nat) (zero:D) (ok:Bool) (m k:tS)
 | jH (n:Nat) (m k x:tS)
 | tw (zero:D) (m k:tS)
 | tv (m s x:tS)
 | Zl (x y:tS)
structure yY where
 dst:Option Nat
 guard:Option (Nat × Bool)
 k:DK
inductive DC where
 | skip
 | qC (pre post:List yY)
 | ba (pre:List yY) (m:yY) (mid:List yY) (un:Bool) (post:List yY)
 | j0 (pre:List yY) (m1:yY) (mid1:List yY) (m2:yY) (mid2:List yY) (post:List yY)
 | bN (pre:List yY) (m1:yY) (mid1:List yY) (m2:yY) (mid2:List yY) (post:List yY) (free:List Nat)
 | aJ (pre:List yY) (m:yY) (mid:List yY) (un:Bool) (post:List yY) (fl:List Bool)
 | seq (a b:DC)
 | cond (c:tS) (a b:DC)
 | block (id:Nat) (c:DC)
 | loop (c:DC)
 | exit (id:Nat)
 | ret
 | TK (pre:List yY) (it:Nat) (m:tS)
 | TI (it nx more:Nat)
 | TG (it pair:Nat) (rest:List yY)
 | vp (pre:List yY) (it:Nat) (m:tS) (out nx more next pair:Nat) (rest:List yY) (code:DC)
 | ub (f:tS) (ps:List Nat) (a c:DC)
def yU (N:Nat):Operand->Option tS
 | .tmp t=>if t<N then some (.t t) else none
 | .const v=>(D.ofValue v).map .c
 | .func f=>some (.c (.fn f []))
 | .global _=>none
section
variable (P : Program) (N : Nat)
def oX (t:TypeId):Option Bool:=
 match P.underlying t with
 | some (.struct _) | some (.array _ _)=>some true
 | some _=>some false
 | none=>none
def rS (t:TypeId):Option Nat:=(P.info? t).map (·.size)
def jK (t:TypeId):Option (List D):=do
 let i <- P.info? t
 let z <- i.zero
 uJ D.leaf z.cells.toList
def qk (t:TypeId) (f:Nat):Option (Nat × TypeId):=
 match P.underlying t with
 | some (.struct fs)=>(fs[f]?).map λx=>(x.offset,x.type)
 | _=>none
def sliceB (t:TypeId):Option TypeId:=
 match P.underlying t with
 | some (.slice e)=>some e
 | _=>none
def fZ (n:Nat):Option Nat:=if 0<n then some n else none
def zp (x:Option Operand):Option (Option tS):=
 match x with
 | some x=>(yU N x).map some
 | none=>some none
def vk : List Field->Nat->Bool
 | [],_=>true
 | f :: fs,o=>f.name != "_"&&(f.offset==o)&& (match P.underlying f.type with | some (.int .i64)=>true | _=>false)&& vk fs (o+1)
def fO (t:TypeId):Option Nat:=match P.underlying t with
 | some (.struct fs)=>if vk P fs.toList 0&&!P.stoodInHeld t then some fs.size else none
 | _=>none
def mkBin (op:BinOp) (t:TypeId) (x y:tS):Option DK:=
 match P.underlying t with
 | some .bool=>if op = .eql then some (.beq false x y) else if op = .neq then some (.beq true x y) else none
 | some (.slice _)=>if op = .eql then some (.aG false x y) else if op = .neq then some (.aG true x y) else none
 | some (.int _)=>some (.bin op x y)
 | some (.struct _)=>if P.eqGuardType P.depth t then none else if op = .eql then(fO P t).map λn=>.geq false n x y else if op = .neq then(fO P t).map λn=>.geq true n x y else none
 | _=>none
def N0 (op:UnOp) (x:tS):Option DK:=
 match op with
 | .not=>some (.nt x)
 | .neg=>some (.neg x)
 | .xor=>some (.LO x)
 | _=>none
def wj (b:Builtin) (args:List tS) (ts:List TypeId):Option DK:=
 match b with
 | .len=>match args,ts with
  | [x],[t]=>match sliceB P t with
   | some _=>some (.len x)
   | none=>match P.underlying t with
    | some (.map _ _)=>some (.TB x)
    | _=>none
  | _,_=>none
 | .min=>match args with
  | [x,y]=>some (.mn x y)
  | _=>none
 | .max=>match args with
  | [x,y]=>some (.mx x y)
  | _=>none
 | .append=>match args,ts with
  | [x,y],[t,u]=>do
   let e <- sliceB P t
   let i <- P.info? e
   let sz <- fZ i.size
   let zero <- jK P e
   if t=u/\zero.length=sz then some (.app sz i.bytes x y) else none
  | _,_=>none
 | .clear=>match args,ts with
  | [x],[t]=>do
   let e <- sliceB P t
   let i <- P.info? e
   let z <- i.zero
   let d <- D.leaf z
   if i.size=1 then some (.V7 d x) else none
  | _,_=>none
 | .copy=>match args,ts with
  | [x,y],[t,_]=>do
   let e <- sliceB P t
   let i <- P.info? e
   if i.size=1 then some (.Zl x y) else none
  | _,_=>none
 | _=>none
def ZJ (c:Call):Option DK:=
 match c.callee with
 | .value f=>do pure (.call (<- yU N f) (<- uJ (yU N) c.args.toList))
 | .builtin b=>do wj P b (<- uJ (yU N) c.args.toList) c.argTypes.toList
 | .invoke _ _=>none
def mkLit (own:List Nat) (dst:Option Nat) (sz len:Nat) (zero:List D) (parts:List (Nat × tS)):Option DK:=
 match dst with
 | some d=>if own.contains d then some (.kB sz len zero parts) else some (.wC sz len zero parts)
 | none=>none
def zw (t:TypeId):Option D:=
 match P.underlying t with
 | some (.map k e)=>match P.underlying k with
  | some (.int _)=>do
   let i <- P.info? e
   let z <- i.zero
   D.ofValue z
  | _=>none
 | _=>none
def c7 (t:TypeId):Option (Nat × D):=
 match P.underlying t with
 | some (.map k e)=>do
  let n <- fO P k
  let i <- P.info? e
  let z <- i.zero
  let d <- D.ofValue z
  pure (n,d)
 | _=>none
def V9 (own:List Nat) (o:Oper):Option DK:=
 match o.op with
 | .move x=>(yU N x).map .mv
 | .assign x=>(yU N x).map .mv
 | .pick c a b=>do pure (.pick (<- yU N c) (<- yU N a) (<- yU N b))
 | .alloc e=>do pure (.alloc (<- jK P e))
 | .box _ x=>do pure (.box (<- yU N x))
 | .build t ps=>
  match P.underlying t with
  | some (.struct fs)=>do
   let zero <- jK P t
   let places <- fs.toList.mapM (λf=>(P.info? f.type).map λi=>(f.offset,i.size))
   let parts <- uJ (λ(p:Nat × Operand)=>do
    let q <- places[p.1]?
    pure (q.1,q.2,<- yU N p.2)) ps.toList
   pure (.build zero parts)
  | _=>none
 | .buildSlice t len ps=>do
  let e <- sliceB P t
  let sz <- fZ (<- rS P e)
  let zero <- jK P e
  let parts <- uJ (λ(p:Nat × Operand)=>do pure (p.1,<- yU N p.2)) ps.toList
  if zero.length=sz/\len*sz<=1000 then mkLit own o.dst sz len zero parts else none
 | .load t x=>do
  let ag <- oX P t
  let n <- rS P t
  let x' <- yU N x
  if ag=true\/n=1 then pure (.load n ag x') else none
 | .store t a x=>do pure (.store (<- rS P t) (<- yU N a) (<- yU N x))
 | .binOp op t x y _=>do mkBin P op t (<- yU N x) (<- yU N y)
 | .unOp op _ x=>do N0 op (<- yU N x)
 | .convert src dst x=>
  match P.underlying src,P.underlying dst with
  | some (.int _),some (.int k)=>do pure (.conv k (<- yU N x))
  | _,_=>none
 | .makeFunc fn first caps=>
  match fn with
  | .func f=>do
   let cs <- uJ (yU N) caps.toList
   if first = #[] then pure (.Zf f cs) else none
  | _=>none
 | .makeSlice t l c=>do
  let e <- sliceB P t
  let i <- P.info? e
  let sz <- fZ i.size
  let zero <- jK P e
  let l' <- yU N l
  let c' <- yU N c
  if zero.length=sz then pure (.fV sz i.bytes zero l' c') else none
 | .slice t x lo hi mx=>do
  let e <- sliceB P t
  let sz <- fZ (<- rS P e)
  let lo' <- zp N lo
  let hi' <- zp N hi
  let x' <- yU N x
  match mx with
  | none=>pure (.Zh sz x' lo' hi')
  | some _=>none
 | .fieldAddr t x f=>do
  let q <- qk P t f
  let _ <- fZ (<- rS P q.2)
  pure (.Nc q.1 (<- yU N x))
 | .field t x f=>do
  let q <- qk P t f
  pure (.PX q.1 (<- rS P q.2) (<- oX P q.2) (<- yU N x))
 | .indexAddr t x i=>
  match sliceB P t with
  | some e=>do pure (.idx (<- fZ (<- rS P e)) (<- yU N x) (<- yU N i))
  | none=>
   match P.underlying t,i with
   | some (.array n e),.const (.int _ p)=>do
    let sz <- fZ (<- rS P e)
    let x' <- yU N x
    if 0<=p/\p<n then some (.Nc (p.toNat*sz) x') else none
   | _,_=>none
 | .extract x i=>do pure (.T8 (<- yU N x) i)
 | .call c=>ZJ P N c
 | .nilCheck x=>(yU N x).map .Lb
 | .makeMap t r=>
  match r with
  | none=>if (zw P t).isSome || (c7 P t).isSome then some .j7 else none
  | some (.const (.int _ _))=>if (zw P t).isSome || (c7 P t).isSome then some .j7 else none
  | _=>none
 | .lookup t m k ok=>match zw P t with
  | some z=>do pure (.c8 z ok (<- yU N m) (<- yU N k))
  | none=>do
   let p <- c7 P t
   pure (.vn p.1 p.2 ok (<- yU N m) (<- yU N k))
 | .mapUpdate t m k x=>match zw P t with
  | some _=>do pure (.bM (<- yU N m) (<- yU N k) (<- yU N x))
  | none=>do
   let p <- c7 P t
   pure (.jH p.1 (<- yU N m) (<- yU N k) (<- yU N x))
 | .insert t m k x=>do
  let _ <- zw P t
  pure (.bM (<- yU N m) (<- yU N k) (<- yU N x))
 | .mapEntry t m k=>do pure (.tw (<- zw P t) (<- yU N m) (<- yU N k))
 | .entryStore t m s x=>do
  let _ <- zw P t
  pure (.tv (<- yU N m) (<- yU N s) (<- yU N x))
 | .makeInterface _ _ | .panic _=>some (.alloc [])
 | _=>none
def iL (own:List Nat) (ops:Array Oper) (o:Oper):Option yY:=do
 let k <- V9 P N own o
 let dst <- (match o.dst with | some d=>if d<N then some (some d) else none | none=>some none)
 let g <- (match o.guard with
  | none=>some none
  | some (j,b)=>do
   let oj <- ops[j]?
   let d <- oj.dst
   if d<N then some (some (d,b)) else none)
 pure ⟨dst,g,k⟩
end
def DK.vZ : DK->Bool
 | .mv _ | .Lb _ | .pick .. | .bin .. | .beq .. | .geq .. | .nt _ | .neg _ | .LO _ | .conv .. | .Nc .. | .PX .. | .T8 .. | .Zf .. | .mn .. | .mx .. | .build .. | .idx .. | .len _ | .aG ..=>true
 | _=>false
def DK.still : DK->Bool
 | .box _ | .alloc _ | .store .. | .app .. | .fV .. | .kB .. | .V7 .. | .j7 | .bM .. | .jH .. | .tw .. | .tv .. | .Zl ..=>false
 | _=>true
def DK.ZZ : DK->List tS
 | .mv x | .Lb x | .nt x | .neg x | .LO x | .TB x | .conv _ x | .Nc _ x | .PX _ _ _ x | .len x | .T8 x _ | .load _ _ x | .box x | .V7 _ x=>[x]
 | .pick c a b=>[c,a,b]
 | .bin _ x y | .beq _ x y | .geq _ _ x y | .aG _ x y | .idx _ x y | .mn x y | .mx x y | .store _ x y | .app _ _ x y | .fV _ _ _ x y | .Zl x y=>[x,y]
 | .build _ ps=>ps.map (·.2.2)
 | .wC _ _ _ ps | .kB _ _ _ ps=>ps.map (·.2)
 | .Zf _ cs=>cs
 | .Zh _ x lo hi=>x :: (lo.toList++hi.toList)
 | .call f xs=>f :: xs
 | .alloc _ | .j7=>[]
 | .c8 _ _ m k | .tw _ m k | .vn _ _ _ m k=>[m,k]
 | .bM m k x | .tv m k x | .jH _ m k x=>[m,k,x]
def tS.Jy : tS->Option Nat
 | .t n=>some n
 | .c _=>none
def yY.names (o:yY):List Nat:=o.k.ZZ.filterMap tS.Jy++(match o.guard with | some (g,_)=>[g] | none=>[])
def wK : List Oper->List Nat->List Nat
 | [],acc=>acc
 | o :: rest,acc=>wK rest (acc ++ [o.after.foldl (λs e=>if Region.binds .any e then s ||| 2 ^ e.on ||| acc.getD e.on 0 else s) 0])
def ordered (ms:List Nat) (i j:Nat):Bool:=(ms.getD j 0).testBit i
def jP (x y:yY):Bool:=
 (match x.dst with | some d=>!y.names.contains d&&y.dst != some d | none=>true)&&
 (match y.dst with | some d=>!x.names.contains d | none=>true)
def xp (ops:List Oper) (ds:List yY) (s:Nat) (mu:Nat->Bool) (xo:Nat->Nat->Bool):Bool:=
 let ms:=wK ops []
 (List.range ops.length).all λj=>
  match ops[j]?,ds[j]? with
  | some oj,some dj=>(oj.after.toList.all λe=>!Region.binds .any e || decide (e.on<j))&& (List.range j).all λi=>
   match ds[i]? with
   | some di=>ordered ms i j || (jP di dj&&((decide (j<s)&& !(mu i&&mu j)) || di.k.vZ || dj.k.vZ || xo i j))
   | none=>false
  | _,_=>false
def qj (ops:List Oper) (ds:List yY) (s:Nat) (mu:Nat->Bool):Bool:=xp ops ds s mu λ_ _=>false
def wJ (own:List Nat) (o:yY):Bool:=match o.dst,o.guard with
 | some d,none=>own.contains (1000000+d)
 | _,_=>false
def pJ (own:List Nat) (ds:List yY) (i:Nat):Bool:=match ds[i]? with
 | some d=>wJ own d
 | none=>false
def sP (own:List Nat):List yY->Nat
 | []=>0
 | o :: r=>if o.k.still || wJ own o then sP own r+1 else 0
def uI (l:List yY):Bool:=(l.all λo=>o.dst.isSome)&& decide (l.map (·.dst)).Nodup
def rL (ms:List Nat) (m:Nat):List yY->Nat->Bool
 | [],_=>true
 | o :: r,j=>(o.k.vZ || ordered ms m j)&& rL ms m r (j+1)
def Sv (own:List Nat) (ops:List Oper) (l:List yY) (s:Nat):Option DC:=
 let h:=l.take s
 match h.findIdx? (wJ own) with
 | none=>some (.qC h (l.drop s))
 | some m=>match h[m]? with
  | none=>none
  | some o=>
   let r:=h.drop (m+1)
   match r.findIdx? (wJ own) with
   | none=>if uI (h.take m)&& uI r&&!o.k.vZ then some (.ba (h.take m) o r (!rL (wK ops []) m r (m+1)) (l.drop s)) else none
   | some n=>match r[n]? with
    | none=>none
    | some o2=>if ((r.drop (n+1)).findIdx? (wJ own)).isNone&&(uI (h.take m)&& uI (r.take n)&& uI (r.drop (n+1)))&& (!o.k.vZ&&!o2.k.vZ)&& (rL (wK ops []) m (r.take n) (m+1)&& rL (wK ops []) (m+1+n) (r.drop (n+1)) (m+1+n+1)) then
      some (.j0 (h.take m) o (r.take n) o2 (r.drop (n+1)) (l.drop s)) else none
def ae (own:List Nat) (ops:List Oper) (l:List yY) (s:Nat):Option DC:=
 let h:=l.take s
 match h.findIdx? (wJ own) with
 | none=>none
 | some m=>match h[m]? with
  | none=>none
  | some o=>
   let r:=h.drop (m+1)
   if own.contains (2000000+o.dst.getD 0)&& (r.findIdx? (wJ own)).isNone&&uI (h.take m)&& uI r&&!o.k.vZ then
    some (.aJ (h.take m) o r (!rL (wK ops []) m r (m+1)) (l.drop s) ((List.range m).map λi=>ordered (wK ops []) i m)) else none
def Sr (ms:List Nat) (x y:Nat) (l:List yY):List Nat:=(List.range l.length).filterMap λj=>if j==x || j==y || ordered ms x j || ordered ms y j then none else(l[j]?).bind (·.dst)
def sj : DK->Bool
 | .alloc _=>true
 | _=>false
def ZK (own:List Nat) (ops:List Oper) (l:List yY) (s:Nat):Option DC:=
 let h:=l.take s
 match h.findIdx? (wJ own) with
 | none=>none
 | some m=>match h[m]? with
  | none=>none
  | some o=>
   let r:=h.drop (m+1)
   match r.findIdx? (wJ own) with
   | none=>none
   | some n=>match r[n]? with
    | none=>none
    | some o2=>if ((r.drop (n+1)).findIdx? (wJ own)).isNone&&uI h&&decide (l.filterMap (·.dst)).Nodup&&(!o.k.vZ&&sj o2.k)&& xp ops l s (pJ own l) (λi j=>i==m&&j==m+1+n) then
      some (.bN (h.take m) o (r.take n) o2 (r.drop (n+1)) (l.drop s) (Sr (wK ops []) m (m+1+n) l)) else none
def SX (P:Program) (t:TypeId):Bool:=match P.underlying t with
 | some (.map _ _)=>true
 | _=>false
def aF (P:Program) (N:Nat) (own:List Nat) (ops:Array Oper):Option DC:=
 match ops.toList.getLast? with
 | some o=>match o.op,o.dst,o.guard with
  | .range t x,some it,none=>do
   let m <- yU N x
   let pre <- uJ (iL P N own ops) ops.toList.dropLast
   if SX P t=true/\it<N then some (.TK pre it m) else none
  | _,_,_=>none
 | none=>none
def iz (N:Nat) (ops:Array Oper):Option DC:=
 match ops.toList with
 | [o2,o3]=>match o2.op,o2.dst,o2.guard,o3.op,o3.dst,o3.guard with
  | .next (.tmp it) false,some nx,none,.extract (.tmp nx') 0,some more,none=>if nx'=nx/\nx<N/\more<N then some (.TI it nx more) else none
  | _,_,_,_,_,_=>none
 | _=>none
def iw (P:Program) (N:Nat) (own:List Nat) (ops:Array Oper):Option DC:=
 match ops.toList with
 | o :: l=>match o.op,o.dst,o.guard with
  | .entry (.tmp it),some pair,none=>do
   let rest <- uJ (iL P N own ops) l
   if pair<N then some (.TG it pair rest) else none
  | _,_,_=>none
 | _=>none
def qz (o:Oper):Bool:=match o.op with
 | .move _ | .assign _ | .nilCheck _ | .fieldAddr .. | .indexAddr .. | .load ..=>true
 | _=>false
def qn (P:Program) (N:Nat) (own:List Nat) (ops:Array Oper) (draw:Bool):Option DC:=
 if draw then(if (ops.toList.dropLast.all λo=>qz o&&o.guard.isNone)&& Region.lexTailB .any ops (ops.size-1) then aF P N own ops else none) else match aF P N own ops with
  | some d=>some d
  | none=>match iz N ops with
   | some d=>some d
   | none=>iw P N own ops
def Ph (x y:DC):DC:=
 match x,y with
 | .TK pre it m,.block out (.loop (.seq (.TI it1 nx more) (.seq (.cond (.t more1) .skip (.exit out1)) (.block next (.seq (.TG it2 pair rest) code)))))=> if it1=it/\it2=it/\more1=more/\out1=out/\it≠nx/\it≠more/\it≠pair then .vp pre it m out nx more next pair rest code else .seq x y
 | _,_=>.seq x y
def sL (P:Program) (N:Nat) (own:List Nat):Code->Option DC
 | .skip=>some .skip
 | .region _ ops draw=>match qn P N own ops draw with
  | some d=>some d
  | none=>do
   let l <- uJ (iL P N own ops) ops.toList
   if draw then
    let s:=sP own l
    if own.contains 77777=false/\qj ops.toList l s (pJ own l)= true then(match ae own ops.toList l s with | some d=>some d | none=>Sv own ops.toList l s) else if own.contains 77777=false then ZK own ops.toList l s else none
   else pure (.qC [] l)
 | .seq a b=>do pure (Ph (<- sL P N own a) (<- sL P N own b))
 | .cond c a b=>do pure (.cond (<- yU N c) (<- sL P N own a) (<- sL P N own b))
 | .block id c=>do pure (.block id (<- sL P N own c))
 | .loop c=>do pure (.loop (<- sL P N own c))
 | .rangeFunc f ps a c=>do pure (.ub (<- yU N f) ps.toList (<- sL P N own a) (<- sL P N own c))
 | .exit id=>some (.exit id)
 | .ret=>some .ret
 | _=>none
end Go.Pd
namespace Go.Pd
open Go
def pI (f:Fr):tS->D
 | .t n=>f.get n
 | .c d=>d
def tB (op:BinOp) (k:IntKind) (a b:Int):Int:=
 match op with
 | .and=>k.wrap (BitVec.ofInt k.bits a &&& BitVec.ofInt k.bits b).toNat
 | .or=>k.wrap (BitVec.ofInt k.bits a ||| BitVec.ofInt k.bits b).toNat
 | .xor=>k.wrap (BitVec.ofInt k.bits a ^^^ BitVec.ofInt k.bits b).toNat
 | _=>k.wrap (BitVec.ofInt k.bits a &&& ~~~BitVec.ofInt k.bits b).toNat
def ju (k:IntKind) (a b:Int):Int:=k.wrap (a*2 ^ (min b.toNat k.bits))
def bc (k:IntKind) (a b:Int):Int:=a.fdiv (2 ^ (min b.toNat k.bits))
def nN (op:BinOp) (k:IntKind) (a:Int) (k':IntKind) (b:Int) (K:D->Prop):Prop:=
 match op with
 | .shl=>0<=b/\K (.int k (ju k a b))
 | .shr=>0<=b/\K (.int k (bc k a b))
 | .add=>k=k'/\K (.int k (k.wrap (a+b)))
 | .sub=>k=k'/\K (.int k (k.wrap (a-b)))
 | .mul=>k=k'/\K (.int k (k.wrap (a*b)))
 | .quo=>k=k'/\b≠0/\K (.int k (k.wrap (a.tdiv b)))
 | .rem=>k=k'/\b≠0/\K (.int k (a.tmod b))
 | .and=>k=k'/\K (.int k (tB .and k a b))
 | .or=>k=k'/\K (.int k (tB .or k a b))
 | .xor=>k=k'/\K (.int k (tB .xor k a b))
 | .andNot=>k=k'/\K (.int k (tB .andNot k a b))
 | .eql=>k=k'/\K (.bool (a==b))
 | .neq=>k=k'/\K (.bool (a != b))
 | .lss=>k=k'/\K (.bool (decide (a<b)))
 | .leq=>k=k'/\K (.bool (decide (a<=b)))
 | .gtr=>k=k'/\K (.bool (decide (a > b)))
 | .geq=>k=k'/\K (.bool (decide (a >= b)))
def Own (ι:Nat->Nat) (σ:St) (b:Nat):Prop:=∃ k o,σ.get k=some o/\ι k=b
class tR where
 nR:List (Nat × List Value)
variable [tR]
def im (w:World) (M:Nat->Prop):Prop:=∀ p ∈ tR.nR,p.1<w.heap.size/\¬ M p.1/\∀ j v,p.2[j]?=some v->w.cell? ⟨p.1,j,none⟩= some v
theorem im.zL {M M':Nat->Prop} {w w':World} (h:im w M) (hs:w.heap.size<=w'.heap.size) (hb:∀ b,b<w.heap.size->¬ M b->w'.heap[b]?=w.heap[b]?) (hM:∀ b,b<w.heap.size->M' b->M b):im w' M':=λp hp=>
 let ⟨h1,h2,h3⟩:=h p hp
 ⟨γ h1 hs,λhm=>h2 (hM _ h1 hm),λj v hv=>by rw [World.cell?_of_block (w:=w) (hb _ h1 h2)]; exact h3 j v hv⟩
structure wL (M0 : Nat -> Prop) (w : World) (σ : St) (ι : Nat -> Nat) : Prop where
 oJ:∀ b,M0 b->b<w.heap.size
 holds:∀ k o,σ.get k=some o->k<σ.nx/\qg (zN M0 ι σ) w ι σ.nx k o
 inj:∀ k k' o o',σ.get k=some o->σ.get k'=some o'->ι k=ι k'->k=k'
 notM:∀ k o,σ.get k=some o->¬ M0 (ι k)
 nR:im w (zN M0 ι σ)
def oQ (P:Program) (g:FuncId):Prop:=∃ fn,P.funcs[g]?=some fn/\(fn.name == "runtime.NumGoroutine")= false/\fn.body.isNone=false
structure xP (P : Program) (g : FuncId) (args : List D) (σ : St) (d : D) (σ' : St) : Prop where
 ord:oQ P g
 run:∀ (M0:Nat->Prop) (w:World) (ι:Nat->Nat) (vals:Array Value),wL M0 w σ ι->vals.size=args.length ->
  (∀ j,j<args.length->R (zN M0 ι σ) w ι σ.nx (vals.getD j undef) (args.getD j .top)) ->
  Calls P g vals w λe w'=>∃ v ι',e = .returned v/\Kept w w' (Own ι σ)/\ wL M0 w' σ' ι'/\σ.nx<=σ'.nx/\(∀ k,k<σ.nx->ι' k=ι k)/\
   (∀ k o,σ'.get k=some o->w.heap.size<=ι' k\/Own ι σ (ι' k))/\ R (zN M0 ι' σ') w' ι' σ'.nx v d
structure Cx where
 P:Program
 N:Nat
 n0:Nat:=0
 own:List Nat:=[]
 rd:Option Nat:=none
def Cx.F (C:Cx):Fence:={ Fence.wide with round:=C.rd }
def La : Option D->Option Int
 | none=>some 0
 | some (.int _ n)=>some n
 | _=>none
omit [tR] in
theorem tT {c:Prop} [Decidable c] {p q:Prop} (h:if c then p else q):(c->p)/\ (¬ c->q):=⟨λhc=>by rwa [if_pos hc] at h,λhc=>by rwa [if_neg hc] at h⟩
omit [tR] in
theorem zo {c:Prop} [Decidable c] {p q:Prop} (h1:c->p) (h2:¬ c->q):if c then p else q:=by
 by_cases h:c
 ·rw [if_pos h]; exact h1 h
 ·rw [if_neg h]; exact h2 h
omit [tR] in
theorem Uz {t:Bool} {p q:Prop} (h:if t=true then p else q):(t=true->p)/\ (t=false->q):=⟨λhc=>(tT h).1 hc,λhc=>(tT h).2 (by simp [hc])⟩
def aD (P:Program) (g:FuncId) (args:List D) (σ:St) (K:D->Prop):Prop:=∃ d,xP P g args σ d σ/\K d
def Xv (P:Program) (g:FuncId) (args:List D) (σ:St) (K:D->St->Prop):Prop:=∃ d σ',xP P g args σ d σ'/\K d σ'
def fX (kk:IntKind) (xV:List (List D)):Prop:=∀ row ∈ xV,∃ m d,row = [D.int kk m,d]
def nM (x:Int):List (List D)->Nat->Option (Nat × D)
 | [],_=>none
 | [.int _ m,d] :: r,i=>if x=m then some (i,d) else nM x r (i+1)
 | _ :: r,i=>nM x r (i+1)
def re (kk:IntKind) (xV:List (List D)) (x:Int) (d:D):List (List D):=
 match nM x xV 0 with
 | some (i,_)=>xV.set i [.int kk x,d]
 | none=>xV ++ [[.int kk x,d]]
def mB (ok:Bool) (zero:D) (r:Option (Nat × D)):D:= if ok then .wH [(r.map (·.2)).getD zero,.bool r.isSome] else(r.map (·.2)).getD zero
def rE (l:List (List Int × D)):List (List D):=l.map λp=>[.agg (p.1.map (D.int .i64)),p.2]
def lS (x:List Int):List (List Int × D)->Nat->Option (Nat × D)
 | [],_=>none
 | (k,d) :: r,i=>if x=k then some (i,d) else lS x r (i+1)
def zn : List D->Option (List Int)
 | []=>some []
 | .int .i64 a :: r=>(zn r).map (a :: ·)
 | _=>none
theorem eJ : ∀ {cs:List D} {xs:List Int},zn cs=some xs->cs=xs.map (D.int .i64)
 | [],xs,h=>by cases h; rfl
 | d :: r,xs,h=>by
  unfold zn at h
  split at h
  ·rename_i e; cases e
  ·rename_i a r' e;cases e;rw [Option.map_eq_some_iff] at h;obtain⟨ys,h1,rfl⟩:=h;rw [eJ h1]; rfl
  ·cases h
def aB (y:List Int) (x:D) (l:List (List Int × D)):List (List Int × D):=match lS y l 0 with
 | some (i,_)=>l.set i (y,x)
 | none=>l ++ [(y,x)]
def pW (C:Cx) (σ:St) (ev:tS->D):DK->(D->Prop)->Prop
 | .mv x,K=>K (ev x)
 | .pick c a b,K=>match ev c with
  | .bool t=>if t=true then K (ev a) else K (ev b)
  | _=>False
 | .bin op x y,K=>match ev x,ev y with
  | .int k a,.int k' b=>nN op k a k' b K
  | _,_=>False
 | .beq neg x y,K=>match ev x,ev y with
  | .bool a,.bool b=>K (.bool (if neg then a != b else a==b))
  | _,_=>False
 | .aG neg x y,K=>match ev x,ev y with
  | .xL,.xL=>K (.bool (!neg))
  | .yD ..,.xL | .xL,.yD ..=>K (.bool neg)
  | .emp,.xL | .xL,.emp=>K (.bool neg)
  | .sl _ (_ :: _),.xL=>K (.bool neg)
  | _,_=>False
 | .nt x,K=>match ev x with
  | .bool b=>K (.bool (!b))
  | _=>False
 | .neg x,K=>match ev x with
  | .int k a=>K (.int k (k.wrap (0-a)))
  | _=>False
 | .LO x,K=>match ev x with
  | .int k a=>K (.int k (tB .xor k (if k.signed then -1 else k.max) a))
  | _=>False
 | .geq neg n x y,K=>match ev x,ev y with
  | .agg cs,.agg ds=>match zn cs,zn ds with
   | some xs,some ys=>xs.length=n/\ys.length=n/\K (.bool (if neg then !decide (xs=ys) else decide (xs=ys)))
   | _,_=>False
  | _,_=>False
 | .TB x,K=>match ev x with
  | .wD key=>match σ.get key with
   | some o=>o.sz=0/\o.xV.length<=1000000/\K (.int .i64 o.xV.length)
   | none=>False
  | _=>False
 | .conv k x,K=>match ev x with
  | .int _ n=>K (.int k (k.wrap n))
  | _=>False
 | .Nc off x,K=>match ev x with
  | .ref key sz i o=>K (.ref key sz i (o+off))
  | .ptr cs=>off<cs.length/\K (.ptr (cs.drop off))
  | _=>False
 | .PX off n ag x,K=>match ev x with
  | .agg cs=>off+n<=cs.length/\(ag=true\/n=1)/\ K (pB ag ((cs.drop off).take n))
  | _=>False
 | .idx sz x i,K=>match ev x,ev i with
  | .sl sz' xV,.int _ n=>sz=sz'/\0<=n/\n<xV.length/\K (.ptr (xV.getD n.toNat []))
  | .yD key sz' len,.int _ n=>sz=sz'/\0<=n/\n<len/\K (.ref key sz n.toNat 0)
  | .sub key sz' lo len,.int _ n=>sz=sz'/\0<=n/\n<len/\K (.ref key sz (lo+n.toNat) 0)
  | _,_=>False
 | .build zero parts,K=>match qy zero (parts.map λp=>(p.1,p.2.1,ev p.2.2)) with
  | some cs=>K (.agg cs)
  | none=>False
 | .wC sz len zero parts,K=>match vj sz (List.replicate len zero) (parts.map λp=>(p.1,ev p.2)) with
  | some es=>(es.all D.xR)= true/\K (.sl sz es)
  | none=>False
 | .len x,K=>match ev x with
  | .sl _ xV=>K (.int .i64 xV.length)
  | .yD _ _ n=>K (.int .i64 n)
  | .sub _ _ _ n=>K (.int .i64 n)
  | .xL=>K (.int .i64 0)
  | .emp=>K (.int .i64 0)
  | _=>False
 | .mn x y,K=>match ev x,ev y with
  | .int k a,.int k' b=>k=k'/\K (.int k (if b<a then b else a))
  | _,_=>False
 | .mx x y,K=>match ev x,ev y with
  | .int k a,.int k' b=>k=k'/\K (.int k (if b > a then b else a))
  | _,_=>False
 | .T8 x i,K=>match ev x with
  | .wH vs=>i<vs.length/\K (vs.getD i .top)
  | _=>False
 | .Zf f caps,K=>K (.fn f (caps.map ev))
 | .load n ag x,K=>match ev x with
  | .ref key sz i off=>match σ.get key with
   | some o=>o.sz=sz/\i<o.xV.length/\off+n<=sz/\(ag=true\/n=1)/\ K (pB ag (((o.xV.getD i []).drop off).take n))
   | none=>False
  | .ptr cs=>n<=cs.length/\(ag=true\/n=1)/\ K (pB ag (cs.take n))
  | _=>False
 | .Zh sz x lo hi,K=>match ev x with
  | .sl sz' xV=>sz=sz'/\∃ l h:Int,La (lo.map ev)= some l/\(match hi.map ev with | none=>h=xV.length | some (.int _ n)=>h=n | some _=>False)/\ 0<=l/\l<=h/\h<=xV.length/\K (.sl sz ((xV.take h.toNat).drop l.toNat))
  | .yD key sz' len=>sz=sz'/\∃ l h:Int,La (lo.map ev)= some l/\(match hi.map ev with | none=>h=len | some (.int _ n)=>h=n | some _=>False)/\ 0<=l/\l<=h/\h<=len/\K (if l=0 then .yD key sz h.toNat else if l=h then .emp else .sub key sz l.toNat (h.toNat-l.toNat))
  | .sub key sz' lo0 len=>sz=sz'/\∃ l h:Int,La (lo.map ev)= some l/\(match hi.map ev with | none=>h=len | some (.int _ n)=>h=n | some _=>False)/\ 0<=l/\l<=h/\h<=len/\K (.sub key sz (lo0+l.toNat) (h.toNat-l.toNat))
  | _=>False
 | .call fn args,K=>match ev fn with
  | .fn g caps=>aD C.P g (args.map ev++caps) σ K
  | _=>False
 | .Lb x,K=>match ev x with
  | .ref key sz i off=>K (.ref key sz i off)
  | .ptr cs=>K (.ptr cs)
  | .fn f cs=>K (.fn f cs)
  | _=>False
 | .c8 zero ok m k,K=>match ev m,ev k with
  | .wD key,.int kk x=>match σ.get key with
   | some o=>o.sz=0/\fX kk o.xV/\K (mB ok zero (nM x o.xV 0))
   | none=>False
  | .oG,.int _ _=>K (mB ok zero none)
  | _,_=>False
 | .vn n zero ok m k,K=>match ev m,ev k with
  | .wD key,.agg cs=>match σ.get key with
   | some o=>o.sz=0/\∃ (x:List Int) (l:List (List Int × D)),(cs=x.map (D.int .i64)/\ o.xV=rE l/\x.length=n/\∀ p ∈ l,p.1.length=n)/\ K (mB ok zero (lS x l 0))
   | none=>False
  | _,_=>False
 | _,_=>False
def Fr.put (f:Fr):Option Nat->D->Fr
 | some t,d=>(t,d) :: f
 | none,_=>f
def zG : List (Nat × Ob)->Nat->Ob->List (Nat × Ob)
 | [],_,_=>[]
 | (j,o) :: r,k,o'=>if j=k then(j,o') :: r else(j,o) :: zG r k o'
def St.set (σ:St) (k:Nat) (o:Ob):St:=⟨σ.nx,zG σ.xZ k o⟩
def St.new (σ:St) (o:Ob):St:=⟨σ.nx+1,(σ.nx,o) :: σ.xZ⟩
def yO : List (Nat × Ob)->Nat->List (Nat × Ob)
 | [],_=>[]
 | (j,o) :: r,k=>if j=k then yO r k else(j,o) :: yO r k
def St.erase (σ:St) (k:Nat):St:=⟨σ.nx,yO σ.xZ k⟩
def uX (cs:List D):Bool:=cs.all D.one
def rowsOf (σ:St) (sz:Nat):D->Option (List (List D))
 | .sl sz' xV=>if sz=sz' then some xV else none
 | .xL=>some []
 | .emp=>some []
 | .yD key sz' n=>if sz=sz' then(match σ.get key with | some o=>if o.sz=sz/\n<=o.xV.length then some (o.xV.take n) else none | none=>none) else none
 | _=>none
def qZ (C:Cx) (σ:St) (ev:tS->D) (k:DK) (K:D->St->Prop):Prop:=
 match k with
 | .box x=>match (ev x).cells with
  | some cs=>uX cs=true/\0<cs.length/\K (.ref σ.nx cs.length 0 0) (σ.new ⟨cs.length,[cs]⟩)
  | none=>False
 | .alloc zero=>uX zero=true/\0<zero.length/\K (.ref σ.nx zero.length 0 0) (σ.new ⟨zero.length,[zero]⟩)
 | .store n a x=>match ev a,(ev x).cells with
  | .ref key sz i off,some ds=>match σ.get key with
   | some ob=>ob.sz=sz/\i<ob.xV.length/\ds.length=n/\off+n<=sz/\uX ds=true/\K .rK (σ.set key ⟨sz,ob.xV.set i (jM (ob.xV.getD i []) off ds)⟩)
   | none=>False
  | _,_=>False
 | .app sz bytes x y=>match rowsOf σ sz (ev y) with
  | none=>False
  | some rows=>(∀ r ∈ rows,uX r=true)/\ match ev x with
   | .xL=>rows.length*bytes<=140737488355328/\rows.length<=8000000000000/\(rows = []->K .xL σ)/\ (rows ≠ []->K (.yD σ.nx sz rows.length) (σ.new ⟨sz,rows⟩))
   | .yD key sz' n=>match σ.get key with
    | some ob=>sz=sz'/\ob.sz=sz/\n<=ob.xV.length/\(n+rows.length)* bytes<=140737488355328/\n+rows.length<=8000000000000 /\
     K (.yD σ.nx sz (n+rows.length)) ((σ.erase key).new ⟨sz,ob.xV.take n++rows⟩)
    | none=>False
   | .sub key sz' lo n=>match σ.get key with
    | some ob=>C.own.contains 77777=true/\sz=sz'/\ob.sz=sz/\lo+n<=ob.xV.length/\(n+rows.length)* bytes<=140737488355328/\n+rows.length<=8000000000000 /\
     ∀ pre:List (List D),(pre = []\/pre=ob.xV.take lo)->K (.sub σ.nx sz pre.length (n+rows.length)) ((σ.erase key).new ⟨sz,pre++((ob.xV.drop lo).take n++rows)⟩)
    | none=>False
   | _=>False
 | .fV sz bytes zero len cap=>match ev len,ev cap with
  | .int .i64 n,.int .i64 m=>n=m/\0<=n/\bytes*n<=281474976710656/\uX zero=true/\K (.yD σ.nx sz n.toNat) (σ.new ⟨sz,List.replicate n.toNat zero⟩)
  | _,_=>False
 | .kB sz len zero parts=>match vj sz (List.replicate len zero) (parts.map λp=>(p.1,ev p.2)) with
  | some es=>(∀ e ∈ es,uX e=true)/\ K (.yD σ.nx sz len) (σ.new ⟨sz,es⟩)
  | none=>False
 | .V7 zero x=>match ev x with
  | .xL=>K (.wH []) σ
  | .emp=>K (.wH []) σ
  | .yD key sz n=>match σ.get key with
   | some ob=>sz=1/\ob.sz=1/\0<n/\n<=ob.xV.length/\zero.one=true/\K (.wH []) (σ.set key ⟨1,List.replicate n [zero]++ob.xV.drop n⟩)
   | none=>False
  | .sub key sz lo n=>match σ.get key with
   | some ob=>sz=1/\ob.sz=1/\0<n/\lo+n<=ob.xV.length/\zero.one=true/\K (.wH []) (σ.set key ⟨1,ob.xV.take lo++(List.replicate n [zero]++ob.xV.drop (lo+n))⟩)
   | none=>False
  | _=>False
 | .call fn args=>match ev fn with
  | .fn g caps=>Xv C.P g (args.map ev++caps) σ K
  | _=>False
 | .Zl x y=>match rowsOf σ 1 (ev y) with
  | none=>False
  | some rows=>(∀ r ∈ rows,uX r=true)/\ match ev x with
   | .yD key sz n=>match σ.get key with
    | some ob=>sz=1/\ob.sz=1/\n<=ob.xV.length/\0<min n rows.length/\K (.int .i64 ((min n rows.length:Nat):Int)) (σ.set key ⟨1,rows.take (min n rows.length)++ ob.xV.drop (min n rows.length)⟩)
    | none=>False
   | .sub key sz lo n=>match σ.get key with
    | some ob=>sz=1/\ob.sz=1/\lo+n<=ob.xV.length/\0<min n rows.length/\K (.int .i64 ((min n rows.length:Nat):Int)) (σ.set key ⟨1,ob.xV.take lo++(rows.take (min n rows.length)++ ob.xV.drop (lo+min n rows.length))⟩)
    | none=>False
   | _=>False
 | .j7=>K (.wD σ.nx) (σ.new ⟨0,[]⟩)
 | .bM m k x=>match ev m,ev k with
  | .wD key,.int kk y=>match σ.get key with
   | some o=>o.sz=0/\fX kk o.xV/\K .rK (σ.set key ⟨0,re kk o.xV y (ev x)⟩)
   | none=>False
  | _,_=>False
 | .jH n m k x=>match ev m,ev k with
  | .wD key,.agg cs=>match σ.get key with
   | some o=>o.sz=0/\∃ (y:List Int) (l:List (List Int × D)),(cs=y.map (D.int .i64)/\ o.xV=rE l/\(y.length=n/\∀ p ∈ l,p.1.length=n))/\ K .rK (σ.set key ⟨0,rE (aB y (ev x) l)⟩)
   | none=>False
  | _,_=>False
 | .tw zero m k=>match ev m,ev k with
  | .wD key,.int kk y=>match σ.get key with
   | some o=>o.sz=0/\fX kk o.xV/\o.xV.length<=1000000000/\(match nM y o.xV 0 with
    | some (i,d)=>K (.wH [d,.int .i64 i]) (σ.set key ⟨0,o.xV⟩)
    | none=>K (.wH [zero,.int .i64 o.xV.length]) (σ.set key ⟨0,o.xV ++ [[.int kk y,zero]]⟩))
   | none=>False
  | _,_=>False
 | .tv m s x=>match ev m,ev s with
  | .wD key,.int _ i=>match σ.get key with
   | some o=>o.sz=0/\0<=i/\i<o.xV.length/\(∃ kk y d,o.xV.getD i.toNat [] = [.int kk y,d]/\K .rK (σ.set key ⟨0,o.xV.set i.toNat [.int kk y,ev x]⟩))
   | none=>False
  | _,_=>False
 | k=>pW C σ ev k λd=>K d σ
def N6 (C:Cx) (o:yY) (f:Fr) (σ:St) (K:Fr->St->Prop):Prop:=qZ C σ (pI f) o.k λd σ'=>K (f.put o.dst d) σ'
def zY (o:yY) (f:Fr) (yes no:Prop):Prop:=
 match o.guard with
 | none=>yes
 | some (j,want)=>match f.get j with
  | .bool b=>if b=want then yes else no
  | .rK=>no
  | _=>False
def rI (C:Cx):List yY->Fr->St->(Fr->St->Prop)->Prop
 | [],f,σ,K=>K f σ
 | o :: rest,f,σ,K=>zY o f (N6 C o f σ λf σ=>rI C rest f σ K) (rI C rest (f.put o.dst .rK) σ K)
def uW (C:Cx) (σ:St):List yY->Fr->(Fr->Prop)->Prop
 | [],f,K=>K f
 | o :: rest,f,K=>zY o f (pW C σ (pI f) o.k λd=>uW C σ rest (f.put o.dst d) K) (uW C σ rest (f.put o.dst .rK) K)
structure Env where
 w0:World
 M0:Nat->Prop
 K0:Nat->Prop
 ι0:Nat->Nat
 B:Nat
def Marks (B:Nat) (a:Act) (w:World):Prop:=B<=w.heap.size/\∃ l:List Nat,a.defers=l.map (λD=>{ target:=.collected D,args:=#[] })/\ l.Nodup/\∀ D ∈ l,w.heap[D]?=some (Obj.deferred (some []))/\ B<=D
theorem Marks.zL {B:Nat} {a a':Act} {w w':World} (h:Marks B a w) (ha:a'.defers=a.defers) (hs:w.heap.size<=w'.heap.size) (hk:∀ D:Nat,w.heap[D]?=some (Obj.deferred (some []))->w'.heap[D]?=some (Obj.deferred (some []))):Marks B a' w':=
 let ⟨h0,l,h1,h2,h3⟩:=h
 ⟨δ h0 hs,l,ha.trans h1,h2,λD hD=>⟨hk D (h3 D hD).1,(h3 D hD).2⟩⟩
theorem Marks.none {B:Nat} {a:Act} {w:World} (h:a.defers = []) (hB:B<=w.heap.size):Marks B a w:=⟨hB,[],h,.nil,λD hD=>by cases hD⟩
theorem Kept.mark {w w':World} {K:Nat->Prop} {D:Nat} {o:Obj} (hk:Kept w w' K) (hn:¬ K D) (h:w.heap[D]?=some o):w'.heap[D]?=some o:=(hk.block D (Array.getElem?_eq_some_iff.1 h).1 hn).trans h
theorem wL.xu {M0:Nat->Prop} {w:World} {σ:St} {ι:Nat->Nat} (hS:wL M0 w σ ι) {D:Nat} {x:Option (List Deferred)} (h:w.heap[D]?=some (Obj.deferred x)):¬ Own ι σ D:=by
 rintro ⟨k,o,hk,rfl⟩
 rcases(hS.holds k o hk).2 with ⟨_,cur,e,h1,_⟩ | ⟨_,es,h1,_⟩
 ·rw [h] at h1; cases h1
 ·rw [h] at h1; cases h1
structure yJ (C : Cx) (E : Env) (a : Act) (w : World) (f : Fr) (σ : St) (ι : Nat -> Nat) : Prop where
 size:a.tmps.size=C.N
 defers:Marks E.B a w
 nx:C.n0<=σ.nx
 kept:Kept E.w0 w E.K0
 mI:wL E.M0 w σ ι
 oJ:∀ b,E.M0 b->b<E.w0.heap.size
 qO:∀ k o,σ.get k=some o->E.w0.heap.size<=ι k\/E.K0 (ι k)
 stay:∀ k,k<C.n0->ι k=E.ι0 k
 fr:Po (zN E.M0 ι σ) w ι σ.nx a.tmps f
def Good (C:Cx) (E:Env) (a:Act) (w:World) (f:Fr) (σ:St):Prop:=∃ ι,yJ C E a w f σ ι
def TA (C:Cx) (pre:List yY) (dst:Option Nat) (mid:List yY) (un:Bool) (f:Fr) (σ:St) (K:Fr->St->Prop) (f1:Fr) (d:D) (σ1:St):Prop:= uW C σ1 pre f (λg=>g=f1)/\ uW C σ1 mid (f1.put dst d) λf2=>(if un=true then uW C σ mid (f1.put dst d) (λg=>g=f2) else True)/\ K f2 σ1
def wpS (C:Cx) (dc:DC) (f:Fr) (σ:St) (Q:Exit->Fr->St->Prop):Prop:= ∀ code,sL C.P C.N C.own code=some dc->∀ E a w,Good C E a w f σ->code.wpIn C.F 0 C.P (λe a' w'=>∃ f' σ',Good C E a' w' f' σ'/\Q e f' σ') a w
def jJ (next:Fr->St->Prop) (Q:Exit->Fr->St->Prop):Exit->Fr->St->Prop
 | .normal,f,σ=>next f σ
 | e,f,σ=>Q e f σ
def lT (id:Nat) (Q:Exit->Fr->St->Prop):Exit->Fr->St->Prop
 | .exit i,f,σ=>if i=id then Q .normal f σ else Q (.exit i) f σ
 | e,f,σ=>Q e f σ
def qo (C:Cx) (it:Nat) (m:tS) (out nx more next pair:Nat) (rest:List yY) (code:DC) (f:Fr) (σ:St) (Q:Exit->Fr->St->Prop):Prop:=
 ∃ key xV,C.rd=none/\pI f m = .wD key/\σ.get key=some ⟨0,xV⟩/\ ∀ b:Nat,∃ I:List Nat->Fr->St->Prop,(∃ f1 σ1,(∀ E a w,Good { C with n0:=max C.n0 (key+1) } E a w (f.put (some it) (.j8 b)) σ->Good { C with n0:=max C.n0 (key+1) } E a w f1 σ1)/\ I [] f1 σ1)/\
  (∀ seen f σ,I seen f σ->f.get it = .j8 b/\σ.get key=some ⟨0,xV⟩)/\
  ∀ seen f σ,I seen f σ->seen.Nodup->(∀ j ∈ seen,j<xV.length) ->
   (seen.length=xV.length->Q .normal ((f.put (some nx) .top).put (some more) .top) σ)/\
   ∀ i,i<xV.length->i ∉ seen->rI { C with n0:=max C.n0 (key+1) } rest (((f.put (some nx) .top).put (some more) .top).put (some pair) (.wH (xV.getD i []))) σ λf σ=>wpS { C with n0:=max C.n0 (key+1) } code f σ (lT next (jJ (I (seen ++ [i])) (lT out Q)))
def yh (C:Cx):DC->Fr->St->(Exit->Fr->St->Prop)->Prop
 | .TK ..,_,_,_=>False
 | .TI ..,_,_,_=>False
 | .TG ..,_,_,_=>False
 | .vp pre it m out nx more next pair rest code,f,σ,Q=>rI C pre f σ λf σ=>qo C it m out nx more next pair rest code f σ Q
 | .skip,f,σ,Q=>Q .normal f σ
 | .qC pre post,f,σ,Q=>uW C σ pre f λf=>rI C post f σ λf σ=>Q .normal f σ
 | .ba pre m mid un post,f,σ,Q=>uW C σ pre f λf1=>qZ C σ (pI f1) m.k λd σ1=>TA C pre m.dst mid un f σ (λf σ=>rI C post f σ λf σ=>Q .normal f σ) f1 d σ1
 | .j0 pre m1 mid1 m2 mid2 post,f,σ,Q=>uW C σ pre f λf1=>qZ C σ (pI f1) m1.k λd1 σ1=>uW C σ1 pre f (λg=>g=f1)/\ uW C σ1 mid1 (f1.put m1.dst d1) λf2=>qZ C σ1 (pI f2) m2.k λd2 σ2=> uW C σ2 pre f (λg=>g=f1)/\ uW C σ2 mid1 (f1.put m1.dst d1) (λg=>g=f2)/\ uW C σ2 mid2 (f2.put m2.dst d2) λf3=>rI C post f3 σ2 λf σ=>Q .normal f σ
 | .seq a b,f,σ,Q=>yh C a f σ (jJ (λf σ=>yh C b f σ Q) Q)
 | .cond c a b,f,σ,Q=>match pI f c with
  | .bool t=>if t=true then yh C a f σ Q else yh C b f σ Q
  | _=>False
 | .block id c,f,σ,Q=>yh C c f σ (lT id Q)
 | .loop c,f,σ,Q=>wpS C (.loop c) f σ Q
 | .ub g ps a c,f,σ,Q=>wpS C (.ub g ps a c) f σ Q
 | .bN pre m1 mid1 m2 mid2 post free,f,σ,Q=>wpS C (.bN pre m1 mid1 m2 mid2 post free) f σ Q
 | .aJ pre m mid un post fl,f,σ,Q=>wpS C (.aJ pre m mid un post fl) f σ Q
 | .exit id,f,σ,Q=>Q (.exit id) f σ
 | .ret,f,σ,Q=>Q .ret f σ
@[congr] theorem LZ {C : Cx} {dc : DC} {f f' : Fr} {σ : St} {Q : Exit -> Fr -> St -> Prop} (h : f = f') : wpS C dc f σ Q = wpS C dc f' σ Q := by rw [h]
@[congr] theorem NA {P : Program} {g : FuncId} {args args' : List D} {σ : St} {K : D -> Prop} (h : args = args') : aD P g args σ K = aD P g args' σ K := by rw [h]
@[congr] theorem NB {P : Program} {g : FuncId} {args args' : List D} {σ : St} {K : D -> St -> Prop} (h : args = args') : Xv P g args σ K = Xv P g args' σ K := by rw [h]
theorem aD.go {P:Program} {g:FuncId} {args:List D} {σ:St} {K:D->Prop} {d:D} (h:xP P g args σ d σ) (hk:K d):aD P g args σ K:=⟨d,h,hk⟩
theorem Xv.go {P:Program} {g:FuncId} {args:List D} {σ:St} {K:D->St->Prop} {d:D} {σ':St} (h:xP P g args σ d σ') (hk:K d σ'):Xv P g args σ K:=⟨d,σ',h,hk⟩
end Go.Pd
namespace Go.Pd
open Go
variable [tR]
section inv
variable {M : Nat -> Prop} {w : World} {ι : Nat -> Nat} {n : Nat} {v : Value}
theorem R.zE {k:IntKind} {x:Int} (h:R M w ι n v (.int k x)):v = .int k x/\k.min<=x/\x<=k.max:=by cases h with | pure h=>cases h with | int h=>exact⟨rfl,h⟩
theorem R.lM {b:Bool} (h:R M w ι n v (.bool b)):v = .bool b:=by cases h with | pure h=>cases h; rfl
theorem R.tI (h:R M w ι n v .xL):v = .slice none 0 0:=by cases h with | pure h=>cases h; rfl
theorem R.dC (h:R M w ι n v .emp):∃ a cap,v = .slice (some a) 0 cap:=by cases h with | pure h=>cases h; exact⟨_,_,rfl⟩
theorem R.PE (h:R M w ι n v .rK):v=undef:=by cases h with | pure h=>cases h; rfl
theorem R.sX {key sz i off:Nat} (h:R M w ι n v (.ref key sz i off)):v = .pointer (some ⟨ι key,i*sz+off,none⟩)/\ key<n/\0<sz:=by
 cases h with
 | pure h=>cases h
 | ref hk h0=>exact⟨rfl,hk,h0⟩
theorem R.nG {key:Nat} (h:R M w ι n v (.wD key)):v = .map (some (ι key))/\ key<n:=by
 cases h with
 | pure h=>cases h
 | wD hk=>exact⟨rfl,hk⟩
theorem R.Qw (h:R M w ι n v .oG):v = .map none:=by cases h with | pure h=>cases h; rfl
theorem R.rM {key sz len:Nat} (h:R M w ι n v (.yD key sz len)) :
  ∃ (cap:Nat) (cur:Array Value) (e:TypeId),v = .slice (some ⟨ι key,0,none⟩) len cap/\key<n/\len<=cap/\cap<=maxLen/\w.heap[ι key]?=some (Obj.cells cur e (0,0))/\ cap*sz=cur.size:=by
 cases h with
 | pure h=>cases h
 | yD hk h1 h2 h3 h4=>exact⟨_,_,_,rfl,hk,h1,h2,h3,h4⟩
theorem R.kY {key sz lo len:Nat} (h:R M w ι n v (.sub key sz lo len)) :
  ∃ (cap off:Nat) (cur:Array Value) (e:TypeId),v = .slice (some ⟨ι key,off,none⟩) len cap/\key<n/\len<=cap/\cap<=maxLen/\w.heap[ι key]?=some (Obj.cells cur e (0,0))/\ (cap=0\/(off=lo*sz/\(lo+cap)* sz=cur.size)):=by
 cases h with
 | pure h=>cases h
 | sub hk h1 h2 h3 h4=>exact⟨_,_,_,_,rfl,hk,h1,h2,h3,h4⟩
theorem R.oZ {cs:List D} (h:R M w ι n v (.ptr cs)):∃ (b off:Nat) (vs:Nat->Value),v = .pointer (some ⟨b,off,none⟩)/\ 0<cs.length/\¬ M b/\(∀ j,j<cs.length->w.cell? ⟨b,off+j,none⟩= some (vs j))/\ ∀ j,j<cs.length->RP M w (vs j) (cs.getD j .top):=by cases h with | pure h=>cases h with | ptr vs hs hM hc hr=>exact⟨_,_,vs,rfl,hs,hM,hc,hr⟩
theorem R.bF {sz:Nat} {xV:List (List D)} (h:R M w ι n v (.sl sz xV)) :
  (∃ a cap,v = .slice a 0 cap/\xV = []/\(a=none->cap=0))\/∃ (b off cap:Nat) (vs:Nat->Nat->Value),v = .slice (some ⟨b,off,none⟩) xV.length cap/\0<sz/\¬ M b/\xV.length<=cap/\cap<=maxLen/\(∀ e ∈ xV,e.length=sz)/\
   (∀ i,i<xV.length->∀ j,j<sz->w.cell? ⟨b,off+i*sz+j,none⟩= some (vs i j))/\ ∀ i,i<xV.length->∀ j,j<sz->RP M w (vs i j) ((xV.getD i []).getD j .top):=by
 cases h with
 | pure h=>
  cases h with
  | kd a cap sz h=>exact .inl ⟨a,cap,rfl,rfl,h⟩
  | sl vs hs hM hc hm hl hcell hr=>exact .inr ⟨_,_,_,vs,rfl,hs,hM,hc,hm,hl,hcell,hr⟩
theorem R.xk {cs:List D} (h:R M w ι n v (.agg cs)):∃ vs:Array Value,v = .agg vs/\vs.size=cs.length/\∀ j,j<cs.length->R M w ι n (vs.getD j undef) (cs.getD j .top):=by
 cases h with
 | pure h=>cases h with | agg hl hr=>exact⟨_,rfl,hl,λj hj=>.pure (hr j hj)⟩
 | agg hl hr=>exact⟨_,rfl,hl,hr⟩
theorem R.z8 {cs:List D} (h:R M w ι n v (.wH cs)):∃ vs:Array Value,v = .tuple vs/\vs.size=cs.length/\∀ j,j<cs.length->R M w ι n (vs.getD j undef) (cs.getD j .top):=by
 cases h with
 | pure h=>cases h with | wH hl hr=>exact⟨_,rfl,hl,λj hj=>.pure (hr j hj)⟩
 | wH hl hr=>exact⟨_,rfl,hl,hr⟩
theorem R.bD {f:FuncId} {cs:List D} (h:R M w ι n v (.fn f cs)):∃ vs:Array Value,v = .func (.func f) #[] vs/\vs.size=cs.length/\∀ j,j<cs.length->R M w ι n (vs.getD j undef) (cs.getD j .top):=by
 cases h with
 | pure h=>cases h with | fn hl hr=>exact⟨_,rfl,hl,λj hj=>.pure (hr j hj)⟩
 | fn hl hr=>exact⟨_,rfl,hl,hr⟩
end inv
theorem ZB (k:IntKind) (x:Int):k.min<=k.wrap x/\k.wrap x<=k.max:=by cases k <;> simp [IntKind.min,IntKind.max,IntKind.wrap,IntKind.signed,IntKind.bits] <;> (try split) <;> omega
theorem RP.wrap {M:Nat->Prop} {w:World} (k:IntKind) (x:Int):RP M w (.int k (k.wrap x)) (.int k (k.wrap x)):=.int (ZB k x)
theorem WZ {k:IntKind} {x:Int} (h:k.min<=x/\x<=k.max) (m:Nat):k.min<=x.fdiv (2 ^ m)/\ x.fdiv (2 ^ m)<=k.max:=by
 have h2:(0:Int)<2 ^ m:=Int.pow_pos (by decide);have e:x.fdiv (2 ^ m)= x / 2 ^ m:=Int.fdiv_eq_ediv_of_nonneg _ (Int.le_of_lt h2);rw [e];have hle:∀ y:Int,0<=y->y / 2 ^ m<=y:=λy hy=>Int.ediv_le_self _ hy;have h1:(1:Int)<=2 ^ m:=h2
 constructor
 ·by_cases hx:0<=x
  ·have:=Int.ediv_nonneg hx (Int.le_of_lt h2);have hm:k.min<=0:=by cases k <;> decide
   omega
  ·have:x<=x / 2 ^ m:=by refine(Int.le_ediv_iff_mul_le h2).2 ?_;have:=Int.mul_le_mul_of_nonpos_left (show x<=0 by omega) h1;omega
   omega
 ·by_cases hx:0<=x
  ·have:=hle x hx; omega
  ·have:x / 2 ^ m<0:=Int.ediv_neg_of_neg_of_pos (by omega) h2;have hm:0<=k.max:=by cases k <;> decide
   omega
theorem Z7 {k:IntKind} {x y:Int} (h:k.min<=x/\x<=k.max):k.min<=x.tmod y/\x.tmod y<=k.max:=by
 have hm:k.min<=0:=by cases k <;> decide
 have hM:0<=k.max:=by cases k <;> decide
 rcases Int.le_total 0 x with hx | hx
 ·have h1:=Int.tmod_nonneg y hx
  have h2:x.tmod y<=x:=by have:=Int.natAbs_tmod x y;have h3:=Nat.mod_le x.natAbs y.natAbs;omega
  omega
 ·have h1:x.tmod y<=0:=by have:=Int.tmod_nonneg (a:=-x) y (by omega);rw [Int.neg_tmod] at this;omega
  have h2:x<=x.tmod y:=by have:=Int.natAbs_tmod x y;have h3:=Nat.mod_le x.natAbs y.natAbs;omega
  omega
theorem cY {M:Nat->Prop} {w:World} {v:Value} {d:D} (h:D.leaf v=some d):RP M w v d:=by
 unfold D.leaf at h;split at h <;> simp at h <;> (try subst h) <;> try constructor
 obtain⟨h1,rfl⟩:=h;exact .int h1
theorem Y3 {vs:Array Value} {j:Nat} {v:Value} (h:vs.toList[j]?=some v):vs.getD j undef=v:=by
 have h':vs[j]?=some v:=by simpa using h
 simp [h']
theorem gL {M:Nat->Prop} {w:World} {v:Value} {d:D} (h:D.ofValue v=some d):RP M w v d:=by
 unfold D.ofValue at h
 split at h
 ·rename_i cs;simp at h;obtain⟨ds,h1,rfl⟩:=h;obtain⟨hl,hg⟩:=uT h1;refine .agg (by simpa using hl.symm) λj hj=>?_;have hj':j<cs.toList.length:=by omega
  obtain⟨b,hb,hf⟩:=hg j _ (η hj');have e1:ds.getD j .top=b:=by simp [List.getD,hb]
  rw [e1,Y3 (η hj')];exact cY hf
 ·exact cY h
theorem mF {M:Nat->Prop} {w:World} {ι:Nat->Nat} {n N:Nat} {a:Act} {f:Fr} (hf:Po M w ι n a.tmps f) {x:Operand} {y:tS} (h:yU N x=some y):R M w ι n (a.eval x) (pI f y):=by
 cases x with
 | tmp t=> simp [yU] at h;obtain⟨_,rfl⟩:=h;exact hf t
 | const v=> simp [yU] at h;obtain⟨d,hd,rfl⟩:=h;exact .pure (gL hd)
 | func f=> simp [yU] at h;subst h;exact .pure (.fn (by simp) (by simp))
 | global g=>simp [yU] at h
end Go.Pd
namespace Go.Pd
open Go
variable [tR]
theorem tX {P:Program} {o:Oper} {a:Act} {w w':World} {next:Act->World->Prop} {Q:Exit->Act->World->Prop} {v:Value}
  (hx:(execOp a.eval o).run P w = .ok (.value v) w') (hn:next (a.put o.dst v) w'):o.wp P a w next Q:=by
 unfold Oper.wp; rw [hx]; exact hn
section
variable {P : Program} {N : Nat} {o : Oper} {a : Act} {w : World} {M : Nat -> Prop} {ι : Nat -> Nat} {n : Nat}
def Yields (P:Program) (o:Oper) (a:Act) (w:World) (v:Value):Prop:=(execOp a.eval o).run P w = .ok (.value v) w
theorem Ko {op:BinOp} {t u:TypeId} {x y:Operand} (ho:o.op = .binOp op t x y u) {k k':IntKind} {p q:Int} (hx:a.eval x = .int k p) (hy:a.eval y = .int k' q)
  (hp:k.min<=p/\p<=k.max) {K:D->Prop} (h:nN op k p k' q K):∃ v d,Yields P o a w v/\K d/\∀ M,RP M w v d:=by
 unfold Yields;cases op <;> simp only [nN] at h
 case shl=>
  refine⟨_,_,?_,h.2,λM=>RP.wrap _ _⟩;have h0:¬ q<0:=by have:=h.1; omega
  simp [execOp,ho,hx,hy,eqGuard,binOp,Op.shift,h0,ju]
 case shr=>
  refine⟨_,_,?_,h.2,λM=>RP.int (WZ hp _)⟩;have h0:¬ q<0:=by have:=h.1; omega
  simp [execOp,ho,hx,hy,eqGuard,binOp,Op.shift,h0,bc]
 case quo=> obtain⟨rfl,h1,h2⟩:=h;refine⟨_,_,?_,h2,λM=>RP.wrap _ _⟩;simp [execOp,ho,hx,hy,eqGuard,binOp,Op.intDiv,h1]
 case rem=> obtain⟨rfl,h1,h2⟩:=h;refine⟨_,_,?_,h2,λM=>RP.int (Z7 hp)⟩;simp [execOp,ho,hx,hy,eqGuard,binOp,Op.intDiv,h1]
 all_goals
  obtain⟨rfl,h2⟩:=h;refine⟨_,_,?_,h2,λM=>by first | exact RP.wrap _ _ | exact RP.bool _⟩;simp [execOp,ho,hx,hy,eqGuard,binOp,Op.intArith,Op.intBits,Op.intCmp,tB]
theorem aq {x:Operand} (ho:o.op = .move x\/o.op = .assign x):Yields P o a w (a.eval x):=by rcases ho with ho | ho <;> simp [Yields,execOp,ho]
theorem jd {x:Operand} (ho:o.op = .nilCheck x) {v:Value} (hx:a.eval x=v) (hv:(∃ b,v = .pointer (some b))\/∃ f vs,v = .func (.func f) #[] vs):Yields P o a w v:=by rcases hv with ⟨b,rfl⟩ | ⟨f,vs,rfl⟩ <;> simp [Yields,execOp,ho,hx]
theorem Sl {c x y:Operand} (ho:o.op = .pick c x y) {t:Bool} (hc:a.eval c = .bool t):Yields P o a w (if t then a.eval x else a.eval y):=by simp [Yields,execOp,ho,hc,asBool]
theorem l6 (d:Nat) {t:TypeId} (ht:P.underlying t=some .bool) (b c:Bool):(Op.equalIn (d+1) t (.bool b) (.bool c)).run P w = .ok (b==c) w:=by simp [Op.equalIn,run_underlying ht]
theorem WS {t:TypeId} (ht:P.underlying t=some .bool) (b c:Bool):(Op.equal t (.bool b) (.bool c)).run P w = .ok (b==c) w:=l6 9999 ht b c
theorem jf (d:Nat) {t e:TypeId} (ht:P.underlying t=some (.slice e)) {ax ay:Option Addr} {lx ly cx cy:Nat} (hn:ax=none\/ay=none) :
  (Op.equalIn (d+1) t (.slice ax lx cx) (.slice ay ly cy)).run P w = .ok (ax.isNone&&ay.isNone) w:=by
 rcases hn with rfl | rfl <;> (try cases ax) <;> (try cases ay) <;> simp [Op.equalIn,run_underlying ht]
theorem Zx {t e:TypeId} (ht:P.underlying t=some (.slice e)) {ax ay:Option Addr} {lx ly cx cy:Nat} (hn:ax=none\/ay=none) :
  (Op.equal t (.slice ax lx cx) (.slice ay ly cy)).run P w = .ok (ax.isNone&&ay.isNone) w:=jf 9999 ht hn
theorem Kn {op:BinOp} {t u:TypeId} {x y:Operand} (ho:o.op = .binOp op t x y u) (hop:op = .eql\/op = .neq) (ht:P.underlying t=some .bool) {b c:Bool} (hx:a.eval x = .bool b) (hy:a.eval y = .bool c) :
  Yields P o a w (.bool (if op = .neq then b != c else b==c)):=by
 rcases hop with rfl | rfl <;> simp [Yields,execOp,ho,hx,hy,eqGuard,binOp,WS ht] <;> (try (cases b <;> cases c <;> rfl))
theorem eG {op:BinOp} {t u e:TypeId} {x y:Operand} (ho:o.op = .binOp op t x y u) (hop:op = .eql\/op = .neq) (ht:P.underlying t=some (.slice e)) {ax ay:Option Addr} {lx ly cx cy:Nat}
  (hx:a.eval x = .slice ax lx cx) (hy:a.eval y = .slice ay ly cy) (hn:ax=none\/ay=none) :
  Yields P o a w (.bool (if op = .neq then !(ax.isNone&&ay.isNone) else ax.isNone&&ay.isNone)):=by
 rcases hop with rfl | rfl <;> simp [Yields,execOp,ho,hx,hy,eqGuard,binOp,Zx ht hn]
theorem Kv {t:TypeId} {x:Operand} (ho:o.op = .unOp .not t x) {b:Bool} (hx:a.eval x = .bool b):Yields P o a w (.bool (!b)):=by simp [Yields,execOp,ho,hx,Op.unary]
theorem Ku {t:TypeId} {x:Operand} (ho:o.op = .unOp .neg t x) {k:IntKind} {p:Int} (hx:a.eval x = .int k p):Yields P o a w (.int k (k.wrap (0-p))):=by simp [Yields,execOp,ho,hx,Op.unary,Op.intArith]
theorem Kp {t:TypeId} {x:Operand} (ho:o.op = .unOp .xor t x) {k:IntKind} {p:Int} (hx:a.eval x = .int k p):Yields P o a w (.int k (tB .xor k (if k.signed then -1 else k.max) p)):=by simp [Yields,execOp,ho,hx,Op.unary,Op.intBits,tB]
theorem Mt {s t:TypeId} {x:Operand} (ho:o.op = .convert s t x) {ks k k':IntKind} (hs:P.underlying s=some (.int ks)) (ht:P.underlying t=some (.int k)) {p:Int} (hx:a.eval x = .int k' p) :
  Yields P o a w (.int k (k.wrap p)):=by
 simp [Yields,execOp,ho,hx,convert,run_underlying hs,run_underlying ht,Conv.intToInt]
theorem W5 {t:TypeId} {x:Operand} {i:Nat} (ho:o.op = .fieldAddr t x i) {fs:Array Field} {f:Field} (ht:P.underlying t=some (.struct fs)) (hf:fs[i]?=some f) {inf:TypeInfo} (hi:P.info? f.type=some inf) (hs:0<inf.size)
  {b off:Nat} (hx:a.eval x = .pointer (some ⟨b,off,none⟩)):Yields P o a w (.pointer (some ⟨b,off+f.offset,none⟩)):=by
 have h0:inf.size≠0:=by omega
 simp [Yields,execOp,ho,hx,Instr.fieldAt,run_underlying ht,hf,Instr.sureAddr,fieldPlace,sizeOf,typeInfo,hi,h0,Addr.add_lit]
theorem cW {t e:TypeId} {x y:Operand} (ho:o.op = .indexAddr t x y) {n:Nat} (ht:P.underlying t=some (.array n e)) {inf:TypeInfo} (hi:P.info? e=some inf) {b off:Nat} {k:IntKind} {p:Int}
  (hx:a.eval x = .pointer (some ⟨b,off,none⟩)) (hy:a.eval y = .int k p) (h0:0<=p) (h1:p<n):Yields P o a w (.pointer (some ⟨b,off+p.toNat*inf.size,none⟩)):=by
 simp [Yields,execOp,ho,hx,hy,Instr.indexAt,asIntOf,Instr.sureAddr,run_underlying ht,sizeOf,typeInfo,hi,h0,h1,Addr.add_lit]
theorem jF {t e:TypeId} {x y:Operand} (ho:o.op = .indexAddr t x y) (ht:P.underlying t=some (.slice e)) {inf:TypeInfo} (hi:P.info? e=some inf) {b off len cap:Nat} {k:IntKind} {p:Int}
  (hx:a.eval x = .slice (some ⟨b,off,none⟩) len cap) (hy:a.eval y = .int k p) (h0:0<=p) (h1:p<len):Yields P o a w (.pointer (some ⟨b,off+p.toNat*inf.size,none⟩)):=by
 simp [Yields,execOp,ho,hx,hy,Instr.indexAt,asIntOf,run_underlying ht,sizeOf,typeInfo,hi,h0,h1,Addr.add_lit]
theorem jc {t e ty:TypeId} {x:Operand} {ts:Array TypeId} (ho:o.op = .call { callee:=.builtin .len,args:=#[x],argTypes:=#[t] }) (ht:P.underlying t=some (.slice e)) {ad:Option Addr} {len cap:Nat}
  (hx:a.eval x = .slice ad len cap):Yields P o a w (.int .i64 len):=by
 simp [Yields,execOp,ho,hx,resolve,invoke,builtin,Builtin.len_,run_underlying ht,goInt]
theorem Ks {ts:Array TypeId} {x y:Operand} (ho:o.op = .call { callee:=.builtin .min,args:=#[x,y],argTypes:=ts }) {k k':IntKind} {p q:Int} (hx:a.eval x = .int k p) (hy:a.eval y = .int k' q) :
  Yields P o a w (.int k (if q<p then q else p)):=by
 simp [Yields,execOp,ho,hx,hy,resolve,invoke,builtin,Builtin.min_,Builtin.min2]
theorem Kr {ts:Array TypeId} {x y:Operand} (ho:o.op = .call { callee:=.builtin .max,args:=#[x,y],argTypes:=ts }) {k k':IntKind} {p q:Int} (hx:a.eval x = .int k p) (hy:a.eval y = .int k' q) :
  Yields P o a w (.int k (if q > p then q else p)):=by
 simp [Yields,execOp,ho,hx,hy,resolve,invoke,builtin,Builtin.max_,Builtin.max2]
theorem xa {P:Program} {t:TypeId} {d:D} (h:zw P t=some d):∃ k e q i z,P.underlying t=some (.map k e)/\ P.underlying k=some (.int q)/\ P.info? e=some i/\i.zero=some z/\D.ofValue z=some d:=by
 unfold zw at h
 split at h
 ·rename_i k e ht
  split at h
  ·rename_i q hk;simp only [μ,κ] at h;obtain⟨i,hi,z,hz,hd⟩:=h;exact⟨k,e,q,i,z,ht,hk,hi,hz,hd⟩
  ·simp at h
 ·simp at h
theorem Mu {x:Operand} {i:Nat} (ho:o.op = .extract x i) {vs:Array Value} (hx:a.eval x = .tuple vs) (hi:i<vs.size):Yields P o a w (vs.getD i undef):=by simp [Yields,execOp,ho,hx,Instr.extract,hi]
theorem Kt {f:FuncId} {caps:Array Operand} (ho:o.op = .makeFunc (.func f) #[] caps):Yields P o a w (.func (.func f) #[] (caps.map a.eval)):=by simp [Yields,execOp,ho,Instr.makeFunc]
theorem y9 {t:TypeId} {x:Operand} (ho:o.op = .load t x) {td:TypeDesc} (ht:P.underlying t=some td) (hag:oX P t=some false) {ad:Addr} {v:Value} (hx:a.eval x = .pointer (some ad)) (hc:w.cell? ad=some v) :
  Yields P o a w v:=by
 cases td <;> simp [oX,ht] at hag <;> simp [Yields,execOp,ho,hx,Instr.loadAt,Instr.sureAddr,loadVar,isAgg,run_underlying ht,load,Sem.run,hc]
theorem x7 {t:TypeId} {x:Operand} (ho:o.op = .load t x) {td:TypeDesc} (ht:P.underlying t=some td) (hag:oX P t=some true) {inf:TypeInfo} (hi:P.info? t=some inf) {ad:Addr} {vs:List Value} (hl:vs.length=inf.size)
  (hx:a.eval x = .pointer (some ad)) (hc:∀ j v,vs[j]?=some v->w.cell? (ad.add j)= some v):Yields P o a w (.agg vs.toArray):=by
 have hr:=run_loadCells_list (P:=P) w ad vs hc;rw [hl] at hr;cases td <;> simp [oX,ht] at hag <;> simp [Yields,execOp,ho,hx,Instr.loadAt,Instr.sureAddr,loadVar,isAgg,run_underlying ht,sizeOf,typeInfo,hi,hr]
end
end Go.Pd

/- Part K1. -/
namespace Go.Pd
open Go
def sR (ks:List Int):Value:=.agg (ks.map (Value.int .i64)).toArray
section
variable {P : Program} {w : World}
theorem eu {f:Field} {fs:List Field} {o:Nat} (h:vk P (f :: fs) o=true):f.name ≠ "_"/\f.offset=o/\P.underlying f.type=some (.int .i64)/\ vk P fs (o+1)= true:=by
 unfold vk at h;simp only [Bool.and_eq_true,bne_iff_ne,beq_iff_eq] at h;obtain⟨⟨⟨h1,h2⟩,h3⟩,h4⟩:=h;refine⟨h1,h2,?_,h4⟩
 split at h3
 ·assumption
 ·cases h3
theorem gK {t:TypeId} {ks:List Int} {o:Nat} (ht:P.underlying t=some (.int .i64)) (h:o<ks.length):(part t (ks.map (Value.int .i64)).toArray o).run P w = .ok (.int .i64 (ks.getD o 0)) w:=by
 have e:((ks.map (Value.int .i64)).toArray)[o]?=some (.int .i64 (ks.getD o 0)):=by simp [List.getD,h]
 simp [part,isAgg,run_underlying ht,e]
theorem kF {xs ys:List Int} (d:Nat):∀ (fs:List Field) (o:Nat),vk P fs o=true->xs.length=o+fs.length->ys.length=o+fs.length ->
  (Op.eqFields (d+1) (xs.map (Value.int .i64)).toArray (ys.map (Value.int .i64)).toArray fs).run P w = .ok (decide (xs.drop o=ys.drop o)) w
 | [],o,_,hx,hy=>by rw [θ (by rw [hx]; simp),θ (by rw [hy]; simp)];simp [Op.eqFields]
 | f :: fs,o,h,hx,hy=>by
  obtain⟨h1,h2,h3,h4⟩:=eu h;simp only [ζ] at hx hy;have ih:=kF (xs:=xs) (ys:=ys) d fs (o+1) h4 (by omega) (by omega);have ex:xs.drop o=xs.getD o 0 :: xs.drop (o+1):=by simp [List.getD,show o<xs.length by omega]
  have ey:ys.drop o=ys.getD o 0 :: ys.drop (o+1):=by simp [List.getD,show o<ys.length by omega]
  subst h2;simp only [Op.eqFields,ne_eq,h1,not_false_eq_true,if_true,Sem.run_bind,gK h3 (show f.offset<xs.length by omega),gK h3 (show f.offset<ys.length by omega),Result.andThen_ok,run_equalIn_int w d f.type .i64 .i64 _ _ h3];rw [ex,ey]
  by_cases e:xs.getD f.offset 0=ys.getD f.offset 0
  ·have e1:(xs.getD f.offset 0==ys.getD f.offset 0)= true:=by simpa using e
   rw [e1];simp only [Bool.not_true,Bool.false_eq_true,if_false,List.cons.injEq,e,true_and];exact ih
  ·have e1:(xs.getD f.offset 0==ys.getD f.offset 0)= false:=by simpa using e
   rw [e1];simp only [Bool.not_false,if_true,Sem.run_pure,List.cons.injEq,e,false_and,decide_false]
theorem pa {t:TypeId} {n:Nat} (h:fO P t=some n):∃ fs,P.underlying t=some (.struct fs)/\ vk P fs.toList 0=true/\P.stoodInHeld t=false/\fs.size=n:=by
 unfold fO at h
 split at h
 ·rename_i fs hu
  split at h
  ·rename_i hc;simp only [Bool.and_eq_true,Bool.not_eq_true'] at hc;simp at h;exact⟨fs,hu,hc.1,hc.2,h⟩
  ·cases h
 ·cases h
theorem bU {t:TypeId} {n:Nat} (h:fO P t=some n) {xs ys:List Int} (hx:xs.length=n) (hy:ys.length=n):(Op.equal t (sR xs) (sR ys)).run P w = .ok (decide (xs=ys)) w:=by
 obtain⟨fs,h1,h2,h3,h4⟩:=pa h;have hf:P.fieldsOf t=fs:=by unfold Program.fieldsOf; rw [h1]
 have e:=run_equalIn_struct w 9999 t (xs.map (Value.int .i64)).toArray (ys.map (Value.int .i64)).toArray (by rw [hf]; exact h1) h3;have e2:=kF (P:=P) (w:=w) (xs:=xs) (ys:=ys) 9998 fs.toList 0 h2 (by simp; omega) (by simp; omega);rw [hf] at e;unfold Op.equal sR;rw [show Op.maxDepth=9999+1 from rfl,e,e2];simp
theorem gu {α:Type} {body:α->PUnit->Sem (ForInStep PUnit)}:∀ {l:List α},(∀ f ∈ l,(body f PUnit.unit).run P w = .ok (.yield PUnit.unit) w)->(forIn l PUnit.unit body).run P w = .ok PUnit.unit w
 | [],_=>by simp
 | f :: l,h=>by simp only [List.forIn_cons,Sem.run_bind,h f (by simp),Result.andThen_ok];exact gu λf hf=>h f (by simp [hf])
theorem Tv {fs:List Field}:∀ {o:Nat},vk P fs o=true->∀ f ∈ fs,f.name ≠ "_"/\P.underlying f.type=some (.int .i64)/\ f.offset<o+fs.length:=by
 induction fs with
 | nil=>intro o _ f hf; cases hf
 | cons g fs ih=>
  intro o h f hf;obtain⟨h1,h2,h3,h4⟩:=eu h
  rcases List.mem_cons.1 hf with rfl | hf
  ·exact⟨h1,h3,by rw [h2,ζ]; omega⟩
  ·obtain⟨a,b,c⟩:=ih h4 f hf;exact⟨a,b,by rw [ζ]; omega⟩
theorem vr {t:TypeId} {n:Nat} (h:fO P t=some n) (b:Bool) (m:Nat) {xs:List Int} (hx:xs.length=n):(Instr.checkKey b (m+2) t (sR xs)).run P w = .ok () w:=by
 obtain⟨fs,h1,h2,h3,h4⟩:=pa h;unfold sR;simp only [Instr.checkKey,Sem.run_bind,run_underlying h1,Result.andThen_ok];rw [<- Array.forIn_toList]
 refine(congrArg (λr=>Result.andThen r _) (gu (l:=fs.toList) λf hf=>?_)).trans ?_
 ·obtain⟨g1,g2,g3⟩:=Tv h2 f hf;simp only [ne_eq,g1,not_false_eq_true,if_true,Sem.run_bind,gK g2 (show f.offset<xs.length by rw [hx,<- h4]; simpa using g3),Result.andThen_ok,run_underlying g2,Sem.run_pure]
 ·simp
def pO (x:List Int):List (List Int × Value)->Nat->Option (Nat × Value)
 | [],_=>none
 | (k,v) :: r,i=>if x=k then some (i,v) else pO x r (i+1)
def yL : List (List Int × Value)->Nat->List MapEntry
 | [],_=>[]
 | (k,v) :: r,i=>⟨sR k,v,i⟩ :: yL r (i+1)
theorem lG {t:TypeId} {n:Nat} (h:fO P t=some n) {x:List Int} (hx:x.length=n):∀ (l:List (List Int × Value)) (i j:Nat),(∀ p ∈ l,p.1.length=n)->(Instr.findAsking t (sR x) (yL l j) i).run P w = .ok (pO x l i) w
 | [],i,j,_=>by simp [yL,Instr.findAsking,pO]
 | (k,v) :: r,i,j,hl=>by
  have he:=bU (w:=w) h hx (hl (k,v) (by simp));have ih:=lG h hx r (i+1) (j+1) λp hp=>hl p (by simp [hp]);simp only [yL,Instr.findAsking,pO,Sem.run_bind,he,Result.andThen_ok]
  by_cases e:x=k
  ·rw [decide_eq_true e,if_pos e]; simp
  ·rw [decide_eq_false e,if_neg e]; simpa using ih
theorem mW {t:TypeId} {n:Nat} (h:fO P t=some n) {x:List Int} (hx:x.length=n) (l:List (List Int × Value)) (hl:∀ p ∈ l,p.1.length=n):(Instr.findKey t (sR x) (yL l 0)).run P w = .ok (pO x l 0) w:=by
 obtain⟨fs,h1,h2,h3,h4⟩:=pa h;unfold Instr.findKey;simp only [Sem.run_bind,run_underlying h1,Result.andThen_ok]
 cases l with
 | nil=>simp [yL,Instr.findNow,pO]
 | cons p r=> have:=lG (w:=w) h hx (p :: r) 0 0 hl;obtain⟨k,v⟩:=p;rw [show Instr.findNow (.struct fs) (sR x) (yL ((k,v) :: r) 0) 0=none from rfl];exact this
theorem nU {t:TypeId} {n:Nat} (h:fO P t=some n) (b:Bool) {x:List Int} (hx:x.length=n):(Instr.checkKey b 10000 t (sR x)).run P w = .ok () w:=vr h b 9998 hx
theorem kj {t kt et:TypeId} {n:Nat} (ht:P.underlying t=some (.map kt et)) (h:fO P kt=some n) {inf:TypeInfo} {z:Value} (hi:P.info? et=some inf) (hz:inf.zero=some z) {x:List Int} (hx:x.length=n) {b clock:Nat} {l:List (List Int × Value)} (hl:∀ p ∈ l,p.1.length=n)
  (hb:w.heap[b]?=some (.map (yL l 0).toArray clock)) (ok:Bool) :
  (Instr.lookup t (.map (some b)) (sR x) ok).run P w = .ok (if ok then .tuple #[((pO x l 0).map (·.2)).getD z,.bool (pO x l 0).isSome] else((pO x l 0).map (·.2)).getD z) w:=by
 have hg:(getObj b).run P w = .ok (.map (yL l 0).toArray clock) w:=by simp [getObj,Sem.run,hb]
 have hc:=nU (w:=w) h (yL l 0).isEmpty hx;have hf:=mW (w:=w) h hx l hl
 cases hr:pO x l 0 with
 | none=>rw [hr] at hf; cases ok <;> simp [Instr.lookup,run_underlying ht,hg,hc,hf,zeroValue,typeInfo,hi,hz]
 | some p=>rw [hr] at hf; cases ok <;> simp [Instr.lookup,run_underlying ht,hg,hc,hf]
theorem nX (l:List (List Int × Value)):∀ i,(yL l i).length=l.length:=by
 induction l with
 | nil=>intro i; rfl
 | cons p r ih=>intro i; obtain⟨k,v⟩:=p; simp [yL,ih]
theorem aR (k:List Int) (v:Value):∀ (l:List (List Int × Value)) (i:Nat),yL (l ++ [(k,v)]) i=yL l i ++ [⟨sR k,v,i+l.length⟩]
 | [],i=>rfl
 | (k',v') :: r,i=>by show _ :: yL (r ++ [(k,v)]) (i+1)= _;rw [aR k v r (i+1)];simp [yL,Nat.add_assoc,Nat.add_comm 1]
theorem pc {t:TypeId} {n:Nat} {d:D} (h:c7 P t=some (n,d)):∃ k e i z,P.underlying t=some (.map k e)/\ fO P k=some n/\P.info? e=some i/\i.zero=some z/\D.ofValue z=some d:=by
 unfold c7 at h
 split at h
 ·rename_i k e ht;simp only [zO,Prod.mk.injEq] at h;obtain⟨m,h1,i,h2,z,h3,d',h4,rfl,rfl⟩:=h;exact⟨k,e,i,z,ht,h1,h2,h3,h4⟩
 ·cases h
end
def tK (Rel:Value->D->Prop):List (List Int × Value)->List (List Int × D)->Prop
 | [],[]=>True
 | (k,v) :: r,(k',d) :: r'=>k=k'/\Rel (sR k) (.agg (k.map (D.int .i64)))/\ Rel v d/\tK Rel r r'
 | _,_=>False
theorem tK.len {Rel:Value->D->Prop}:∀ {a:List (List Int × Value)} {b:List (List Int × D)},tK Rel a b->a.length=b.length
 | [],[],_=>rfl
 | (k,v) :: r,(k',d) :: r',h=>by simp [tK.len h.2.2.2]
theorem tK.all {Rel:Value->D->Prop} {n:Nat}:∀ {a:List (List Int × Value)} {b:List (List Int × D)},tK Rel a b->(∀ p ∈ b,p.1.length=n)->∀ p ∈ a,p.1.length=n
 | [],[],_,_,p,hp=>by cases hp
 | (k,v) :: r,(k',d) :: r',h,hb,p,hp=>by
  rcases List.mem_cons.1 hp with rfl | hp
  ·have:=hb (k',d) (by simp);rw [h.1]; exact this
  ·exact tK.all h.2.2.2 (λp hp=>hb p (by simp [hp])) p hp
theorem tK.find {Rel:Value->D->Prop} (x:List Int):∀ {a:List (List Int × Value)} {b:List (List Int × D)} (i:Nat),tK Rel a b->(pO x a i=none/\lS x b i=none)\/∃ j v d,pO x a i=some (j,v)/\ lS x b i=some (j,d)/\ Rel v d
 | [],[],i,_=>.inl ⟨rfl,rfl⟩
 | (k,v) :: r,(k',d) :: r',i,h=>by
  obtain⟨rfl,_,h2,h3⟩:=h;unfold pO lS
  by_cases e:x=k
  ·rw [if_pos e,if_pos e]; exact .inr ⟨i,v,d,rfl,rfl,h2⟩
  ·rw [if_neg e,if_neg e]; exact tK.find x (i+1) h3
theorem tK.snoc {Rel:Value->D->Prop} {x:List Int} {v:Value} {d:D} (hk:Rel (sR x) (.agg (x.map (D.int .i64)))) (hr:Rel v d):∀ {a:List (List Int × Value)} {b:List (List Int × D)},tK Rel a b->tK Rel (a ++ [(x,v)]) (b ++ [(x,d)])
 | [],[],_=>⟨rfl,hk,hr,trivial⟩
 | (k,v') :: r,(k',d') :: r',h=>⟨h.1,h.2.1,h.2.2.1,tK.snoc hk hr h.2.2.2⟩
theorem tK.of {Rel:Value->D->Prop} (hR:∀ v ks,Rel v (.agg (ks.map (D.int .i64)))->v=sR ks):∀ {es:List MapEntry} {l:List (List Int × D)} {i0:Nat},es.length=l.length ->
  (∀ i,i<l.length->∃ (kv v:Value) (x d:D),(rE l).getD i [] = [x,d]/\es[i]?=some ⟨kv,v,i0+i⟩/\ Rel kv x/\Rel v d)->∃ lv,es=yL lv i0/\tK Rel lv l
 | [],[],_,_,_=>⟨[],rfl,trivial⟩
 | e :: es,(ks,d0) :: r,i0,hl,h=>by
  obtain⟨kv,v,x,d,h1,h2,h3,h4⟩:=h 0 (by simp);have h1':[D.agg (ks.map (D.int .i64)),d0] = [x,d]:=h1;simp only [List.cons.injEq,and_true] at h1';obtain⟨rfl,rfl⟩:=h1';have hk:=hR _ _ h3;simp only [List.getElem?_cons_zero,Option.some.injEq,Nat.add_zero] at h2
  obtain⟨lv,e1,e2⟩:=tK.of hR (es:=es) (l:=r) (i0:=i0+1) (by simpa using hl) λi hi=>by
   obtain⟨kv,v,x,d,g1,g2,g3,g4⟩:=h (i+1) (by simpa using hi);refine⟨kv,v,x,d,g1,?_,g3,g4⟩;have:i0+(i+1)= i0+1+i:=by omega
   rw [<- this]; simpa using g2
  exact⟨(ks,v) :: lv,by rw [h2,hk,e1]; rfl,rfl,by rw [<- hk]; exact h3,h4,e2⟩
theorem iX (l:List (List Int × D)):(rE l).length=l.length:=by simp [rE]
theorem tK.get {Rel:Value->D->Prop}:∀ {lv:List (List Int × Value)} {l:List (List Int × D)} {i0:Nat},tK Rel lv l->∀ i,i<l.length->∃ (ks:List Int) (v:Value) (d:D),(rE l).getD i [] = [.agg (ks.map (D.int .i64)),d]/\(yL lv i0)[i]?=some ⟨sR ks,v,i0+i⟩/\ Rel v d/\Rel (sR ks) (.agg (ks.map (D.int .i64)))
 | [],[],_,_,i,hi=>by simp at hi
 | (k,v) :: r,(k',d) :: r',i0,h,i,hi=>by
  obtain⟨rfl,h1,h2,h3⟩:=h
  cases i with
  | zero=>exact⟨k,v,d,rfl,rfl,h2,h1⟩
  | succ i=>
   obtain⟨ks,v',d',g1,g2,g3,g4⟩:=tK.get (i0:=i0+1) h3 i (by simpa using hi);refine⟨ks,v',d',g1,?_,g3,g4⟩;have:i0+(i+1)= i0+1+i:=by omega
   rw [this]; simpa [yL] using g2
end Go.Pd
