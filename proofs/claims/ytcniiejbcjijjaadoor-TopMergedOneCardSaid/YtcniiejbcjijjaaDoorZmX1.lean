/- Part X1. -/
import Derived.Orders
import Derived.StillTail
import Derived.Below
import Derived.Laws.AppendOwn
import Derived.Laws.World
import Derived.WalkKit
import Derived.CallsIn
import Derived.OrdersIn
import Derived.TacticsIn
set_option linter.unusedSectionVars false
set_option linter.unusedVariables false
set_option linter.unusedSimpArgs false
set_option linter.defProp false
open Nat renaming lt_of_lt_of_le->γ,le_trans->δ,le_refl->ε
open Option renaming bind_eq_some_iff->ζ,bind_eq_bind->η
namespace Go.Pd
open Go
def zO := And.intro @η.{0} (And.intro @ζ.{0,0} (And.intro @Option.pure_def.{0} @Option.some.injEq.{0}))
inductive D where
 | top
 | vT
 | int (k:IntKind) (n:Int)
 | bool (b:Bool)
 | str (s:ByteArray)
 | sl (sz:Nat) (xX:List (List D))
 | xB
 | emp
 | agg (cs:List D)
 | yK (vs:List D)
 | fn (f:FuncId) (caps:List D)
 | ref (key sz i off:Nat)
 | yR (key sz len:Nat)
 | sub (key sz lo len:Nat)
 | ptr (cs:List D)
 | yH (key:Nat)
 | rG
 | tC
 | rF
 | lO (b:Nat)
 deriving Inhabited
structure Ob where
 sz:Nat
 xX:List (List D)
 deriving Inhabited
structure St where
 nx:Nat
 xW:List (Nat × Ob)
def St.look : List (Nat × Ob)->Nat->Option Ob
 | [],_=>none
 | (j,o) :: r,k=>if j=k then some o else St.look r k
def St.get (σ:St) (k:Nat):Option Ob:=St.look σ.xW k
abbrev Fr :=List (Nat × D)
def Fr.get : Fr->Nat->D
 | [],_=>.top
 | (t,d) :: r,s=>if t=s then d else Fr.get r s
inductive RP (M : Nat -> Prop) (w : World) : Value -> D -> Prop
 | top (v:Value):RP M w v .top
 | vT:RP M w undef .vT
 | int {k:IntKind} {n:Int} (h:k.min<=n/\n<=k.max):RP M w (.int k n) (.int k n)
 | bool (b:Bool):RP M w (.bool b) (.bool b)
 | str {s:ByteArray} (h:s.size<=maxLen):RP M w (.string s) (.str s)
 | cN (a:Option Addr) (cap sz:Nat) (h:a=none->cap=0):RP M w (.slice a 0 cap) (.sl sz [])
 | emp (a:Addr) (cap:Nat):RP M w (.slice (some a) 0 cap) .emp
 | sl {b off cap sz:Nat} {xX:List (List D)} (vs:Nat->Nat->Value) (hs:0<sz) (hM:¬ M b) (hc:xX.length<=cap) (hm:cap<=maxLen) (hl:∀ e ∈ xX,e.length=sz)
   (hcell:∀ i,i<xX.length->∀ j,j<sz->w.cell? ⟨b,off+i*sz+j,none⟩= some (vs i j))
   (hr:∀ i,i<xX.length->∀ j,j<sz->RP M w (vs i j) ((xX.getD i []).getD j .top)):RP M w (.slice (some ⟨b,off,none⟩) xX.length cap) (.sl sz xX)
 | xB:RP M w (.slice none 0 0) .xB
 | ptr {b off:Nat} {cs:List D} (vs:Nat->Value) (hs:0<cs.length) (hM:¬ M b) (hcell:∀ j,j<cs.length->w.cell? ⟨b,off+j,none⟩= some (vs j))
   (hr:∀ j,j<cs.length->RP M w (vs j) (cs.getD j .top)):RP M w (.pointer (some ⟨b,off,none⟩)) (.ptr cs)
 | agg {vs:Array Value} {cs:List D} (hl:vs.size=cs.length) (hr:∀ j,j<cs.length->RP M w (vs.getD j undef) (cs.getD j .top)):RP M w (.agg vs) (.agg cs)
 | yK {vs:Array Value} {cs:List D} (hl:vs.size=cs.length) (hr:∀ j,j<cs.length->RP M w (vs.getD j undef) (cs.getD j .top)):RP M w (.tuple vs) (.yK cs)
 | fn {f:FuncId} {vs:Array Value} {cs:List D} (hl:vs.size=cs.length) (hr:∀ j,j<cs.length->RP M w (vs.getD j undef) (cs.getD j .top)):RP M w (.func (.func f) #[] vs) (.fn f cs)
 | rG:RP M w (.pointer none) .rG
 | tC:RP M w (.map none) .tC
 | rF:RP M w .nilFunc .rF
 | lO (b:Nat):RP M w (.pointer (some ⟨b,0,none⟩)) (.lO b)
inductive R (M : Nat -> Prop) (w : World) (ι : Nat -> Nat) (n : Nat) : Value -> D -> Prop
 | pure {v:Value} {d:D} (h:RP M w v d):R M w ι n v d
 | ref {key sz i off:Nat} (hk:key<n) (hs:0<sz):R M w ι n (.pointer (some ⟨ι key,i*sz+off,none⟩)) (.ref key sz i off)
 | yR {key sz len cap:Nat} {cur:Array Value} {e:TypeId} (hk:key<n) (h1:len<=cap) (h2:cap<=maxLen) (h3:w.heap[ι key]?=some (Obj.cells cur e (0,0))) (h4:cap*sz=cur.size) :
   R M w ι n (.slice (some ⟨ι key,0,none⟩) len cap) (.yR key sz len)
 | sub {key sz lo len cap off:Nat} {cur:Array Value} {e:TypeId} (hk:key<n) (h1:len<=cap) (h2:cap<=maxLen) (h3:w.heap[ι key]?=some (Obj.cells cur e (0,0))) (h4:cap=0\/(off=lo*sz/\(lo+cap)* sz=cur.size)) :
   R M w ι n (.slice (some ⟨ι key,off,none⟩) len cap) (.sub key sz lo len)
 | yH {key:Nat} (hk:key<n):R M w ι n (.map (some (ι key))) (.yH key)
 | agg {vs:Array Value} {cs:List D} (hl:vs.size=cs.length) (hr:∀ j,j<cs.length->R M w ι n (vs.getD j undef) (cs.getD j .top)):R M w ι n (.agg vs) (.agg cs)
 | yK {vs:Array Value} {cs:List D} (hl:vs.size=cs.length) (hr:∀ j,j<cs.length->R M w ι n (vs.getD j undef) (cs.getD j .top)):R M w ι n (.tuple vs) (.yK cs)
 | fn {f:FuncId} {vs:Array Value} {cs:List D} (hl:vs.size=cs.length) (hr:∀ j,j<cs.length->R M w ι n (vs.getD j undef) (cs.getD j .top)):R M w ι n (.func (.func f) #[] vs) (.fn f cs)
theorem R.top {M:Nat->Prop} {w:World} {ι:Nat->Nat} {n:Nat} (v:Value):R M w ι n v .top:=.pure (.top v)
structure Kept (w w' : World) (K : Nat -> Prop) : Prop where
 os:w'.os=w.os
 tape:w'.tape=w.tape
 output:w'.output=w.output
 size:w.heap.size<=w'.heap.size
 block:∀ b,b<w.heap.size->¬ K b->w'.heap[b]?=w.heap[b]?
 shape:∀ (b:Nat) (cur:Array Value) (e:TypeId),w.heap[b]?=some (Obj.cells cur e (0,0))->∃ cur':Array Value,w'.heap[b]?=some (Obj.cells cur' e (0,0))/\ cur'.size=cur.size
 drawn:w.drawn<=w'.drawn
theorem Kept.refl (w:World) (K:Nat->Prop):Kept w w K:=⟨rfl,rfl,rfl,ε _,λ_ _ _=>rfl,λ_ cur _ h=>⟨cur,h,rfl⟩,ε _⟩
theorem Kept.mono {w w':World} {K K':Nat->Prop} (h:Kept w w' K) (hk:∀ b,b<w.heap.size->K b->K' b):Kept w w' K':=⟨h.os,h.tape,h.output,h.size,λb hb hn=>h.block b hb λhK=>hn (hk b hb hK),h.shape,h.drawn⟩
theorem Kept.trans {w w' w'':World} {K K' K'':Nat->Prop} (h:Kept w w' K) (h':Kept w' w'' K') (h1:∀ b,b<w.heap.size->K b->K'' b) (h2:∀ b,b<w.heap.size->K' b->K'' b):Kept w w'' K'':=
 ⟨h'.os.trans h.os,h'.tape.trans h.tape,h'.output.trans h.output,δ h.size h'.size,
  λb hb hn=>(h'.block b (γ hb h.size) λhk=>hn (h2 b hb hk)).trans (h.block b hb λhk=>hn (h1 b hb hk)),
  λb cur e hc=>let ⟨c1,e1,s1⟩:=h.shape b cur e hc; let ⟨c2,e2,s2⟩:=h'.shape b c1 e e1; ⟨c2,e2,s2.trans s1⟩,δ h.drawn h'.drawn⟩
theorem Kept.below {w w':World} (h:Kept w w' λ_=>False):RowKit.Below w.heap.size w w':=⟨h.os,h.tape,h.output,h.size,λk hk=>h.block k hk id⟩
theorem Kept.alloc (w:World) (o:Obj) (K:Nat->Prop):Kept w (w.alloc o) K:=
 ⟨rfl,rfl,rfl,by show w.heap.size<=(w.heap.push o).size; simp,λb hb _=>heap_alloc_old w o hb,
  λb cur e h=>⟨cur,by rw [heap_alloc_old w o (Array.getElem?_eq_some_iff.1 h).1]; exact h,rfl⟩,ε _⟩
theorem Kept.drew {w w':World} {K:Nat->Prop} (h:Kept w w' K):Kept w w'.drew K:=⟨h.os,h.tape,h.output,h.size,h.block,h.shape,Nat.le_succ_of_le h.drawn⟩
theorem eA {w:World} {a:Addr} {v:Value} (h:w.cell? a=some v):a.block<w.heap.size:=World.block_lt_of_cell? w a h
theorem RP.yX {M M':Nat->Prop} {w w':World} (hb:∀ b,b<w.heap.size->¬ M b->w'.heap[b]?=w.heap[b]?) (hM:∀ b,b<w.heap.size->M' b->M b) {v:Value} {d:D} (h:RP M w v d):RP M' w' v d:=by
 induction h with
 | top v=>exact .top v
 | vT=>exact .vT
 | int h=>exact .int h
 | bool b=>exact .bool b
 | str h=>exact .str h
 | cN a cap sz h=>exact .cN a cap sz h
 | emp a cap=>exact .emp a cap
 | @sl b off cap sz xX vs hs hMb hc hm hl hcell hr ih=>
  rcases Nat.eq_zero_or_pos xX.length with h0 | h0
  ·have:xX = []:=List.eq_nil_of_length_eq_zero h0;subst this;exact .cN _ _ _ (by simp)
  ·have hlt:b<w.heap.size:=eA (hcell 0 h0 0 hs);refine .sl vs hs (λhm'=>hMb (hM b hlt hm')) hc hm hl (λi hi j hj=>?_) ih;rw [World.cell?_of_block (w:=w) (hb b hlt hMb)];exact hcell i hi j hj
 | xB=>exact .xB
 | @ptr b off cs vs hs hMb hcell hr ih=> have hlt:b<w.heap.size:=eA (hcell 0 hs);refine .ptr vs hs (λhm'=>hMb (hM b hlt hm')) (λj hj=>?_) ih;rw [World.cell?_of_block (w:=w) (hb b hlt hMb)];exact hcell j hj
 | agg hl hr ih=>exact .agg hl ih
 | yK hl hr ih=>exact .yK hl ih
 | fn hl hr ih=>exact .fn hl ih
 | rG=>exact .rG
 | tC=>exact .tC
 | rF=>exact .rF
 | lO b=>exact .lO b
theorem R.yX {M M':Nat->Prop} {w w':World} {ι ι':Nat->Nat} {n n':Nat} (hb:∀ b,b<w.heap.size->¬ M b->w'.heap[b]?=w.heap[b]?) (hM:∀ b,b<w.heap.size->M' b->M b)
  (hs:∀ (b:Nat) (cur:Array Value) (e:TypeId),w.heap[b]?=some (Obj.cells cur e (0,0))->∃ cur':Array Value,w'.heap[b]?=some (Obj.cells cur' e (0,0))/\ cur'.size=cur.size)
  (hi:∀ k,k<n->ι' k=ι k) (hn:n<=n') {v:Value} {d:D} (h:R M w ι n v d):R M' w' ι' n' v d:=by
 induction h with
 | pure h=>exact .pure (h.yX hb hM)
 | ref hk h0=>rw [<- hi _ hk]; exact .ref (γ hk hn) h0
 | @yR key sz len cap cur e hk h1 h2 h3 h4=> obtain⟨cur',h5,h6⟩:=hs _ _ _ h3;rw [<- hi _ hk] at h5 ⊢;exact .yR (γ hk hn) h1 h2 h5 (h4.trans h6.symm)
 | @sub key sz lo len cap off cur e hk h1 h2 h3 h4=> obtain⟨cur',h5,h6⟩:=hs _ _ _ h3;rw [<- hi _ hk] at h5 ⊢;exact .sub (γ hk hn) h1 h2 h5 (h4.imp id λh=>⟨h.1,h.2.trans h6.symm⟩)
 | yH hk=>rw [<- hi _ hk]; exact .yH (γ hk hn)
 | agg hl hr ih=>exact .agg hl ih
 | yK hl hr ih=>exact .yK hl ih
 | fn hl hr ih=>exact .fn hl ih
def xJ (M0:Nat->Prop) (ι:Nat->Nat) (σ:St) (b:Nat):Prop:=M0 b\/∃ k o,σ.get k=some o/\ι k=b
def xQ (M:Nat->Prop) (w:World) (ι:Nat->Nat) (n:Nat) (blk:Option Obj) (o:Ob):Prop:=
 (0<o.sz/\∃ (cur:Array Value) (e:TypeId),blk=some (Obj.cells cur e (0,0))/\ (∀ el ∈ o.xX,el.length=o.sz)/\ o.xX.length*o.sz<=cur.size /\
  ∀ i,i<o.xX.length->∀ j,j<o.sz->(cur.getD (i*o.sz+j) undef).oneCell'=true/\R M w ι n (cur.getD (i*o.sz+j) undef) ((o.xX.getD i []).getD j .top)) \/
 (o.sz=0/\∃ es:Array MapEntry,blk=some (Obj.map es es.size)/\ es.size=o.xX.length /\
  ∀ i,i<o.xX.length->∃ (kv v:Value) (x d:D),o.xX.getD i [] = [x,d]/\es[i]?=some ⟨kv,v,i⟩/\ R M w ι n kv x/\R M w ι n v d)
def kB (M:Nat->Prop) (w:World) (ι:Nat->Nat) (n key:Nat) (o:Ob):Prop:=xQ M w ι n w.heap[ι key]? o
theorem xQ.imp {M M':Nat->Prop} {w w':World} {ι ι':Nat->Nat} {n n':Nat} {blk:Option Obj} {o:Ob} (h:xQ M w ι n blk o) (hr:∀ {v:Value} {d:D},R M w ι n v d->R M' w' ι' n' v d):xQ M' w' ι' n' blk o:=by
 rcases h with ⟨h0,cur,e,h1,h2,h3,h4⟩ | ⟨h0,es,h1,h2,h3⟩
 ·exact .inl ⟨h0,cur,e,h1,h2,h3,λi hi j hj=>⟨(h4 i hi j hj).1,hr (h4 i hi j hj).2⟩⟩
 ·refine .inr ⟨h0,es,h1,h2,λi hi=>?_⟩;obtain⟨kv,v,x,d,g1,g2,g3,g4⟩:=h3 i hi;exact⟨kv,v,x,d,g1,g2,hr g3,hr g4⟩
theorem xQ.cells {M:Nat->Prop} {w:World} {ι:Nat->Nat} {n:Nat} {blk:Option Obj} {o:Ob} (h:xQ M w ι n blk o) (h0:0<o.sz) :
  ∃ (cur:Array Value) (e:TypeId),blk=some (Obj.cells cur e (0,0))/\ (∀ el ∈ o.xX,el.length=o.sz)/\ o.xX.length*o.sz<=cur.size /\
  ∀ i,i<o.xX.length->∀ j,j<o.sz->(cur.getD (i*o.sz+j) undef).oneCell'=true/\R M w ι n (cur.getD (i*o.sz+j) undef) ((o.xX.getD i []).getD j .top):=by
 rcases h with ⟨_,h⟩ | ⟨h,_⟩
 ·exact h
 ·omega
theorem xQ.rows {M:Nat->Prop} {w:World} {ι:Nat->Nat} {n:Nat} {blk:Option Obj} {o:Ob} {cur0:Array Value} {e0:TypeId} (h:xQ M w ι n blk o) (hc:blk=some (Obj.cells cur0 e0 (0,0))) :
  0<o.sz/\∃ (cur:Array Value) (e:TypeId),blk=some (Obj.cells cur e (0,0))/\ (∀ el ∈ o.xX,el.length=o.sz)/\ o.xX.length*o.sz<=cur.size /\
  ∀ i,i<o.xX.length->∀ j,j<o.sz->(cur.getD (i*o.sz+j) undef).oneCell'=true/\R M w ι n (cur.getD (i*o.sz+j) undef) ((o.xX.getD i []).getD j .top):=by
 rcases h with h | ⟨_,es,h1,_⟩
 ·exact h
 ·rw [hc] at h1; cases h1
theorem xQ.mapped {M:Nat->Prop} {w:World} {ι:Nat->Nat} {n:Nat} {blk:Option Obj} {o:Ob} (h:xQ M w ι n blk o) (h0:o.sz=0) :
  ∃ es:Array MapEntry,blk=some (Obj.map es es.size)/\ es.size=o.xX.length /\
  ∀ i,i<o.xX.length->∃ (kv v:Value) (x d:D),o.xX.getD i [] = [x,d]/\es[i]?=some ⟨kv,v,i⟩/\ R M w ι n kv x/\R M w ι n v d:=by
 rcases h with ⟨h,_⟩ | ⟨_,h⟩
 ·omega
 ·exact h
theorem xQ.isSome {M:Nat->Prop} {w:World} {ι:Nat->Nat} {n:Nat} {blk:Option Obj} {o:Ob} (h:xQ M w ι n blk o):∃ b,blk=some b:=by
 rcases h with ⟨_,cur,e,h1,_⟩ | ⟨_,es,h1,_⟩
 ·exact⟨_,h1⟩
 ·exact⟨_,h1⟩
def jn (M:Nat->Prop) (w:World) (ι:Nat->Nat) (n:Nat) (tmps:Array Value) (f:Fr):Prop:=∀ t,R M w ι n (tmps.getD t undef) (f.get t)
end Go.Pd
namespace Go.Pd
open Go
def yF {α β:Type} (f:α->Option β):List α->Option (List β)
 | []=>some []
 | a :: r=>match f a,yF f r with
  | some b,some bs=>some (b :: bs)
  | _,_=>none
theorem yG {α β:Type} {f:α->Option β}:∀ {l:List α} {bs:List β},yF f l=some bs->bs.length=l.length/\∀ (j:Nat) (a:α),l[j]?=some a->∃ b,bs[j]?=some b/\f a=some b
 | [],bs,h=>by simp [yF] at h; subst h; simp
 | a :: r,bs,h=>by
  unfold yF at h
  split at h
  ·rename_i b bs' h1 h2;simp at h; subst h;obtain⟨h3,h4⟩:=yG h2;refine⟨by simp [h3],λj x hx=>?_⟩
   cases j with
   | zero=>simp at hx; subst hx; exact⟨b,by simp,h1⟩
   | succ j=>simp at hx; obtain⟨c,hc,hf⟩:=h4 j x hx; exact⟨c,by simpa using hc,hf⟩
  ·simp at h
def D.leaf : Value->Option D
 | .int k n=>if k.min<=n/\n<=k.max then some (.int k n) else none
 | .bool b=>some (.bool b)
 | .slice none 0 0=>some .xB
 | .pointer none=>some .rG
 | .map none=>some .tC
 | .nilFunc=>some .rF
 | _=>none
def D.ofValue (v:Value):Option D:=
 match v with
 | .agg cs=>(yF D.leaf cs.toList).map .agg
 | v=>D.leaf v
def D.one : D->Bool
 | .top | .vT | .agg _ | .yK _=>false
 | _=>true
def D.cells : D->Option (List D)
 | .agg cs=>some cs
 | .top | .vT | .yK _=>none
 | d=>some [d]
mutual
def D.xS : D->Bool
 | .ref .. | .yR .. | .sub .. | .yH _=>false
 | .agg cs | .yK cs | .fn _ cs=>D.xZ cs
 | _=>true
def D.xZ : List D->Bool
 | []=>true
 | d :: r=>d.xS&&D.xZ r
end
def sP : List D->Nat->List D->List D
 | cs,_,[]=>cs
 | cs,o,d :: ds=>sP (cs.set o d) (o+1) ds
def kM : List D->List (Nat × Nat × D)->Option (List D)
 | cs,[]=>some cs
 | cs,(o,s,d) :: r=>match d.cells with
  | some ds=>if ds.length=s/\o+s<=cs.length then kM (sP cs o ds) r else none
  | none=>none
def mD (sz:Nat):List (List D)->List (Nat × D)->Option (List (List D))
 | es,[]=>some es
 | es,(i,d) :: r=>match d.cells with
  | some ds=>if ds.length=sz/\i<es.length then mD sz (es.set i ds) r else none
  | none=>none
def wD (ag:Bool) (cs:List D):D:=if ag then .agg cs else cs.headD .top
inductive zZ where
 | t (n:Nat)
 | c (d:D)
inductive DK where
 | mv (x:zZ)
 | pick (c a b:zZ)
 | bin (op:BinOp) (x y:zZ)
 | beq (neg:Bool) (x y:zZ)
 | mH (neg:Bool) (x y:zZ)
 | nt (x:zZ)
 | neg (x:zZ)
 | o6 (x:zZ)
 | geq (neg:Bool) (n:Nat) (x y:zZ)
 | pg (x:zZ)
 | conv (k:IntKind) (x:zZ)
 | fc (off:Nat) (x:zZ)
 | ji (off n:Nat) (ag:Bool) (x:zZ)
 | idx (sz:Nat) (x i:zZ)
 | build (zero:List D) (parts:List (Nat × Nat × zZ))
 | eY (sz len:Nat) (zero:List D) (parts:List (Nat × zZ))
 | len (x:zZ)
 | mn (x y:zZ)
 | mx (x y:zZ)
 | pe (x:zZ) (i:Nat)
 | fe (f:FuncId) (caps:List zZ)
 | load (n:Nat) (ag:Bool) (x:zZ)
 | pr (sz:Nat) (x:zZ) (lo hi:Option zZ)
 | call (fn:zZ) (args:List zZ)
 | box (x:zZ)
 | alloc (zero:List D)
 | store (n:Nat) (a x:zZ)
 | app (sz bytes:Nat) (x y:zZ)
 | pH (sz bytes:Nat) (zero:List D) (len cap:zZ)
 | pT (sz len:Nat) (zero:List D) (parts:List (Nat × zZ))
 | uh (zero:D) (x:zZ)
 | y6 (x:zZ)
 | xp
 | xk (zero:D) (ok:Bool) (m k:zZ)
 | oO (m k x:zZ)
 | kQ (n:Nat) (zero:D) (ok:Bool) (m k:zZ)
 | rJ (n:Nat) (m k x:zZ)
 | lK (zero:D) (m k:zZ)
 | lJ (m s x:zZ)
 | wi (x y:zZ)
structure xR where
 dst:Option Nat
 guard:Option (Nat × Bool)
 k:DK
inductive DC where
 | skip
 | cM (pre post:List xR)
 | xl (pre:List xR) (m:xR) (mid:List xR) (un:Bool) (post:List xR)
 | cI (pre:List xR) (m1:xR) (mid1:List xR) (m2:xR) (mid2:List xR) (post:List xR)
 | cH (pre:List xR) (m1:xR) (mid1:List xR) (m2:xR) (mid2:List xR) (post:List xR) (free:List Nat)
 | cJ (pre:List xR) (m:xR) (mid:List xR) (un:Bool) (post:List xR) (fl:List Bool)
 | seq (a b:DC)
 | cond (c:zZ) (a b:DC)
 | block (id:Nat) (c:DC)
 | loop (c:DC)
 | exit (id:Nat)
 | ret
 | pw (pre:List xR) (it:Nat) (m:zZ)
 | po (it nx more:Nat)
 | pn (it pair:Nat) (rest:List xR)
 | mG (pre:List xR) (it:Nat) (m:zZ) (out nx more next pair:Nat) (rest:List xR) (code:DC)
 | cK (f:zZ) (ps:List Nat) (a c:DC)
def xY (N:Nat):Operand->Option zZ
 | .tmp t=>if t<N then some (.t t) else none
 | .const v=>(D.ofValue v).map .c
 | .func f=>some (.c (.fn f []))
 | .global g=>some (.c (.lO g))
section
variable (P : Program) (N : Nat)
def vJ (t:TypeId):Option Bool:=
 match P.underlying t with
 | some (.struct _) | some (.array _ _)=>some true
 | some _=>some false
 | none=>none
def wS (t:TypeId):Option Nat:=(P.info? t).map (·.size)
def sO (t:TypeId):Option (List D):=do
 let i <- P.info? t
 let z <- i.zero
 yF D.leaf z.cells.toList
def kE (t:TypeId) (f:Nat):Option (Nat × TypeId):=
 match P.underlying t with
 | some (.struct fs)=>(fs[f]?).map λx=>(x.offset,x.type)
 | _=>none
def sliceB (t:TypeId):Option TypeId:=
 match P.underlying t with
 | some (.slice e)=>some e
 | _=>none
def rH (n:Nat):Option Nat:=if 0<n then some n else none
def nF (x:Option Operand):Option (Option zZ):=
 match x with
 | some x=>(xY N x).map some
 | none=>some none
def mE : List Field->Nat->Bool
 | [],_=>true
 | f :: fs,o=>f.name != "_"&&(f.offset==o)&& (match P.underlying f.type with | some (.int .i64)=>true | _=>false)&& mE fs (o+1)
def rC (t:TypeId):Option Nat:=match P.underlying t with
 | some (.struct fs)=>if mE P fs.toList 0&&!P.stoodInHeld t then some fs.size else none
 | _=>none
def mkBin (op:BinOp) (t:TypeId) (x y:zZ):Option DK:=
 match P.underlying t with
 | some .bool=>if op = .eql then some (.beq false x y) else if op = .neq then some (.beq true x y) else none
 | some (.slice _)=>if op = .eql then some (.mH false x y) else if op = .neq then some (.mH true x y) else none
 | some (.int _)=>some (.bin op x y)
 | some (.struct _)=>if P.eqGuardType P.depth t then none else if op = .eql then(rC P t).map λn=>.geq false n x y else if op = .neq then(rC P t).map λn=>.geq true n x y else none
 | _=>none
def cp (op:UnOp) (x:zZ):Option DK:=
 match op with
 | .not=>some (.nt x)
 | .neg=>some (.neg x)
 | .xor=>some (.o6 x)
 | _=>none
def mS (b:Builtin) (args:List zZ) (ts:List TypeId):Option DK:=
 match b with
 | .len=>match args,ts with
  | [x],[t]=>match sliceB P t with
   | some _=>some (.len x)
   | none=>match P.underlying t with
    | some (.map _ _)=>some (.pg x)
    | _=>none
  | _,_=>none
 | .min=>match args with
  | [x,y]=>some (.mn x y)
  | _=>none
 | .max=>match args with
  | [x,y]=>some (.mx x y)
  | _=>none
 | .append=>match args,ts with
  | [x,y],[t,u]=>do
   let e <- sliceB P t
   let i <- P.info? e
   let sz <- rH i.size
   let zero <- sO P e
   if t=u/\zero.length=sz then some (.app sz i.bytes x y) else none
  | _,_=>none
 | .clear=>match args,ts with
  | [x],[t]=>do
   let e <- sliceB P t
   let i <- P.info? e
   let z <- i.zero
   let d <- D.leaf z
   if i.size=1 then some (.uh d x) else none
  | _,_=>none
 | .copy=>match args,ts with
  | [x,y],[t,_]=>do
   let e <- sliceB P t
   let i <- P.info? e
   if i.size=1 then some (.wi x y) else none
  | _,_=>none
 | _=>none
def xf (c:Call):Option DK:=
 match c.callee with
 | .value f=>do pure (.call (<- xY N f) (<- yF (xY N) c.args.toList))
 | .builtin b=>do mS P b (<- yF (xY N) c.args.toList) c.argTypes.toList
 | .invoke _ _=>none
def mkLit (own:List Nat) (dst:Option Nat) (sz len:Nat) (zero:List D) (parts:List (Nat × zZ)):Option DK:=
 match dst with
 | some d=>if own.contains d then some (.pT sz len zero parts) else some (.eY sz len zero parts)
 | none=>none
def nJ (t:TypeId):Option D:=
 match P.underlying t with
 | some (.map k e)=>match P.underlying k with
  | some (.int _)=>do
   let i <- P.info? e
   let z <- i.zero
   D.ofValue z
  | _=>none
 | _=>none
def cG (t:TypeId):Option (Nat × D):=
 match P.underlying t with
 | some (.map k e)=>do
  let n <- rC P k
  let i <- P.info? e
  let z <- i.zero
  let d <- D.ofValue z
  pure (n,d)
 | _=>none
def um (own:List Nat) (o:Oper):Option DK:=
 match o.op with
 | .move x=>(xY N x).map .mv
 | .assign x=>(xY N x).map .mv
 | .pick c a b=>do pure (.pick (<- xY N c) (<- xY N a) (<- xY N b))
 | .alloc e=>do pure (.alloc (<- sO P e))
 | .box _ x=>do pure (.box (<- xY N x))
 | .build t ps=>
  match P.underlying t with
  | some (.struct fs)=>do
   let zero <- sO P t
   let places <- fs.toList.mapM (λf=>(P.info? f.type).map λi=>(f.offset,i.size))
   let parts <- yF (λ(p:Nat × Operand)=>do
    let q <- places[p.1]?
    pure (q.1,q.2,<- xY N p.2)) ps.toList
   pure (.build zero parts)
  | _=>none
 | .buildSlice t len ps=>do
  let e <- sliceB P t
  let sz <- rH (<- wS P e)
  let zero <- sO P e
  let parts <- yF (λ(p:Nat × Operand)=>do pure (p.1,<- xY N p.2)) ps.toList
  if zero.length=sz/\len*sz<=1000 then mkLit own o.dst sz len zero parts else none
 | .load t x=>do
  let ag <- vJ P t
  let n <- wS P t
  let x' <- xY N x
  if ag=true\/n=1 then pure (.load n ag x') else none
 | .store t a x=>do pure (.store (<- wS P t) (<- xY N a) (<- xY N x))
 | .binOp op t x y _=>do mkBin P op t (<- xY N x) (<- xY N y)
 | .unOp op _ x=>do cp op (<- xY N x)
 | .convert src dst x=>
  match P.underlying src,P.underlying dst with
  | some (.int _),some (.int k)=>do pure (.conv k (<- xY N x))
  | _,_=>none
 | .makeFunc fn first caps=>
  match fn with
  | .func f=>do
   let cs <- yF (xY N) caps.toList
   if first = #[] then pure (.fe f cs) else none
  | _=>none
 | .makeSlice t l c=>do
  let e <- sliceB P t
  let i <- P.info? e
  let sz <- rH i.size
  let zero <- sO P e
  let l' <- xY N l
  let c' <- xY N c
  if zero.length=sz then pure (.pH sz i.bytes zero l' c') else none
 | .slice t x lo hi mx=>do
  let e <- sliceB P t
  let sz <- rH (<- wS P e)
  let lo' <- nF N lo
  let hi' <- nF N hi
  let x' <- xY N x
  match mx with
  | none=>pure (.pr sz x' lo' hi')
  | some _=>none
 | .fieldAddr t x f=>do
  let q <- kE P t f
  let _ <- rH (<- wS P q.2)
  pure (.fc q.1 (<- xY N x))
 | .field t x f=>do
  let q <- kE P t f
  pure (.ji q.1 (<- wS P q.2) (<- vJ P q.2) (<- xY N x))
 | .indexAddr t x i=>
  match sliceB P t with
  | some e=>do pure (.idx (<- rH (<- wS P e)) (<- xY N x) (<- xY N i))
  | none=>
   match P.underlying t,i with
   | some (.array n e),.const (.int _ p)=>do
    let sz <- rH (<- wS P e)
    let x' <- xY N x
    if 0<=p/\p<n then some (.fc (p.toNat*sz) x') else none
   | _,_=>none
 | .extract x i=>do pure (.pe (<- xY N x) i)
 | .call c=>xf P N c
 | .nilCheck x=>(xY N x).map .y6
 | .makeMap t r=>
  match r with
  | none=>if (nJ P t).isSome || (cG P t).isSome then some .xp else none
  | some (.const (.int _ _))=>if (nJ P t).isSome || (cG P t).isSome then some .xp else none
  | _=>none
 | .lookup t m k ok=>match nJ P t with
  | some z=>do pure (.xk z ok (<- xY N m) (<- xY N k))
  | none=>do
   let p <- cG P t
   pure (.kQ p.1 p.2 ok (<- xY N m) (<- xY N k))
 | .mapUpdate t m k x=>match nJ P t with
  | some _=>do pure (.oO (<- xY N m) (<- xY N k) (<- xY N x))
  | none=>do
   let p <- cG P t
   pure (.rJ p.1 (<- xY N m) (<- xY N k) (<- xY N x))
 | .insert t m k x=>do
  let _ <- nJ P t
  pure (.oO (<- xY N m) (<- xY N k) (<- xY N x))
 | .mapEntry t m k=>do pure (.lK (<- nJ P t) (<- xY N m) (<- xY N k))
 | .entryStore t m s x=>do
  let _ <- nJ P t
  pure (.lJ (<- xY N m) (<- xY N s) (<- xY N x))
 | .makeInterface _ _ | .panic _=>some (.alloc [])
 | _=>none
def rD (own:List Nat) (ops:Array Oper) (o:Oper):Option xR:=do
 let k <- um P N own o
 let dst <- (match o.dst with | some d=>if d<N then some (some d) else none | none=>some none)
 let g <- (match o.guard with
  | none=>some none
  | some (j,b)=>do
   let oj <- ops[j]?
   let d <- oj.dst
   if d<N then some (some (d,b)) else none)
 pure ⟨dst,g,k⟩
end
def DK.yV : DK->Bool
 | .mv _ | .y6 _ | .pick .. | .bin .. | .beq .. | .geq .. | .nt _ | .neg _ | .o6 _ | .conv .. | .fc .. | .ji .. | .pe .. | .fe .. | .mn .. | .mx .. | .build .. | .idx .. | .len _ | .mH ..=>true
 | _=>false
def DK.still : DK->Bool
 | .box _ | .alloc _ | .store .. | .app .. | .pH .. | .pT .. | .uh .. | .xp | .oO .. | .rJ .. | .lK .. | .lJ .. | .wi ..=>false
 | _=>true
def DK.ph : DK->List zZ
 | .mv x | .y6 x | .nt x | .neg x | .o6 x | .pg x | .conv _ x | .fc _ x | .ji _ _ _ x | .len x | .pe x _ | .load _ _ x | .box x | .uh _ x=>[x]
 | .pick c a b=>[c,a,b]
 | .bin _ x y | .beq _ x y | .geq _ _ x y | .mH _ x y | .idx _ x y | .mn x y | .mx x y | .store _ x y | .app _ _ x y | .pH _ _ _ x y | .wi x y=>[x,y]
 | .build _ ps=>ps.map (·.2.2)
 | .eY _ _ _ ps | .pT _ _ _ ps=>ps.map (·.2)
 | .fe _ cs=>cs
 | .pr _ x lo hi=>x :: (lo.toList++hi.toList)
 | .call f xs=>f :: xs
 | .alloc _ | .xp=>[]
 | .xk _ _ m k | .lK _ m k | .kQ _ _ _ m k=>[m,k]
 | .oO m k x | .lJ m k x | .rJ _ m k x=>[m,k,x]
def zZ.n9 : zZ->Option Nat
 | .t n=>some n
 | .c _=>none
def xR.names (o:xR):List Nat:=o.k.ph.filterMap zZ.n9++(match o.guard with | some (g,_)=>[g] | none=>[])
def xA : List Oper->List Nat->List Nat
 | [],acc=>acc
 | o :: rest,acc=>xA rest (acc ++ [o.after.foldl (λs e=>if Region.binds .any e then s ||| 2 ^ e.on ||| acc.getD e.on 0 else s) 0])
def ordered (ms:List Nat) (i j:Nat):Bool:=(ms.getD j 0).testBit i
def eO (x y:xR):Bool:=
 (match x.dst with | some d=>!y.names.contains d&&y.dst != some d | none=>true)&&
 (match y.dst with | some d=>!x.names.contains d | none=>true)
def oF (ops:List Oper) (ds:List xR) (s:Nat) (mu:Nat->Bool) (xo:Nat->Nat->Bool):Bool:=
 let ms:=xA ops []
 (List.range ops.length).all λj=>
  match ops[j]?,ds[j]? with
  | some oj,some dj=>(oj.after.toList.all λe=>!Region.binds .any e || decide (e.on<j))&& (List.range j).all λi=>
   match ds[i]? with
   | some di=>ordered ms i j || (eO di dj&&((decide (j<s)&& !(mu i&&mu j)) || di.k.yV || dj.k.yV || xo i j))
   | none=>false
  | _,_=>false
def eP (ops:List Oper) (ds:List xR) (s:Nat) (mu:Nat->Bool):Bool:=oF ops ds s mu λ_ _=>false
def xF (own:List Nat) (o:xR):Bool:=match o.dst,o.guard with
 | some d,none=>own.contains (1000000+d)
 | _,_=>false
def rX (own:List Nat) (ds:List xR) (i:Nat):Bool:=match ds[i]? with
 | some d=>xF own d
 | none=>false
def kN (own:List Nat):List xR->Nat
 | []=>0
 | o :: r=>if o.k.still || xF own o then kN own r+1 else 0
def wT (l:List xR):Bool:=(l.all λo=>o.dst.isSome)&& decide (l.map (·.dst)).Nodup
def wQ (ms:List Nat) (m:Nat):List xR->Nat->Bool
 | [],_=>true
 | o :: r,j=>(o.k.yV || ordered ms m j)&& wQ ms m r (j+1)
def ox (own:List Nat) (ops:List Oper) (l:List xR) (s:Nat):Option DC:=
 let h:=l.take s
 match h.findIdx? (xF own) with
 | none=>some (.cM h (l.drop s))
 | some m=>match h[m]? with
  | none=>none
  | some o=>
   let r:=h.drop (m+1)
   match r.findIdx? (xF own) with
   | none=>if wT (h.take m)&& wT r&&!o.k.yV then some (.xl (h.take m) o r (!wQ (xA ops []) m r (m+1)) (l.drop s)) else none
   | some n=>match r[n]? with
    | none=>none
    | some o2=>if ((r.drop (n+1)).findIdx? (xF own)).isNone&&(wT (h.take m)&& wT (r.take n)&& wT (r.drop (n+1)))&& (!o.k.yV&&!o2.k.yV)&& (wQ (xA ops []) m (r.take n) (m+1)&& wQ (xA ops []) (m+1+n) (r.drop (n+1)) (m+1+n+1)) then
      some (.cI (h.take m) o (r.take n) o2 (r.drop (n+1)) (l.drop s)) else none
def eS (own:List Nat) (ops:List Oper) (l:List xR) (s:Nat):Option DC:=
 let h:=l.take s
 match h.findIdx? (xF own) with
 | none=>none
 | some m=>match h[m]? with
  | none=>none
  | some o=>
   let r:=h.drop (m+1)
   if own.contains (2000000+o.dst.getD 0)&& (r.findIdx? (xF own)).isNone&&wT (h.take m)&& wT r&&!o.k.yV then
    some (.cJ (h.take m) o r (!wQ (xA ops []) m r (m+1)) (l.drop s) ((List.range m).map λi=>ordered (xA ops []) i m)) else none
def dz (ms:List Nat) (x y:Nat) (l:List xR):List Nat:=(List.range l.length).filterMap λj=>if j==x || j==y || ordered ms x j || ordered ms y j then none else(l[j]?).bind (·.dst)
def va : DK->Bool
 | .alloc _=>true
 | _=>false
def xg (own:List Nat) (ops:List Oper) (l:List xR) (s:Nat):Option DC:=
 let h:=l.take s
 match h.findIdx? (xF own) with
 | none=>none
 | some m=>match h[m]? with
  | none=>none
  | some o=>
   let r:=h.drop (m+1)
   match r.findIdx? (xF own) with
   | none=>none
   | some n=>match r[n]? with
    | none=>none
    | some o2=>if ((r.drop (n+1)).findIdx? (xF own)).isNone&&wT h&&decide (l.filterMap (·.dst)).Nodup&&(!o.k.yV&&va o2.k)&& oF ops l s (rX own l) (λi j=>i==m&&j==m+1+n) then
      some (.cH (h.take m) o (r.take n) o2 (r.drop (n+1)) (l.drop s) (dz (xA ops []) m (m+1+n) l)) else none
def ny (P:Program) (t:TypeId):Bool:=match P.underlying t with
 | some (.map _ _)=>true
 | _=>false
def oK (P:Program) (N:Nat) (own:List Nat) (ops:Array Oper):Option DC:=
 match ops.toList.getLast? with
 | some o=>match o.op,o.dst,o.guard with
  | .range t x,some it,none=>do
   let m <- xY N x
   let pre <- yF (rD P N own ops) ops.toList.dropLast
   if ny P t=true/\it<N then some (.pw pre it m) else none
  | _,_,_=>none
 | none=>none
def gM (N:Nat) (ops:Array Oper):Option DC:=
 match ops.toList with
 | [o2,o3]=>match o2.op,o2.dst,o2.guard,o3.op,o3.dst,o3.guard with
  | .next (.tmp it) false,some nx,none,.extract (.tmp nx') 0,some more,none=>if nx'=nx/\nx<N/\more<N then some (.po it nx more) else none
  | _,_,_,_,_,_=>none
 | _=>none
def gL (P:Program) (N:Nat) (own:List Nat) (ops:Array Oper):Option DC:=
 match ops.toList with
 | o :: l=>match o.op,o.dst,o.guard with
  | .entry (.tmp it),some pair,none=>do
   let rest <- yF (rD P N own ops) l
   if pair<N then some (.pn it pair rest) else none
  | _,_,_=>none
 | _=>none
def kL (o:Oper):Bool:=match o.op with
 | .move _ | .assign _ | .nilCheck _ | .fieldAddr .. | .indexAddr .. | .load ..=>true
 | _=>false
def kG (P:Program) (N:Nat) (own:List Nat) (ops:Array Oper) (draw:Bool):Option DC:=
 if draw then(if (ops.toList.dropLast.all λo=>kL o&&o.guard.isNone)&& Region.lexTailB .any ops (ops.size-1) then oK P N own ops else none) else match oK P N own ops with
  | some d=>some d
  | none=>match gM N ops with
   | some d=>some d
   | none=>gL P N own ops
def jk (x y:DC):DC:=
 match x,y with
 | .pw pre it m,.block out (.loop (.seq (.po it1 nx more) (.seq (.cond (.t more1) .skip (.exit out1)) (.block next (.seq (.pn it2 pair rest) code)))))=> if it1=it/\it2=it/\more1=more/\out1=out/\it≠nx/\it≠more/\it≠pair then .mG pre it m out nx more next pair rest code else .seq x y
 | _,_=>.seq x y
def vS (P:Program) (N:Nat) (own:List Nat):Code->Option DC
 | .skip=>some .skip
 | .region _ ops draw=>match kG P N own ops draw with
  | some d=>some d
  | none=>do
   let l <- yF (rD P N own ops) ops.toList
   if draw then
    let s:=kN own l
    if own.contains 77777=false/\eP ops.toList l s (rX own l)= true then(match eS own ops.toList l s with | some d=>some d | none=>ox own ops.toList l s) else if own.contains 77777=false then xg own ops.toList l s else none
   else pure (.cM [] l)
 | .seq a b=>do pure (jk (<- vS P N own a) (<- vS P N own b))
 | .cond c a b=>do pure (.cond (<- xY N c) (<- vS P N own a) (<- vS P N own b))
 | .block id c=>do pure (.block id (<- vS P N own c))
 | .loop c=>do pure (.loop (<- vS P N own c))
 | .rangeFunc f ps a c=>do pure (.cK (<- xY N f) ps.toList (<- vS P N own a) (<- vS P N own c))
 | .exit id=>some (.exit id)
 | .ret=>some .ret
 | _=>none
end Go.Pd
namespace Go.Pd
open Go
def uI (f:Fr):zZ->D
 | .t n=>f.get n
 | .c d=>d
def pF (op:BinOp) (k:IntKind) (a b:Int):Int:=
 match op with
 | .and=>k.wrap (BitVec.ofInt k.bits a &&& BitVec.ofInt k.bits b).toNat
 | .or=>k.wrap (BitVec.ofInt k.bits a ||| BitVec.ofInt k.bits b).toNat
 | .xor=>k.wrap (BitVec.ofInt k.bits a ^^^ BitVec.ofInt k.bits b).toNat
 | _=>k.wrap (BitVec.ofInt k.bits a &&& ~~~BitVec.ofInt k.bits b).toNat
def cL (k:IntKind) (a b:Int):Int:=k.wrap (a*2 ^ (min b.toNat k.bits))
def ue (k:IntKind) (a b:Int):Int:=a.fdiv (2 ^ (min b.toNat k.bits))
def uS (op:BinOp) (k:IntKind) (a:Int) (k':IntKind) (b:Int) (K:D->Prop):Prop:=
 match op with
 | .shl=>0<=b/\K (.int k (cL k a b))
 | .shr=>0<=b/\K (.int k (ue k a b))
 | .add=>k=k'/\K (.int k (k.wrap (a+b)))
 | .sub=>k=k'/\K (.int k (k.wrap (a-b)))
 | .mul=>k=k'/\K (.int k (k.wrap (a*b)))
 | .quo=>k=k'/\b≠0/\K (.int k (k.wrap (a.tdiv b)))
 | .rem=>k=k'/\b≠0/\K (.int k (a.tmod b))
 | .and=>k=k'/\K (.int k (pF .and k a b))
 | .or=>k=k'/\K (.int k (pF .or k a b))
 | .xor=>k=k'/\K (.int k (pF .xor k a b))
 | .andNot=>k=k'/\K (.int k (pF .andNot k a b))
 | .eql=>k=k'/\K (.bool (a==b))
 | .neq=>k=k'/\K (.bool (a != b))
 | .lss=>k=k'/\K (.bool (decide (a<b)))
 | .leq=>k=k'/\K (.bool (decide (a<=b)))
 | .gtr=>k=k'/\K (.bool (decide (a > b)))
 | .geq=>k=k'/\K (.bool (decide (a >= b)))
def vC (ι:Nat->Nat) (σ:St) (b:Nat):Prop:=∃ k o,σ.get k=some o/\ι k=b
class zF where
 tY:List (Nat × List Value)
 deep:List (Nat × D)
variable [zF]
def kK (w:World) (M:Nat->Prop):Prop:=(∀ p ∈ zF.tY,p.1<w.heap.size/\¬ M p.1/\∀ j v,p.2[j]?=some v->w.cell? ⟨p.1,j,none⟩= some v)/\
 ∀ q ∈ zF.deep,¬ M q.1/\∃ v,w.cell? ⟨q.1,0,none⟩= some v/\RP M w v q.2
theorem kK.yX {M M':Nat->Prop} {w w':World} (h:kK w M) (hs:w.heap.size<=w'.heap.size) (hb:∀ b,b<w.heap.size->¬ M b->w'.heap[b]?=w.heap[b]?) (hM:∀ b,b<w.heap.size->M' b->M b):kK w' M':=⟨λp hp=>
 let ⟨h1,h2,h3⟩:=h.1 p hp
 ⟨γ h1 hs,λhm=>h2 (hM _ h1 hm),λj v hv=>by rw [World.cell?_of_block (w:=w) (hb _ h1 h2)]; exact h3 j v hv⟩,λq hq=>
 let ⟨h1,v,h2,h3⟩:=h.2 q hq
 have hl:q.1<w.heap.size:=eA h2
 ⟨λhm=>h1 (hM _ hl hm),v,by rw [World.cell?_of_block (w:=w) (hb _ hl h1)]; exact h2,h3.yX hb hM⟩⟩
def bY (b:Nat) (ds:List D):Prop:=∀ (M:Nat->Prop) (w:World),kK w M->∃ vs:List Value,vs.length=ds.length/\(∀ j v,vs[j]?=some v->w.cell? ⟨b,j,none⟩= some v)/\ ∀ j,j<ds.length->RP M w (vs.getD j undef) (ds.getD j .top)
theorem yz {b:Nat} {d:D} (h:(b,d)∈ zF.deep):bY b [d]:=λM w ht=>by
 obtain⟨_,v,h1,h2⟩:=ht.2 _ h
 refine⟨[v],rfl,λj u hu=>?_,λj hj=>?_⟩
 ·match j,hu with
  | 0,hu=>cases hu; exact h1
 ·match j,hj with
  | 0,_=>exact h2
structure yZ (M0 : Nat -> Prop) (w : World) (σ : St) (ι : Nat -> Nat) : Prop where
 oR:∀ b,M0 b->b<w.heap.size
 holds:∀ k o,σ.get k=some o->k<σ.nx/\kB (xJ M0 ι σ) w ι σ.nx k o
 inj:∀ k k' o o',σ.get k=some o->σ.get k'=some o'->ι k=ι k'->k=k'
 notM:∀ k o,σ.get k=some o->¬ M0 (ι k)
 tY:kK w (xJ M0 ι σ)
def vU (P:Program) (g:FuncId):Prop:=∃ fn,P.funcs[g]?=some fn/\(fn.name == "runtime.NumGoroutine")= false/\fn.body.isNone=false
structure xU (P : Program) (g : FuncId) (args : List D) (σ : St) (d : D) (σ' : St) : Prop where
 ord:vU P g
 run:∀ (M0:Nat->Prop) (w:World) (ι:Nat->Nat) (vals:Array Value),yZ M0 w σ ι->vals.size=args.length ->
  (∀ j,j<args.length->R (xJ M0 ι σ) w ι σ.nx (vals.getD j undef) (args.getD j .top)) ->
  Calls P g vals w λe w'=>∃ v ι',e = .returned v/\Kept w w' (vC ι σ)/\ yZ M0 w' σ' ι'/\σ.nx<=σ'.nx/\(∀ k,k<σ.nx->ι' k=ι k)/\
   (∀ k o,σ'.get k=some o->w.heap.size<=ι' k\/vC ι σ (ι' k))/\ R (xJ M0 ι' σ') w' ι' σ'.nx v d
structure Cx where
 P:Program
 N:Nat
 n0:Nat:=0
 own:List Nat:=[]
 rd:Option Nat:=none
def Cx.F (C:Cx):Fence:={ Fence.wide with round:=C.rd }
def y5 : Option D->Option Int
 | none=>some 0
 | some (.int _ n)=>some n
 | _=>none
omit [zF] in
theorem zH {c:Prop} [Decidable c] {p q:Prop} (h:if c then p else q):(c->p)/\ (¬ c->q):=⟨λhc=>by rwa [if_pos hc] at h,λhc=>by rwa [if_neg hc] at h⟩
omit [zF] in
theorem nD {c:Prop} [Decidable c] {p q:Prop} (h1:c->p) (h2:¬ c->q):if c then p else q:=by
 by_cases h:c
 ·rw [if_pos h]; exact h1 h
 ·rw [if_neg h]; exact h2 h
omit [zF] in
theorem ua {t:Bool} {p q:Prop} (h:if t=true then p else q):(t=true->p)/\ (t=false->q):=⟨λhc=>(zH h).1 hc,λhc=>(zH h).2 (by simp [hc])⟩
def cB (P:Program) (g:FuncId) (args:List D) (σ:St) (K:D->Prop):Prop:=∃ d,xU P g args σ d σ/\K d
def cC (P:Program) (g:FuncId) (args:List D) (σ:St) (K:D->St->Prop):Prop:=∃ d σ',xU P g args σ d σ'/\K d σ'
def rI (kk:IntKind) (xX:List (List D)):Prop:=∀ row ∈ xX,∃ m d,row = [D.int kk m,d]
def uR (x:Int):List (List D)->Nat->Option (Nat × D)
 | [],_=>none
 | [.int _ m,d] :: r,i=>if x=m then some (i,d) else uR x r (i+1)
 | _ :: r,i=>uR x r (i+1)
def kR (kk:IntKind) (xX:List (List D)) (x:Int) (d:D):List (List D):=
 match uR x xX 0 with
 | some (i,_)=>xX.set i [.int kk x,d]
 | none=>xX ++ [[.int kk x,d]]
def rY (ok:Bool) (zero:D) (r:Option (Nat × D)):D:= if ok then .yK [(r.map (·.2)).getD zero,.bool r.isSome] else(r.map (·.2)).getD zero
def lI (l:List (List Int × D)):List (List D):=l.map λp=>[.agg (p.1.map (D.int .i64)),p.2]
def pC (x:List Int):List (List Int × D)->Nat->Option (Nat × D)
 | [],_=>none
 | (k,d) :: r,i=>if x=k then some (i,d) else pC x r (i+1)
def kF : List D->Option (List Int)
 | []=>some []
 | .int .i64 a :: r=>(kF r).map (a :: ·)
 | _=>none
theorem qN : ∀ {cs:List D} {xs:List Int},kF cs=some xs->cs=xs.map (D.int .i64)
 | [],xs,h=>by cases h; rfl
 | d :: r,xs,h=>by
  unfold kF at h
  split at h
  ·rename_i e; cases e
  ·rename_i a r' e;cases e;rw [Option.map_eq_some_iff] at h;obtain⟨ys,h1,rfl⟩:=h;rw [qN h1]; rfl
  ·cases h
def gI (y:List Int) (x:D) (l:List (List Int × D)):List (List Int × D):=match pC y l 0 with
 | some (i,_)=>l.set i (y,x)
 | none=>l ++ [(y,x)]
def pW (C:Cx) (σ:St) (ev:zZ->D):DK->(D->Prop)->Prop
 | .mv x,K=>K (ev x)
 | .pick c a b,K=>match ev c with
  | .bool t=>if t=true then K (ev a) else K (ev b)
  | _=>False
 | .bin op x y,K=>match ev x,ev y with
  | .int k a,.int k' b=>uS op k a k' b K
  | _,_=>False
 | .beq neg x y,K=>match ev x,ev y with
  | .bool a,.bool b=>K (.bool (if neg then a != b else a==b))
  | _,_=>False
 | .mH neg x y,K=>match ev x,ev y with
  | .xB,.xB=>K (.bool (!neg))
  | .yR ..,.xB | .xB,.yR ..=>K (.bool neg)
  | .emp,.xB | .xB,.emp=>K (.bool neg)
  | .sl _ (_ :: _),.xB=>K (.bool neg)
  | _,_=>False
 | .nt x,K=>match ev x with
  | .bool b=>K (.bool (!b))
  | _=>False
 | .neg x,K=>match ev x with
  | .int k a=>K (.int k (k.wrap (0-a)))
  | _=>False
 | .o6 x,K=>match ev x with
  | .int k a=>K (.int k (pF .xor k (if k.signed then -1 else k.max) a))
  | _=>False
 | .geq neg n x y,K=>match ev x,ev y with
  | .agg cs,.agg ds=>match kF cs,kF ds with
   | some xs,some ys=>xs.length=n/\ys.length=n/\K (.bool (if neg then !decide (xs=ys) else decide (xs=ys)))
   | _,_=>False
  | _,_=>False
 | .pg x,K=>match ev x with
  | .yH key=>match σ.get key with
   | some o=>o.sz=0/\o.xX.length<=1000000/\K (.int .i64 o.xX.length)
   | none=>False
  | _=>False
 | .conv k x,K=>match ev x with
  | .int _ n=>K (.int k (k.wrap n))
  | _=>False
 | .fc off x,K=>match ev x with
  | .ref key sz i o=>K (.ref key sz i (o+off))
  | .ptr cs=>off<cs.length/\K (.ptr (cs.drop off))
  | _=>False
 | .ji off n ag x,K=>match ev x with
  | .agg cs=>off+n<=cs.length/\(ag=true\/n=1)/\ K (wD ag ((cs.drop off).take n))
  | _=>False
 | .idx sz x i,K=>match ev x,ev i with
  | .sl sz' xX,.int _ n=>sz=sz'/\0<=n/\n<xX.length/\K (.ptr (xX.getD n.toNat []))
  | .yR key sz' len,.int _ n=>sz=sz'/\0<=n/\n<len/\K (.ref key sz n.toNat 0)
  | .sub key sz' lo len,.int _ n=>sz=sz'/\0<=n/\n<len/\K (.ref key sz (lo+n.toNat) 0)
  | _,_=>False
 | .build zero parts,K=>match kM zero (parts.map λp=>(p.1,p.2.1,ev p.2.2)) with
  | some cs=>K (.agg cs)
  | none=>False
 | .eY sz len zero parts,K=>match mD sz (List.replicate len zero) (parts.map λp=>(p.1,ev p.2)) with
  | some es=>(es.all D.xZ)= true/\K (.sl sz es)
  | none=>False
 | .len x,K=>match ev x with
  | .sl _ xX=>K (.int .i64 xX.length)
  | .yR _ _ n=>K (.int .i64 n)
  | .sub _ _ _ n=>K (.int .i64 n)
  | .xB=>K (.int .i64 0)
  | .emp=>K (.int .i64 0)
  | _=>False
 | .mn x y,K=>match ev x,ev y with
  | .int k a,.int k' b=>k=k'/\K (.int k (if b<a then b else a))
  | _,_=>False
 | .mx x y,K=>match ev x,ev y with
  | .int k a,.int k' b=>k=k'/\K (.int k (if b > a then b else a))
  | _,_=>False
 | .pe x i,K=>match ev x with
  | .yK vs=>i<vs.length/\K (vs.getD i .top)
  | _=>False
 | .fe f caps,K=>K (.fn f (caps.map ev))
 | .load n ag x,K=>match ev x with
  | .ref key sz i off=>match σ.get key with
   | some o=>o.sz=sz/\i<o.xX.length/\off+n<=sz/\(ag=true\/n=1)/\ K (wD ag (((o.xX.getD i []).drop off).take n))
   | none=>False
  | .ptr cs=>n<=cs.length/\(ag=true\/n=1)/\ K (wD ag (cs.take n))
  | .lO b=>∃ ds,bY b ds/\n<=ds.length/\(ag=true\/n=1)/\ K (wD ag (ds.take n))
  | _=>False
 | .pr sz x lo hi,K=>match ev x with
  | .sl sz' xX=>sz=sz'/\∃ l h:Int,y5 (lo.map ev)= some l/\(match hi.map ev with | none=>h=xX.length | some (.int _ n)=>h=n | some _=>False)/\ 0<=l/\l<=h/\h<=xX.length/\K (.sl sz ((xX.take h.toNat).drop l.toNat))
  | .yR key sz' len=>sz=sz'/\∃ l h:Int,y5 (lo.map ev)= some l/\(match hi.map ev with | none=>h=len | some (.int _ n)=>h=n | some _=>False)/\ 0<=l/\l<=h/\h<=len/\K (if l=0 then .yR key sz h.toNat else if l=h then .emp else .sub key sz l.toNat (h.toNat-l.toNat))
  | .sub key sz' lo0 len=>sz=sz'/\∃ l h:Int,y5 (lo.map ev)= some l/\(match hi.map ev with | none=>h=len | some (.int _ n)=>h=n | some _=>False)/\ 0<=l/\l<=h/\h<=len/\K (.sub key sz (lo0+l.toNat) (h.toNat-l.toNat))
  | _=>False
 | .call fn args,K=>match ev fn with
  | .fn g caps=>cB C.P g (args.map ev++caps) σ K
  | _=>False
 | .y6 x,K=>match ev x with
  | .ref key sz i off=>K (.ref key sz i off)
  | .ptr cs=>K (.ptr cs)
  | .fn f cs=>K (.fn f cs)
  | _=>False
 | .xk zero ok m k,K=>match ev m,ev k with
  | .yH key,.int kk x=>match σ.get key with
   | some o=>o.sz=0/\rI kk o.xX/\K (rY ok zero (uR x o.xX 0))
   | none=>False
  | .tC,.int _ _=>K (rY ok zero none)
  | _,_=>False
 | .kQ n zero ok m k,K=>match ev m,ev k with
  | .yH key,.agg cs=>match σ.get key with
   | some o=>o.sz=0/\∃ (x:List Int) (l:List (List Int × D)),(cs=x.map (D.int .i64)/\ o.xX=lI l/\x.length=n/\∀ p ∈ l,p.1.length=n)/\ K (rY ok zero (pC x l 0))
   | none=>False
  | _,_=>False
 | _,_=>False
def Fr.put (f:Fr):Option Nat->D->Fr
 | some t,d=>(t,d) :: f
 | none,_=>f
def vY : List (Nat × Ob)->Nat->Ob->List (Nat × Ob)
 | [],_,_=>[]
 | (j,o) :: r,k,o'=>if j=k then(j,o') :: r else(j,o) :: vY r k o'
def St.set (σ:St) (k:Nat) (o:Ob):St:=⟨σ.nx,vY σ.xW k o⟩
def St.new (σ:St) (o:Ob):St:=⟨σ.nx+1,(σ.nx,o) :: σ.xW⟩
def yO : List (Nat × Ob)->Nat->List (Nat × Ob)
 | [],_=>[]
 | (j,o) :: r,k=>if j=k then yO r k else(j,o) :: yO r k
def St.erase (σ:St) (k:Nat):St:=⟨σ.nx,yO σ.xW k⟩
def yS (cs:List D):Bool:=cs.all D.one
def rowsOf (σ:St) (sz:Nat):D->Option (List (List D))
 | .sl sz' xX=>if sz=sz' then some xX else none
 | .xB=>some []
 | .emp=>some []
 | .yR key sz' n=>if sz=sz' then(match σ.get key with | some o=>if o.sz=sz/\n<=o.xX.length then some (o.xX.take n) else none | none=>none) else none
 | _=>none
def vM (C:Cx) (σ:St) (ev:zZ->D) (k:DK) (K:D->St->Prop):Prop:=
 match k with
 | .box x=>match (ev x).cells with
  | some cs=>yS cs=true/\0<cs.length/\K (.ref σ.nx cs.length 0 0) (σ.new ⟨cs.length,[cs]⟩)
  | none=>False
 | .alloc zero=>yS zero=true/\0<zero.length/\K (.ref σ.nx zero.length 0 0) (σ.new ⟨zero.length,[zero]⟩)
 | .store n a x=>match ev a,(ev x).cells with
  | .ref key sz i off,some ds=>match σ.get key with
   | some ob=>ob.sz=sz/\i<ob.xX.length/\ds.length=n/\off+n<=sz/\yS ds=true/\K .vT (σ.set key ⟨sz,ob.xX.set i (sP (ob.xX.getD i []) off ds)⟩)
   | none=>False
  | _,_=>False
 | .app sz bytes x y=>match rowsOf σ sz (ev y) with
  | none=>False
  | some rows=>(∀ r ∈ rows,yS r=true)/\ match ev x with
   | .xB=>rows.length*bytes<=140737488355328/\rows.length<=8000000000000/\(rows = []->K .xB σ)/\ (rows ≠ []->K (.yR σ.nx sz rows.length) (σ.new ⟨sz,rows⟩))
   | .yR key sz' n=>match σ.get key with
    | some ob=>sz=sz'/\ob.sz=sz/\n<=ob.xX.length/\(n+rows.length)* bytes<=140737488355328/\n+rows.length<=8000000000000 /\
     K (.yR σ.nx sz (n+rows.length)) ((σ.erase key).new ⟨sz,ob.xX.take n++rows⟩)
    | none=>False
   | .sub key sz' lo n=>match σ.get key with
    | some ob=>C.own.contains 77777=true/\sz=sz'/\ob.sz=sz/\lo+n<=ob.xX.length/\(n+rows.length)* bytes<=140737488355328/\n+rows.length<=8000000000000 /\
     ∀ pre:List (List D),(pre = []\/pre=ob.xX.take lo)->K (.sub σ.nx sz pre.length (n+rows.length)) ((σ.erase key).new ⟨sz,pre++((ob.xX.drop lo).take n++rows)⟩)
    | none=>False
   | _=>False
 | .pH sz bytes zero len cap=>match ev len,ev cap with
  | .int .i64 n,.int .i64 m=>n=m/\0<=n/\bytes*n<=281474976710656/\yS zero=true/\K (.yR σ.nx sz n.toNat) (σ.new ⟨sz,List.replicate n.toNat zero⟩)
  | _,_=>False
 | .pT sz len zero parts=>match mD sz (List.replicate len zero) (parts.map λp=>(p.1,ev p.2)) with
  | some es=>(∀ e ∈ es,yS e=true)/\ K (.yR σ.nx sz len) (σ.new ⟨sz,es⟩)
  | none=>False
 | .uh zero x=>match ev x with
  | .xB=>K (.yK []) σ
  | .emp=>K (.yK []) σ
  | .yR key sz n=>match σ.get key with
   | some ob=>sz=1/\ob.sz=1/\0<n/\n<=ob.xX.length/\zero.one=true/\K (.yK []) (σ.set key ⟨1,List.replicate n [zero]++ob.xX.drop n⟩)
   | none=>False
  | .sub key sz lo n=>match σ.get key with
   | some ob=>sz=1/\ob.sz=1/\0<n/\lo+n<=ob.xX.length/\zero.one=true/\K (.yK []) (σ.set key ⟨1,ob.xX.take lo++(List.replicate n [zero]++ob.xX.drop (lo+n))⟩)
   | none=>False
  | _=>False
 | .call fn args=>match ev fn with
  | .fn g caps=>cC C.P g (args.map ev++caps) σ K
  | _=>False
 | .wi x y=>match rowsOf σ 1 (ev y) with
  | none=>False
  | some rows=>(∀ r ∈ rows,yS r=true)/\ match ev x with
   | .yR key sz n=>match σ.get key with
    | some ob=>sz=1/\ob.sz=1/\n<=ob.xX.length/\0<min n rows.length/\K (.int .i64 ((min n rows.length:Nat):Int)) (σ.set key ⟨1,rows.take (min n rows.length)++ ob.xX.drop (min n rows.length)⟩)
    | none=>False
   | .sub key sz lo n=>match σ.get key with
    | some ob=>sz=1/\ob.sz=1/\lo+n<=ob.xX.length/\0<min n rows.length/\K (.int .i64 ((min n rows.length:Nat):Int)) (σ.set key ⟨1,ob.xX.take lo++(rows.take (min n rows.length)++ ob.xX.drop (lo+min n rows.length))⟩)
    | none=>False
   | _=>False
 | .xp=>K (.yH σ.nx) (σ.new ⟨0,[]⟩)
 | .oO m k x=>match ev m,ev k with
  | .yH key,.int kk y=>match σ.get key with
   | some o=>o.sz=0/\rI kk o.xX/\K .vT (σ.set key ⟨0,kR kk o.xX y (ev x)⟩)
   | none=>False
  | _,_=>False
 | .rJ n m k x=>match ev m,ev k with
  | .yH key,.agg cs=>match σ.get key with
   | some o=>o.sz=0/\∃ (y:List Int) (l:List (List Int × D)),(cs=y.map (D.int .i64)/\ o.xX=lI l/\(y.length=n/\∀ p ∈ l,p.1.length=n))/\ K .vT (σ.set key ⟨0,lI (gI y (ev x) l)⟩)
   | none=>False
  | _,_=>False
 | .lK zero m k=>match ev m,ev k with
  | .yH key,.int kk y=>match σ.get key with
   | some o=>o.sz=0/\rI kk o.xX/\o.xX.length<=1000000000/\(match uR y o.xX 0 with
    | some (i,d)=>K (.yK [d,.int .i64 i]) (σ.set key ⟨0,o.xX⟩)
    | none=>K (.yK [zero,.int .i64 o.xX.length]) (σ.set key ⟨0,o.xX ++ [[.int kk y,zero]]⟩))
   | none=>False
  | _,_=>False
 | .lJ m s x=>match ev m,ev s with
  | .yH key,.int _ i=>match σ.get key with
   | some o=>o.sz=0/\0<=i/\i<o.xX.length/\(∃ kk y d,o.xX.getD i.toNat [] = [.int kk y,d]/\K .vT (σ.set key ⟨0,o.xX.set i.toNat [.int kk y,ev x]⟩))
   | none=>False
  | _,_=>False
 | k=>pW C σ ev k λd=>K d σ
def cz (C:Cx) (o:xR) (f:Fr) (σ:St) (K:Fr->St->Prop):Prop:=vM C σ (uI f) o.k λd σ'=>K (f.put o.dst d) σ'
def xI (o:xR) (f:Fr) (yes no:Prop):Prop:=
 match o.guard with
 | none=>yes
 | some (j,want)=>match f.get j with
  | .bool b=>if b=want then yes else no
  | .vT=>no
  | _=>False
def vZ (C:Cx):List xR->Fr->St->(Fr->St->Prop)->Prop
 | [],f,σ,K=>K f σ
 | o :: rest,f,σ,K=>xI o f (cz C o f σ λf σ=>vZ C rest f σ K) (vZ C rest (f.put o.dst .vT) σ K)
def tD (C:Cx) (σ:St):List xR->Fr->(Fr->Prop)->Prop
 | [],f,K=>K f
 | o :: rest,f,K=>xI o f (pW C σ (uI f) o.k λd=>tD C σ rest (f.put o.dst d) K) (tD C σ rest (f.put o.dst .vT) K)
structure Env where
 w0:World
 M0:Nat->Prop
 K0:Nat->Prop
 ι0:Nat->Nat
 B:Nat
def Marks (B:Nat) (a:Act) (w:World):Prop:=B<=w.heap.size/\∃ l:List Nat,a.defers=l.map (λD=>{ target:=.collected D,args:=#[] })/\ l.Nodup/\∀ D ∈ l,w.heap[D]?=some (Obj.deferred (some []))/\ B<=D
theorem Marks.yX {B:Nat} {a a':Act} {w w':World} (h:Marks B a w) (ha:a'.defers=a.defers) (hs:w.heap.size<=w'.heap.size) (hk:∀ D:Nat,w.heap[D]?=some (Obj.deferred (some []))->w'.heap[D]?=some (Obj.deferred (some []))):Marks B a' w':=
 let ⟨h0,l,h1,h2,h3⟩:=h
 ⟨δ h0 hs,l,ha.trans h1,h2,λD hD=>⟨hk D (h3 D hD).1,(h3 D hD).2⟩⟩
theorem Marks.none {B:Nat} {a:Act} {w:World} (h:a.defers = []) (hB:B<=w.heap.size):Marks B a w:=⟨hB,[],h,.nil,λD hD=>by cases hD⟩
theorem Kept.mark {w w':World} {K:Nat->Prop} {D:Nat} {o:Obj} (hk:Kept w w' K) (hn:¬ K D) (h:w.heap[D]?=some o):w'.heap[D]?=some o:=(hk.block D (Array.getElem?_eq_some_iff.1 h).1 hn).trans h
theorem yZ.vg {M0:Nat->Prop} {w:World} {σ:St} {ι:Nat->Nat} (hS:yZ M0 w σ ι) {D:Nat} {x:Option (List Deferred)} (h:w.heap[D]?=some (Obj.deferred x)):¬ vC ι σ D:=by
 rintro ⟨k,o,hk,rfl⟩
 rcases(hS.holds k o hk).2 with ⟨_,cur,e,h1,_⟩ | ⟨_,es,h1,_⟩
 ·rw [h] at h1; cases h1
 ·rw [h] at h1; cases h1
structure yT (C : Cx) (E : Env) (a : Act) (w : World) (f : Fr) (σ : St) (ι : Nat -> Nat) : Prop where
 size:a.tmps.size=C.N
 defers:Marks E.B a w
 nx:C.n0<=σ.nx
 kept:Kept E.w0 w E.K0
 mL:yZ E.M0 w σ ι
 oR:∀ b,E.M0 b->b<E.w0.heap.size
 pG:∀ k o,σ.get k=some o->E.w0.heap.size<=ι k\/E.K0 (ι k)
 stay:∀ k,k<C.n0->ι k=E.ι0 k
 fr:jn (xJ E.M0 ι σ) w ι σ.nx a.tmps f
def Good (C:Cx) (E:Env) (a:Act) (w:World) (f:Fr) (σ:St):Prop:=∃ ι,yT C E a w f σ ι
def pf (C:Cx) (pre:List xR) (dst:Option Nat) (mid:List xR) (un:Bool) (f:Fr) (σ:St) (K:Fr->St->Prop) (f1:Fr) (d:D) (σ1:St):Prop:= tD C σ1 pre f (λg=>g=f1)/\ tD C σ1 mid (f1.put dst d) λf2=>(if un=true then tD C σ mid (f1.put dst d) (λg=>g=f2) else True)/\ K f2 σ1
def wpS (C:Cx) (dc:DC) (f:Fr) (σ:St) (Q:Exit->Fr->St->Prop):Prop:= ∀ code,vS C.P C.N C.own code=some dc->∀ E a w,Good C E a w f σ->code.wpIn C.F 0 C.P (λe a' w'=>∃ f' σ',Good C E a' w' f' σ'/\Q e f' σ') a w
def pQ (next:Fr->St->Prop) (Q:Exit->Fr->St->Prop):Exit->Fr->St->Prop
 | .normal,f,σ=>next f σ
 | e,f,σ=>Q e f σ
def tS (id:Nat) (Q:Exit->Fr->St->Prop):Exit->Fr->St->Prop
 | .exit i,f,σ=>if i=id then Q .normal f σ else Q (.exit i) f σ
 | e,f,σ=>Q e f σ
def kH (C:Cx) (it:Nat) (m:zZ) (out nx more next pair:Nat) (rest:List xR) (code:DC) (f:Fr) (σ:St) (Q:Exit->Fr->St->Prop):Prop:=
 ∃ key xX,C.rd=none/\uI f m = .yH key/\σ.get key=some ⟨0,xX⟩/\ ∀ b:Nat,∃ I:List Nat->Fr->St->Prop,(∃ f1 σ1,(∀ E a w,Good { C with n0:=max C.n0 (key+1) } E a w (f.put (some it) (.lO b)) σ->Good { C with n0:=max C.n0 (key+1) } E a w f1 σ1)/\ I [] f1 σ1)/\
  (∀ seen f σ,I seen f σ->f.get it = .lO b/\σ.get key=some ⟨0,xX⟩)/\
  ∀ seen f σ,I seen f σ->seen.Nodup->(∀ j ∈ seen,j<xX.length) ->
   (seen.length=xX.length->Q .normal ((f.put (some nx) .top).put (some more) .top) σ)/\
   ∀ i,i<xX.length->i ∉ seen->vZ { C with n0:=max C.n0 (key+1) } rest (((f.put (some nx) .top).put (some more) .top).put (some pair) (.yK (xX.getD i []))) σ λf σ=>wpS { C with n0:=max C.n0 (key+1) } code f σ (tS next (pQ (I (seen ++ [i])) (tS out Q)))
def nK (C:Cx):DC->Fr->St->(Exit->Fr->St->Prop)->Prop
 | .pw ..,_,_,_=>False
 | .po ..,_,_,_=>False
 | .pn ..,_,_,_=>False
 | .mG pre it m out nx more next pair rest code,f,σ,Q=>vZ C pre f σ λf σ=>kH C it m out nx more next pair rest code f σ Q
 | .skip,f,σ,Q=>Q .normal f σ
 | .cM pre post,f,σ,Q=>tD C σ pre f λf=>vZ C post f σ λf σ=>Q .normal f σ
 | .xl pre m mid un post,f,σ,Q=>tD C σ pre f λf1=>vM C σ (uI f1) m.k λd σ1=>pf C pre m.dst mid un f σ (λf σ=>vZ C post f σ λf σ=>Q .normal f σ) f1 d σ1
 | .cI pre m1 mid1 m2 mid2 post,f,σ,Q=>tD C σ pre f λf1=>vM C σ (uI f1) m1.k λd1 σ1=>tD C σ1 pre f (λg=>g=f1)/\ tD C σ1 mid1 (f1.put m1.dst d1) λf2=>vM C σ1 (uI f2) m2.k λd2 σ2=> tD C σ2 pre f (λg=>g=f1)/\ tD C σ2 mid1 (f1.put m1.dst d1) (λg=>g=f2)/\ tD C σ2 mid2 (f2.put m2.dst d2) λf3=>vZ C post f3 σ2 λf σ=>Q .normal f σ
 | .seq a b,f,σ,Q=>nK C a f σ (pQ (λf σ=>nK C b f σ Q) Q)
 | .cond c a b,f,σ,Q=>match uI f c with
  | .bool t=>if t=true then nK C a f σ Q else nK C b f σ Q
  | _=>False
 | .block id c,f,σ,Q=>nK C c f σ (tS id Q)
 | .loop c,f,σ,Q=>wpS C (.loop c) f σ Q
 | .cK g ps a c,f,σ,Q=>wpS C (.cK g ps a c) f σ Q
 | .cH pre m1 mid1 m2 mid2 post free,f,σ,Q=>wpS C (.cH pre m1 mid1 m2 mid2 post free) f σ Q
 | .cJ pre m mid un post fl,f,σ,Q=>wpS C (.cJ pre m mid un post fl) f σ Q
 | .exit id,f,σ,Q=>Q (.exit id) f σ
 | .ret,f,σ,Q=>Q .ret f σ
@[congr] theorem y3 {C : Cx} {dc : DC} {f f' : Fr} {σ : St} {Q : Exit -> Fr -> St -> Prop} (h : f = f') : wpS C dc f σ Q = wpS C dc f' σ Q := by rw [h]
@[congr] theorem df {P : Program} {g : FuncId} {args args' : List D} {σ : St} {K : D -> Prop} (h : args = args') : cB P g args σ K = cB P g args' σ K := by rw [h]
@[congr] theorem dg {P : Program} {g : FuncId} {args args' : List D} {σ : St} {K : D -> St -> Prop} (h : args = args') : cC P g args σ K = cC P g args' σ K := by rw [h]
theorem cB.go {P:Program} {g:FuncId} {args:List D} {σ:St} {K:D->Prop} {d:D} (h:xU P g args σ d σ) (hk:K d):cB P g args σ K:=⟨d,h,hk⟩
theorem cC.go {P:Program} {g:FuncId} {args:List D} {σ:St} {K:D->St->Prop} {d:D} {σ':St} (h:xU P g args σ d σ') (hk:K d σ'):cC P g args σ K:=⟨d,σ',h,hk⟩
end Go.Pd
namespace Go.Pd
open Go
variable [zF]
section inv
variable {M : Nat -> Prop} {w : World} {ι : Nat -> Nat} {n : Nat} {v : Value}
theorem R.xN {k:IntKind} {x:Int} (h:R M w ι n v (.int k x)):v = .int k x/\k.min<=x/\x<=k.max:=by cases h with | pure h=>cases h with | int h=>exact⟨rfl,h⟩
theorem R.tO {b:Bool} (h:R M w ι n v (.bool b)):v = .bool b:=by cases h with | pure h=>cases h; rfl
theorem R.zC (h:R M w ι n v .xB):v = .slice none 0 0:=by cases h with | pure h=>cases h; rfl
theorem R.rV (h:R M w ι n v .emp):∃ a cap,v = .slice (some a) 0 cap:=by cases h with | pure h=>cases h; exact⟨_,_,rfl⟩
theorem R.iy (h:R M w ι n v .vT):v=undef:=by cases h with | pure h=>cases h; rfl
theorem R.qH {b:Nat} (h:R M w ι n v (.lO b)):v = .pointer (some ⟨b,0,none⟩):=by cases h with | pure h=>cases h; rfl
theorem R.wX {key sz i off:Nat} (h:R M w ι n v (.ref key sz i off)):v = .pointer (some ⟨ι key,i*sz+off,none⟩)/\ key<n/\0<sz:=by
 cases h with
 | pure h=>cases h
 | ref hk h0=>exact⟨rfl,hk,h0⟩
theorem R.uP {key:Nat} (h:R M w ι n v (.yH key)):v = .map (some (ι key))/\ key<n:=by
 cases h with
 | pure h=>cases h
 | yH hk=>exact⟨rfl,hk⟩
theorem R.ln (h:R M w ι n v .tC):v = .map none:=by cases h with | pure h=>cases h; rfl
theorem R.wY {key sz len:Nat} (h:R M w ι n v (.yR key sz len)) :
  ∃ (cap:Nat) (cur:Array Value) (e:TypeId),v = .slice (some ⟨ι key,0,none⟩) len cap/\key<n/\len<=cap/\cap<=maxLen/\w.heap[ι key]?=some (Obj.cells cur e (0,0))/\ cap*sz=cur.size:=by
 cases h with
 | pure h=>cases h
 | yR hk h1 h2 h3 h4=>exact⟨_,_,_,rfl,hk,h1,h2,h3,h4⟩
theorem R.tB {key sz lo len:Nat} (h:R M w ι n v (.sub key sz lo len)) :
  ∃ (cap off:Nat) (cur:Array Value) (e:TypeId),v = .slice (some ⟨ι key,off,none⟩) len cap/\key<n/\len<=cap/\cap<=maxLen/\w.heap[ι key]?=some (Obj.cells cur e (0,0))/\ (cap=0\/(off=lo*sz/\(lo+cap)* sz=cur.size)):=by
 cases h with
 | pure h=>cases h
 | sub hk h1 h2 h3 h4=>exact⟨_,_,_,_,rfl,hk,h1,h2,h3,h4⟩
theorem R.uT {cs:List D} (h:R M w ι n v (.ptr cs)):∃ (b off:Nat) (vs:Nat->Value),v = .pointer (some ⟨b,off,none⟩)/\ 0<cs.length/\¬ M b/\(∀ j,j<cs.length->w.cell? ⟨b,off+j,none⟩= some (vs j))/\ ∀ j,j<cs.length->RP M w (vs j) (cs.getD j .top):=by cases h with | pure h=>cases h with | ptr vs hs hM hc hr=>exact⟨_,_,vs,rfl,hs,hM,hc,hr⟩
theorem R.nG {sz:Nat} {xX:List (List D)} (h:R M w ι n v (.sl sz xX)) :
  (∃ a cap,v = .slice a 0 cap/\xX = []/\(a=none->cap=0))\/∃ (b off cap:Nat) (vs:Nat->Nat->Value),v = .slice (some ⟨b,off,none⟩) xX.length cap/\0<sz/\¬ M b/\xX.length<=cap/\cap<=maxLen/\(∀ e ∈ xX,e.length=sz)/\
   (∀ i,i<xX.length->∀ j,j<sz->w.cell? ⟨b,off+i*sz+j,none⟩= some (vs i j))/\ ∀ i,i<xX.length->∀ j,j<sz->RP M w (vs i j) ((xX.getD i []).getD j .top):=by
 cases h with
 | pure h=>
  cases h with
  | cN a cap sz h=>exact .inl ⟨a,cap,rfl,rfl,h⟩
  | sl vs hs hM hc hm hl hcell hr=>exact .inr ⟨_,_,_,vs,rfl,hs,hM,hc,hm,hl,hcell,hr⟩
theorem R.oE {cs:List D} (h:R M w ι n v (.agg cs)):∃ vs:Array Value,v = .agg vs/\vs.size=cs.length/\∀ j,j<cs.length->R M w ι n (vs.getD j undef) (cs.getD j .top):=by
 cases h with
 | pure h=>cases h with | agg hl hr=>exact⟨_,rfl,hl,λj hj=>.pure (hr j hj)⟩
 | agg hl hr=>exact⟨_,rfl,hl,hr⟩
theorem R.vp {cs:List D} (h:R M w ι n v (.yK cs)):∃ vs:Array Value,v = .tuple vs/\vs.size=cs.length/\∀ j,j<cs.length->R M w ι n (vs.getD j undef) (cs.getD j .top):=by
 cases h with
 | pure h=>cases h with | yK hl hr=>exact⟨_,rfl,hl,λj hj=>.pure (hr j hj)⟩
 | yK hl hr=>exact⟨_,rfl,hl,hr⟩
theorem R.pD {f:FuncId} {cs:List D} (h:R M w ι n v (.fn f cs)):∃ vs:Array Value,v = .func (.func f) #[] vs/\vs.size=cs.length/\∀ j,j<cs.length->R M w ι n (vs.getD j undef) (cs.getD j .top):=by
 cases h with
 | pure h=>cases h with | fn hl hr=>exact⟨_,rfl,hl,λj hj=>.pure (hr j hj)⟩
 | fn hl hr=>exact⟨_,rfl,hl,hr⟩
end inv
theorem xa (k:IntKind) (x:Int):k.min<=k.wrap x/\k.wrap x<=k.max:=by cases k <;> simp [IntKind.min,IntKind.max,IntKind.wrap,IntKind.signed,IntKind.bits] <;> (try split) <;> omega
theorem RP.wrap {M:Nat->Prop} {w:World} (k:IntKind) (x:Int):RP M w (.int k (k.wrap x)) (.int k (k.wrap x)):=.int (xa k x)
theorem zj {k:IntKind} {x:Int} (h:k.min<=x/\x<=k.max) (m:Nat):k.min<=x.fdiv (2 ^ m)/\ x.fdiv (2 ^ m)<=k.max:=by
 have h2:(0:Int)<2 ^ m:=Int.pow_pos (by decide);have e:x.fdiv (2 ^ m)= x / 2 ^ m:=Int.fdiv_eq_ediv_of_nonneg _ (Int.le_of_lt h2);rw [e];have hle:∀ y:Int,0<=y->y / 2 ^ m<=y:=λy hy=>Int.ediv_le_self _ hy;have h1:(1:Int)<=2 ^ m:=h2
 constructor
 ·by_cases hx:0<=x
  ·have:=Int.ediv_nonneg hx (Int.le_of_lt h2);have hm:k.min<=0:=by cases k <;> decide
   omega
  ·have:x<=x / 2 ^ m:=by refine(Int.le_ediv_iff_mul_le h2).2 ?_;have:=Int.mul_le_mul_of_nonpos_left (show x<=0 by omega) h1;omega
   omega
 ·by_cases hx:0<=x
  ·have:=hle x hx; omega
  ·have:x / 2 ^ m<0:=Int.ediv_neg_of_neg_of_pos (by omega) h2;have hm:0<=k.max:=by cases k <;> decide
   omega
theorem yy {k:IntKind} {x y:Int} (h:k.min<=x/\x<=k.max):k.min<=x.tmod y/\x.tmod y<=k.max:=by
 have hm:k.min<=0:=by cases k <;> decide
 have hM:0<=k.max:=by cases k <;> decide
 rcases Int.le_total 0 x with hx | hx
 ·have h1:=Int.tmod_nonneg y hx
  have h2:x.tmod y<=x:=by have:=Int.natAbs_tmod x y;have h3:=Nat.mod_le x.natAbs y.natAbs;omega
  omega
 ·have h1:x.tmod y<=0:=by have:=Int.tmod_nonneg (a:=-x) y (by omega);rw [Int.neg_tmod] at this;omega
  have h2:x<=x.tmod y:=by have:=Int.natAbs_tmod x y;have h3:=Nat.mod_le x.natAbs y.natAbs;omega
  omega
theorem qG {M:Nat->Prop} {w:World} {v:Value} {d:D} (h:D.leaf v=some d):RP M w v d:=by
 unfold D.leaf at h;split at h <;> simp at h <;> (try subst h) <;> try constructor
 obtain⟨h1,rfl⟩:=h;exact .int h1
theorem aE {vs:Array Value} {j:Nat} {v:Value} (h:vs.toList[j]?=some v):vs.getD j undef=v:=by
 have h':vs[j]?=some v:=by simpa using h
 simp [h']
theorem rR {M:Nat->Prop} {w:World} {v:Value} {d:D} (h:D.ofValue v=some d):RP M w v d:=by
 unfold D.ofValue at h
 split at h
 ·rename_i cs;simp at h;obtain⟨ds,h1,rfl⟩:=h;obtain⟨hl,hg⟩:=yG h1;refine .agg (by simpa using hl.symm) λj hj=>?_;have hj':j<cs.toList.length:=by omega
  obtain⟨b,hb,hf⟩:=hg j _ (List.getElem?_eq_getElem hj');have e1:ds.getD j .top=b:=by simp [List.getD,hb]
  rw [e1,aE (List.getElem?_eq_getElem hj')];exact qG hf
 ·exact qG h
theorem sE {M:Nat->Prop} {w:World} {ι:Nat->Nat} {n N:Nat} {a:Act} {f:Fr} (hf:jn M w ι n a.tmps f) {x:Operand} {y:zZ} (h:xY N x=some y):R M w ι n (a.eval x) (uI f y):=by
 cases x with
 | tmp t=> simp [xY] at h;obtain⟨_,rfl⟩:=h;exact hf t
 | const v=> simp [xY] at h;obtain⟨d,hd,rfl⟩:=h;exact .pure (rR hd)
 | func f=> simp [xY] at h;subst h;exact .pure (.fn (by simp) (by simp))
 | global g=> simp [xY] at h;subst h;exact .pure (.lO g)
end Go.Pd
namespace Go.Pd
open Go
variable [zF]
theorem yD {P:Program} {o:Oper} {a:Act} {w w':World} {next:Act->World->Prop} {Q:Exit->Act->World->Prop} {v:Value}
  (hx:(execOp a.eval o).run P w = .ok (.value v) w') (hn:next (a.put o.dst v) w'):o.wp P a w next Q:=by
 unfold Oper.wp; rw [hx]; exact hn
section
variable {P : Program} {N : Nat} {o : Oper} {a : Act} {w : World} {M : Nat -> Prop} {ι : Nat -> Nat} {n : Nat}
def Yields (P:Program) (o:Oper) (a:Act) (w:World) (v:Value):Prop:=(execOp a.eval o).run P w = .ok (.value v) w
theorem r9 {op:BinOp} {t u:TypeId} {x y:Operand} (ho:o.op = .binOp op t x y u) {k k':IntKind} {p q:Int} (hx:a.eval x = .int k p) (hy:a.eval y = .int k' q)
  (hp:k.min<=p/\p<=k.max) {K:D->Prop} (h:uS op k p k' q K):∃ v d,Yields P o a w v/\K d/\∀ M,RP M w v d:=by
 unfold Yields;cases op <;> simp only [uS] at h
 case shl=>
  refine⟨_,_,?_,h.2,λM=>RP.wrap _ _⟩;have h0:¬ q<0:=by have:=h.1; omega
  simp [execOp,ho,hx,hy,eqGuard,binOp,Op.shift,h0,cL]
 case shr=>
  refine⟨_,_,?_,h.2,λM=>RP.int (zj hp _)⟩;have h0:¬ q<0:=by have:=h.1; omega
  simp [execOp,ho,hx,hy,eqGuard,binOp,Op.shift,h0,ue]
 case quo=> obtain⟨rfl,h1,h2⟩:=h;refine⟨_,_,?_,h2,λM=>RP.wrap _ _⟩;simp [execOp,ho,hx,hy,eqGuard,binOp,Op.intDiv,h1]
 case rem=> obtain⟨rfl,h1,h2⟩:=h;refine⟨_,_,?_,h2,λM=>RP.int (yy hp)⟩;simp [execOp,ho,hx,hy,eqGuard,binOp,Op.intDiv,h1]
 all_goals
  obtain⟨rfl,h2⟩:=h;refine⟨_,_,?_,h2,λM=>by first | exact RP.wrap _ _ | exact RP.bool _⟩;simp [execOp,ho,hx,hy,eqGuard,binOp,Op.intArith,Op.intBits,Op.intCmp,pF]
theorem eZ {x:Operand} (ho:o.op = .move x\/o.op = .assign x):Yields P o a w (a.eval x):=by rcases ho with ho | ho <;> simp [Yields,execOp,ho]
theorem gP {x:Operand} (ho:o.op = .nilCheck x) {v:Value} (hx:a.eval x=v) (hv:(∃ b,v = .pointer (some b))\/∃ f vs,v = .func (.func f) #[] vs):Yields P o a w v:=by rcases hv with ⟨b,rfl⟩ | ⟨f,vs,rfl⟩ <;> simp [Yields,execOp,ho,hx]
theorem ou {c x y:Operand} (ho:o.op = .pick c x y) {t:Bool} (hc:a.eval c = .bool t):Yields P o a w (if t then a.eval x else a.eval y):=by simp [Yields,execOp,ho,hc,asBool]
theorem cQ (d:Nat) {t:TypeId} (ht:P.underlying t=some .bool) (b c:Bool):(Op.equalIn (d+1) t (.bool b) (.bool c)).run P w = .ok (b==c) w:=by simp [Op.equalIn,run_underlying ht]
theorem zg {t:TypeId} (ht:P.underlying t=some .bool) (b c:Bool):(Op.equal t (.bool b) (.bool c)).run P w = .ok (b==c) w:=cQ 9999 ht b c
theorem gT (d:Nat) {t e:TypeId} (ht:P.underlying t=some (.slice e)) {ax ay:Option Addr} {lx ly cx cy:Nat} (hn:ax=none\/ay=none) :
  (Op.equalIn (d+1) t (.slice ax lx cx) (.slice ay ly cy)).run P w = .ok (ax.isNone&&ay.isNone) w:=by
 rcases hn with rfl | rfl <;> (try cases ax) <;> (try cases ay) <;> simp [Op.equalIn,run_underlying ht]
theorem aB {t e:TypeId} (ht:P.underlying t=some (.slice e)) {ax ay:Option Addr} {lx ly cx cy:Nat} (hn:ax=none\/ay=none) :
  (Op.equal t (.slice ax lx cx) (.slice ay ly cy)).run P w = .ok (ax.isNone&&ay.isNone) w:=gT 9999 ht hn
theorem r8 {op:BinOp} {t u:TypeId} {x y:Operand} (ho:o.op = .binOp op t x y u) (hop:op = .eql\/op = .neq) (ht:P.underlying t=some .bool) {b c:Bool} (hx:a.eval x = .bool b) (hy:a.eval y = .bool c) :
  Yields P o a w (.bool (if op = .neq then b != c else b==c)):=by
 rcases hop with rfl | rfl <;> simp [Yields,execOp,ho,hx,hy,eqGuard,binOp,zg ht] <;> (try (cases b <;> cases c <;> rfl))
theorem qL {op:BinOp} {t u e:TypeId} {x y:Operand} (ho:o.op = .binOp op t x y u) (hop:op = .eql\/op = .neq) (ht:P.underlying t=some (.slice e)) {ax ay:Option Addr} {lx ly cx cy:Nat}
  (hx:a.eval x = .slice ax lx cx) (hy:a.eval y = .slice ay ly cy) (hn:ax=none\/ay=none) :
  Yields P o a w (.bool (if op = .neq then !(ax.isNone&&ay.isNone) else ax.isNone&&ay.isNone)):=by
 rcases hop with rfl | rfl <;> simp [Yields,execOp,ho,hx,hy,eqGuard,binOp,aB ht hn]
theorem u0 {t:TypeId} {x:Operand} (ho:o.op = .unOp .not t x) {b:Bool} (hx:a.eval x = .bool b):Yields P o a w (.bool (!b)):=by simp [Yields,execOp,ho,hx,Op.unary]
theorem s9 {t:TypeId} {x:Operand} (ho:o.op = .unOp .neg t x) {k:IntKind} {p:Int} (hx:a.eval x = .int k p):Yields P o a w (.int k (k.wrap (0-p))):=by simp [Yields,execOp,ho,hx,Op.unary,Op.intArith]
theorem s4 {t:TypeId} {x:Operand} (ho:o.op = .unOp .xor t x) {k:IntKind} {p:Int} (hx:a.eval x = .int k p):Yields P o a w (.int k (pF .xor k (if k.signed then -1 else k.max) p)):=by simp [Yields,execOp,ho,hx,Op.unary,Op.intBits,pF]
theorem cd {s t:TypeId} {x:Operand} (ho:o.op = .convert s t x) {ks k k':IntKind} (hs:P.underlying s=some (.int ks)) (ht:P.underlying t=some (.int k)) {p:Int} (hx:a.eval x = .int k' p) :
  Yields P o a w (.int k (k.wrap p)):=by
 simp [Yields,execOp,ho,hx,convert,run_underlying hs,run_underlying ht,Conv.intToInt]
theorem wh {t:TypeId} {x:Operand} {i:Nat} (ho:o.op = .fieldAddr t x i) {fs:Array Field} {f:Field} (ht:P.underlying t=some (.struct fs)) (hf:fs[i]?=some f) {inf:TypeInfo} (hi:P.info? f.type=some inf) (hs:0<inf.size)
  {b off:Nat} (hx:a.eval x = .pointer (some ⟨b,off,none⟩)):Yields P o a w (.pointer (some ⟨b,off+f.offset,none⟩)):=by
 have h0:inf.size≠0:=by omega
 simp [Yields,execOp,ho,hx,Instr.fieldAt,run_underlying ht,hf,Instr.sureAddr,fieldPlace,sizeOf,typeInfo,hi,h0,Addr.add_lit]
theorem qD {t e:TypeId} {x y:Operand} (ho:o.op = .indexAddr t x y) {n:Nat} (ht:P.underlying t=some (.array n e)) {inf:TypeInfo} (hi:P.info? e=some inf) {b off:Nat} {k:IntKind} {p:Int}
  (hx:a.eval x = .pointer (some ⟨b,off,none⟩)) (hy:a.eval y = .int k p) (h0:0<=p) (h1:p<n):Yields P o a w (.pointer (some ⟨b,off+p.toNat*inf.size,none⟩)):=by
 simp [Yields,execOp,ho,hx,hy,Instr.indexAt,asIntOf,Instr.sureAddr,run_underlying ht,sizeOf,typeInfo,hi,h0,h1,Addr.add_lit]
theorem sL {t e:TypeId} {x y:Operand} (ho:o.op = .indexAddr t x y) (ht:P.underlying t=some (.slice e)) {inf:TypeInfo} (hi:P.info? e=some inf) {b off len cap:Nat} {k:IntKind} {p:Int}
  (hx:a.eval x = .slice (some ⟨b,off,none⟩) len cap) (hy:a.eval y = .int k p) (h0:0<=p) (h1:p<len):Yields P o a w (.pointer (some ⟨b,off+p.toNat*inf.size,none⟩)):=by
 simp [Yields,execOp,ho,hx,hy,Instr.indexAt,asIntOf,run_underlying ht,sizeOf,typeInfo,hi,h0,h1,Addr.add_lit]
theorem gO {t e ty:TypeId} {x:Operand} {ts:Array TypeId} (ho:o.op = .call { callee:=.builtin .len,args:=#[x],argTypes:=#[t] }) (ht:P.underlying t=some (.slice e)) {ad:Option Addr} {len cap:Nat}
  (hx:a.eval x = .slice ad len cap):Yields P o a w (.int .i64 len):=by
 simp [Yields,execOp,ho,hx,resolve,invoke,builtin,Builtin.len_,run_underlying ht,goInt]
theorem s7 {ts:Array TypeId} {x y:Operand} (ho:o.op = .call { callee:=.builtin .min,args:=#[x,y],argTypes:=ts }) {k k':IntKind} {p q:Int} (hx:a.eval x = .int k p) (hy:a.eval y = .int k' q) :
  Yields P o a w (.int k (if q<p then q else p)):=by
 simp [Yields,execOp,ho,hx,hy,resolve,invoke,builtin,Builtin.min_,Builtin.min2]
theorem s6 {ts:Array TypeId} {x y:Operand} (ho:o.op = .call { callee:=.builtin .max,args:=#[x,y],argTypes:=ts }) {k k':IntKind} {p q:Int} (hx:a.eval x = .int k p) (hy:a.eval y = .int k' q) :
  Yields P o a w (.int k (if q > p then q else p)):=by
 simp [Yields,execOp,ho,hx,hy,resolve,invoke,builtin,Builtin.max_,Builtin.max2]
theorem nU {P:Program} {t:TypeId} {d:D} (h:nJ P t=some d):∃ k e q i z,P.underlying t=some (.map k e)/\ P.underlying k=some (.int q)/\ P.info? e=some i/\i.zero=some z/\D.ofValue z=some d:=by
 unfold nJ at h
 split at h
 ·rename_i k e ht
  split at h
  ·rename_i q hk;simp only [η,ζ] at h;obtain⟨i,hi,z,hz,hd⟩:=h;exact⟨k,e,q,i,z,ht,hk,hi,hz,hd⟩
  ·simp at h
 ·simp at h
theorem cg {x:Operand} {i:Nat} (ho:o.op = .extract x i) {vs:Array Value} (hx:a.eval x = .tuple vs) (hi:i<vs.size):Yields P o a w (vs.getD i undef):=by simp [Yields,execOp,ho,hx,Instr.extract,hi]
theorem s8 {f:FuncId} {caps:Array Operand} (ho:o.op = .makeFunc (.func f) #[] caps):Yields P o a w (.func (.func f) #[] (caps.map a.eval)):=by simp [Yields,execOp,ho,Instr.makeFunc]
theorem eK {t:TypeId} {x:Operand} (ho:o.op = .load t x) {td:TypeDesc} (ht:P.underlying t=some td) (hag:vJ P t=some false) {ad:Addr} {v:Value} (hx:a.eval x = .pointer (some ad)) (hc:w.cell? ad=some v) :
  Yields P o a w v:=by
 cases td <;> simp [vJ,ht] at hag <;> simp [Yields,execOp,ho,hx,Instr.loadAt,Instr.sureAddr,loadVar,isAgg,run_underlying ht,load,Sem.run,hc]
theorem eL {t:TypeId} {x:Operand} (ho:o.op = .load t x) {td:TypeDesc} (ht:P.underlying t=some td) (hag:vJ P t=some true) {inf:TypeInfo} (hi:P.info? t=some inf) {ad:Addr} {vs:List Value} (hl:vs.length=inf.size)
  (hx:a.eval x = .pointer (some ad)) (hc:∀ j v,vs[j]?=some v->w.cell? (ad.add j)= some v):Yields P o a w (.agg vs.toArray):=by
 have hr:=run_loadCells_list (P:=P) w ad vs hc;rw [hl] at hr;cases td <;> simp [vJ,ht] at hag <;> simp [Yields,execOp,ho,hx,Instr.loadAt,Instr.sureAddr,loadVar,isAgg,run_underlying ht,sizeOf,typeInfo,hi,hr]
end
end Go.Pd
