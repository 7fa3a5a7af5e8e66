/- Part X1. -/
import Derived.Orders
import Derived.StillTail
import Derived.Below
import Derived.Laws.AppendOwn
import Derived.Laws.World
import Derived.WalkKit
import Derived.CallsIn
import Derived.OrdersIn
import Derived.TacticsIn
set_option linter.unusedSectionVars false
set_option linter.unusedVariables false
set_option linter.unusedSimpArgs false
set_option linter.defProp false
open Nat renaming lt_of_lt_of_le->γ,le_trans->δ,le_refl->ε
open Option renaming bind_eq_some_iff->ζ,bind_eq_bind->η
namespace Go.Pd
open Go
def zO := And.intro @η.{0} (And.intro @ζ.{0,0} (And.intro @Option.pure_def.{0} @Option.some.injEq.{0}))
inductive D where
 | top
 | vP
 | int (k:IntKind) (n:Int)
 | bool (b:Bool)
 | str (s:ByteArray)
 | sl (sz:Nat) (xZ:List (List D))
 | xU
 | emp
 | agg (cs:List D)
 | xI (vs:List D)
 | fn (f:FuncId) (caps:List D)
 | ref (key sz i off:Nat)
 | xP (key sz len:Nat)
 | sub (key sz lo len:Nat)
 | ptr (cs:List D)
 | xG (key:Nat)
 | sY
 | uA
 | uL
 | kI (b:Nat)
 deriving Inhabited
structure Ob where
 sz:Nat
 xZ:List (List D)
 deriving Inhabited
structure St where
 nx:Nat
 xY:List (Nat × Ob)
def St.look : List (Nat × Ob)->Nat->Option Ob
 | [],_=>none
 | (j,o) :: r,k=>if j=k then some o else St.look r k
def St.get (σ:St) (k:Nat):Option Ob:=St.look σ.xY k
abbrev Fr :=List (Nat × D)
def Fr.get : Fr->Nat->D
 | [],_=>.top
 | (t,d) :: r,s=>if t=s then d else Fr.get r s
inductive RP (M : Nat -> Prop) (w : World) : Value -> D -> Prop
 | top (v:Value):RP M w v .top
 | vP:RP M w undef .vP
 | int {k:IntKind} {n:Int} (h:k.min<=n/\n<=k.max):RP M w (.int k n) (.int k n)
 | bool (b:Bool):RP M w (.bool b) (.bool b)
 | str {s:ByteArray} (h:s.size<=maxLen):RP M w (.string s) (.str s)
 | uh (a:Option Addr) (cap sz:Nat) (h:a=none->cap=0):RP M w (.slice a 0 cap) (.sl sz [])
 | emp (a:Addr) (cap:Nat):RP M w (.slice (some a) 0 cap) .emp
 | sl {b off cap sz:Nat} {xZ:List (List D)} (vs:Nat->Nat->Value) (hs:0<sz) (hM:¬ M b) (hc:xZ.length<=cap) (hm:cap<=maxLen) (hl:∀ e ∈ xZ,e.length=sz)
   (hcell:∀ i,i<xZ.length->∀ j,j<sz->w.cell? ⟨b,off+i*sz+j,none⟩= some (vs i j))
   (hr:∀ i,i<xZ.length->∀ j,j<sz->RP M w (vs i j) ((xZ.getD i []).getD j .top)):RP M w (.slice (some ⟨b,off,none⟩) xZ.length cap) (.sl sz xZ)
 | xU:RP M w (.slice none 0 0) .xU
 | ptr {b off:Nat} {cs:List D} (vs:Nat->Value) (hs:0<cs.length) (hM:¬ M b) (hcell:∀ j,j<cs.length->w.cell? ⟨b,off+j,none⟩= some (vs j))
   (hr:∀ j,j<cs.length->RP M w (vs j) (cs.getD j .top)):RP M w (.pointer (some ⟨b,off,none⟩)) (.ptr cs)
 | agg {vs:Array Value} {cs:List D} (hl:vs.size=cs.length) (hr:∀ j,j<cs.length->RP M w (vs.getD j undef) (cs.getD j .top)):RP M w (.agg vs) (.agg cs)
 | xI {vs:Array Value} {cs:List D} (hl:vs.size=cs.length) (hr:∀ j,j<cs.length->RP M w (vs.getD j undef) (cs.getD j .top)):RP M w (.tuple vs) (.xI cs)
 | fn {f:FuncId} {vs:Array Value} {cs:List D} (hl:vs.size=cs.length) (hr:∀ j,j<cs.length->RP M w (vs.getD j undef) (cs.getD j .top)):RP M w (.func (.func f) #[] vs) (.fn f cs)
 | sY:RP M w (.pointer none) .sY
 | uA:RP M w (.map none) .uA
 | uL:RP M w .nilFunc .uL
 | kI (b:Nat):RP M w (.pointer (some ⟨b,0,none⟩)) (.kI b)
inductive R (M : Nat -> Prop) (w : World) (ι : Nat -> Nat) (n : Nat) : Value -> D -> Prop
 | pure {v:Value} {d:D} (h:RP M w v d):R M w ι n v d
 | ref {key sz i off:Nat} (hk:key<n) (hs:0<sz):R M w ι n (.pointer (some ⟨ι key,i*sz+off,none⟩)) (.ref key sz i off)
 | xP {key sz len cap:Nat} {cur:Array Value} {e:TypeId} (hk:key<n) (h1:len<=cap) (h2:cap<=maxLen) (h3:w.heap[ι key]?=some (Obj.cells cur e (0,0))) (h4:cap*sz<=cur.size) :
   R M w ι n (.slice (some ⟨ι key,0,none⟩) len cap) (.xP key sz len)
 | sub {key sz lo len cap off:Nat} {cur:Array Value} {e:TypeId} (hk:key<n) (h1:len<=cap) (h2:cap<=maxLen) (h3:w.heap[ι key]?=some (Obj.cells cur e (0,0))) (h4:cap=0\/(off=lo*sz/\(lo+cap)* sz<=cur.size)) :
   R M w ι n (.slice (some ⟨ι key,off,none⟩) len cap) (.sub key sz lo len)
 | xG {key:Nat} (hk:key<n):R M w ι n (.map (some (ι key))) (.xG key)
 | agg {vs:Array Value} {cs:List D} (hl:vs.size=cs.length) (hr:∀ j,j<cs.length->R M w ι n (vs.getD j undef) (cs.getD j .top)):R M w ι n (.agg vs) (.agg cs)
 | xI {vs:Array Value} {cs:List D} (hl:vs.size=cs.length) (hr:∀ j,j<cs.length->R M w ι n (vs.getD j undef) (cs.getD j .top)):R M w ι n (.tuple vs) (.xI cs)
 | fn {f:FuncId} {vs:Array Value} {cs:List D} (hl:vs.size=cs.length) (hr:∀ j,j<cs.length->R M w ι n (vs.getD j undef) (cs.getD j .top)):R M w ι n (.func (.func f) #[] vs) (.fn f cs)
theorem R.top {M:Nat->Prop} {w:World} {ι:Nat->Nat} {n:Nat} (v:Value):R M w ι n v .top:=.pure (.top v)
structure Kept (w w' : World) (K : Nat -> Prop) : Prop where
 os:w'.os=w.os
 tape:w'.tape=w.tape
 output:w'.output=w.output
 size:w.heap.size<=w'.heap.size
 block:∀ b,b<w.heap.size->¬ K b->w'.heap[b]?=w.heap[b]?
 shape:∀ (b:Nat) (cur:Array Value) (e:TypeId),w.heap[b]?=some (Obj.cells cur e (0,0))->∃ cur':Array Value,w'.heap[b]?=some (Obj.cells cur' e (0,0))/\ cur'.size=cur.size
 drawn:w.drawn<=w'.drawn
theorem Kept.refl (w:World) (K:Nat->Prop):Kept w w K:=⟨rfl,rfl,rfl,ε _,λ_ _ _=>rfl,λ_ cur _ h=>⟨cur,h,rfl⟩,ε _⟩
theorem Kept.mono {w w':World} {K K':Nat->Prop} (h:Kept w w' K) (hk:∀ b,b<w.heap.size->K b->K' b):Kept w w' K':=⟨h.os,h.tape,h.output,h.size,λb hb hn=>h.block b hb λhK=>hn (hk b hb hK),h.shape,h.drawn⟩
theorem Kept.trans {w w' w'':World} {K K' K'':Nat->Prop} (h:Kept w w' K) (h':Kept w' w'' K') (h1:∀ b,b<w.heap.size->K b->K'' b) (h2:∀ b,b<w.heap.size->K' b->K'' b):Kept w w'' K'':=
 ⟨h'.os.trans h.os,h'.tape.trans h.tape,h'.output.trans h.output,δ h.size h'.size,
  λb hb hn=>(h'.block b (γ hb h.size) λhk=>hn (h2 b hb hk)).trans (h.block b hb λhk=>hn (h1 b hb hk)),
  λb cur e hc=>let ⟨c1,e1,s1⟩:=h.shape b cur e hc; let ⟨c2,e2,s2⟩:=h'.shape b c1 e e1; ⟨c2,e2,s2.trans s1⟩,δ h.drawn h'.drawn⟩
theorem Kept.below {w w':World} (h:Kept w w' λ_=>False):RowKit.Below w.heap.size w w':=⟨h.os,h.tape,h.output,h.size,λk hk=>h.block k hk id⟩
theorem Kept.alloc (w:World) (o:Obj) (K:Nat->Prop):Kept w (w.alloc o) K:=
 ⟨rfl,rfl,rfl,by show w.heap.size<=(w.heap.push o).size; simp,λb hb _=>heap_alloc_old w o hb,
  λb cur e h=>⟨cur,by rw [heap_alloc_old w o (Array.getElem?_eq_some_iff.1 h).1]; exact h,rfl⟩,ε _⟩
theorem Kept.drew {w w':World} {K:Nat->Prop} (h:Kept w w' K):Kept w w'.drew K:=⟨h.os,h.tape,h.output,h.size,h.block,h.shape,Nat.le_succ_of_le h.drawn⟩
theorem iW {w:World} {a:Addr} {v:Value} (h:w.cell? a=some v):a.block<w.heap.size:=World.block_lt_of_cell? w a h
theorem RP.yY {M M':Nat->Prop} {w w':World} (hb:∀ b,b<w.heap.size->¬ M b->w'.heap[b]?=w.heap[b]?) (hM:∀ b,b<w.heap.size->M' b->M b) {v:Value} {d:D} (h:RP M w v d):RP M' w' v d:=by
 induction h with
 | top v=>exact .top v
 | vP=>exact .vP
 | int h=>exact .int h
 | bool b=>exact .bool b
 | str h=>exact .str h
 | uh a cap sz h=>exact .uh a cap sz h
 | emp a cap=>exact .emp a cap
 | @sl b off cap sz xZ vs hs hMb hc hm hl hcell hr ih=>
  rcases Nat.eq_zero_or_pos xZ.length with h0 | h0
  ·have:xZ = []:=List.eq_nil_of_length_eq_zero h0;subst this;exact .uh _ _ _ (by simp)
  ·have hlt:b<w.heap.size:=iW (hcell 0 h0 0 hs);refine .sl vs hs (λhm'=>hMb (hM b hlt hm')) hc hm hl (λi hi j hj=>?_) ih;rw [World.cell?_of_block (w:=w) (hb b hlt hMb)];exact hcell i hi j hj
 | xU=>exact .xU
 | @ptr b off cs vs hs hMb hcell hr ih=> have hlt:b<w.heap.size:=iW (hcell 0 hs);refine .ptr vs hs (λhm'=>hMb (hM b hlt hm')) (λj hj=>?_) ih;rw [World.cell?_of_block (w:=w) (hb b hlt hMb)];exact hcell j hj
 | agg hl hr ih=>exact .agg hl ih
 | xI hl hr ih=>exact .xI hl ih
 | fn hl hr ih=>exact .fn hl ih
 | sY=>exact .sY
 | uA=>exact .uA
 | uL=>exact .uL
 | kI b=>exact .kI b
theorem R.yY {M M':Nat->Prop} {w w':World} {ι ι':Nat->Nat} {n n':Nat} (hb:∀ b,b<w.heap.size->¬ M b->w'.heap[b]?=w.heap[b]?) (hM:∀ b,b<w.heap.size->M' b->M b)
  (hs:∀ (b:Nat) (cur:Array Value) (e:TypeId),w.heap[b]?=some (Obj.cells cur e (0,0))->∃ cur':Array Value,w'.heap[b]?=some (Obj.cells cur' e (0,0))/\ cur'.size=cur.size)
  (hi:∀ k,k<n->ι' k=ι k) (hn:n<=n') {v:Value} {d:D} (h:R M w ι n v d):R M' w' ι' n' v d:=by
 induction h with
 | pure h=>exact .pure (h.yY hb hM)
 | ref hk h0=>rw [<- hi _ hk]; exact .ref (γ hk hn) h0
 | @xP key sz len cap cur e hk h1 h2 h3 h4=> obtain⟨cur',h5,h6⟩:=hs _ _ _ h3;rw [<- hi _ hk] at h5 ⊢;exact .xP (γ hk hn) h1 h2 h5 (δ h4 (Nat.le_of_eq h6.symm))
 | @sub key sz lo len cap off cur e hk h1 h2 h3 h4=> obtain⟨cur',h5,h6⟩:=hs _ _ _ h3;rw [<- hi _ hk] at h5 ⊢;exact .sub (γ hk hn) h1 h2 h5 (h4.imp id λh=>⟨h.1,δ h.2 (Nat.le_of_eq h6.symm)⟩)
 | xG hk=>rw [<- hi _ hk]; exact .xG (γ hk hn)
 | agg hl hr ih=>exact .agg hl ih
 | xI hl hr ih=>exact .xI hl ih
 | fn hl hr ih=>exact .fn hl ih
def yR (M0:Nat->Prop) (ι:Nat->Nat) (σ:St) (b:Nat):Prop:=M0 b\/∃ k o,σ.get k=some o/\ι k=b
def xB (M:Nat->Prop) (w:World) (ι:Nat->Nat) (n:Nat) (nC:Option Obj) (o:Ob):Prop:=
 (0<o.sz/\∃ (cur:Array Value) (e:TypeId),nC=some (Obj.cells cur e (0,0))/\ (∀ el ∈ o.xZ,el.length=o.sz)/\ o.xZ.length*o.sz<=cur.size /\
  ∀ i,i<o.xZ.length->∀ j,j<o.sz->(cur.getD (i*o.sz+j) undef).oneCell'=true/\R M w ι n (cur.getD (i*o.sz+j) undef) ((o.xZ.getD i []).getD j .top)) \/
 (o.sz=0/\∃ es:Array MapEntry,nC=some (Obj.map es es.size)/\ es.size=o.xZ.length /\
  ∀ i,i<o.xZ.length->∃ (kv v:Value) (x d:D),o.xZ.getD i [] = [x,d]/\es[i]?=some ⟨kv,v,i⟩/\ R M w ι n kv x/\R M w ι n v d)
def bZ (M:Nat->Prop) (w:World) (ι:Nat->Nat) (n key:Nat) (o:Ob):Prop:=xB M w ι n w.heap[ι key]? o
theorem xB.imp {M M':Nat->Prop} {w w':World} {ι ι':Nat->Nat} {n n':Nat} {nC:Option Obj} {o:Ob} (h:xB M w ι n nC o) (hr:∀ {v:Value} {d:D},R M w ι n v d->R M' w' ι' n' v d):xB M' w' ι' n' nC o:=by
 rcases h with ⟨h0,cur,e,h1,h2,h3,h4⟩ | ⟨h0,es,h1,h2,h3⟩
 ·exact .inl ⟨h0,cur,e,h1,h2,h3,λi hi j hj=>⟨(h4 i hi j hj).1,hr (h4 i hi j hj).2⟩⟩
 ·refine .inr ⟨h0,es,h1,h2,λi hi=>?_⟩;obtain⟨kv,v,x,d,g1,g2,g3,g4⟩:=h3 i hi;exact⟨kv,v,x,d,g1,g2,hr g3,hr g4⟩
theorem xB.cells {M:Nat->Prop} {w:World} {ι:Nat->Nat} {n:Nat} {nC:Option Obj} {o:Ob} (h:xB M w ι n nC o) (h0:0<o.sz) :
  ∃ (cur:Array Value) (e:TypeId),nC=some (Obj.cells cur e (0,0))/\ (∀ el ∈ o.xZ,el.length=o.sz)/\ o.xZ.length*o.sz<=cur.size /\
  ∀ i,i<o.xZ.length->∀ j,j<o.sz->(cur.getD (i*o.sz+j) undef).oneCell'=true/\R M w ι n (cur.getD (i*o.sz+j) undef) ((o.xZ.getD i []).getD j .top):=by
 rcases h with ⟨_,h⟩ | ⟨h,_⟩
 ·exact h
 ·omega
theorem xB.rows {M:Nat->Prop} {w:World} {ι:Nat->Nat} {n:Nat} {nC:Option Obj} {o:Ob} {cur0:Array Value} {e0:TypeId} (h:xB M w ι n nC o) (hc:nC=some (Obj.cells cur0 e0 (0,0))) :
  0<o.sz/\∃ (cur:Array Value) (e:TypeId),nC=some (Obj.cells cur e (0,0))/\ (∀ el ∈ o.xZ,el.length=o.sz)/\ o.xZ.length*o.sz<=cur.size /\
  ∀ i,i<o.xZ.length->∀ j,j<o.sz->(cur.getD (i*o.sz+j) undef).oneCell'=true/\R M w ι n (cur.getD (i*o.sz+j) undef) ((o.xZ.getD i []).getD j .top):=by
 rcases h with h | ⟨_,es,h1,_⟩
 ·exact h
 ·rw [hc] at h1; cases h1
theorem xB.mapped {M:Nat->Prop} {w:World} {ι:Nat->Nat} {n:Nat} {nC:Option Obj} {o:Ob} (h:xB M w ι n nC o) (h0:o.sz=0) :
  ∃ es:Array MapEntry,nC=some (Obj.map es es.size)/\ es.size=o.xZ.length /\
  ∀ i,i<o.xZ.length->∃ (kv v:Value) (x d:D),o.xZ.getD i [] = [x,d]/\es[i]?=some ⟨kv,v,i⟩/\ R M w ι n kv x/\R M w ι n v d:=by
 rcases h with ⟨h,_⟩ | ⟨_,h⟩
 ·omega
 ·exact h
theorem xB.isSome {M:Nat->Prop} {w:World} {ι:Nat->Nat} {n:Nat} {nC:Option Obj} {o:Ob} (h:xB M w ι n nC o):∃ b,nC=some b:=by
 rcases h with ⟨_,cur,e,h1,_⟩ | ⟨_,es,h1,_⟩
 ·exact⟨_,h1⟩
 ·exact⟨_,h1⟩
def WX (M:Nat->Prop) (w:World) (ι:Nat->Nat) (n:Nat) (tmps:Array Value) (f:Fr):Prop:=∀ t,R M w ι n (tmps.getD t undef) (f.get t)
end Go.Pd
namespace Go.Pd
open Go
def zK {α β:Type} (f:α->Option β):List α->Option (List β)
 | []=>some []
 | a :: r=>match f a,zK f r with
  | some b,some bs=>some (b :: bs)
  | _,_=>none
theorem yJ {α β:Type} {f:α->Option β}:∀ {l:List α} {bs:List β},zK f l=some bs->bs.length=l.length/\∀ (j:Nat) (a:α),l[j]?=some a->∃ b,bs[j]?=some b/\f a=some b
 | [],bs,h=>by simp [zK] at h; subst h; simp
 | a :: r,bs,h=>by
  unfold zK at h
  split at h
  ·rename_i b bs' h1 h2;simp at h; subst h;obtain⟨h3,h4⟩:=yJ h2;refine⟨by simp [h3],λj x hx=>?_⟩
   cases j with
   | zero=>simp at hx; subst hx; exact⟨b,by simp,h1⟩
   | succ j=>simp at hx; obtain⟨c,hc,hf⟩:=h4 j x hx; exact⟨c,by simpa using hc,hf⟩
  ·simp at h
def D.leaf : Value->Option D
 | .int k n=>if k.min<=n/\n<=k.max then some (.int k n) else none
 | .bool b=>some (.bool b)
 | .slice none 0 0=>some .xU
 | .pointer none=>some .sY
 | .map none=>some .uA
 | .nilFunc=>some .uL
 | _=>none
def D.ofValue (v:Value):Option D:=
 match v with
 | .agg cs=>(zK D.leaf cs.toList).map .agg
 | v=>D.leaf v
def D.one : D->Bool
 | .top | .vP | .agg _ | .xI _=>false
 | _=>true
def D.cells : D->Option (List D)
 | .agg cs=>some cs
 | .top | .vP | .xI _=>none
 | d=>some [d]
mutual
def D.xH : D->Bool
 | .ref .. | .xP .. | .sub .. | .xG _=>false
 | .agg cs | .xI cs | .fn _ cs=>D.xJ cs
 | _=>true
def D.xJ : List D->Bool
 | []=>true
 | d :: r=>d.xH&&D.xJ r
end
def pI : List D->Nat->List D->List D
 | cs,_,[]=>cs
 | cs,o,d :: ds=>pI (cs.set o d) (o+1) ds
def fR : List D->List (Nat × Nat × D)->Option (List D)
 | cs,[]=>some cs
 | cs,(o,s,d) :: r=>match d.cells with
  | some ds=>if ds.length=s/\o+s<=cs.length then fR (pI cs o ds) r else none
  | none=>none
def kO (sz:Nat):List (List D)->List (Nat × D)->Option (List (List D))
 | es,[]=>some es
 | es,(i,d) :: r=>match d.cells with
  | some ds=>if ds.length=sz/\i<es.length then kO sz (es.set i ds) r else none
  | none=>none
def uE (ag:Bool) (cs:List D):D:=if ag then .agg cs else cs.headD .top
inductive wQ where
 | t (n:Nat)
 | c (d:D)
inductive DK where
 | mv (x:wQ)
 | pick (c a b:wQ)
 | bin (op:BinOp) (x y:wQ)
 | beq (neg:Bool) (x y:wQ)
 | oU (neg:Bool) (x y:wQ)
 | nt (x:wQ)
 | neg (x:wQ)
 | TS (x:wQ)
 | geq (neg:Bool) (n:Nat) (x y:wQ)
 | ub (x:wQ)
 | conv (k:IntKind) (x:wQ)
 | XT (off:Nat) (x:wQ)
 | jg (off n:Nat) (ag:Bool) (x:wQ)
 | idx (sz:Nat) (x i:wQ)
 | build (zero:List D) (parts:List (Nat × Nat × wQ))
 | zG (sz len:Nat) (zero:List D) (parts:List (Nat × wQ))
 | len (x:wQ)
 | mn (x y:wQ)
 | mx (x y:wQ)
 | tx (x:wQ) (i:Nat)
 | eX (f:FuncId) (caps:List wQ)
 | load (n:Nat) (ag:Bool) (x:wQ)
 | xm (sz:Nat) (x:wQ) (lo hi:Option wQ)
 | call (fn:wQ) (args:List wQ)
 | box (x:wQ)
 | alloc (zero:List D)
 | store (n:Nat) (a x:wQ)
 | app (sz bytes:Nat) (x y:wQ)
 | oZ (sz bytes:Nat) (zero:List D) (len cap:wQ)
 | tK (sz len:Nat) (zero:List D) (parts:List (Nat × wQ))
 | ug (zero:D) (x:wQ)
 | XY (x:wQ)
 | fA
 | mW (zero:D) (ok:Bool) (m k:wQ)
 | pU (m k x:wQ)
 | mS (n:Nat) (zero:D) (ok:Bool) (m k:wQ)
 | rH (n:Nat) (m k x:wQ)
 | kG (zero:D) (m k:wQ)
 | kR (m s x:wQ)
 | jn (x y:wQ)
 | aj (n sz:Nat) (x i:wQ)
 | eD (n:Nat) (x:wQ)
 | rQ (n:Nat) (zero:D) (m k:wQ)
structure xN where
 dst:Option Nat
 guard:Option (Nat × Bool)
 k:DK
inductive DC where
 | skip
 | wN (pre post:List xN)
 | iC (pre:List xN) (m:xN) (mid:List xN) (un:Bool) (post:List xN)
 | iB (pre:List xN) (m1:xN) (mid1:List xN) (m2:xN) (mid2:List xN) (post:List xN)
 | jJ (pre:List xN) (m1:xN) (mid1:List xN) (m2:xN) (mid2:List xN) (post:List xN) (free:List Nat)
 | mY (ms:List Nat) (l:List xN) (s:Nat) (xs:List Nat) (y:Nat)
 | iD (pre:List xN) (m:xN) (mid:List xN) (un:Bool) (post:List xN) (fl:List Bool)
 | seq (a b:DC)
 | cond (c:wQ) (a b:DC)
 | block (id:Nat) (c:DC)
 | loop (c:DC)
 | exit (id:Nat)
 | ret
 | aq (pre:List xN) (it:Nat) (m:wQ)
 | XX (it nx more:Nat)
 | XW (it pair:Nat) (rest:List xN)
 | kP (pre:List xN) (it:Nat) (m:wQ) (out nx more next pair:Nat) (rest:List xN) (code:DC)
 | jL (f:wQ) (ps:List Nat) (a c:DC)
def xM (N:Nat):Operand->Option wQ
 | .tmp t=>if t<N then some (.t t) else none
 | .const v=>(D.ofValue v).map .c
 | .func f=>some (.c (.fn f []))
 | .global g=>some (.c (.kI g))
section
variable (P : Program) (N : Nat)
def sS (t:TypeId):Option Bool:=
 match P.underlying t with
 | some (.struct _) | some (.array _ _)=>some true
 | some _=>some false
 | none=>none
def vN (t:TypeId):Option Nat:=(P.info? t).map (·.size)
def qU (t:TypeId):Option (List D):=do
 let i <- P.info? t
 let z <- i.zero
 zK D.leaf z.cells.toList
def cL (t:TypeId) (f:Nat):Option (Nat × TypeId):=
 match P.underlying t with
 | some (.struct fs)=>(fs[f]?).map λx=>(x.offset,x.type)
 | _=>none
def sliceB (t:TypeId):Option TypeId:=
 match P.underlying t with
 | some (.slice e)=>some e
 | _=>none
def pH (n:Nat):Option Nat:=if 0<n then some n else none
def gT (x:Option Operand):Option (Option wQ):=
 match x with
 | some x=>(xM N x).map some
 | none=>some none
def fS : List Field->Nat->Bool
 | [],_=>true
 | f :: fs,o=>f.name != "_"&&(f.offset==o)&& (match P.underlying f.type with | some (.int .i64)=>true | _=>false)&& fS fs (o+1)
def oB (t:TypeId):Option Nat:=match P.underlying t with
 | some (.struct fs)=>if fS P fs.toList 0&&!P.stoodInHeld t then some fs.size else none
 | _=>none
def mkBin (op:BinOp) (t:TypeId) (x y:wQ):Option DK:=
 match P.underlying t with
 | some .bool=>if op = .eql then some (.beq false x y) else if op = .neq then some (.beq true x y) else none
 | some (.slice _)=>if op = .eql then some (.oU false x y) else if op = .neq then some (.oU true x y) else none
 | some (.int _)=>some (.bin op x y)
 | some (.struct _)=>if P.eqGuardType P.depth t then none else if op = .eql then(oB P t).map λn=>.geq false n x y else if op = .neq then(oB P t).map λn=>.geq true n x y else none
 | _=>none
def TN (op:UnOp) (x:wQ):Option DK:=
 match op with
 | .not=>some (.nt x)
 | .neg=>some (.neg x)
 | .xor=>some (.TS x)
 | _=>none
def gG (b:Builtin) (args:List wQ) (ts:List TypeId):Option DK:=
 match b with
 | .len=>match args,ts with
  | [x],[t]=>match sliceB P t with
   | some _=>some (.len x)
   | none=>match P.underlying t with
    | some (.map _ _)=>some (.ub x)
    | _=>none
  | _,_=>none
 | .min=>match args with
  | [x,y]=>some (.mn x y)
  | _=>none
 | .max=>match args with
  | [x,y]=>some (.mx x y)
  | _=>none
 | .append=>match args,ts with
  | [x,y],[t,u]=>do
   let e <- sliceB P t
   let i <- P.info? e
   let sz <- pH i.size
   let zero <- qU P e
   if t=u/\zero.length=sz then some (.app sz i.bytes x y) else none
  | _,_=>none
 | .clear=>match args,ts with
  | [x],[t]=>do
   let e <- sliceB P t
   let i <- P.info? e
   let z <- i.zero
   let d <- D.leaf z
   if i.size=1 then some (.ug d x) else none
  | _,_=>none
 | .copy=>match args,ts with
  | [x,y],[t,_]=>do
   let e <- sliceB P t
   let i <- P.info? e
   if i.size=1 then some (.jn x y) else none
  | _,_=>none
 | _=>none
def ix (c:Call):Option DK:=
 match c.callee with
 | .value f=>do pure (.call (<- xM N f) (<- zK (xM N) c.args.toList))
 | .builtin b=>do gG P b (<- zK (xM N) c.args.toList) c.argTypes.toList
 | .invoke _ _=>none
def mkLit (own:List Nat) (dst:Option Nat) (sz len:Nat) (zero:List D) (parts:List (Nat × wQ)):Option DK:=
 match dst with
 | some d=>if own.contains d then some (.tK sz len zero parts) else some (.zG sz len zero parts)
 | none=>none
def eV (t:TypeId):Option D:=
 match P.underlying t with
 | some (.map k e)=>match P.underlying k with
  | some (.int _)=>do
   let i <- P.info? e
   let z <- i.zero
   D.ofValue z
  | _=>none
 | _=>none
def eE (t:TypeId):Option (Nat × D):=
 match P.underlying t with
 | some (.map k e)=>do
  let n <- oB P k
  let i <- P.info? e
  let z <- i.zero
  let d <- D.ofValue z
  pure (n,d)
 | _=>none
def ao (own:List Nat) (o:Oper):Option DK:=
 match o.op with
 | .move x=>(xM N x).map .mv
 | .assign x=>(xM N x).map .mv
 | .pick c a b=>do pure (.pick (<- xM N c) (<- xM N a) (<- xM N b))
 | .alloc e=>do pure (.alloc (<- qU P e))
 | .box _ x=>do pure (.box (<- xM N x))
 | .build t ps=>
  match P.underlying t with
  | some (.struct fs)=>do
   let zero <- qU P t
   let places <- fs.toList.mapM (λf=>(P.info? f.type).map λi=>(f.offset,i.size))
   let parts <- zK (λ(p:Nat × Operand)=>do
    let q <- places[p.1]?
    pure (q.1,q.2,<- xM N p.2)) ps.toList
   pure (.build zero parts)
  | some (.array _ e)=>do
   let zero <- qU P t
   let sz <- vN P e
   let parts <- zK (λ(p:Nat × Operand)=>do pure (p.1*sz,sz,<- xM N p.2)) ps.toList
   pure (.build zero parts)
  | _=>none
 | .buildSlice t len ps=>do
  let e <- sliceB P t
  let sz <- pH (<- vN P e)
  let zero <- qU P e
  let parts <- zK (λ(p:Nat × Operand)=>do pure (p.1,<- xM N p.2)) ps.toList
  if zero.length=sz/\len*sz<=1000 then mkLit own o.dst sz len zero parts else none
 | .load t x=>do
  let ag <- sS P t
  let n <- vN P t
  let x' <- xM N x
  if ag=true\/n=1 then pure (.load n ag x') else none
 | .store t a x=>do pure (.store (<- vN P t) (<- xM N a) (<- xM N x))
 | .binOp op t x y _=>do mkBin P op t (<- xM N x) (<- xM N y)
 | .unOp op _ x=>do TN op (<- xM N x)
 | .convert src dst x=>
  match P.underlying src,P.underlying dst with
  | some (.int _),some (.int k)=>do pure (.conv k (<- xM N x))
  | _,_=>none
 | .makeFunc fn first caps=>
  match fn with
  | .func f=>do
   let cs <- zK (xM N) caps.toList
   if first = #[] then pure (.eX f cs) else none
  | _=>none
 | .makeSlice t l c=>do
  let e <- sliceB P t
  let i <- P.info? e
  let sz <- pH i.size
  let zero <- qU P e
  let l' <- xM N l
  let c' <- xM N c
  if zero.length=sz then pure (.oZ sz i.bytes zero l' c') else none
 | .slice t x lo hi mx=>match sliceB P t with
  | some e=>do
   let sz <- pH (<- vN P e)
   let lo' <- gT N lo
   let hi' <- gT N hi
   let x' <- xM N x
   match mx with
   | none=>pure (.xm sz x' lo' hi')
   | some _=>none
  | none=>match P.underlying t,lo,hi,mx with
   | some (.array n e),none,none,none=>do
    let i <- P.info? e
    let x' <- xM N x
    if i.size=1/\0<n then some (.eD n x') else none
   | _,_,_,_=>none
 | .fieldAddr t x f=>do
  let q <- cL P t f
  let _ <- pH (<- vN P q.2)
  pure (.XT q.1 (<- xM N x))
 | .field t x f=>do
  let q <- cL P t f
  pure (.jg q.1 (<- vN P q.2) (<- sS P q.2) (<- xM N x))
 | .indexAddr t x i=>
  match sliceB P t with
  | some e=>do pure (.idx (<- pH (<- vN P e)) (<- xM N x) (<- xM N i))
  | none=>
   match P.underlying t,i with
   | some (.array n e),.const (.int _ p)=>do
    let sz <- pH (<- vN P e)
    let x' <- xM N x
    if 0<=p/\p<n then some (.XT (p.toNat*sz) x') else none
   | some (.array n e),.tmp k=>do
    let sz <- pH (<- vN P e)
    let x' <- xM N x
    let i' <- xM N (.tmp k)
    some (.aj n sz x' i')
   | _,_=>none
 | .extract x i=>do pure (.tx (<- xM N x) i)
 | .call c=>ix P N c
 | .nilCheck x=>(xM N x).map .XY
 | .makeMap t r=>
  match r with
  | none=>if (eV P t).isSome || (eE P t).isSome then some .fA else none
  | some (.const (.int _ _))=>if (eV P t).isSome || (eE P t).isSome then some .fA else none
  | _=>none
 | .lookup t m k ok=>match eV P t with
  | some z=>do pure (.mW z ok (<- xM N m) (<- xM N k))
  | none=>do
   let p <- eE P t
   pure (.mS p.1 p.2 ok (<- xM N m) (<- xM N k))
 | .mapUpdate t m k x=>match eV P t with
  | some _=>do pure (.pU (<- xM N m) (<- xM N k) (<- xM N x))
  | none=>do
   let p <- eE P t
   pure (.rH p.1 (<- xM N m) (<- xM N k) (<- xM N x))
 | .insert t m k x=>do
  let _ <- eV P t
  pure (.pU (<- xM N m) (<- xM N k) (<- xM N x))
 | .mapEntry t m k=>match eV P t with
  | some z=>do pure (.kG z (<- xM N m) (<- xM N k))
  | none=>do
   let p <- eE P t
   pure (.rQ p.1 p.2 (<- xM N m) (<- xM N k))
 | .entryStore t m s x=>if (eV P t).isSome || (eE P t).isSome then do
  pure (.kR (<- xM N m) (<- xM N s) (<- xM N x)) else none
 | .makeInterface _ _ | .panic _=>some (.alloc [])
 | _=>none
def oW (own:List Nat) (ops:Array Oper) (o:Oper):Option xN:=do
 let k <- ao P N own o
 let dst <- (match o.dst with | some d=>if d<N then some (some d) else none | none=>some none)
 let g <- (match o.guard with
  | none=>some none
  | some (j,b)=>do
   let oj <- ops[j]?
   let d <- oj.dst
   if d<N then some (some (d,b)) else none)
 pure ⟨dst,g,k⟩
end
def DK.yG : DK->Bool
 | .mv _ | .XY _ | .pick .. | .bin .. | .beq .. | .geq .. | .nt _ | .neg _ | .TS _ | .conv .. | .XT .. | .jg .. | .tx .. | .eX .. | .mn .. | .mx .. | .build .. | .idx .. | .aj .. | .len _ | .oU ..=>true
 | _=>false
def DK.still : DK->Bool
 | .box _ | .alloc _ | .store .. | .app .. | .oZ .. | .tK .. | .ug .. | .fA | .pU .. | .rH .. | .kG .. | .rQ .. | .kR .. | .jn ..=>false
 | _=>true
def DK.jh : DK->List wQ
 | .mv x | .XY x | .nt x | .neg x | .TS x | .ub x | .conv _ x | .XT _ x | .jg _ _ _ x | .len x | .tx x _ | .load _ _ x | .box x | .ug _ x | .eD _ x=>[x]
 | .pick c a b=>[c,a,b]
 | .bin _ x y | .beq _ x y | .geq _ _ x y | .oU _ x y | .idx _ x y | .aj _ _ x y | .mn x y | .mx x y | .store _ x y | .app _ _ x y | .oZ _ _ _ x y | .jn x y=>[x,y]
 | .build _ ps=>ps.map (·.2.2)
 | .zG _ _ _ ps | .tK _ _ _ ps=>ps.map (·.2)
 | .eX _ cs=>cs
 | .xm _ x lo hi=>x :: (lo.toList++hi.toList)
 | .call f xs=>f :: xs
 | .alloc _ | .fA=>[]
 | .mW _ _ m k | .kG _ m k | .rQ _ _ m k | .mS _ _ _ m k=>[m,k]
 | .pU m k x | .kR m k x | .rH _ m k x=>[m,k,x]
def wQ.OC : wQ->Option Nat
 | .t n=>some n
 | .c _=>none
def xN.names (o:xN):List Nat:=o.k.jh.filterMap wQ.OC++(match o.guard with | some (g,_)=>[g] | none=>[])
def yZ : List Oper->List Nat->List Nat
 | [],acc=>acc
 | o :: rest,acc=>yZ rest (acc ++ [o.after.foldl (λs e=>if Region.binds .any e then s ||| 2 ^ e.on ||| acc.getD e.on 0 else s) 0])
def ordered (ms:List Nat) (i j:Nat):Bool:=(ms.getD j 0).testBit i
def uO (x y:xN):Bool:=
 (match x.dst with | some d=>!y.names.contains d&&y.dst != some d | none=>true)&&
 (match y.dst with | some d=>!x.names.contains d | none=>true)
def nT (ops:List Oper) (ds:List xN) (s:Nat) (mu:Nat->Bool) (xo:Nat->Nat->Bool):Bool:=
 let ms:=yZ ops []
 (List.range ops.length).all λj=>
  match ops[j]?,ds[j]? with
  | some oj,some dj=>(oj.after.toList.all λe=>!Region.binds .any e || decide (e.on<j))&& (List.range j).all λi=>
   match ds[i]? with
   | some di=>ordered ms i j || (uO di dj&&((decide (j<s)&& !(mu i&&mu j)) || di.k.yG || dj.k.yG || xo i j))
   | none=>false
  | _,_=>false
def cK (ops:List Oper) (ds:List xN) (s:Nat) (mu:Nat->Bool):Bool:=nT ops ds s mu λ_ _=>false
def yI (own:List Nat) (o:xN):Bool:=match o.dst,o.guard with
 | some d,none=>own.contains (1000000+d)
 | _,_=>false
def wF (own:List Nat) (ds:List xN) (i:Nat):Bool:=match ds[i]? with
 | some d=>yI own d
 | none=>false
def uQ (own:List Nat):List xN->Nat
 | []=>0
 | o :: r=>if o.k.still || yI own o then uQ own r+1 else 0
def vX (l:List xN):Bool:=(l.all λo=>o.dst.isSome)&& decide (l.map (·.dst)).Nodup
def vA (ms:List Nat) (m:Nat):List xN->Nat->Bool
 | [],_=>true
 | o :: r,j=>(o.k.yG || ordered ms m j)&& vA ms m r (j+1)
def dm (own:List Nat) (ops:List Oper) (l:List xN) (s:Nat):Option DC:=
 let h:=l.take s
 match h.findIdx? (yI own) with
 | none=>some (.wN h (l.drop s))
 | some m=>match h[m]? with
  | none=>none
  | some o=>
   let r:=h.drop (m+1)
   match r.findIdx? (yI own) with
   | none=>if vX (h.take m)&& vX r&&!o.k.yG then some (.iC (h.take m) o r (!vA (yZ ops []) m r (m+1)) (l.drop s)) else none
   | some n=>match r[n]? with
    | none=>none
    | some o2=>if ((r.drop (n+1)).findIdx? (yI own)).isNone&&(vX (h.take m)&& vX (r.take n)&& vX (r.drop (n+1)))&& (!o.k.yG&&!o2.k.yG)&& (vA (yZ ops []) m (r.take n) (m+1)&& vA (yZ ops []) (m+1+n) (r.drop (n+1)) (m+1+n+1)) then
      some (.iB (h.take m) o (r.take n) o2 (r.drop (n+1)) (l.drop s)) else none
def wt (own:List Nat) (ops:List Oper) (l:List xN) (s:Nat):Option DC:=
 let h:=l.take s
 match h.findIdx? (yI own) with
 | none=>none
 | some m=>match h[m]? with
  | none=>none
  | some o=>
   let r:=h.drop (m+1)
   if own.contains (2000000+o.dst.getD 0)&& (r.findIdx? (yI own)).isNone&&vX (h.take m)&& vX r&&!o.k.yG then
    some (.iD (h.take m) o r (!vA (yZ ops []) m r (m+1)) (l.drop s) ((List.range m).map λi=>ordered (yZ ops []) i m)) else none
def Yv (ms:List Nat) (x y:Nat) (l:List xN):List Nat:=(List.range l.length).filterMap λj=>if j==x || j==y || ordered ms x j || ordered ms y j then none else(l[j]?).bind (·.dst)
def lH : DK->Bool
 | .alloc _=>true
 | _=>false
def jb (own:List Nat) (ops:List Oper) (l:List xN) (s:Nat):Option DC:=
 let h:=l.take s
 match h.findIdx? (yI own) with
 | none=>none
 | some m=>match h[m]? with
  | none=>none
  | some o=>
   let r:=h.drop (m+1)
   match r.findIdx? (yI own) with
   | none=>none
   | some n=>match r[n]? with
    | none=>none
    | some o2=>if ((r.drop (n+1)).findIdx? (yI own)).isNone&&vX h&&decide (l.filterMap (·.dst)).Nodup&&(!o.k.yG&&lH o2.k)&& nT ops l s (wF own l) (λi j=>i==m&&j==m+1+n)&& vA (yZ ops []) m (r.take n) (m+1) then
      some (.jJ (h.take m) o (r.take n) o2 (r.drop (n+1)) (l.drop s) (Yv (yZ ops []) m (m+1+n) l)) else none
def jX (own:List Nat) (ops:List Oper) (l:List xN) (s:Nat) (xs:List Nat) (y:Nat):Bool:=(if y<s then(match l[y]? with | some o=>lH o.k | none=>false) else decide (y=l.length))&& decide (s<=l.length)&& decide (l.filterMap (·.dst)).Nodup&&(xs.all λx=>match l[x]? with | some o=>!o.k.yG | none=>false)&& nT ops l s (wF own l) (λi j=>xs.contains i&&j==y)
def wq (own:List Nat) (ops:List Oper) (l:List xN) (s:Nat):Option DC:=
 match ((List.range s).filter (wF own l)).reverse with
 | y :: r=>if jX own ops l s r.reverse y=true then some (.mY (yZ ops []) l s r.reverse y) else if jX own ops l s (y :: r).reverse l.length=true then some (.mY (yZ ops []) l s (y :: r).reverse l.length) else none
 | []=>none
def ja (own:List Nat) (ops:List Oper) (l:List xN) (s:Nat):Option DC:=match dm own ops l s with
 | some d=>some d
 | none=>wq own ops l s
def Yg (P:Program) (t:TypeId):Bool:=match P.underlying t with
 | some (.map _ _)=>true
 | _=>false
def jF (P:Program) (N:Nat) (own:List Nat) (ops:Array Oper):Option DC:=
 match ops.toList.getLast? with
 | some o=>match o.op,o.dst,o.guard with
  | .range t x,some it,none=>do
   let m <- xM N x
   let pre <- zK (oW P N own ops) ops.toList.dropLast
   if Yg P t=true/\it<N then some (.aq pre it m) else none
  | _,_,_=>none
 | none=>none
def xf (N:Nat) (ops:Array Oper):Option DC:=
 match ops.toList with
 | [o2,o3]=>match o2.op,o2.dst,o2.guard,o3.op,o3.dst,o3.guard with
  | .next (.tmp it) false,some nx,none,.extract (.tmp nx') 0,some more,none=>if nx'=nx/\nx<N/\more<N then some (.XX it nx more) else none
  | _,_,_,_,_,_=>none
 | _=>none
def xe (P:Program) (N:Nat) (own:List Nat) (ops:Array Oper):Option DC:=
 match ops.toList with
 | o :: l=>match o.op,o.dst,o.guard with
  | .entry (.tmp it),some pair,none=>do
   let rest <- zK (oW P N own ops) l
   if pair<N then some (.XW it pair rest) else none
  | _,_,_=>none
 | _=>none
def dU (o:Oper):Bool:=match o.op with
 | .move _ | .assign _ | .nilCheck _ | .fieldAddr .. | .indexAddr .. | .load ..=>true
 | _=>false
def cP (P:Program) (N:Nat) (own:List Nat) (ops:Array Oper) (draw:Bool):Option DC:=
 if draw then(if (ops.toList.dropLast.all λo=>dU o&&o.guard.isNone)&& Region.lexTailB .any ops (ops.size-1) then jF P N own ops else none) else match jF P N own ops with
  | some d=>some d
  | none=>match xf N ops with
   | some d=>some d
   | none=>xe P N own ops
def WT (x y:DC):DC:=
 match x,y with
 | .aq pre it m,.block out (.loop (.seq (.XX it1 nx more) (.seq (.cond (.t more1) .skip (.exit out1)) (.block next (.seq (.XW it2 pair rest) code)))))=> if it1=it/\it2=it/\more1=more/\out1=out/\it≠nx/\it≠more/\it≠pair then .kP pre it m out nx more next pair rest code else .seq x y
 | _,_=>.seq x y
def vC (P:Program) (N:Nat) (own:List Nat):Code->Option DC
 | .skip=>some .skip
 | .region _ ops draw=>match cP P N own ops draw with
  | some d=>some d
  | none=>do
   let l <- zK (oW P N own ops) ops.toList
   if draw then
    let s:=uQ own l
    if own.contains 77777=false/\cK ops.toList l s (wF own l)= true then(match wt own ops.toList l s with | some d=>some d | none=>ja own ops.toList l s) else if own.contains 77777=false then(match jb own ops.toList l s with | some d=>some d | none=>wq own ops.toList l s) else none
   else pure (.wN [] l)
 | .seq a b=>do pure (WT (<- vC P N own a) (<- vC P N own b))
 | .cond c a b=>do pure (.cond (<- xM N c) (<- vC P N own a) (<- vC P N own b))
 | .block id c=>do pure (.block id (<- vC P N own c))
 | .loop c=>do pure (.loop (<- vC P N own c))
 | .rangeFunc f ps a c=>do pure (.jL (<- xM N f) ps.toList (<- vC P N own a) (<- vC P N own c))
 | .exit id=>some (.exit id)
 | .ret=>some .ret
 | _=>none
end Go.Pd
namespace Go.Pd
open Go
def uX (f:Fr):wQ->D
 | .t n=>f.get n
 | .c d=>d
def rL (op:BinOp) (k:IntKind) (a b:Int):Int:=
 match op with
 | .and=>k.wrap (BitVec.ofInt k.bits a &&& BitVec.ofInt k.bits b).toNat
 | .or=>k.wrap (BitVec.ofInt k.bits a ||| BitVec.ofInt k.bits b).toNat
 | .xor=>k.wrap (BitVec.ofInt k.bits a ^^^ BitVec.ofInt k.bits b).toNat
 | _=>k.wrap (BitVec.ofInt k.bits a &&& ~~~BitVec.ofInt k.bits b).toNat
def ud (k:IntKind) (a b:Int):Int:=k.wrap (a*2 ^ (min b.toNat k.bits))
def ue (k:IntKind) (a b:Int):Int:=a.fdiv (2 ^ (min b.toNat k.bits))
def sI (op:BinOp) (k:IntKind) (a:Int) (k':IntKind) (b:Int) (K:D->Prop):Prop:=
 match op with
 | .shl=>0<=b/\K (.int k (ud k a b))
 | .shr=>0<=b/\K (.int k (ue k a b))
 | .add=>k=k'/\K (.int k (k.wrap (a+b)))
 | .sub=>k=k'/\K (.int k (k.wrap (a-b)))
 | .mul=>k=k'/\K (.int k (k.wrap (a*b)))
 | .quo=>k=k'/\b≠0/\K (.int k (k.wrap (a.tdiv b)))
 | .rem=>k=k'/\b≠0/\K (.int k (a.tmod b))
 | .and=>k=k'/\K (.int k (rL .and k a b))
 | .or=>k=k'/\K (.int k (rL .or k a b))
 | .xor=>k=k'/\K (.int k (rL .xor k a b))
 | .andNot=>k=k'/\K (.int k (rL .andNot k a b))
 | .eql=>k=k'/\K (.bool (a==b))
 | .neq=>k=k'/\K (.bool (a != b))
 | .lss=>k=k'/\K (.bool (decide (a<b)))
 | .leq=>k=k'/\K (.bool (decide (a<=b)))
 | .gtr=>k=k'/\K (.bool (decide (a > b)))
 | .geq=>k=k'/\K (.bool (decide (a >= b)))
def tA (ι:Nat->Nat) (σ:St) (b:Nat):Prop:=∃ k o,σ.get k=some o/\ι k=b
class vU where
 tN:List (Nat × List Value)
 deep:List (Nat × D)
variable [vU]
def dS (w:World) (M:Nat->Prop):Prop:=(∀ p ∈ vU.tN,p.1<w.heap.size/\¬ M p.1/\∀ j v,p.2[j]?=some v->w.cell? ⟨p.1,j,none⟩= some v)/\
 ∀ q ∈ vU.deep,¬ M q.1/\∃ v,w.cell? ⟨q.1,0,none⟩= some v/\RP M w v q.2
theorem dS.yY {M M':Nat->Prop} {w w':World} (h:dS w M) (hs:w.heap.size<=w'.heap.size) (hb:∀ b,b<w.heap.size->¬ M b->w'.heap[b]?=w.heap[b]?) (hM:∀ b,b<w.heap.size->M' b->M b):dS w' M':=⟨λp hp=>
 let ⟨h1,h2,h3⟩:=h.1 p hp
 ⟨γ h1 hs,λhm=>h2 (hM _ h1 hm),λj v hv=>by rw [World.cell?_of_block (w:=w) (hb _ h1 h2)]; exact h3 j v hv⟩,λq hq=>
 let ⟨h1,v,h2,h3⟩:=h.2 q hq
 have hl:q.1<w.heap.size:=iW h2
 ⟨λhm=>h1 (hM _ hl hm),v,by rw [World.cell?_of_block (w:=w) (hb _ hl h1)]; exact h2,h3.yY hb hM⟩⟩
def Tn (b:Nat) (ds:List D):Prop:=∀ (M:Nat->Prop) (w:World),dS w M->∃ vs:List Value,vs.length=ds.length/\(∀ j v,vs[j]?=some v->w.cell? ⟨b,j,none⟩= some v)/\ ∀ j,j<ds.length->RP M w (vs.getD j undef) (ds.getD j .top)
structure yC (M0 : Nat -> Prop) (w : World) (σ : St) (ι : Nat -> Nat) : Prop where
 uJ:∀ b,M0 b->b<w.heap.size
 holds:∀ k o,σ.get k=some o->k<σ.nx/\bZ (yR M0 ι σ) w ι σ.nx k o
 inj:∀ k k' o o',σ.get k=some o->σ.get k'=some o'->ι k=ι k'->k=k'
 notM:∀ k o,σ.get k=some o->¬ M0 (ι k)
 tN:dS w (yR M0 ι σ)
def oI (P:Program) (g:FuncId):Prop:=∃ fn,P.funcs[g]?=some fn/\(fn.name == "runtime.NumGoroutine")= false/\fn.body.isNone=false
structure xW (P : Program) (g : FuncId) (args : List D) (σ : St) (d : D) (σ' : St) : Prop where
 ord:oI P g
 run:∀ (M0:Nat->Prop) (w:World) (ι:Nat->Nat) (vals:Array Value),yC M0 w σ ι->vals.size=args.length ->
  (∀ j,j<args.length->R (yR M0 ι σ) w ι σ.nx (vals.getD j undef) (args.getD j .top)) ->
  Calls P g vals w λe w'=>∃ v ι',e = .returned v/\Kept w w' (tA ι σ)/\ yC M0 w' σ' ι'/\σ.nx<=σ'.nx/\(∀ k,k<σ.nx->ι' k=ι k)/\
   (∀ k o,σ'.get k=some o->w.heap.size<=ι' k\/tA ι σ (ι' k))/\ R (yR M0 ι' σ') w' ι' σ'.nx v d
structure Cx where
 P:Program
 N:Nat
 n0:Nat:=0
 own:List Nat:=[]
 rd:Option Nat:=none
def Cx.F (C:Cx):Fence:={ Fence.wide with round:=C.rd }
def U4 : Option D->Option Int
 | none=>some 0
 | some (.int _ n)=>some n
 | _=>none
omit [vU] in
theorem wH {c:Prop} [Decidable c] {p q:Prop} (h:if c then p else q):(c->p)/\ (¬ c->q):=⟨λhc=>by rwa [if_pos hc] at h,λhc=>by rwa [if_neg hc] at h⟩
omit [vU] in
theorem gS {c:Prop} [Decidable c] {p q:Prop} (h1:c->p) (h2:¬ c->q):if c then p else q:=by
 by_cases h:c
 ·rw [if_pos h]; exact h1 h
 ·rw [if_neg h]; exact h2 h
omit [vU] in
theorem ab {t:Bool} {p q:Prop} (h:if t=true then p else q):(t=true->p)/\ (t=false->q):=⟨λhc=>(wH h).1 hc,λhc=>(wH h).2 (by simp [hc])⟩
def rq (P:Program) (g:FuncId) (args:List D) (σ:St) (K:D->Prop):Prop:=∃ d,xW P g args σ d σ/\K d
def rv (P:Program) (g:FuncId) (args:List D) (σ:St) (K:D->St->Prop):Prop:=∃ d σ',xW P g args σ d σ'/\K d σ'
def oT (kk:IntKind) (xZ:List (List D)):Prop:=∀ row ∈ xZ,∃ m d,row = [D.int kk m,d]
def sT (x:Int):List (List D)->Nat->Option (Nat × D)
 | [],_=>none
 | [.int _ m,d] :: r,i=>if x=m then some (i,d) else sT x r (i+1)
 | _ :: r,i=>sT x r (i+1)
def fU (kk:IntKind) (xZ:List (List D)) (x:Int) (d:D):List (List D):=
 match sT x xZ 0 with
 | some (i,_)=>xZ.set i [.int kk x,d]
 | none=>xZ ++ [[.int kk x,d]]
def sZ (ok:Bool) (zero:D) (r:Option (Nat × D)):D:= if ok then .xI [(r.map (·.2)).getD zero,.bool r.isSome] else(r.map (·.2)).getD zero
def vD (l:List (List Int × D)):List (List D):=l.map λp=>[.agg (p.1.map (D.int .i64)),p.2]
def sR (x:List Int):List (List Int × D)->Nat->Option (Nat × D)
 | [],_=>none
 | (k,d) :: r,i=>if x=k then some (i,d) else sR x r (i+1)
def qP : List D->Option (List Int)
 | []=>some []
 | .int .i64 a :: r=>(qP r).map (a :: ·)
 | _=>none
theorem tU : ∀ {cs:List D} {xs:List Int},qP cs=some xs->cs=xs.map (D.int .i64)
 | [],xs,h=>by cases h; rfl
 | d :: r,xs,h=>by
  unfold qP at h
  split at h
  ·rename_i e; cases e
  ·rename_i a r' e;cases e;rw [Option.map_eq_some_iff] at h;obtain⟨ys,h1,rfl⟩:=h;rw [tU h1]; rfl
  ·cases h
def kN (y:List Int) (x:D) (l:List (List Int × D)):List (List Int × D):=match sR y l 0 with
 | some (i,_)=>l.set i (y,x)
 | none=>l ++ [(y,x)]
def pW (C:Cx) (σ:St) (ev:wQ->D):DK->(D->Prop)->Prop
 | .mv x,K=>K (ev x)
 | .pick c a b,K=>match ev c with
  | .bool t=>if t=true then K (ev a) else K (ev b)
  | _=>False
 | .bin op x y,K=>match ev x,ev y with
  | .int k a,.int k' b=>sI op k a k' b K
  | _,_=>False
 | .beq neg x y,K=>match ev x,ev y with
  | .bool a,.bool b=>K (.bool (if neg then a != b else a==b))
  | _,_=>False
 | .oU neg x y,K=>match ev x,ev y with
  | .xU,.xU=>K (.bool (!neg))
  | .xP ..,.xU | .xU,.xP ..=>K (.bool neg)
  | .emp,.xU | .xU,.emp=>K (.bool neg)
  | .sl _ (_ :: _),.xU=>K (.bool neg)
  | _,_=>False
 | .nt x,K=>match ev x with
  | .bool b=>K (.bool (!b))
  | _=>False
 | .neg x,K=>match ev x with
  | .int k a=>K (.int k (k.wrap (0-a)))
  | _=>False
 | .TS x,K=>match ev x with
  | .int k a=>K (.int k (rL .xor k (if k.signed then -1 else k.max) a))
  | _=>False
 | .geq neg n x y,K=>match ev x,ev y with
  | .agg cs,.agg ds=>match qP cs,qP ds with
   | some xs,some ys=>xs.length=n/\ys.length=n/\K (.bool (if neg then !decide (xs=ys) else decide (xs=ys)))
   | _,_=>False
  | _,_=>False
 | .ub x,K=>match ev x with
  | .xG key=>match σ.get key with
   | some o=>o.sz=0/\o.xZ.length<=1000000/\K (.int .i64 o.xZ.length)
   | none=>False
  | _=>False
 | .conv k x,K=>match ev x with
  | .int _ n=>K (.int k (k.wrap n))
  | _=>False
 | .XT off x,K=>match ev x with
  | .ref key sz i o=>K (.ref key sz i (o+off))
  | .ptr cs=>off<cs.length/\K (.ptr (cs.drop off))
  | _=>False
 | .jg off n ag x,K=>match ev x with
  | .agg cs=>off+n<=cs.length/\(ag=true\/n=1)/\ K (uE ag ((cs.drop off).take n))
  | _=>False
 | .idx sz x i,K=>match ev x,ev i with
  | .sl sz' xZ,.int _ n=>sz=sz'/\0<=n/\n<xZ.length/\K (.ptr (xZ.getD n.toNat []))
  | .xP key sz' len,.int _ n=>sz=sz'/\0<=n/\n<len/\K (.ref key sz n.toNat 0)
  | .sub key sz' lo len,.int _ n=>sz=sz'/\0<=n/\n<len/\K (.ref key sz (lo+n.toNat) 0)
  | _,_=>False
 | .aj n sz x i,K=>match ev x,ev i with
  | .ref key s j off,.int _ p=>0<=p/\p<n/\K (.ref key s j (off+p.toNat*sz))
  | _,_=>False
 | .eD n x,K=>match ev x with
  | .ref key s 0 0=>match σ.get key with
   | some ob=>ob.sz=s/\0<ob.xZ.length/\n<=s/\n<=maxLen/\K (.xP key 1 n)
   | none=>False
  | _=>False
 | .build zero parts,K=>match fR zero (parts.map λp=>(p.1,p.2.1,ev p.2.2)) with
  | some cs=>K (.agg cs)
  | none=>False
 | .zG sz len zero parts,K=>match kO sz (List.replicate len zero) (parts.map λp=>(p.1,ev p.2)) with
  | some es=>(es.all D.xJ)= true/\K (.sl sz es)
  | none=>False
 | .len x,K=>match ev x with
  | .sl _ xZ=>K (.int .i64 xZ.length)
  | .xP _ _ n=>K (.int .i64 n)
  | .sub _ _ _ n=>K (.int .i64 n)
  | .xU=>K (.int .i64 0)
  | .emp=>K (.int .i64 0)
  | _=>False
 | .mn x y,K=>match ev x,ev y with
  | .int k a,.int k' b=>k=k'/\K (.int k (if b<a then b else a))
  | _,_=>False
 | .mx x y,K=>match ev x,ev y with
  | .int k a,.int k' b=>k=k'/\K (.int k (if b > a then b else a))
  | _,_=>False
 | .tx x i,K=>match ev x with
  | .xI vs=>i<vs.length/\K (vs.getD i .top)
  | _=>False
 | .eX f caps,K=>K (.fn f (caps.map ev))
 | .load n ag x,K=>match ev x with
  | .ref key sz i off=>match σ.get key with
   | some o=>o.sz=sz/\i<o.xZ.length/\off+n<=sz/\(ag=true\/n=1)/\ K (uE ag (((o.xZ.getD i []).drop off).take n))
   | none=>False
  | .ptr cs=>n<=cs.length/\(ag=true\/n=1)/\ K (uE ag (cs.take n))
  | .kI b=>∃ ds,Tn b ds/\n<=ds.length/\(ag=true\/n=1)/\ K (uE ag (ds.take n))
  | _=>False
 | .xm sz x lo hi,K=>match ev x with
  | .sl sz' xZ=>sz=sz'/\∃ l h:Int,U4 (lo.map ev)= some l/\(match hi.map ev with | none=>h=xZ.length | some (.int _ n)=>h=n | some _=>False)/\ 0<=l/\l<=h/\h<=xZ.length/\K (.sl sz ((xZ.take h.toNat).drop l.toNat))
  | .xP key sz' len=>sz=sz'/\∃ l h:Int,U4 (lo.map ev)= some l/\(match hi.map ev with | none=>h=len | some (.int _ n)=>h=n | some _=>False)/\ 0<=l/\l<=h/\h<=len/\K (if l=0 then .xP key sz h.toNat else if l=h then .emp else .sub key sz l.toNat (h.toNat-l.toNat))
  | .sub key sz' lo0 len=>sz=sz'/\∃ l h:Int,U4 (lo.map ev)= some l/\(match hi.map ev with | none=>h=len | some (.int _ n)=>h=n | some _=>False)/\ 0<=l/\l<=h/\h<=len/\K (.sub key sz (lo0+l.toNat) (h.toNat-l.toNat))
  | _=>False
 | .call fn args,K=>match ev fn with
  | .fn g caps=>rq C.P g (args.map ev++caps) σ K
  | _=>False
 | .XY x,K=>match ev x with
  | .ref key sz i off=>K (.ref key sz i off)
  | .ptr cs=>K (.ptr cs)
  | .fn f cs=>K (.fn f cs)
  | _=>False
 | .mW zero ok m k,K=>match ev m,ev k with
  | .xG key,.int kk x=>match σ.get key with
   | some o=>o.sz=0/\oT kk o.xZ/\K (sZ ok zero (sT x o.xZ 0))
   | none=>False
  | .uA,.int _ _=>K (sZ ok zero none)
  | _,_=>False
 | .mS n zero ok m k,K=>match ev m,ev k with
  | .xG key,.agg cs=>match σ.get key with
   | some o=>o.sz=0/\∃ (x:List Int) (l:List (List Int × D)),(cs=x.map (D.int .i64)/\ o.xZ=vD l/\x.length=n/\∀ p ∈ l,p.1.length=n)/\ K (sZ ok zero (sR x l 0))
   | none=>False
  | _,_=>False
 | _,_=>False
def Fr.put (f:Fr):Option Nat->D->Fr
 | some t,d=>(t,d) :: f
 | none,_=>f
def vK : List (Nat × Ob)->Nat->Ob->List (Nat × Ob)
 | [],_,_=>[]
 | (j,o) :: r,k,o'=>if j=k then(j,o') :: r else(j,o) :: vK r k o'
def St.set (σ:St) (k:Nat) (o:Ob):St:=⟨σ.nx,vK σ.xY k o⟩
def St.new (σ:St) (o:Ob):St:=⟨σ.nx+1,(σ.nx,o) :: σ.xY⟩
def zI : List (Nat × Ob)->Nat->List (Nat × Ob)
 | [],_=>[]
 | (j,o) :: r,k=>if j=k then zI r k else(j,o) :: zI r k
def St.erase (σ:St) (k:Nat):St:=⟨σ.nx,zI σ.xY k⟩
def zX (cs:List D):Bool:=cs.all D.one
def rowsOf (σ:St) (sz:Nat):D->Option (List (List D))
 | .sl sz' xZ=>if sz=sz' then some xZ else none
 | .xU=>some []
 | .emp=>some []
 | .xP key sz' n=>if sz=sz' then(match σ.get key with | some o=>if o.sz=sz/\n<=o.xZ.length then some (o.xZ.take n) else none | none=>none) else none
 | _=>none
def vO (C:Cx) (σ:St) (ev:wQ->D) (k:DK) (K:D->St->Prop):Prop:=
 match k with
 | .box x=>match (ev x).cells with
  | some cs=>zX cs=true/\0<cs.length/\K (.ref σ.nx cs.length 0 0) (σ.new ⟨cs.length,[cs]⟩)
  | none=>False
 | .alloc zero=>zX zero=true/\0<zero.length/\K (.ref σ.nx zero.length 0 0) (σ.new ⟨zero.length,[zero]⟩)
 | .store n a x=>match ev a,(ev x).cells with
  | .ref key sz i off,some ds=>match σ.get key with
   | some ob=>ob.sz=sz/\i<ob.xZ.length/\ds.length=n/\off+n<=sz/\zX ds=true/\K .vP (σ.set key ⟨sz,ob.xZ.set i (pI (ob.xZ.getD i []) off ds)⟩)
   | none=>False
  | _,_=>False
 | .app sz bytes x y=>match rowsOf σ sz (ev y) with
  | none=>False
  | some rows=>(∀ r ∈ rows,zX r=true)/\ match ev x with
   | .xU=>rows.length*bytes<=140737488355328/\rows.length<=8000000000000/\(rows = []->K .xU σ)/\ (rows ≠ []->K (.xP σ.nx sz rows.length) (σ.new ⟨sz,rows⟩))
   | .xP key sz' n=>match σ.get key with
    | some ob=>sz=sz'/\ob.sz=sz/\n<=ob.xZ.length/\(n+rows.length)* bytes<=140737488355328/\n+rows.length<=8000000000000 /\
     K (.xP σ.nx sz (n+rows.length)) ((σ.erase key).new ⟨sz,ob.xZ.take n++rows⟩)
    | none=>False
   | .sub key sz' lo n=>match σ.get key with
    | some ob=>C.own.contains 77777=true/\sz=sz'/\ob.sz=sz/\lo+n<=ob.xZ.length/\(n+rows.length)* bytes<=140737488355328/\n+rows.length<=8000000000000 /\
     ∀ pre:List (List D),(pre = []\/pre=ob.xZ.take lo)->K (.sub σ.nx sz pre.length (n+rows.length)) ((σ.erase key).new ⟨sz,pre++((ob.xZ.drop lo).take n++rows)⟩)
    | none=>False
   | _=>False
 | .oZ sz bytes zero len cap=>match ev len,ev cap with
  | .int .i64 n,.int .i64 m=>n=m/\0<=n/\bytes*n<=281474976710656/\zX zero=true/\K (.xP σ.nx sz n.toNat) (σ.new ⟨sz,List.replicate n.toNat zero⟩)
  | _,_=>False
 | .tK sz len zero parts=>match kO sz (List.replicate len zero) (parts.map λp=>(p.1,ev p.2)) with
  | some es=>(∀ e ∈ es,zX e=true)/\ K (.xP σ.nx sz len) (σ.new ⟨sz,es⟩)
  | none=>False
 | .ug zero x=>match ev x with
  | .xU=>K (.xI []) σ
  | .emp=>K (.xI []) σ
  | .xP key sz n=>match σ.get key with
   | some ob=>sz=1/\ob.sz=1/\0<n/\n<=ob.xZ.length/\zero.one=true/\K (.xI []) (σ.set key ⟨1,List.replicate n [zero]++ob.xZ.drop n⟩)
   | none=>False
  | .sub key sz lo n=>match σ.get key with
   | some ob=>sz=1/\ob.sz=1/\0<n/\lo+n<=ob.xZ.length/\zero.one=true/\K (.xI []) (σ.set key ⟨1,ob.xZ.take lo++(List.replicate n [zero]++ob.xZ.drop (lo+n))⟩)
   | none=>False
  | _=>False
 | .call fn args=>match ev fn with
  | .fn g caps=>rv C.P g (args.map ev++caps) σ K
  | _=>False
 | .jn x y=>match rowsOf σ 1 (ev y) with
  | none=>False
  | some rows=>(∀ r ∈ rows,zX r=true)/\ match ev x with
   | .xP key sz n=>match σ.get key with
    | some ob=>sz=1/\ob.sz=1/\n<=ob.xZ.length/\0<min n rows.length/\K (.int .i64 ((min n rows.length:Nat):Int)) (σ.set key ⟨1,rows.take (min n rows.length)++ ob.xZ.drop (min n rows.length)⟩)
    | none=>False
   | .sub key sz lo n=>match σ.get key with
    | some ob=>sz=1/\ob.sz=1/\lo+n<=ob.xZ.length/\0<min n rows.length/\K (.int .i64 ((min n rows.length:Nat):Int)) (σ.set key ⟨1,ob.xZ.take lo++(rows.take (min n rows.length)++ ob.xZ.drop (lo+min n rows.length))⟩)
    | none=>False
   | _=>False
 | .fA=>K (.xG σ.nx) (σ.new ⟨0,[]⟩)
 | .pU m k x=>match ev m,ev k with
  | .xG key,.int kk y=>match σ.get key with
   | some o=>o.sz=0/\oT kk o.xZ/\K .vP (σ.set key ⟨0,fU kk o.xZ y (ev x)⟩)
   | none=>False
  | _,_=>False
 | .rH n m k x=>match ev m,ev k with
  | .xG key,.agg cs=>match σ.get key with
   | some o=>o.sz=0/\∃ (y:List Int) (l:List (List Int × D)),(cs=y.map (D.int .i64)/\ o.xZ=vD l/\(y.length=n/\∀ p ∈ l,p.1.length=n))/\ K .vP (σ.set key ⟨0,vD (kN y (ev x) l)⟩)
   | none=>False
  | _,_=>False
 | .kG zero m k=>match ev m,ev k with
  | .xG key,.int kk y=>match σ.get key with
   | some o=>o.sz=0/\oT kk o.xZ/\o.xZ.length<=1000000000/\(match sT y o.xZ 0 with
    | some (i,d)=>K (.xI [d,.int .i64 i]) (σ.set key ⟨0,o.xZ⟩)
    | none=>K (.xI [zero,.int .i64 o.xZ.length]) (σ.set key ⟨0,o.xZ ++ [[.int kk y,zero]]⟩))
   | none=>False
  | _,_=>False
 | .rQ n zero m k=>match ev m,ev k with
  | .xG key,.agg cs=>match σ.get key with
   | some o=>o.sz=0/\o.xZ.length<=1000000000/\∃ (y:List Int) (l:List (List Int × D)),(cs=y.map (D.int .i64)/\ o.xZ=vD l/\(y.length=n/\∀ p ∈ l,p.1.length=n))/\ (match sR y l 0 with
    | some (i,d)=>K (.xI [d,.int .i64 i]) (σ.set key ⟨0,o.xZ⟩)
    | none=>K (.xI [zero,.int .i64 o.xZ.length]) (σ.set key ⟨0,vD (l ++ [(y,zero)])⟩))
   | none=>False
  | _,_=>False
 | .kR m s x=>match ev m,ev s with
  | .xG key,.int _ i=>match σ.get key with
   | some o=>o.sz=0/\0<=i/\i<o.xZ.length/\(∃ y d,o.xZ.getD i.toNat [] = [y,d]/\K .vP (σ.set key ⟨0,o.xZ.set i.toNat [y,ev x]⟩))
   | none=>False
  | _,_=>False
 | k=>pW C σ ev k λd=>K d σ
def TT (C:Cx) (o:xN) (f:Fr) (σ:St) (K:Fr->St->Prop):Prop:=vO C σ (uX f) o.k λd σ'=>K (f.put o.dst d) σ'
def xF (o:xN) (f:Fr) (yes no:Prop):Prop:=
 match o.guard with
 | none=>yes
 | some (j,want)=>match f.get j with
  | .bool b=>if b=want then yes else no
  | .vP=>no
  | _=>False
def uF (C:Cx):List xN->Fr->St->(Fr->St->Prop)->Prop
 | [],f,σ,K=>K f σ
 | o :: rest,f,σ,K=>xF o f (TT C o f σ λf σ=>uF C rest f σ K) (uF C rest (f.put o.dst .vP) σ K)
def uY (C:Cx) (σ:St):List xN->Fr->(Fr->Prop)->Prop
 | [],f,K=>K f
 | o :: rest,f,K=>xF o f (pW C σ (uX f) o.k λd=>uY C σ rest (f.put o.dst d) K) (uY C σ rest (f.put o.dst .vP) K)
structure Env where
 w0:World
 M0:Nat->Prop
 K0:Nat->Prop
 ι0:Nat->Nat
 B:Nat
def Marks (B:Nat) (a:Act) (w:World):Prop:=B<=w.heap.size/\∃ l:List Nat,a.defers=l.map (λD=>{ target:=.collected D,args:=#[] })/\ l.Nodup/\∀ D ∈ l,w.heap[D]?=some (Obj.deferred (some []))/\ B<=D
theorem Marks.yY {B:Nat} {a a':Act} {w w':World} (h:Marks B a w) (ha:a'.defers=a.defers) (hs:w.heap.size<=w'.heap.size) (hk:∀ D:Nat,w.heap[D]?=some (Obj.deferred (some []))->w'.heap[D]?=some (Obj.deferred (some []))):Marks B a' w':=
 let ⟨h0,l,h1,h2,h3⟩:=h
 ⟨δ h0 hs,l,ha.trans h1,h2,λD hD=>⟨hk D (h3 D hD).1,(h3 D hD).2⟩⟩
theorem Marks.none {B:Nat} {a:Act} {w:World} (h:a.defers = []) (hB:B<=w.heap.size):Marks B a w:=⟨hB,[],h,.nil,λD hD=>by cases hD⟩
theorem Kept.mark {w w':World} {K:Nat->Prop} {D:Nat} {o:Obj} (hk:Kept w w' K) (hn:¬ K D) (h:w.heap[D]?=some o):w'.heap[D]?=some o:=(hk.block D (Array.getElem?_eq_some_iff.1 h).1 hn).trans h
theorem yC.iX {M0:Nat->Prop} {w:World} {σ:St} {ι:Nat->Nat} (hS:yC M0 w σ ι) {D:Nat} {x:Option (List Deferred)} (h:w.heap[D]?=some (Obj.deferred x)):¬ tA ι σ D:=by
 rintro ⟨k,o,hk,rfl⟩
 rcases(hS.holds k o hk).2 with ⟨_,cur,e,h1,_⟩ | ⟨_,es,h1,_⟩
 ·rw [h] at h1; cases h1
 ·rw [h] at h1; cases h1
structure yX (C : Cx) (E : Env) (a : Act) (w : World) (f : Fr) (σ : St) (ι : Nat -> Nat) : Prop where
 size:a.tmps.size=C.N
 defers:Marks E.B a w
 nx:C.n0<=σ.nx
 kept:Kept E.w0 w E.K0
 pY:yC E.M0 w σ ι
 uJ:∀ b,E.M0 b->b<E.w0.heap.size
 sW:∀ k o,σ.get k=some o->E.w0.heap.size<=ι k\/E.K0 (ι k)
 stay:∀ k,k<C.n0->ι k=E.ι0 k
 fr:WX (yR E.M0 ι σ) w ι σ.nx a.tmps f
def Good (C:Cx) (E:Env) (a:Act) (w:World) (f:Fr) (σ:St):Prop:=∃ ι,yX C E a w f σ ι
def XP (C:Cx) (pre:List xN) (dst:Option Nat) (mid:List xN) (un:Bool) (f:Fr) (σ:St) (K:Fr->St->Prop) (f1:Fr) (d:D) (σ1:St):Prop:= uY C σ1 pre f (λg=>g=f1)/\ uY C σ1 mid (f1.put dst d) λf2=>(if un=true then uY C σ mid (f1.put dst d) (λg=>g=f2) else True)/\ K f2 σ1
def wpS (C:Cx) (dc:DC) (f:Fr) (σ:St) (Q:Exit->Fr->St->Prop):Prop:= ∀ code,vC C.P C.N C.own code=some dc->∀ E a w,Good C E a w f σ->code.wpIn C.F 0 C.P (λe a' w'=>∃ f' σ',Good C E a' w' f' σ'/\Q e f' σ') a w
def qT (next:Fr->St->Prop) (Q:Exit->Fr->St->Prop):Exit->Fr->St->Prop
 | .normal,f,σ=>next f σ
 | e,f,σ=>Q e f σ
def tO (id:Nat) (Q:Exit->Fr->St->Prop):Exit->Fr->St->Prop
 | .exit i,f,σ=>if i=id then Q .normal f σ else Q (.exit i) f σ
 | e,f,σ=>Q e f σ
def cR (C:Cx) (it:Nat) (m:wQ) (out nx more next pair:Nat) (rest:List xN) (code:DC) (f:Fr) (σ:St) (Q:Exit->Fr->St->Prop):Prop:=
 ∃ key xZ,C.rd=none/\uX f m = .xG key/\σ.get key=some ⟨0,xZ⟩/\ ∀ b:Nat,∃ I:List Nat->Fr->St->Prop,(∃ f1 σ1,(∀ E a w,Good { C with n0:=max C.n0 (key+1) } E a w (f.put (some it) (.kI b)) σ->Good { C with n0:=max C.n0 (key+1) } E a w f1 σ1)/\ I [] f1 σ1)/\
  (∀ seen f σ,I seen f σ->f.get it = .kI b/\σ.get key=some ⟨0,xZ⟩)/\
  ∀ seen f σ,I seen f σ->seen.Nodup->(∀ j ∈ seen,j<xZ.length) ->
   (seen.length=xZ.length->Q .normal ((f.put (some nx) .top).put (some more) .top) σ)/\
   ∀ i,i<xZ.length->i ∉ seen->uF { C with n0:=max C.n0 (key+1) } rest (((f.put (some nx) .top).put (some more) .top).put (some pair) (.xI (xZ.getD i []))) σ λf σ=>wpS { C with n0:=max C.n0 (key+1) } code f σ (tO next (qT (I (seen ++ [i])) (tO out Q)))
def oY (C:Cx):DC->Fr->St->(Exit->Fr->St->Prop)->Prop
 | .aq ..,_,_,_=>False
 | .XX ..,_,_,_=>False
 | .XW ..,_,_,_=>False
 | .kP pre it m out nx more next pair rest code,f,σ,Q=>uF C pre f σ λf σ=>cR C it m out nx more next pair rest code f σ Q
 | .skip,f,σ,Q=>Q .normal f σ
 | .wN pre post,f,σ,Q=>uY C σ pre f λf=>uF C post f σ λf σ=>Q .normal f σ
 | .iC pre m mid un post,f,σ,Q=>uY C σ pre f λf1=>vO C σ (uX f1) m.k λd σ1=>XP C pre m.dst mid un f σ (λf σ=>uF C post f σ λf σ=>Q .normal f σ) f1 d σ1
 | .iB pre m1 mid1 m2 mid2 post,f,σ,Q=>uY C σ pre f λf1=>vO C σ (uX f1) m1.k λd1 σ1=>uY C σ1 pre f (λg=>g=f1)/\ uY C σ1 mid1 (f1.put m1.dst d1) λf2=>vO C σ1 (uX f2) m2.k λd2 σ2=> uY C σ2 pre f (λg=>g=f1)/\ uY C σ2 mid1 (f1.put m1.dst d1) (λg=>g=f2)/\ uY C σ2 mid2 (f2.put m2.dst d2) λf3=>uF C post f3 σ2 λf σ=>Q .normal f σ
 | .seq a b,f,σ,Q=>oY C a f σ (qT (λf σ=>oY C b f σ Q) Q)
 | .cond c a b,f,σ,Q=>match uX f c with
  | .bool t=>if t=true then oY C a f σ Q else oY C b f σ Q
  | _=>False
 | .block id c,f,σ,Q=>oY C c f σ (tO id Q)
 | .loop c,f,σ,Q=>wpS C (.loop c) f σ Q
 | .jL g ps a c,f,σ,Q=>wpS C (.jL g ps a c) f σ Q
 | .jJ pre m1 mid1 m2 mid2 post free,f,σ,Q=>wpS C (.jJ pre m1 mid1 m2 mid2 post free) f σ Q
 | .iD pre m mid un post fl,f,σ,Q=>wpS C (.iD pre m mid un post fl) f σ Q
 | .mY ms l s xs y,f,σ,Q=>wpS C (.mY ms l s xs y) f σ Q
 | .exit id,f,σ,Q=>Q (.exit id) f σ
 | .ret,f,σ,Q=>Q .ret f σ
@[congr] theorem Rh {C : Cx} {dc : DC} {f f' : Fr} {σ : St} {Q : Exit -> Fr -> St -> Prop} (h : f = f') : wpS C dc f σ Q = wpS C dc f' σ Q := by rw [h]
@[congr] theorem Ta {P : Program} {g : FuncId} {args args' : List D} {σ : St} {K : D -> Prop} (h : args = args') : rq P g args σ K = rq P g args' σ K := by rw [h]
@[congr] theorem Tc {P : Program} {g : FuncId} {args args' : List D} {σ : St} {K : D -> St -> Prop} (h : args = args') : rv P g args σ K = rv P g args' σ K := by rw [h]
theorem rq.go {P:Program} {g:FuncId} {args:List D} {σ:St} {K:D->Prop} {d:D} (h:xW P g args σ d σ) (hk:K d):rq P g args σ K:=⟨d,h,hk⟩
theorem rv.go {P:Program} {g:FuncId} {args:List D} {σ:St} {K:D->St->Prop} {d:D} {σ':St} (h:xW P g args σ d σ') (hk:K d σ'):rv P g args σ K:=⟨d,σ',h,hk⟩
end Go.Pd
namespace Go.Pd
open Go
variable [vU]
section inv
variable {M : Nat -> Prop} {w : World} {ι : Nat -> Nat} {n : Nat} {v : Value}
theorem R.yS {k:IntKind} {x:Int} (h:R M w ι n v (.int k x)):v = .int k x/\k.min<=x/\x<=k.max:=by cases h with | pure h=>cases h with | int h=>exact⟨rfl,h⟩
theorem R.qK {b:Bool} (h:R M w ι n v (.bool b)):v = .bool b:=by cases h with | pure h=>cases h; rfl
theorem R.uW (h:R M w ι n v .xU):v = .slice none 0 0:=by cases h with | pure h=>cases h; rfl
theorem R.lF (h:R M w ι n v .emp):∃ a cap,v = .slice (some a) 0 cap:=by cases h with | pure h=>cases h; exact⟨_,_,rfl⟩
theorem R.V6 (h:R M w ι n v .vP):v=undef:=by cases h with | pure h=>cases h; rfl
theorem R.lC {b:Nat} (h:R M w ι n v (.kI b)):v = .pointer (some ⟨b,0,none⟩):=by cases h with | pure h=>cases h; rfl
theorem R.vY {key sz i off:Nat} (h:R M w ι n v (.ref key sz i off)):v = .pointer (some ⟨ι key,i*sz+off,none⟩)/\ key<n/\0<sz:=by
 cases h with
 | pure h=>cases h
 | ref hk h0=>exact⟨rfl,hk,h0⟩
theorem R.sN {key:Nat} (h:R M w ι n v (.xG key)):v = .map (some (ι key))/\ key<n:=by
 cases h with
 | pure h=>cases h
 | xG hk=>exact⟨rfl,hk⟩
theorem R.ZV (h:R M w ι n v .uA):v = .map none:=by cases h with | pure h=>cases h; rfl
theorem R.uD {key sz len:Nat} (h:R M w ι n v (.xP key sz len)) :
  ∃ (cap:Nat) (cur:Array Value) (e:TypeId),v = .slice (some ⟨ι key,0,none⟩) len cap/\key<n/\len<=cap/\cap<=maxLen/\w.heap[ι key]?=some (Obj.cells cur e (0,0))/\ cap*sz<=cur.size:=by
 cases h with
 | pure h=>cases h
 | xP hk h1 h2 h3 h4=>exact⟨_,_,_,rfl,hk,h1,h2,h3,h4⟩
theorem R.pQ {key sz lo len:Nat} (h:R M w ι n v (.sub key sz lo len)) :
  ∃ (cap off:Nat) (cur:Array Value) (e:TypeId),v = .slice (some ⟨ι key,off,none⟩) len cap/\key<n/\len<=cap/\cap<=maxLen/\w.heap[ι key]?=some (Obj.cells cur e (0,0))/\ (cap=0\/(off=lo*sz/\(lo+cap)* sz<=cur.size)):=by
 cases h with
 | pure h=>cases h
 | sub hk h1 h2 h3 h4=>exact⟨_,_,_,_,rfl,hk,h1,h2,h3,h4⟩
theorem R.sP {cs:List D} (h:R M w ι n v (.ptr cs)):∃ (b off:Nat) (vs:Nat->Value),v = .pointer (some ⟨b,off,none⟩)/\ 0<cs.length/\¬ M b/\(∀ j,j<cs.length->w.cell? ⟨b,off+j,none⟩= some (vs j))/\ ∀ j,j<cs.length->RP M w (vs j) (cs.getD j .top):=by cases h with | pure h=>cases h with | ptr vs hs hM hc hr=>exact⟨_,_,vs,rfl,hs,hM,hc,hr⟩
theorem R.kA {sz:Nat} {xZ:List (List D)} (h:R M w ι n v (.sl sz xZ)) :
  (∃ a cap,v = .slice a 0 cap/\xZ = []/\(a=none->cap=0))\/∃ (b off cap:Nat) (vs:Nat->Nat->Value),v = .slice (some ⟨b,off,none⟩) xZ.length cap/\0<sz/\¬ M b/\xZ.length<=cap/\cap<=maxLen/\(∀ e ∈ xZ,e.length=sz)/\
   (∀ i,i<xZ.length->∀ j,j<sz->w.cell? ⟨b,off+i*sz+j,none⟩= some (vs i j))/\ ∀ i,i<xZ.length->∀ j,j<sz->RP M w (vs i j) ((xZ.getD i []).getD j .top):=by
 cases h with
 | pure h=>
  cases h with
  | uh a cap sz h=>exact .inl ⟨a,cap,rfl,rfl,h⟩
  | sl vs hs hM hc hm hl hcell hr=>exact .inr ⟨_,_,_,vs,rfl,hs,hM,hc,hm,hl,hcell,hr⟩
theorem R.iV {cs:List D} (h:R M w ι n v (.agg cs)):∃ vs:Array Value,v = .agg vs/\vs.size=cs.length/\∀ j,j<cs.length->R M w ι n (vs.getD j undef) (cs.getD j .top):=by
 cases h with
 | pure h=>cases h with | agg hl hr=>exact⟨_,rfl,hl,λj hj=>.pure (hr j hj)⟩
 | agg hl hr=>exact⟨_,rfl,hl,hr⟩
theorem R.vz {cs:List D} (h:R M w ι n v (.xI cs)):∃ vs:Array Value,v = .tuple vs/\vs.size=cs.length/\∀ j,j<cs.length->R M w ι n (vs.getD j undef) (cs.getD j .top):=by
 cases h with
 | pure h=>cases h with | xI hl hr=>exact⟨_,rfl,hl,λj hj=>.pure (hr j hj)⟩
 | xI hl hr=>exact⟨_,rfl,hl,hr⟩
theorem R.jY {f:FuncId} {cs:List D} (h:R M w ι n v (.fn f cs)):∃ vs:Array Value,v = .func (.func f) #[] vs/\vs.size=cs.length/\∀ j,j<cs.length->R M w ι n (vs.getD j undef) (cs.getD j .top):=by
 cases h with
 | pure h=>cases h with | fn hl hr=>exact⟨_,rfl,hl,λj hj=>.pure (hr j hj)⟩
 | fn hl hr=>exact⟨_,rfl,hl,hr⟩
end inv
theorem il (k:IntKind) (x:Int):k.min<=k.wrap x/\k.wrap x<=k.max:=by cases k <;> simp [IntKind.min,IntKind.max,IntKind.wrap,IntKind.signed,IntKind.bits] <;> (try split) <;> omega
theorem RP.wrap {M:Nat->Prop} {w:World} (k:IntKind) (x:Int):RP M w (.int k (k.wrap x)) (.int k (k.wrap x)):=.int (il k x)
theorem fk {k:IntKind} {x:Int} (h:k.min<=x/\x<=k.max) (m:Nat):k.min<=x.fdiv (2 ^ m)/\ x.fdiv (2 ^ m)<=k.max:=by
 have h2:(0:Int)<2 ^ m:=Int.pow_pos (by decide);have e:x.fdiv (2 ^ m)= x / 2 ^ m:=Int.fdiv_eq_ediv_of_nonneg _ (Int.le_of_lt h2);rw [e];have hle:∀ y:Int,0<=y->y / 2 ^ m<=y:=λy hy=>Int.ediv_le_self _ hy;have h1:(1:Int)<=2 ^ m:=h2
 constructor
 ·by_cases hx:0<=x
  ·have:=Int.ediv_nonneg hx (Int.le_of_lt h2);have hm:k.min<=0:=by cases k <;> decide
   omega
  ·have:x<=x / 2 ^ m:=by refine(Int.le_ediv_iff_mul_le h2).2 ?_;have:=Int.mul_le_mul_of_nonpos_left (show x<=0 by omega) h1;omega
   omega
 ·by_cases hx:0<=x
  ·have:=hle x hx; omega
  ·have:x / 2 ^ m<0:=Int.ediv_neg_of_neg_of_pos (by omega) h2;have hm:0<=k.max:=by cases k <;> decide
   omega
theorem ia {k:IntKind} {x y:Int} (h:k.min<=x/\x<=k.max):k.min<=x.tmod y/\x.tmod y<=k.max:=by
 have hm:k.min<=0:=by cases k <;> decide
 have hM:0<=k.max:=by cases k <;> decide
 rcases Int.le_total 0 x with hx | hx
 ·have h1:=Int.tmod_nonneg y hx
  have h2:x.tmod y<=x:=by have:=Int.natAbs_tmod x y;have h3:=Nat.mod_le x.natAbs y.natAbs;omega
  omega
 ·have h1:x.tmod y<=0:=by have:=Int.tmod_nonneg (a:=-x) y (by omega);rw [Int.neg_tmod] at this;omega
  have h2:x<=x.tmod y:=by have:=Int.natAbs_tmod x y;have h3:=Nat.mod_le x.natAbs y.natAbs;omega
  omega
theorem nR {M:Nat->Prop} {w:World} {v:Value} {d:D} (h:D.leaf v=some d):RP M w v d:=by
 unfold D.leaf at h;split at h <;> simp at h <;> (try subst h) <;> try constructor
 obtain⟨h1,rfl⟩:=h;exact .int h1
theorem po {vs:Array Value} {j:Nat} {v:Value} (h:vs.toList[j]?=some v):vs.getD j undef=v:=by
 have h':vs[j]?=some v:=by simpa using h
 simp [h']
theorem qD {M:Nat->Prop} {w:World} {v:Value} {d:D} (h:D.ofValue v=some d):RP M w v d:=by
 unfold D.ofValue at h
 split at h
 ·rename_i cs;simp at h;obtain⟨ds,h1,rfl⟩:=h;obtain⟨hl,hg⟩:=yJ h1;refine .agg (by simpa using hl.symm) λj hj=>?_;have hj':j<cs.toList.length:=by omega
  obtain⟨b,hb,hf⟩:=hg j _ (List.getElem?_eq_getElem hj');have e1:ds.getD j .top=b:=by simp [List.getD,hb]
  rw [e1,po (List.getElem?_eq_getElem hj')];exact nR hf
 ·exact nR h
theorem qW {M:Nat->Prop} {w:World} {ι:Nat->Nat} {n N:Nat} {a:Act} {f:Fr} (hf:WX M w ι n a.tmps f) {x:Operand} {y:wQ} (h:xM N x=some y):R M w ι n (a.eval x) (uX f y):=by
 cases x with
 | tmp t=> simp [xM] at h;obtain⟨_,rfl⟩:=h;exact hf t
 | const v=> simp [xM] at h;obtain⟨d,hd,rfl⟩:=h;exact .pure (qD hd)
 | func f=> simp [xM] at h;subst h;exact .pure (.fn (by simp) (by simp))
 | global g=> simp [xM] at h;subst h;exact .pure (.kI g)
end Go.Pd
namespace Go.Pd
open Go
variable [vU]
theorem wB {P:Program} {o:Oper} {a:Act} {w w':World} {next:Act->World->Prop} {Q:Exit->Act->World->Prop} {v:Value}
  (hx:(execOp a.eval o).run P w = .ok (.value v) w') (hn:next (a.put o.dst v) w'):o.wp P a w next Q:=by
 unfold Oper.wp; rw [hx]; exact hn
section
variable {P : Program} {N : Nat} {o : Oper} {a : Act} {w : World} {M : Nat -> Prop} {ι : Nat -> Nat} {n : Nat}
def Yields (P:Program) (o:Oper) (a:Act) (w:World) (v:Value):Prop:=(execOp a.eval o).run P w = .ok (.value v) w
theorem Qg {op:BinOp} {t u:TypeId} {x y:Operand} (ho:o.op = .binOp op t x y u) {k k':IntKind} {p q:Int} (hx:a.eval x = .int k p) (hy:a.eval y = .int k' q)
  (hp:k.min<=p/\p<=k.max) {K:D->Prop} (h:sI op k p k' q K):∃ v d,Yields P o a w v/\K d/\∀ M,RP M w v d:=by
 unfold Yields;cases op <;> simp only [sI] at h
 case shl=>
  refine⟨_,_,?_,h.2,λM=>RP.wrap _ _⟩;have h0:¬ q<0:=by have:=h.1; omega
  simp [execOp,ho,hx,hy,eqGuard,binOp,Op.shift,h0,ud]
 case shr=>
  refine⟨_,_,?_,h.2,λM=>RP.int (fk hp _)⟩;have h0:¬ q<0:=by have:=h.1; omega
  simp [execOp,ho,hx,hy,eqGuard,binOp,Op.shift,h0,ue]
 case quo=> obtain⟨rfl,h1,h2⟩:=h;refine⟨_,_,?_,h2,λM=>RP.wrap _ _⟩;simp [execOp,ho,hx,hy,eqGuard,binOp,Op.intDiv,h1]
 case rem=> obtain⟨rfl,h1,h2⟩:=h;refine⟨_,_,?_,h2,λM=>RP.int (ia hp)⟩;simp [execOp,ho,hx,hy,eqGuard,binOp,Op.intDiv,h1]
 all_goals
  obtain⟨rfl,h2⟩:=h;refine⟨_,_,?_,h2,λM=>by first | exact RP.wrap _ _ | exact RP.bool _⟩;simp [execOp,ho,hx,hy,eqGuard,binOp,Op.intArith,Op.intBits,Op.intCmp,rL]
theorem wy {x:Operand} (ho:o.op = .move x\/o.op = .assign x):Yields P o a w (a.eval x):=by rcases ho with ho | ho <;> simp [Yields,execOp,ho]
theorem xj {x:Operand} (ho:o.op = .nilCheck x) {v:Value} (hx:a.eval x=v) (hv:(∃ b,v = .pointer (some b))\/∃ f vs,v = .func (.func f) #[] vs):Yields P o a w v:=by rcases hv with ⟨b,rfl⟩ | ⟨f,vs,rfl⟩ <;> simp [Yields,execOp,ho,hx]
theorem Yp {c x y:Operand} (ho:o.op = .pick c x y) {t:Bool} (hc:a.eval c = .bool t):Yields P o a w (if t then a.eval x else a.eval y):=by simp [Yields,execOp,ho,hc,asBool]
theorem um (d:Nat) {t:TypeId} (ht:P.underlying t=some .bool) (b c:Bool):(Op.equalIn (d+1) t (.bool b) (.bool c)).run P w = .ok (b==c) w:=by simp [Op.equalIn,run_underlying ht]
theorem fi {t:TypeId} (ht:P.underlying t=some .bool) (b c:Bool):(Op.equal t (.bool b) (.bool c)).run P w = .ok (b==c) w:=um 9999 ht b c
theorem xn (d:Nat) {t e:TypeId} (ht:P.underlying t=some (.slice e)) {ax ay:Option Addr} {lx ly cx cy:Nat} (hn:ax=none\/ay=none) :
  (Op.equalIn (d+1) t (.slice ax lx cx) (.slice ay ly cy)).run P w = .ok (ax.isNone&&ay.isNone) w:=by
 rcases hn with rfl | rfl <;> (try cases ax) <;> (try cases ay) <;> simp [Op.equalIn,run_underlying ht]
theorem pj {t e:TypeId} (ht:P.underlying t=some (.slice e)) {ax ay:Option Addr} {lx ly cx cy:Nat} (hn:ax=none\/ay=none) :
  (Op.equal t (.slice ax lx cx) (.slice ay ly cy)).run P w = .ok (ax.isNone&&ay.isNone) w:=xn 9999 ht hn
theorem Qf {op:BinOp} {t u:TypeId} {x y:Operand} (ho:o.op = .binOp op t x y u) (hop:op = .eql\/op = .neq) (ht:P.underlying t=some .bool) {b c:Bool} (hx:a.eval x = .bool b) (hy:a.eval y = .bool c) :
  Yields P o a w (.bool (if op = .neq then b != c else b==c)):=by
 rcases hop with rfl | rfl <;> simp [Yields,execOp,ho,hx,hy,eqGuard,binOp,fi ht] <;> (try (cases b <;> cases c <;> rfl))
theorem lQ {op:BinOp} {t u e:TypeId} {x y:Operand} (ho:o.op = .binOp op t x y u) (hop:op = .eql\/op = .neq) (ht:P.underlying t=some (.slice e)) {ax ay:Option Addr} {lx ly cx cy:Nat}
  (hx:a.eval x = .slice ax lx cx) (hy:a.eval y = .slice ay ly cy) (hn:ax=none\/ay=none) :
  Yields P o a w (.bool (if op = .neq then !(ax.isNone&&ay.isNone) else ax.isNone&&ay.isNone)):=by
 rcases hop with rfl | rfl <;> simp [Yields,execOp,ho,hx,hy,eqGuard,binOp,pj ht hn]
theorem Qn {t:TypeId} {x:Operand} (ho:o.op = .unOp .not t x) {b:Bool} (hx:a.eval x = .bool b):Yields P o a w (.bool (!b)):=by simp [Yields,execOp,ho,hx,Op.unary]
theorem Qm {t:TypeId} {x:Operand} (ho:o.op = .unOp .neg t x) {k:IntKind} {p:Int} (hx:a.eval x = .int k p):Yields P o a w (.int k (k.wrap (0-p))):=by simp [Yields,execOp,ho,hx,Op.unary,Op.intArith]
theorem Qh {t:TypeId} {x:Operand} (ho:o.op = .unOp .xor t x) {k:IntKind} {p:Int} (hx:a.eval x = .int k p):Yields P o a w (.int k (rL .xor k (if k.signed then -1 else k.max) p)):=by simp [Yields,execOp,ho,hx,Op.unary,Op.intBits,rL]
theorem TE {s t:TypeId} {x:Operand} (ho:o.op = .convert s t x) {ks k k':IntKind} (hs:P.underlying s=some (.int ks)) (ht:P.underlying t=some (.int k)) {p:Int} (hx:a.eval x = .int k' p) :
  Yields P o a w (.int k (k.wrap p)):=by
 simp [Yields,execOp,ho,hx,convert,run_underlying hs,run_underlying ht,Conv.intToInt]
theorem dw {t:TypeId} {x:Operand} {i:Nat} (ho:o.op = .fieldAddr t x i) {fs:Array Field} {f:Field} (ht:P.underlying t=some (.struct fs)) (hf:fs[i]?=some f) {inf:TypeInfo} (hi:P.info? f.type=some inf) (hs:0<inf.size)
  {b off:Nat} (hx:a.eval x = .pointer (some ⟨b,off,none⟩)):Yields P o a w (.pointer (some ⟨b,off+f.offset,none⟩)):=by
 have h0:inf.size≠0:=by omega
 simp [Yields,execOp,ho,hx,Instr.fieldAt,run_underlying ht,hf,Instr.sureAddr,fieldPlace,sizeOf,typeInfo,hi,h0,Addr.add_lit]
theorem rC {t e:TypeId} {x y:Operand} (ho:o.op = .indexAddr t x y) {n:Nat} (ht:P.underlying t=some (.array n e)) {inf:TypeInfo} (hi:P.info? e=some inf) {b off:Nat} {k:IntKind} {p:Int}
  (hx:a.eval x = .pointer (some ⟨b,off,none⟩)) (hy:a.eval y = .int k p) (h0:0<=p) (h1:p<n):Yields P o a w (.pointer (some ⟨b,off+p.toNat*inf.size,none⟩)):=by
 simp [Yields,execOp,ho,hx,hy,Instr.indexAt,asIntOf,Instr.sureAddr,run_underlying ht,sizeOf,typeInfo,hi,h0,h1,Addr.add_lit]
theorem oR {t e:TypeId} {x y:Operand} (ho:o.op = .indexAddr t x y) (ht:P.underlying t=some (.slice e)) {inf:TypeInfo} (hi:P.info? e=some inf) {b off len cap:Nat} {k:IntKind} {p:Int}
  (hx:a.eval x = .slice (some ⟨b,off,none⟩) len cap) (hy:a.eval y = .int k p) (h0:0<=p) (h1:p<len):Yields P o a w (.pointer (some ⟨b,off+p.toNat*inf.size,none⟩)):=by
 simp [Yields,execOp,ho,hx,hy,Instr.indexAt,asIntOf,run_underlying ht,sizeOf,typeInfo,hi,h0,h1,Addr.add_lit]
theorem xi {t e ty:TypeId} {x:Operand} {ts:Array TypeId} (ho:o.op = .call { callee:=.builtin .len,args:=#[x],argTypes:=#[t] }) (ht:P.underlying t=some (.slice e)) {ad:Option Addr} {len cap:Nat}
  (hx:a.eval x = .slice ad len cap):Yields P o a w (.int .i64 len):=by
 simp [Yields,execOp,ho,hx,resolve,invoke,builtin,Builtin.len_,run_underlying ht,goInt]
theorem Qk {ts:Array TypeId} {x y:Operand} (ho:o.op = .call { callee:=.builtin .min,args:=#[x,y],argTypes:=ts }) {k k':IntKind} {p q:Int} (hx:a.eval x = .int k p) (hy:a.eval y = .int k' q) :
  Yields P o a w (.int k (if q<p then q else p)):=by
 simp [Yields,execOp,ho,hx,hy,resolve,invoke,builtin,Builtin.min_,Builtin.min2]
theorem Qj {ts:Array TypeId} {x y:Operand} (ho:o.op = .call { callee:=.builtin .max,args:=#[x,y],argTypes:=ts }) {k k':IntKind} {p q:Int} (hx:a.eval x = .int k p) (hy:a.eval y = .int k' q) :
  Yields P o a w (.int k (if q > p then q else p)):=by
 simp [Yields,execOp,ho,hx,hy,resolve,invoke,builtin,Builtin.max_,Builtin.max2]
theorem iN {P:Program} {t:TypeId} {d:D} (h:eV P t=some d):∃ k e q i z,P.underlying t=some (.map k e)/\ P.underlying k=some (.int q)/\ P.info? e=some i/\i.zero=some z/\D.ofValue z=some d:=by
 unfold eV at h
 split at h
 ·rename_i k e ht
  split at h
  ·rename_i q hk;simp only [η,ζ] at h;obtain⟨i,hi,z,hz,hd⟩:=h;exact⟨k,e,q,i,z,ht,hk,hi,hz,hd⟩
  ·simp at h
 ·simp at h
theorem TF {x:Operand} {i:Nat} (ho:o.op = .extract x i) {vs:Array Value} (hx:a.eval x = .tuple vs) (hi:i<vs.size):Yields P o a w (vs.getD i undef):=by simp [Yields,execOp,ho,hx,Instr.extract,hi]
theorem Ql {f:FuncId} {caps:Array Operand} (ho:o.op = .makeFunc (.func f) #[] caps):Yields P o a w (.func (.func f) #[] (caps.map a.eval)):=by simp [Yields,execOp,ho,Instr.makeFunc]
theorem wa {t:TypeId} {x:Operand} (ho:o.op = .load t x) {td:TypeDesc} (ht:P.underlying t=some td) (hag:sS P t=some false) {ad:Addr} {v:Value} (hx:a.eval x = .pointer (some ad)) (hc:w.cell? ad=some v) :
  Yields P o a w v:=by
 cases td <;> simp [sS,ht] at hag <;> simp [Yields,execOp,ho,hx,Instr.loadAt,Instr.sureAddr,loadVar,isAgg,run_underlying ht,load,Sem.run,hc]
theorem wb {t:TypeId} {x:Operand} (ho:o.op = .load t x) {td:TypeDesc} (ht:P.underlying t=some td) (hag:sS P t=some true) {inf:TypeInfo} (hi:P.info? t=some inf) {ad:Addr} {vs:List Value} (hl:vs.length=inf.size)
  (hx:a.eval x = .pointer (some ad)) (hc:∀ j v,vs[j]?=some v->w.cell? (ad.add j)= some v):Yields P o a w (.agg vs.toArray):=by
 have hr:=run_loadCells_list (P:=P) w ad vs hc;rw [hl] at hr;cases td <;> simp [sS,ht] at hag <;> simp [Yields,execOp,ho,hx,Instr.loadAt,Instr.sureAddr,loadVar,isAgg,run_underlying ht,sizeOf,typeInfo,hi,hr]
end
end Go.Pd
