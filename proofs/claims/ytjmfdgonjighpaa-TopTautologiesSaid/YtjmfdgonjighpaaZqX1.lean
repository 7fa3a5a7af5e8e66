/- Part X1. -/
import Derived.Orders
import Derived.StillTail
import Derived.Below
import Derived.Laws.AppendOwn
import Derived.Laws.World
import Derived.WalkKit
import Derived.CallsIn
import Derived.OrdersIn
import Derived.TacticsIn
set_option linter.unusedSectionVars false
set_option linter.unusedVariables false
set_option linter.unusedSimpArgs false
set_option linter.defProp false
open Nat renaming lt_of_lt_of_le->γ,le_trans->δ,le_refl->ε
open Option renaming bind_eq_some_iff->ζ,bind_eq_bind->η
namespace Go.Pd
open Go
def zO := And.intro @η.{0} (And.intro @ζ.{0,0} (And.intro @Option.pure_def.{0} @Option.some.injEq.{0}))
inductive D where
 | top
 | uO
 | int (k:IntKind) (n:Int)
 | bool (b:Bool)
 | str (s:ByteArray)
 | sl (sz:Nat) (xZ:List (List D))
 | xI
 | emp
 | agg (cs:List D)
 | yD (vs:List D)
 | fn (f:FuncId) (caps:List D)
 | ref (key sz i off:Nat)
 | wZ (key sz len:Nat)
 | sub (key sz lo len:Nat)
 | ptr (cs:List D)
 | yV (key:Nat)
 | pA
 | sP
 | pN
 | zo (b:Nat)
 deriving Inhabited
structure Ob where
 sz:Nat
 xZ:List (List D)
 deriving Inhabited
structure St where
 nx:Nat
 xX:List (Nat × Ob)
def St.look : List (Nat × Ob)->Nat->Option Ob
 | [],_=>none
 | (j,o) :: r,k=>if j=k then some o else St.look r k
def St.get (σ:St) (k:Nat):Option Ob:=St.look σ.xX k
abbrev Fr :=List (Nat × D)
def Fr.get : Fr->Nat->D
 | [],_=>.top
 | (t,d) :: r,s=>if t=s then d else Fr.get r s
inductive RP (M : Nat -> Prop) (w : World) : Value -> D -> Prop
 | top (v:Value):RP M w v .top
 | uO:RP M w undef .uO
 | int {k:IntKind} {n:Int} (h:k.min<=n/\n<=k.max):RP M w (.int k n) (.int k n)
 | bool (b:Bool):RP M w (.bool b) (.bool b)
 | str {s:ByteArray} (h:s.size<=maxLen):RP M w (.string s) (.str s)
 | fw (a:Option Addr) (cap sz:Nat) (h:a=none->cap=0):RP M w (.slice a 0 cap) (.sl sz [])
 | emp (a:Addr) (cap:Nat):RP M w (.slice (some a) 0 cap) .emp
 | sl {b off cap sz:Nat} {xZ:List (List D)} (vs:Nat->Nat->Value) (hs:0<sz) (hM:¬ M b) (hc:xZ.length<=cap) (hm:cap<=maxLen) (hl:∀ e ∈ xZ,e.length=sz)
   (hcell:∀ i,i<xZ.length->∀ j,j<sz->w.cell? ⟨b,off+i*sz+j,none⟩= some (vs i j))
   (hr:∀ i,i<xZ.length->∀ j,j<sz->RP M w (vs i j) ((xZ.getD i []).getD j .top)):RP M w (.slice (some ⟨b,off,none⟩) xZ.length cap) (.sl sz xZ)
 | xI:RP M w (.slice none 0 0) .xI
 | ptr {b off:Nat} {cs:List D} (vs:Nat->Value) (hs:0<cs.length) (hM:¬ M b) (hcell:∀ j,j<cs.length->w.cell? ⟨b,off+j,none⟩= some (vs j))
   (hr:∀ j,j<cs.length->RP M w (vs j) (cs.getD j .top)):RP M w (.pointer (some ⟨b,off,none⟩)) (.ptr cs)
 | agg {vs:Array Value} {cs:List D} (hl:vs.size=cs.length) (hr:∀ j,j<cs.length->RP M w (vs.getD j undef) (cs.getD j .top)):RP M w (.agg vs) (.agg cs)
 | yD {vs:Array Value} {cs:List D} (hl:vs.size=cs.length) (hr:∀ j,j<cs.length->RP M w (vs.getD j undef) (cs.getD j .top)):RP M w (.tuple vs) (.yD cs)
 | fn {f:FuncId} {vs:Array Value} {cs:List D} (hl:vs.size=cs.length) (hr:∀ j,j<cs.length->RP M w (vs.getD j undef) (cs.getD j .top)):RP M w (.func (.func f) #[] vs) (.fn f cs)
 | pA:RP M w (.pointer none) .pA
 | sP:RP M w (.map none) .sP
 | pN:RP M w .nilFunc .pN
 | zo (b:Nat):RP M w (.pointer (some ⟨b,0,none⟩)) (.zo b)
inductive R (M : Nat -> Prop) (w : World) (ι : Nat -> Nat) (n : Nat) : Value -> D -> Prop
 | pure {v:Value} {d:D} (h:RP M w v d):R M w ι n v d
 | ref {key sz i off:Nat} (hk:key<n) (hs:0<sz):R M w ι n (.pointer (some ⟨ι key,i*sz+off,none⟩)) (.ref key sz i off)
 | wZ {key sz len cap:Nat} {cur:Array Value} {e:TypeId} (hk:key<n) (h1:len<=cap) (h2:cap<=maxLen) (h3:w.heap[ι key]?=some (Obj.cells cur e (0,0))) (h4:cap*sz<=cur.size) :
   R M w ι n (.slice (some ⟨ι key,0,none⟩) len cap) (.wZ key sz len)
 | sub {key sz lo len cap off:Nat} {cur:Array Value} {e:TypeId} (hk:key<n) (h1:len<=cap) (h2:cap<=maxLen) (h3:w.heap[ι key]?=some (Obj.cells cur e (0,0))) (h4:cap=0\/(off=lo*sz/\(lo+cap)* sz<=cur.size)) :
   R M w ι n (.slice (some ⟨ι key,off,none⟩) len cap) (.sub key sz lo len)
 | yV {key:Nat} (hk:key<n):R M w ι n (.map (some (ι key))) (.yV key)
 | agg {vs:Array Value} {cs:List D} (hl:vs.size=cs.length) (hr:∀ j,j<cs.length->R M w ι n (vs.getD j undef) (cs.getD j .top)):R M w ι n (.agg vs) (.agg cs)
 | yD {vs:Array Value} {cs:List D} (hl:vs.size=cs.length) (hr:∀ j,j<cs.length->R M w ι n (vs.getD j undef) (cs.getD j .top)):R M w ι n (.tuple vs) (.yD cs)
 | fn {f:FuncId} {vs:Array Value} {cs:List D} (hl:vs.size=cs.length) (hr:∀ j,j<cs.length->R M w ι n (vs.getD j undef) (cs.getD j .top)):R M w ι n (.func (.func f) #[] vs) (.fn f cs)
theorem R.top {M:Nat->Prop} {w:World} {ι:Nat->Nat} {n:Nat} (v:Value):R M w ι n v .top:=.pure (.top v)
structure Kept (w w' : World) (K : Nat -> Prop) : Prop where
 os:w'.os=w.os
 tape:w'.tape=w.tape
 output:w'.output=w.output
 size:w.heap.size<=w'.heap.size
 block:∀ b,b<w.heap.size->¬ K b->w'.heap[b]?=w.heap[b]?
 shape:∀ (b:Nat) (cur:Array Value) (e:TypeId),w.heap[b]?=some (Obj.cells cur e (0,0))->∃ cur':Array Value,w'.heap[b]?=some (Obj.cells cur' e (0,0))/\ cur'.size=cur.size
 drawn:w.drawn<=w'.drawn
theorem Kept.refl (w:World) (K:Nat->Prop):Kept w w K:=⟨rfl,rfl,rfl,ε _,λ_ _ _=>rfl,λ_ cur _ h=>⟨cur,h,rfl⟩,ε _⟩
theorem Kept.mono {w w':World} {K K':Nat->Prop} (h:Kept w w' K) (hk:∀ b,b<w.heap.size->K b->K' b):Kept w w' K':=⟨h.os,h.tape,h.output,h.size,λb hb hn=>h.block b hb λhK=>hn (hk b hb hK),h.shape,h.drawn⟩
theorem Kept.trans {w w' w'':World} {K K' K'':Nat->Prop} (h:Kept w w' K) (h':Kept w' w'' K') (h1:∀ b,b<w.heap.size->K b->K'' b) (h2:∀ b,b<w.heap.size->K' b->K'' b):Kept w w'' K'':=
 ⟨h'.os.trans h.os,h'.tape.trans h.tape,h'.output.trans h.output,δ h.size h'.size,
  λb hb hn=>(h'.block b (γ hb h.size) λhk=>hn (h2 b hb hk)).trans (h.block b hb λhk=>hn (h1 b hb hk)),
  λb cur e hc=>let ⟨c1,e1,s1⟩:=h.shape b cur e hc; let ⟨c2,e2,s2⟩:=h'.shape b c1 e e1; ⟨c2,e2,s2.trans s1⟩,δ h.drawn h'.drawn⟩
theorem Kept.below {w w':World} (h:Kept w w' λ_=>False):RowKit.Below w.heap.size w w':=⟨h.os,h.tape,h.output,h.size,λk hk=>h.block k hk id⟩
theorem Kept.alloc (w:World) (o:Obj) (K:Nat->Prop):Kept w (w.alloc o) K:=
 ⟨rfl,rfl,rfl,by show w.heap.size<=(w.heap.push o).size; simp,λb hb _=>heap_alloc_old w o hb,
  λb cur e h=>⟨cur,by rw [heap_alloc_old w o (Array.getElem?_eq_some_iff.1 h).1]; exact h,rfl⟩,ε _⟩
theorem Kept.drew {w w':World} {K:Nat->Prop} (h:Kept w w' K):Kept w w'.drew K:=⟨h.os,h.tape,h.output,h.size,h.block,h.shape,Nat.le_succ_of_le h.drawn⟩
theorem cW {w:World} {a:Addr} {v:Value} (h:w.cell? a=some v):a.block<w.heap.size:=World.block_lt_of_cell? w a h
theorem RP.xC {M M':Nat->Prop} {w w':World} (hb:∀ b,b<w.heap.size->¬ M b->w'.heap[b]?=w.heap[b]?) (hM:∀ b,b<w.heap.size->M' b->M b) {v:Value} {d:D} (h:RP M w v d):RP M' w' v d:=by
 induction h with
 | top v=>exact .top v
 | uO=>exact .uO
 | int h=>exact .int h
 | bool b=>exact .bool b
 | str h=>exact .str h
 | fw a cap sz h=>exact .fw a cap sz h
 | emp a cap=>exact .emp a cap
 | @sl b off cap sz xZ vs hs hMb hc hm hl hcell hr ih=>
  rcases Nat.eq_zero_or_pos xZ.length with h0 | h0
  ·have:xZ = []:=List.eq_nil_of_length_eq_zero h0;subst this;exact .fw _ _ _ (by simp)
  ·have hlt:b<w.heap.size:=cW (hcell 0 h0 0 hs);refine .sl vs hs (λhm'=>hMb (hM b hlt hm')) hc hm hl (λi hi j hj=>?_) ih;rw [World.cell?_of_block (w:=w) (hb b hlt hMb)];exact hcell i hi j hj
 | xI=>exact .xI
 | @ptr b off cs vs hs hMb hcell hr ih=> have hlt:b<w.heap.size:=cW (hcell 0 hs);refine .ptr vs hs (λhm'=>hMb (hM b hlt hm')) (λj hj=>?_) ih;rw [World.cell?_of_block (w:=w) (hb b hlt hMb)];exact hcell j hj
 | agg hl hr ih=>exact .agg hl ih
 | yD hl hr ih=>exact .yD hl ih
 | fn hl hr ih=>exact .fn hl ih
 | pA=>exact .pA
 | sP=>exact .sP
 | pN=>exact .pN
 | zo b=>exact .zo b
theorem R.xC {M M':Nat->Prop} {w w':World} {ι ι':Nat->Nat} {n n':Nat} (hb:∀ b,b<w.heap.size->¬ M b->w'.heap[b]?=w.heap[b]?) (hM:∀ b,b<w.heap.size->M' b->M b)
  (hs:∀ (b:Nat) (cur:Array Value) (e:TypeId),w.heap[b]?=some (Obj.cells cur e (0,0))->∃ cur':Array Value,w'.heap[b]?=some (Obj.cells cur' e (0,0))/\ cur'.size=cur.size)
  (hi:∀ k,k<n->ι' k=ι k) (hn:n<=n') {v:Value} {d:D} (h:R M w ι n v d):R M' w' ι' n' v d:=by
 induction h with
 | pure h=>exact .pure (h.xC hb hM)
 | ref hk h0=>rw [<- hi _ hk]; exact .ref (γ hk hn) h0
 | @wZ key sz len cap cur e hk h1 h2 h3 h4=> obtain⟨cur',h5,h6⟩:=hs _ _ _ h3;rw [<- hi _ hk] at h5 ⊢;exact .wZ (γ hk hn) h1 h2 h5 (δ h4 (Nat.le_of_eq h6.symm))
 | @sub key sz lo len cap off cur e hk h1 h2 h3 h4=> obtain⟨cur',h5,h6⟩:=hs _ _ _ h3;rw [<- hi _ hk] at h5 ⊢;exact .sub (γ hk hn) h1 h2 h5 (h4.imp id λh=>⟨h.1,δ h.2 (Nat.le_of_eq h6.symm)⟩)
 | yV hk=>rw [<- hi _ hk]; exact .yV (γ hk hn)
 | agg hl hr ih=>exact .agg hl ih
 | yD hl hr ih=>exact .yD hl ih
 | fn hl hr ih=>exact .fn hl ih
def yO (M0:Nat->Prop) (ι:Nat->Nat) (σ:St) (b:Nat):Prop:=M0 b\/∃ k o,σ.get k=some o/\ι k=b
def yZ (M:Nat->Prop) (w:World) (ι:Nat->Nat) (n:Nat) (blk:Option Obj) (o:Ob):Prop:=
 (0<o.sz/\∃ (cur:Array Value) (e:TypeId),blk=some (Obj.cells cur e (0,0))/\ (∀ el ∈ o.xZ,el.length=o.sz)/\ o.xZ.length*o.sz<=cur.size /\
  ∀ i,i<o.xZ.length->∀ j,j<o.sz->(cur.getD (i*o.sz+j) undef).oneCell'=true/\R M w ι n (cur.getD (i*o.sz+j) undef) ((o.xZ.getD i []).getD j .top)) \/
 (o.sz=0/\∃ es:Array MapEntry,blk=some (Obj.map es es.size)/\ es.size=o.xZ.length /\
  ∀ i,i<o.xZ.length->∃ (kv v:Value) (x d:D),o.xZ.getD i [] = [x,d]/\es[i]?=some ⟨kv,v,i⟩/\ R M w ι n kv x/\R M w ι n v d)
def wb (M:Nat->Prop) (w:World) (ι:Nat->Nat) (n key:Nat) (o:Ob):Prop:=yZ M w ι n w.heap[ι key]? o
theorem yZ.imp {M M':Nat->Prop} {w w':World} {ι ι':Nat->Nat} {n n':Nat} {blk:Option Obj} {o:Ob} (h:yZ M w ι n blk o) (hr:∀ {v:Value} {d:D},R M w ι n v d->R M' w' ι' n' v d):yZ M' w' ι' n' blk o:=by
 rcases h with ⟨h0,cur,e,h1,h2,h3,h4⟩ | ⟨h0,es,h1,h2,h3⟩
 ·exact .inl ⟨h0,cur,e,h1,h2,h3,λi hi j hj=>⟨(h4 i hi j hj).1,hr (h4 i hi j hj).2⟩⟩
 ·refine .inr ⟨h0,es,h1,h2,λi hi=>?_⟩;obtain⟨kv,v,x,d,g1,g2,g3,g4⟩:=h3 i hi;exact⟨kv,v,x,d,g1,g2,hr g3,hr g4⟩
theorem yZ.cells {M:Nat->Prop} {w:World} {ι:Nat->Nat} {n:Nat} {blk:Option Obj} {o:Ob} (h:yZ M w ι n blk o) (h0:0<o.sz) :
  ∃ (cur:Array Value) (e:TypeId),blk=some (Obj.cells cur e (0,0))/\ (∀ el ∈ o.xZ,el.length=o.sz)/\ o.xZ.length*o.sz<=cur.size /\
  ∀ i,i<o.xZ.length->∀ j,j<o.sz->(cur.getD (i*o.sz+j) undef).oneCell'=true/\R M w ι n (cur.getD (i*o.sz+j) undef) ((o.xZ.getD i []).getD j .top):=by
 rcases h with ⟨_,h⟩ | ⟨h,_⟩
 ·exact h
 ·omega
theorem yZ.rows {M:Nat->Prop} {w:World} {ι:Nat->Nat} {n:Nat} {blk:Option Obj} {o:Ob} {cur0:Array Value} {e0:TypeId} (h:yZ M w ι n blk o) (hc:blk=some (Obj.cells cur0 e0 (0,0))) :
  0<o.sz/\∃ (cur:Array Value) (e:TypeId),blk=some (Obj.cells cur e (0,0))/\ (∀ el ∈ o.xZ,el.length=o.sz)/\ o.xZ.length*o.sz<=cur.size /\
  ∀ i,i<o.xZ.length->∀ j,j<o.sz->(cur.getD (i*o.sz+j) undef).oneCell'=true/\R M w ι n (cur.getD (i*o.sz+j) undef) ((o.xZ.getD i []).getD j .top):=by
 rcases h with h | ⟨_,es,h1,_⟩
 ·exact h
 ·rw [hc] at h1; cases h1
theorem yZ.mapped {M:Nat->Prop} {w:World} {ι:Nat->Nat} {n:Nat} {blk:Option Obj} {o:Ob} (h:yZ M w ι n blk o) (h0:o.sz=0) :
  ∃ es:Array MapEntry,blk=some (Obj.map es es.size)/\ es.size=o.xZ.length /\
  ∀ i,i<o.xZ.length->∃ (kv v:Value) (x d:D),o.xZ.getD i [] = [x,d]/\es[i]?=some ⟨kv,v,i⟩/\ R M w ι n kv x/\R M w ι n v d:=by
 rcases h with ⟨h,_⟩ | ⟨_,h⟩
 ·omega
 ·exact h
theorem yZ.isSome {M:Nat->Prop} {w:World} {ι:Nat->Nat} {n:Nat} {blk:Option Obj} {o:Ob} (h:yZ M w ι n blk o):∃ b,blk=some b:=by
 rcases h with ⟨_,cur,e,h1,_⟩ | ⟨_,es,h1,_⟩
 ·exact⟨_,h1⟩
 ·exact⟨_,h1⟩
def TK (M:Nat->Prop) (w:World) (ι:Nat->Nat) (n:Nat) (tmps:Array Value) (f:Fr):Prop:=∀ t,R M w ι n (tmps.getD t undef) (f.get t)
end Go.Pd
namespace Go.Pd
open Go
def wI {α β:Type} (f:α->Option β):List α->Option (List β)
 | []=>some []
 | a :: r=>match f a,wI f r with
  | some b,some bs=>some (b :: bs)
  | _,_=>none
theorem zA {α β:Type} {f:α->Option β}:∀ {l:List α} {bs:List β},wI f l=some bs->bs.length=l.length/\∀ (j:Nat) (a:α),l[j]?=some a->∃ b,bs[j]?=some b/\f a=some b
 | [],bs,h=>by simp [wI] at h; subst h; simp
 | a :: r,bs,h=>by
  unfold wI at h
  split at h
  ·rename_i b bs' h1 h2;simp at h; subst h;obtain⟨h3,h4⟩:=zA h2;refine⟨by simp [h3],λj x hx=>?_⟩
   cases j with
   | zero=>simp at hx; subst hx; exact⟨b,by simp,h1⟩
   | succ j=>simp at hx; obtain⟨c,hc,hf⟩:=h4 j x hx; exact⟨c,by simpa using hc,hf⟩
  ·simp at h
def D.leaf : Value->Option D
 | .int k n=>if k.min<=n/\n<=k.max then some (.int k n) else none
 | .bool b=>some (.bool b)
 | .slice none 0 0=>some .xI
 | .pointer none=>some .pA
 | .map none=>some .sP
 | .nilFunc=>some .pN
 | _=>none
def D.ofValue (v:Value):Option D:=
 match v with
 | .agg cs=>(wI D.leaf cs.toList).map .agg
 | v=>D.leaf v
def D.one : D->Bool
 | .top | .uO | .agg _ | .yD _=>false
 | _=>true
def D.cells : D->Option (List D)
 | .agg cs=>some cs
 | .top | .uO | .yD _=>none
 | d=>some [d]
mutual
def D.xO : D->Bool
 | .ref .. | .wZ .. | .sub .. | .yV _=>false
 | .agg cs | .yD cs | .fn _ cs=>D.xT cs
 | _=>true
def D.xT : List D->Bool
 | []=>true
 | d :: r=>d.xO&&D.xT r
end
def oR : List D->Nat->List D->List D
 | cs,_,[]=>cs
 | cs,o,d :: ds=>oR (cs.set o d) (o+1) ds
def xz : List D->List (Nat × Nat × D)->Option (List D)
 | cs,[]=>some cs
 | cs,(o,s,d) :: r=>match d.cells with
  | some ds=>if ds.length=s/\o+s<=cs.length then xz (oR cs o ds) r else none
  | none=>none
def fT (sz:Nat):List (List D)->List (Nat × D)->Option (List (List D))
 | es,[]=>some es
 | es,(i,d) :: r=>match d.cells with
  | some ds=>if ds.length=sz/\i<es.length then fT sz (es.set i ds) r else none
  | none=>none
def vR (ag:Bool) (cs:List D):D:=if ag then .agg cs else cs.headD .top
inductive vK where
 | t (n:Nat)
 | c (d:D)
inductive DK where
 | mv (x:vK)
 | pick (c a b:vK)
 | bin (op:BinOp) (x y:vK)
 | beq (neg:Bool) (x y:vK)
 | iW (neg:Bool) (x y:vK)
 | nt (x:vK)
 | neg (x:vK)
 | R1 (x:vK)
 | geq (neg:Bool) (n:Nat) (x y:vK)
 | fk (x:vK)
 | conv (k:IntKind) (x:vK)
 | fv (off:Nat) (x:vK)
 | Xz (off n:Nat) (ag:Bool) (x:vK)
 | idx (sz:Nat) (x i:vK)
 | build (zero:List D) (parts:List (Nat × Nat × vK))
 | rJ (sz len:Nat) (zero:List D) (parts:List (Nat × vK))
 | len (x:vK)
 | mn (x y:vK)
 | mx (x y:vK)
 | yv (x y z:vK)
 | lV (x:vK) (i:Nat)
 | j7 (f:FuncId) (caps:List vK)
 | load (n:Nat) (ag:Bool) (x:vK)
 | Zg (sz:Nat) (x:vK) (lo hi:Option vK)
 | call (fn:vK) (args:List vK)
 | box (x:vK)
 | alloc (zero:List D)
 | store (n:Nat) (a x:vK)
 | app (sz bytes:Nat) (x y:vK)
 | jF (sz bytes:Nat) (zero:List D) (len cap:vK)
 | lZ (sz len:Nat) (zero:List D) (parts:List (Nat × vK))
 | j9 (zero:D) (x:vK)
 | W6 (x:vK)
 | yu
 | fH (zero:D) (ok:Bool) (m k:vK)
 | nA (m k x:vK)
 | mW (n:Nat) (zero:D) (ok:Bool) (m k:vK)
 | qU (n:Nat) (m k x:vK)
 | fF (zero:D) (m k:vK)
 | fD (m s x:vK)
 | j5 (x y:vK)
 | Qy (n sz:Nat) (x i:vK)
 | fg (n:Nat) (x:vK)
 | oT (n:Nat) (zero:D) (m k:vK)
structure xN where
 dst:Option Nat
 guard:Option (Nat × Bool)
 k:DK
inductive DC where
 | skip
 | sS (pre post:List xN)
 | yo (pre:List xN) (m:xN) (mid:List xN) (un:Bool) (post:List xN)
 | ym (pre:List xN) (m1:xN) (mid1:List xN) (m2:xN) (mid2:List xN) (post:List xN)
 | bY (pre:List xN) (m1:xN) (mid1:List xN) (m2:xN) (mid2:List xN) (post:List xN) (free:List Nat)
 | mK (ms:List Nat) (l:List xN) (s:Nat) (xs:List Nat) (y:Nat)
 | bX (pre:List xN) (m:xN) (mid:List xN) (un:Bool) (post:List xN) (fl:List Bool)
 | seq (a b:DC)
 | cond (c:vK) (a b:DC)
 | block (id:Nat) (c:DC)
 | loop (c:DC)
 | exit (id:Nat)
 | ret
 | Zf (pre:List xN) (it:Nat) (m:vK)
 | WA (it nx more:Nat)
 | W9 (it pair:Nat) (rest:List xN)
 | dY (pre:List xN) (it:Nat) (m:vK) (out nx more next pair:Nat) (rest:List xN) (code:DC)
 | eE (f:vK) (ps:List Nat) (a c:DC)
def xM (N:Nat):Operand->Option vK
 | .tmp t=>if t<N then some (.t t) else none
 | .const v=>(D.ofValue v).map .c
 | .func f=>some (.c (.fn f []))
 | .global g=>some (.c (.zo g))
section
variable (P : Program) (N : Nat)
def qS (t:TypeId):Option Bool:=
 match P.underlying t with
 | some (.struct _) | some (.array _ _)=>some true
 | some _=>some false
 | none=>none
def uD (t:TypeId):Option Nat:=(P.info? t).map (·.size)
def oB (t:TypeId):Option (List D):=do
 let i <- P.info? t
 let z <- i.zero
 wI D.leaf z.cells.toList
def wj (t:TypeId) (f:Nat):Option (Nat × TypeId):=
 match P.underlying t with
 | some (.struct fs)=>(fs[f]?).map λx=>(x.offset,x.type)
 | _=>none
def sliceB (t:TypeId):Option TypeId:=
 match P.underlying t with
 | some (.slice e)=>some e
 | _=>none
def mJ (n:Nat):Option Nat:=if 0<n then some n else none
def bO (x:Option Operand):Option (Option vK):=
 match x with
 | some x=>(xM N x).map some
 | none=>some none
def aA : List Field->Nat->Bool
 | [],_=>true
 | f :: fs,o=>f.name != "_"&&(f.offset==o)&& (match P.underlying f.type with | some (.int .i64)=>true | _=>false)&& aA fs (o+1)
def kQ (t:TypeId):Option Nat:=match P.underlying t with
 | some (.struct fs)=>if aA P fs.toList 0&&!P.stoodInHeld t then some fs.size else none
 | some (.array n e)=>match P.underlying e,P.info? e with
  | some (.int .i64),some _=>if P.cellsOf e=1 then some n else none
  | _,_=>none
 | _=>none
def mkBin (op:BinOp) (t:TypeId) (x y:vK):Option DK:=
 match P.underlying t with
 | some .bool=>if op = .eql then some (.beq false x y) else if op = .neq then some (.beq true x y) else none
 | some (.slice _)=>if op = .eql then some (.iW false x y) else if op = .neq then some (.iW true x y) else none
 | some (.int _)=>some (.bin op x y)
 | some (.struct _)=>if P.eqGuardType P.depth t then none else if op = .eql then(kQ P t).map λn=>.geq false n x y else if op = .neq then(kQ P t).map λn=>.geq true n x y else none
 | _=>none
def Qs (op:UnOp) (x:vK):Option DK:=
 match op with
 | .not=>some (.nt x)
 | .neg=>some (.neg x)
 | .xor=>some (.R1 x)
 | _=>none
def aS (b:Builtin) (args:List vK) (ts:List TypeId):Option DK:=
 match b with
 | .len=>match args,ts with
  | [x],[t]=>match sliceB P t with
   | some _=>some (.len x)
   | none=>match P.underlying t with
    | some (.map _ _)=>some (.fk x)
    | _=>none
  | _,_=>none
 | .min=>match args with
  | [x,y]=>some (.mn x y)
  | [x,y,z]=>some (.yv x y z)
  | _=>none
 | .max=>match args with
  | [x,y]=>some (.mx x y)
  | _=>none
 | .append=>match args,ts with
  | [x,y],[t,u]=>do
   let e <- sliceB P t
   let i <- P.info? e
   let sz <- mJ i.size
   let zero <- oB P e
   if t=u/\zero.length=sz then some (.app sz i.bytes x y) else none
  | _,_=>none
 | .clear=>match args,ts with
  | [x],[t]=>do
   let e <- sliceB P t
   let i <- P.info? e
   let z <- i.zero
   let d <- D.leaf z
   if i.size=1 then some (.j9 d x) else none
  | _,_=>none
 | .copy=>match args,ts with
  | [x,y],[t,_]=>do
   let e <- sliceB P t
   let i <- P.info? e
   if i.size=1 then some (.j5 x y) else none
  | _,_=>none
 | _=>none
def Xo (c:Call):Option DK:=
 match c.callee with
 | .value f=>do pure (.call (<- xM N f) (<- wI (xM N) c.args.toList))
 | .builtin b=>do aS P b (<- wI (xM N) c.args.toList) c.argTypes.toList
 | .invoke _ _=>none
def mkLit (own:List Nat) (dst:Option Nat) (sz len:Nat) (zero:List D) (parts:List (Nat × vK)):Option DK:=
 match dst with
 | some d=>if own.contains d then some (.lZ sz len zero parts) else some (.rJ sz len zero parts)
 | none=>none
def yh (t:TypeId):Option D:=
 match P.underlying t with
 | some (.map k e)=>match P.underlying k with
  | some (.int _)=>do
   let i <- P.info? e
   let z <- i.zero
   D.ofValue z
  | _=>none
 | _=>none
def zi (t:TypeId):Option (Nat × D):=
 match P.underlying t with
 | some (.map k e)=>do
  let n <- kQ P k
  let i <- P.info? e
  let z <- i.zero
  let d <- D.ofValue z
  pure (n,d)
 | _=>none
def Ze (own:List Nat) (o:Oper):Option DK:=
 match o.op with
 | .move x=>(xM N x).map .mv
 | .assign x=>(xM N x).map .mv
 | .pick c a b=>do pure (.pick (<- xM N c) (<- xM N a) (<- xM N b))
 | .alloc e=>do pure (.alloc (<- oB P e))
 | .box _ x=>do pure (.box (<- xM N x))
 | .build t ps=>
  match P.underlying t with
  | some (.struct fs)=>do
   let zero <- oB P t
   let places <- fs.toList.mapM (λf=>(P.info? f.type).map λi=>(f.offset,i.size))
   let parts <- wI (λ(p:Nat × Operand)=>do
    let q <- places[p.1]?
    pure (q.1,q.2,<- xM N p.2)) ps.toList
   pure (.build zero parts)
  | some (.array _ e)=>do
   let zero <- oB P t
   let sz <- uD P e
   let parts <- wI (λ(p:Nat × Operand)=>do pure (p.1*sz,sz,<- xM N p.2)) ps.toList
   pure (.build zero parts)
  | _=>none
 | .buildSlice t len ps=>do
  let e <- sliceB P t
  let sz <- mJ (<- uD P e)
  let zero <- oB P e
  let parts <- wI (λ(p:Nat × Operand)=>do pure (p.1,<- xM N p.2)) ps.toList
  if zero.length=sz/\len*sz<=1000 then mkLit own o.dst sz len zero parts else none
 | .load t x=>do
  let ag <- qS P t
  let n <- uD P t
  let x' <- xM N x
  if ag=true\/n=1 then pure (.load n ag x') else none
 | .store t a x=>do pure (.store (<- uD P t) (<- xM N a) (<- xM N x))
 | .binOp op t x y _=>do mkBin P op t (<- xM N x) (<- xM N y)
 | .unOp op _ x=>do Qs op (<- xM N x)
 | .convert src dst x=>
  match P.underlying src,P.underlying dst with
  | some (.int _),some (.int k)=>do pure (.conv k (<- xM N x))
  | _,_=>none
 | .makeFunc fn first caps=>
  match fn with
  | .func f=>do
   let cs <- wI (xM N) caps.toList
   if first = #[] then pure (.j7 f cs) else none
  | _=>none
 | .makeSlice t l c=>do
  let e <- sliceB P t
  let i <- P.info? e
  let sz <- mJ i.size
  let zero <- oB P e
  let l' <- xM N l
  let c' <- xM N c
  if zero.length=sz then pure (.jF sz i.bytes zero l' c') else none
 | .slice t x lo hi mx=>match sliceB P t with
  | some e=>do
   let sz <- mJ (<- uD P e)
   let lo' <- bO N lo
   let hi' <- bO N hi
   let x' <- xM N x
   match mx with
   | none=>pure (.Zg sz x' lo' hi')
   | some _=>none
  | none=>match P.underlying t,lo,hi,mx with
   | some (.array n e),none,none,none=>do
    let i <- P.info? e
    let x' <- xM N x
    if i.size=1/\0<n then some (.fg n x') else none
   | _,_,_,_=>none
 | .fieldAddr t x f=>do
  let q <- wj P t f
  let _ <- mJ (<- uD P q.2)
  pure (.fv q.1 (<- xM N x))
 | .field t x f=>do
  let q <- wj P t f
  pure (.Xz q.1 (<- uD P q.2) (<- qS P q.2) (<- xM N x))
 | .indexAddr t x i=>
  match sliceB P t with
  | some e=>do pure (.idx (<- mJ (<- uD P e)) (<- xM N x) (<- xM N i))
  | none=>
   match P.underlying t,i with
   | some (.array n e),.const (.int _ p)=>do
    let sz <- mJ (<- uD P e)
    let x' <- xM N x
    if 0<=p/\p<n then some (.fv (p.toNat*sz) x') else none
   | some (.array n e),.tmp k=>do
    let sz <- mJ (<- uD P e)
    let x' <- xM N x
    let i' <- xM N (.tmp k)
    some (.Qy n sz x' i')
   | _,_=>none
 | .extract x i=>do pure (.lV (<- xM N x) i)
 | .call c=>Xo P N c
 | .nilCheck x=>(xM N x).map .W6
 | .makeMap t r=>
  match r with
  | none=>if (yh P t).isSome || (zi P t).isSome then some .yu else none
  | some (.const (.int _ _))=>if (yh P t).isSome || (zi P t).isSome then some .yu else none
  | _=>none
 | .lookup t m k ok=>match yh P t with
  | some z=>do pure (.fH z ok (<- xM N m) (<- xM N k))
  | none=>do
   let p <- zi P t
   pure (.mW p.1 p.2 ok (<- xM N m) (<- xM N k))
 | .mapUpdate t m k x=>match yh P t with
  | some _=>do pure (.nA (<- xM N m) (<- xM N k) (<- xM N x))
  | none=>do
   let p <- zi P t
   pure (.qU p.1 (<- xM N m) (<- xM N k) (<- xM N x))
 | .insert t m k x=>do
  let _ <- yh P t
  pure (.nA (<- xM N m) (<- xM N k) (<- xM N x))
 | .mapEntry t m k=>match yh P t with
  | some z=>do pure (.fF z (<- xM N m) (<- xM N k))
  | none=>do
   let p <- zi P t
   pure (.oT p.1 p.2 (<- xM N m) (<- xM N k))
 | .entryStore t m s x=>if (yh P t).isSome || (zi P t).isSome then do
  pure (.fD (<- xM N m) (<- xM N s) (<- xM N x)) else none
 | .makeInterface _ _ | .panic _=>some (.alloc [])
 | _=>none
def lW (own:List Nat) (ops:Array Oper) (o:Oper):Option xN:=do
 let k <- Ze P N own o
 let dst <- (match o.dst with | some d=>if d<N then some (some d) else none | none=>some none)
 let g <- (match o.guard with
  | none=>some none
  | some (j,b)=>do
   let oj <- ops[j]?
   let d <- oj.dst
   if d<N then some (some (d,b)) else none)
 pure ⟨dst,g,k⟩
end
def DK.zH : DK->Bool
 | .mv _ | .W6 _ | .pick .. | .bin .. | .beq .. | .geq .. | .nt _ | .neg _ | .R1 _ | .conv .. | .fv .. | .Xz .. | .lV .. | .j7 .. | .mn .. | .mx .. | .yv .. | .build .. | .idx .. | .Qy .. | .len _ | .iW ..=>true
 | _=>false
def DK.still : DK->Bool
 | .box _ | .alloc _ | .store .. | .app .. | .jF .. | .lZ .. | .j9 .. | .yu | .nA .. | .qU .. | .fF .. | .oT .. | .fD .. | .j5 ..=>false
 | _=>true
def DK.b7 : DK->List vK
 | .mv x | .W6 x | .nt x | .neg x | .R1 x | .fk x | .conv _ x | .fv _ x | .Xz _ _ _ x | .len x | .lV x _ | .load _ _ x | .box x | .j9 _ x | .fg _ x=>[x]
 | .pick c a b | .yv c a b=>[c,a,b]
 | .bin _ x y | .beq _ x y | .geq _ _ x y | .iW _ x y | .idx _ x y | .Qy _ _ x y | .mn x y | .mx x y | .store _ x y | .app _ _ x y | .jF _ _ _ x y | .j5 x y=>[x,y]
 | .build _ ps=>ps.map (·.2.2)
 | .rJ _ _ _ ps | .lZ _ _ _ ps=>ps.map (·.2)
 | .j7 _ cs=>cs
 | .Zg _ x lo hi=>x :: (lo.toList++hi.toList)
 | .call f xs=>f :: xs
 | .alloc _ | .yu=>[]
 | .fH _ _ m k | .fF _ m k | .oT _ _ m k | .mW _ _ _ m k=>[m,k]
 | .nA m k x | .fD m k x | .qU _ m k x=>[m,k,x]
def vK.MM : vK->Option Nat
 | .t n=>some n
 | .c _=>none
def xN.names (o:xN):List Nat:=o.k.b7.filterMap vK.MM++(match o.guard with | some (g,_)=>[g] | none=>[])
def yI : List Oper->List Nat->List Nat
 | [],acc=>acc
 | o :: rest,acc=>yI rest (acc ++ [o.after.foldl (λs e=>if Region.binds .any e then s ||| 2 ^ e.on ||| acc.getD e.on 0 else s) 0])
def ordered (ms:List Nat) (i j:Nat):Bool:=(ms.getD j 0).testBit i
def tH (x y:xN):Bool:=
 (match x.dst with | some d=>!y.names.contains d&&y.dst != some d | none=>true)&&
 (match y.dst with | some d=>!x.names.contains d | none=>true)
def kH (ops:List Oper) (ds:List xN) (s:Nat) (mu:Nat->Bool) (xo:Nat->Nat->Bool):Bool:=
 let ms:=yI ops []
 (List.range ops.length).all λj=>
  match ops[j]?,ds[j]? with
  | some oj,some dj=>(oj.after.toList.all λe=>!Region.binds .any e || decide (e.on<j))&& (List.range j).all λi=>
   match ds[i]? with
   | some di=>ordered ms i j || (tH di dj&&((decide (j<s)&& !(mu i&&mu j)) || di.k.zH || dj.k.zH || xo i j))
   | none=>false
  | _,_=>false
def wi (ops:List Oper) (ds:List xN) (s:Nat) (mu:Nat->Bool):Bool:=kH ops ds s mu λ_ _=>false
def wX (own:List Nat) (o:xN):Bool:=match o.dst,o.guard with
 | some d,none=>own.contains (1000000+d)
 | _,_=>false
def vC (own:List Nat) (ds:List xN) (i:Nat):Bool:=match ds[i]? with
 | some d=>wX own d
 | none=>false
def tN (own:List Nat):List xN->Nat
 | []=>0
 | o :: r=>if o.k.still || wX own o then tN own r+1 else 0
def uW (l:List xN):Bool:=(l.all λo=>o.dst.isSome)&& decide (l.map (·.dst)).Nodup
def tU (ms:List Nat) (m:Nat):List xN->Nat->Bool
 | [],_=>true
 | o :: r,j=>(o.k.zH || ordered ms m j)&& tU ms m r (j+1)
def YV (own:List Nat) (ops:List Oper) (l:List xN) (s:Nat):Option DC:=
 let h:=l.take s
 match h.findIdx? (wX own) with
 | none=>some (.sS h (l.drop s))
 | some m=>match h[m]? with
  | none=>none
  | some o=>
   let r:=h.drop (m+1)
   match r.findIdx? (wX own) with
   | none=>if uW (h.take m)&& uW r&&!o.k.zH then some (.yo (h.take m) o r (!tU (yI ops []) m r (m+1)) (l.drop s)) else none
   | some n=>match r[n]? with
    | none=>none
    | some o2=>if ((r.drop (n+1)).findIdx? (wX own)).isNone&&(uW (h.take m)&& uW (r.take n)&& uW (r.drop (n+1)))&& (!o.k.zH&&!o2.k.zH)&& (tU (yI ops []) m (r.take n) (m+1)&& tU (yI ops []) (m+1+n) (r.drop (n+1)) (m+1+n+1)) then
      some (.ym (h.take m) o (r.take n) o2 (r.drop (n+1)) (l.drop s)) else none
def kg (own:List Nat) (ops:List Oper) (l:List xN) (s:Nat):Option DC:=
 let h:=l.take s
 match h.findIdx? (wX own) with
 | none=>none
 | some m=>match h[m]? with
  | none=>none
  | some o=>
   let r:=h.drop (m+1)
   if own.contains (2000000+o.dst.getD 0)&& (r.findIdx? (wX own)).isNone&&uW (h.take m)&& uW r&&!o.k.zH then
    some (.bX (h.take m) o r (!tU (yI ops []) m r (m+1)) (l.drop s) ((List.range m).map λi=>ordered (yI ops []) i m)) else none
def Vc (ms:List Nat) (x y:Nat) (l:List xN):List Nat:=(List.range l.length).filterMap λj=>if j==x || j==y || ordered ms x j || ordered ms y j then none else(l[j]?).bind (·.dst)
def gM : DK->Bool
 | .alloc _=>true
 | _=>false
def Xq (own:List Nat) (ops:List Oper) (l:List xN) (s:Nat):Option DC:=
 let h:=l.take s
 match h.findIdx? (wX own) with
 | none=>none
 | some m=>match h[m]? with
  | none=>none
  | some o=>
   let r:=h.drop (m+1)
   match r.findIdx? (wX own) with
   | none=>none
   | some n=>match r[n]? with
    | none=>none
    | some o2=>if ((r.drop (n+1)).findIdx? (wX own)).isNone&&uW h&&decide (l.filterMap (·.dst)).Nodup&&(!o.k.zH&&gM o2.k)&& kH ops l s (vC own l) (λi j=>i==m&&j==m+1+n)&& tU (yI ops []) m (r.take n) (m+1) then
      some (.bY (h.take m) o (r.take n) o2 (r.drop (n+1)) (l.drop s) (Vc (yI ops []) m (m+1+n) l)) else none
def eY (own:List Nat) (ops:List Oper) (l:List xN) (s:Nat) (xs:List Nat) (y:Nat):Bool:=(if y<s then(match l[y]? with | some o=>gM o.k | none=>false) else decide (y=l.length))&& decide (s<=l.length)&& decide (l.filterMap (·.dst)).Nodup&&(xs.all λx=>match l[x]? with | some o=>!o.k.zH | none=>false)&& kH ops l s (vC own l) (λi j=>xs.contains i&&j==y)
def kf (own:List Nat) (ops:List Oper) (l:List xN) (s:Nat):Option DC:=
 match ((List.range s).filter (vC own l)).reverse with
 | y :: r=>if eY own ops l s r.reverse y=true then some (.mK (yI ops []) l s r.reverse y) else if eY own ops l s (y :: r).reverse l.length=true then some (.mK (yI ops []) l s (y :: r).reverse l.length) else none
 | []=>none
def Xp (own:List Nat) (ops:List Oper) (l:List xN) (s:Nat):Option DC:=match YV own ops l s with
 | some d=>some d
 | none=>kf own ops l s
def VI (P:Program) (t:TypeId):Bool:=match P.underlying t with
 | some (.map _ _)=>true
 | _=>false
def dW (P:Program) (N:Nat) (own:List Nat) (ops:Array Oper):Option DC:=
 match ops.toList.getLast? with
 | some o=>match o.op,o.dst,o.guard with
  | .range t x,some it,none=>do
   let m <- xM N x
   let pre <- wI (lW P N own ops) ops.toList.dropLast
   if VI P t=true/\it<N then some (.Zf pre it m) else none
  | _,_,_=>none
 | none=>none
def qt (N:Nat) (ops:Array Oper):Option DC:=
 match ops.toList with
 | [o2,o3]=>match o2.op,o2.dst,o2.guard,o3.op,o3.dst,o3.guard with
  | .next (.tmp it) false,some nx,none,.extract (.tmp nx') 0,some more,none=>if nx'=nx/\nx<N/\more<N then some (.WA it nx more) else none
  | _,_,_,_,_,_=>none
 | _=>none
def qq (P:Program) (N:Nat) (own:List Nat) (ops:Array Oper):Option DC:=
 match ops.toList with
 | o :: l=>match o.op,o.dst,o.guard with
  | .entry (.tmp it),some pair,none=>do
   let rest <- wI (lW P N own ops) l
   if pair<N then some (.W9 it pair rest) else none
  | _,_,_=>none
 | _=>none
def za (o:Oper):Bool:=match o.op with
 | .move _ | .assign _ | .nilCheck _ | .fieldAddr .. | .indexAddr .. | .load ..=>true
 | _=>false
def wm (P:Program) (N:Nat) (own:List Nat) (ops:Array Oper) (draw:Bool):Option DC:=
 if draw then(if (ops.toList.dropLast.all λo=>za o&&o.guard.isNone)&& Region.lexTailB .any ops (ops.size-1) then dW P N own ops else none) else match dW P N own ops with
  | some d=>some d
  | none=>match qt N ops with
   | some d=>some d
   | none=>qq P N own ops
def TB (x y:DC):DC:=
 match x,y with
 | .Zf pre it m,.block out (.loop (.seq (.WA it1 nx more) (.seq (.cond (.t more1) .skip (.exit out1)) (.block next (.seq (.W9 it2 pair rest) code)))))=> if it1=it/\it2=it/\more1=more/\out1=out/\it≠nx/\it≠more/\it≠pair then .dY pre it m out nx more next pair rest code else .seq x y
 | _,_=>.seq x y
def tW (P:Program) (N:Nat) (own:List Nat):Code->Option DC
 | .skip=>some .skip
 | .region _ ops draw=>match wm P N own ops draw with
  | some d=>some d
  | none=>do
   let l <- wI (lW P N own ops) ops.toList
   if draw then
    let s:=tN own l
    if own.contains 77777=false/\wi ops.toList l s (vC own l)= true then(match kg own ops.toList l s with | some d=>some d | none=>Xp own ops.toList l s) else if own.contains 77777=false then(match Xq own ops.toList l s with | some d=>some d | none=>kf own ops.toList l s) else none
   else pure (.sS [] l)
 | .seq a b=>do pure (TB (<- tW P N own a) (<- tW P N own b))
 | .cond c a b=>do pure (.cond (<- xM N c) (<- tW P N own a) (<- tW P N own b))
 | .block id c=>do pure (.block id (<- tW P N own c))
 | .loop c=>do pure (.loop (<- tW P N own c))
 | .rangeFunc f ps a c=>do pure (.eE (<- xM N f) ps.toList (<- tW P N own a) (<- tW P N own c))
 | .exit id=>some (.exit id)
 | .ret=>some .ret
 | _=>none
end Go.Pd
namespace Go.Pd
open Go
def wP (f:Fr):vK->D
 | .t n=>f.get n
 | .c d=>d
def mH (op:BinOp) (k:IntKind) (a b:Int):Int:=
 match op with
 | .and=>k.wrap (BitVec.ofInt k.bits a &&& BitVec.ofInt k.bits b).toNat
 | .or=>k.wrap (BitVec.ofInt k.bits a ||| BitVec.ofInt k.bits b).toNat
 | .xor=>k.wrap (BitVec.ofInt k.bits a ^^^ BitVec.ofInt k.bits b).toNat
 | _=>k.wrap (BitVec.ofInt k.bits a &&& ~~~BitVec.ofInt k.bits b).toNat
def yp (k:IntKind) (a b:Int):Int:=k.wrap (a*2 ^ (min b.toNat k.bits))
def b9 (k:IntKind) (a b:Int):Int:=a.fdiv (2 ^ (min b.toNat k.bits))
def qI (op:BinOp) (k:IntKind) (a:Int) (k':IntKind) (b:Int) (K:D->Prop):Prop:=
 match op with
 | .shl=>0<=b/\K (.int k (yp k a b))
 | .shr=>0<=b/\K (.int k (b9 k a b))
 | .add=>k=k'/\K (.int k (k.wrap (a+b)))
 | .sub=>k=k'/\K (.int k (k.wrap (a-b)))
 | .mul=>k=k'/\K (.int k (k.wrap (a*b)))
 | .quo=>k=k'/\b≠0/\K (.int k (k.wrap (a.tdiv b)))
 | .rem=>k=k'/\b≠0/\K (.int k (a.tmod b))
 | .and=>k=k'/\K (.int k (mH .and k a b))
 | .or=>k=k'/\K (.int k (mH .or k a b))
 | .xor=>k=k'/\K (.int k (mH .xor k a b))
 | .andNot=>k=k'/\K (.int k (mH .andNot k a b))
 | .eql=>k=k'/\K (.bool (a==b))
 | .neq=>k=k'/\K (.bool (a != b))
 | .lss=>k=k'/\K (.bool (decide (a<b)))
 | .leq=>k=k'/\K (.bool (decide (a<=b)))
 | .gtr=>k=k'/\K (.bool (decide (a > b)))
 | .geq=>k=k'/\K (.bool (decide (a >= b)))
def rB (ι:Nat->Nat) (σ:St) (b:Nat):Prop:=∃ k o,σ.get k=some o/\ι k=b
class vA where
 sR:List (Nat × List Value)
 deep:List (Nat × D)
variable [vA]
def wx (w:World) (M:Nat->Prop):Prop:=(∀ p ∈ vA.sR,p.1<w.heap.size/\¬ M p.1/\∀ j v,p.2[j]?=some v->w.cell? ⟨p.1,j,none⟩= some v)/\
 ∀ q ∈ vA.deep,¬ M q.1/\∃ v,w.cell? ⟨q.1,0,none⟩= some v/\RP M w v q.2
theorem wx.xC {M M':Nat->Prop} {w w':World} (h:wx w M) (hs:w.heap.size<=w'.heap.size) (hb:∀ b,b<w.heap.size->¬ M b->w'.heap[b]?=w.heap[b]?) (hM:∀ b,b<w.heap.size->M' b->M b):wx w' M':=⟨λp hp=>
 let ⟨h1,h2,h3⟩:=h.1 p hp
 ⟨γ h1 hs,λhm=>h2 (hM _ h1 hm),λj v hv=>by rw [World.cell?_of_block (w:=w) (hb _ h1 h2)]; exact h3 j v hv⟩,λq hq=>
 let ⟨h1,v,h2,h3⟩:=h.2 q hq
 have hl:q.1<w.heap.size:=cW h2
 ⟨λhm=>h1 (hM _ hl hm),v,by rw [World.cell?_of_block (w:=w) (hb _ hl h1)]; exact h2,h3.xC hb hM⟩⟩
def RH (b:Nat) (ds:List D):Prop:=∀ (M:Nat->Prop) (w:World),wx w M->∃ vs:List Value,vs.length=ds.length/\(∀ j v,vs[j]?=some v->w.cell? ⟨b,j,none⟩= some v)/\ ∀ j,j<ds.length->RP M w (vs.getD j undef) (ds.getD j .top)
structure zI (M0 : Nat -> Prop) (w : World) (σ : St) (ι : Nat -> Nat) : Prop where
 oS:∀ b,M0 b->b<w.heap.size
 holds:∀ k o,σ.get k=some o->k<σ.nx/\wb (yO M0 ι σ) w ι σ.nx k o
 inj:∀ k k' o o',σ.get k=some o->σ.get k'=some o'->ι k=ι k'->k=k'
 notM:∀ k o,σ.get k=some o->¬ M0 (ι k)
 sR:wx w (yO M0 ι σ)
def sI (P:Program) (g:FuncId):Prop:=∃ fn,P.funcs[g]?=some fn/\(fn.name == "runtime.NumGoroutine")= false/\fn.body.isNone=false
structure xU (P : Program) (g : FuncId) (args : List D) (σ : St) (d : D) (σ' : St) : Prop where
 ord:sI P g
 run:∀ (M0:Nat->Prop) (w:World) (ι:Nat->Nat) (vals:Array Value),zI M0 w σ ι->vals.size=args.length ->
  (∀ j,j<args.length->R (yO M0 ι σ) w ι σ.nx (vals.getD j undef) (args.getD j .top)) ->
  Calls P g vals w λe w'=>∃ v ι',e = .returned v/\Kept w w' (rB ι σ)/\ zI M0 w' σ' ι'/\σ.nx<=σ'.nx/\(∀ k,k<σ.nx->ι' k=ι k)/\
   (∀ k o,σ'.get k=some o->w.heap.size<=ι' k\/rB ι σ (ι' k))/\ R (yO M0 ι' σ') w' ι' σ'.nx v d
structure Cx where
 P:Program
 N:Nat
 n0:Nat:=0
 own:List Nat:=[]
 rd:Option Nat:=none
def Cx.F (C:Cx):Fence:={ Fence.wide with round:=C.rd }
def RW : Option D->Option Int
 | none=>some 0
 | some (.int _ n)=>some n
 | _=>none
omit [vA] in
theorem vD {c:Prop} [Decidable c] {p q:Prop} (h:if c then p else q):(c->p)/\ (¬ c->q):=⟨λhc=>by rwa [if_pos hc] at h,λhc=>by rwa [if_neg hc] at h⟩
omit [vA] in
theorem bM {c:Prop} [Decidable c] {p q:Prop} (h1:c->p) (h2:¬ c->q):if c then p else q:=by
 by_cases h:c
 ·rw [if_pos h]; exact h1 h
 ·rw [if_neg h]; exact h2 h
omit [vA] in
theorem ZX {t:Bool} {p q:Prop} (h:if t=true then p else q):(t=true->p)/\ (t=false->q):=⟨λhc=>(vD h).1 hc,λhc=>(vD h).2 (by simp [hc])⟩
def du (P:Program) (g:FuncId) (args:List D) (σ:St) (K:D->Prop):Prop:=∃ d,xU P g args σ d σ/\K d
def jH (P:Program) (g:FuncId) (args:List D) (σ:St) (K:D->St->Prop):Prop:=∃ d σ',xU P g args σ d σ'/\K d σ'
def lP (kk:IntKind) (xZ:List (List D)):Prop:=∀ row ∈ xZ,∃ m d,row = [D.int kk m,d]
def qT (x:Int):List (List D)->Nat->Option (Nat × D)
 | [],_=>none
 | [.int _ m,d] :: r,i=>if x=m then some (i,d) else qT x r (i+1)
 | _ :: r,i=>qT x r (i+1)
def aE (kk:IntKind) (xZ:List (List D)) (x:Int) (d:D):List (List D):=
 match qT x xZ 0 with
 | some (i,_)=>xZ.set i [.int kk x,d]
 | none=>xZ ++ [[.int kk x,d]]
def qV (ok:Bool) (zero:D) (r:Option (Nat × D)):D:= if ok then .yD [(r.map (·.2)).getD zero,.bool r.isSome] else(r.map (·.2)).getD zero
def vZ (l:List (List Int × D)):List (List D):=l.map λp=>[.agg (p.1.map (D.int .i64)),p.2]
def uJ (x:List Int):List (List Int × D)->Nat->Option (Nat × D)
 | [],_=>none
 | (k,d) :: r,i=>if x=k then some (i,d) else uJ x r (i+1)
def nS : List D->Option (List Int)
 | []=>some []
 | .int .i64 a :: r=>(nS r).map (a :: ·)
 | _=>none
theorem sG : ∀ {cs:List D} {xs:List Int},nS cs=some xs->cs=xs.map (D.int .i64)
 | [],xs,h=>by cases h; rfl
 | d :: r,xs,h=>by
  unfold nS at h
  split at h
  ·rename_i e; cases e
  ·rename_i a r' e;cases e;rw [Option.map_eq_some_iff] at h;obtain⟨ys,h1,rfl⟩:=h;rw [sG h1]; rfl
  ·cases h
def lN (y:List Int) (x:D) (l:List (List Int × D)):List (List Int × D):=match uJ y l 0 with
 | some (i,_)=>l.set i (y,x)
 | none=>l ++ [(y,x)]
def pW (C:Cx) (σ:St) (ev:vK->D):DK->(D->Prop)->Prop
 | .mv x,K=>K (ev x)
 | .pick c a b,K=>match ev c with
  | .bool t=>if t=true then K (ev a) else K (ev b)
  | _=>False
 | .bin op x y,K=>match ev x,ev y with
  | .int k a,.int k' b=>qI op k a k' b K
  | _,_=>False
 | .beq neg x y,K=>match ev x,ev y with
  | .bool a,.bool b=>K (.bool (if neg then a != b else a==b))
  | _,_=>False
 | .iW neg x y,K=>match ev x,ev y with
  | .xI,.xI=>K (.bool (!neg))
  | .wZ ..,.xI | .xI,.wZ ..=>K (.bool neg)
  | .emp,.xI | .xI,.emp=>K (.bool neg)
  | .sl _ (_ :: _),.xI=>K (.bool neg)
  | _,_=>False
 | .nt x,K=>match ev x with
  | .bool b=>K (.bool (!b))
  | _=>False
 | .neg x,K=>match ev x with
  | .int k a=>K (.int k (k.wrap (0-a)))
  | _=>False
 | .R1 x,K=>match ev x with
  | .int k a=>K (.int k (mH .xor k (if k.signed then -1 else k.max) a))
  | _=>False
 | .geq neg n x y,K=>match ev x,ev y with
  | .agg cs,.agg ds=>match nS cs,nS ds with
   | some xs,some ys=>xs.length=n/\ys.length=n/\K (.bool (if neg then !decide (xs=ys) else decide (xs=ys)))
   | _,_=>False
  | _,_=>False
 | .fk x,K=>match ev x with
  | .yV key=>match σ.get key with
   | some o=>o.sz=0/\o.xZ.length<=1000000/\K (.int .i64 o.xZ.length)
   | none=>False
  | _=>False
 | .conv k x,K=>match ev x with
  | .int _ n=>K (.int k (k.wrap n))
  | _=>False
 | .fv off x,K=>match ev x with
  | .ref key sz i o=>K (.ref key sz i (o+off))
  | .ptr cs=>off<cs.length/\K (.ptr (cs.drop off))
  | _=>False
 | .Xz off n ag x,K=>match ev x with
  | .agg cs=>off+n<=cs.length/\(ag=true\/n=1)/\ K (vR ag ((cs.drop off).take n))
  | _=>False
 | .idx sz x i,K=>match ev x,ev i with
  | .sl sz' xZ,.int _ n=>sz=sz'/\0<=n/\n<xZ.length/\K (.ptr (xZ.getD n.toNat []))
  | .wZ key sz' len,.int _ n=>sz=sz'/\0<=n/\n<len/\K (.ref key sz n.toNat 0)
  | .sub key sz' lo len,.int _ n=>sz=sz'/\0<=n/\n<len/\K (.ref key sz (lo+n.toNat) 0)
  | _,_=>False
 | .Qy n sz x i,K=>match ev x,ev i with
  | .ref key s j off,.int _ p=>0<=p/\p<n/\K (.ref key s j (off+p.toNat*sz))
  | _,_=>False
 | .fg n x,K=>match ev x with
  | .ref key s 0 0=>match σ.get key with
   | some ob=>ob.sz=s/\0<ob.xZ.length/\n<=s/\n<=maxLen/\K (.wZ key 1 n)
   | none=>False
  | _=>False
 | .build zero parts,K=>match xz zero (parts.map λp=>(p.1,p.2.1,ev p.2.2)) with
  | some cs=>K (.agg cs)
  | none=>False
 | .rJ sz len zero parts,K=>match fT sz (List.replicate len zero) (parts.map λp=>(p.1,ev p.2)) with
  | some es=>(es.all D.xT)= true/\K (.sl sz es)
  | none=>False
 | .len x,K=>match ev x with
  | .sl _ xZ=>K (.int .i64 xZ.length)
  | .wZ _ _ n=>K (.int .i64 n)
  | .sub _ _ _ n=>K (.int .i64 n)
  | .xI=>K (.int .i64 0)
  | .emp=>K (.int .i64 0)
  | _=>False
 | .mn x y,K=>match ev x,ev y with
  | .int k a,.int k' b=>k=k'/\K (.int k (if b<a then b else a))
  | _,_=>False
 | .yv x y z,K=>match ev x,ev y,ev z with
  | .int k a,.int k' b,.int k'' c=>k=k'/\k=k''/\K (.int k (if c<(if b<a then b else a) then c else if b<a then b else a))
  | _,_,_=>False
 | .mx x y,K=>match ev x,ev y with
  | .int k a,.int k' b=>k=k'/\K (.int k (if b > a then b else a))
  | _,_=>False
 | .lV x i,K=>match ev x with
  | .yD vs=>i<vs.length/\K (vs.getD i .top)
  | _=>False
 | .j7 f caps,K=>K (.fn f (caps.map ev))
 | .load n ag x,K=>match ev x with
  | .ref key sz i off=>match σ.get key with
   | some o=>o.sz=sz/\i<o.xZ.length/\off+n<=sz/\(ag=true\/n=1)/\ K (vR ag (((o.xZ.getD i []).drop off).take n))
   | none=>False
  | .ptr cs=>n<=cs.length/\(ag=true\/n=1)/\ K (vR ag (cs.take n))
  | .zo b=>∃ ds,RH b ds/\n<=ds.length/\(ag=true\/n=1)/\ K (vR ag (ds.take n))
  | _=>False
 | .Zg sz x lo hi,K=>match ev x with
  | .sl sz' xZ=>sz=sz'/\∃ l h:Int,RW (lo.map ev)= some l/\(match hi.map ev with | none=>h=xZ.length | some (.int _ n)=>h=n | some _=>False)/\ 0<=l/\l<=h/\h<=xZ.length/\K (.sl sz ((xZ.take h.toNat).drop l.toNat))
  | .wZ key sz' len=>sz=sz'/\∃ l h:Int,RW (lo.map ev)= some l/\(match hi.map ev with | none=>h=len | some (.int _ n)=>h=n | some _=>False)/\ 0<=l/\l<=h/\h<=len/\K (if l=0 then .wZ key sz h.toNat else if l=h then .emp else .sub key sz l.toNat (h.toNat-l.toNat))
  | .sub key sz' lo0 len=>sz=sz'/\∃ l h:Int,RW (lo.map ev)= some l/\(match hi.map ev with | none=>h=len | some (.int _ n)=>h=n | some _=>False)/\ 0<=l/\l<=h/\h<=len/\K (.sub key sz (lo0+l.toNat) (h.toNat-l.toNat))
  | _=>False
 | .call fn args,K=>match ev fn with
  | .fn g caps=>du C.P g (args.map ev++caps) σ K
  | _=>False
 | .W6 x,K=>match ev x with
  | .ref key sz i off=>K (.ref key sz i off)
  | .ptr cs=>K (.ptr cs)
  | .fn f cs=>K (.fn f cs)
  | _=>False
 | .fH zero ok m k,K=>match ev m,ev k with
  | .yV key,.int kk x=>match σ.get key with
   | some o=>o.sz=0/\lP kk o.xZ/\K (qV ok zero (qT x o.xZ 0))
   | none=>False
  | .sP,.int _ _=>K (qV ok zero none)
  | _,_=>False
 | .mW n zero ok m k,K=>match ev m,ev k with
  | .yV key,.agg cs=>match σ.get key with
   | some o=>o.sz=0/\∃ (x:List Int) (l:List (List Int × D)),(cs=x.map (D.int .i64)/\ o.xZ=vZ l/\x.length=n/\∀ p ∈ l,p.1.length=n)/\ K (qV ok zero (uJ x l 0))
   | none=>False
  | _,_=>False
 | _,_=>False
def Fr.put (f:Fr):Option Nat->D->Fr
 | some t,d=>(t,d) :: f
 | none,_=>f
def wO : List (Nat × Ob)->Nat->Ob->List (Nat × Ob)
 | [],_,_=>[]
 | (j,o) :: r,k,o'=>if j=k then(j,o') :: r else(j,o) :: wO r k o'
def St.set (σ:St) (k:Nat) (o:Ob):St:=⟨σ.nx,wO σ.xX k o⟩
def St.new (σ:St) (o:Ob):St:=⟨σ.nx+1,(σ.nx,o) :: σ.xX⟩
def yE : List (Nat × Ob)->Nat->List (Nat × Ob)
 | [],_=>[]
 | (j,o) :: r,k=>if j=k then yE r k else(j,o) :: yE r k
def St.erase (σ:St) (k:Nat):St:=⟨σ.nx,yE σ.xX k⟩
def zN (cs:List D):Bool:=cs.all D.one
def rowsOf (σ:St) (sz:Nat):D->Option (List (List D))
 | .sl sz' xZ=>if sz=sz' then some xZ else none
 | .xI=>some []
 | .emp=>some []
 | .wZ key sz' n=>if sz=sz' then(match σ.get key with | some o=>if o.sz=sz/\n<=o.xZ.length then some (o.xZ.take n) else none | none=>none) else none
 | _=>none
def zC (C:Cx) (σ:St) (ev:vK->D) (k:DK) (K:D->St->Prop):Prop:=
 match k with
 | .box x=>match (ev x).cells with
  | some cs=>zN cs=true/\0<cs.length/\K (.ref σ.nx cs.length 0 0) (σ.new ⟨cs.length,[cs]⟩)
  | none=>False
 | .alloc zero=>zN zero=true/\0<zero.length/\K (.ref σ.nx zero.length 0 0) (σ.new ⟨zero.length,[zero]⟩)
 | .store n a x=>match ev a,(ev x).cells with
  | .ref key sz i off,some ds=>match σ.get key with
   | some ob=>ob.sz=sz/\i<ob.xZ.length/\ds.length=n/\off+n<=sz/\zN ds=true/\K .uO (σ.set key ⟨sz,ob.xZ.set i (oR (ob.xZ.getD i []) off ds)⟩)
   | none=>False
  | _,_=>False
 | .app sz bytes x y=>match rowsOf σ sz (ev y) with
  | none=>False
  | some rows=>(∀ r ∈ rows,zN r=true)/\ match ev x with
   | .xI=>rows.length*bytes<=140737488355328/\rows.length<=8000000000000/\(rows = []->K .xI σ)/\ (rows ≠ []->K (.wZ σ.nx sz rows.length) (σ.new ⟨sz,rows⟩))
   | .wZ key sz' n=>match σ.get key with
    | some ob=>sz=sz'/\ob.sz=sz/\n<=ob.xZ.length/\(n+rows.length)* bytes<=140737488355328/\n+rows.length<=8000000000000 /\
     K (.wZ σ.nx sz (n+rows.length)) ((σ.erase key).new ⟨sz,ob.xZ.take n++rows⟩)
    | none=>False
   | .sub key sz' lo n=>match σ.get key with
    | some ob=>C.own.contains 77777=true/\sz=sz'/\ob.sz=sz/\lo+n<=ob.xZ.length/\(n+rows.length)* bytes<=140737488355328/\n+rows.length<=8000000000000 /\
     ∀ pre:List (List D),(pre = []\/pre=ob.xZ.take lo)->K (.sub σ.nx sz pre.length (n+rows.length)) ((σ.erase key).new ⟨sz,pre++((ob.xZ.drop lo).take n++rows)⟩)
    | none=>False
   | _=>False
 | .jF sz bytes zero len cap=>match ev len,ev cap with
  | .int .i64 n,.int .i64 m=>n=m/\0<=n/\bytes*n<=281474976710656/\zN zero=true/\K (.wZ σ.nx sz n.toNat) (σ.new ⟨sz,List.replicate n.toNat zero⟩)
  | _,_=>False
 | .lZ sz len zero parts=>match fT sz (List.replicate len zero) (parts.map λp=>(p.1,ev p.2)) with
  | some es=>(∀ e ∈ es,zN e=true)/\ K (.wZ σ.nx sz len) (σ.new ⟨sz,es⟩)
  | none=>False
 | .j9 zero x=>match ev x with
  | .xI=>K (.yD []) σ
  | .emp=>K (.yD []) σ
  | .wZ key sz n=>match σ.get key with
   | some ob=>sz=1/\ob.sz=1/\0<n/\n<=ob.xZ.length/\zero.one=true/\K (.yD []) (σ.set key ⟨1,List.replicate n [zero]++ob.xZ.drop n⟩)
   | none=>False
  | .sub key sz lo n=>match σ.get key with
   | some ob=>sz=1/\ob.sz=1/\0<n/\lo+n<=ob.xZ.length/\zero.one=true/\K (.yD []) (σ.set key ⟨1,ob.xZ.take lo++(List.replicate n [zero]++ob.xZ.drop (lo+n))⟩)
   | none=>False
  | _=>False
 | .call fn args=>match ev fn with
  | .fn g caps=>jH C.P g (args.map ev++caps) σ K
  | _=>False
 | .j5 x y=>match rowsOf σ 1 (ev y) with
  | none=>False
  | some rows=>(∀ r ∈ rows,zN r=true)/\ match ev x with
   | .wZ key sz n=>match σ.get key with
    | some ob=>sz=1/\ob.sz=1/\n<=ob.xZ.length/\0<min n rows.length/\K (.int .i64 ((min n rows.length:Nat):Int)) (σ.set key ⟨1,rows.take (min n rows.length)++ ob.xZ.drop (min n rows.length)⟩)
    | none=>False
   | .sub key sz lo n=>match σ.get key with
    | some ob=>sz=1/\ob.sz=1/\lo+n<=ob.xZ.length/\0<min n rows.length/\K (.int .i64 ((min n rows.length:Nat):Int)) (σ.set key ⟨1,ob.xZ.take lo++(rows.take (min n rows.length)++ ob.xZ.drop (lo+min n rows.length))⟩)
    | none=>False
   | _=>False
 | .yu=>K (.yV σ.nx) (σ.new ⟨0,[]⟩)
 | .nA m k x=>match ev m,ev k with
  | .yV key,.int kk y=>match σ.get key with
   | some o=>o.sz=0/\lP kk o.xZ/\K .uO (σ.set key ⟨0,aE kk o.xZ y (ev x)⟩)
   | none=>False
  | _,_=>False
 | .qU n m k x=>match ev m,ev k with
  | .yV key,.agg cs=>match σ.get key with
   | some o=>o.sz=0/\∃ (y:List Int) (l:List (List Int × D)),(cs=y.map (D.int .i64)/\ o.xZ=vZ l/\(y.length=n/\∀ p ∈ l,p.1.length=n))/\ K .uO (σ.set key ⟨0,vZ (lN y (ev x) l)⟩)
   | none=>False
  | _,_=>False
 | .fF zero m k=>match ev m,ev k with
  | .yV key,.int kk y=>match σ.get key with
   | some o=>o.sz=0/\lP kk o.xZ/\o.xZ.length<=1000000000/\(match qT y o.xZ 0 with
    | some (i,d)=>K (.yD [d,.int .i64 i]) (σ.set key ⟨0,o.xZ⟩)
    | none=>K (.yD [zero,.int .i64 o.xZ.length]) (σ.set key ⟨0,o.xZ ++ [[.int kk y,zero]]⟩))
   | none=>False
  | _,_=>False
 | .oT n zero m k=>match ev m,ev k with
  | .yV key,.agg cs=>match σ.get key with
   | some o=>o.sz=0/\o.xZ.length<=1000000000/\∃ (y:List Int) (l:List (List Int × D)),(cs=y.map (D.int .i64)/\ o.xZ=vZ l/\(y.length=n/\∀ p ∈ l,p.1.length=n))/\ (match uJ y l 0 with
    | some (i,d)=>K (.yD [d,.int .i64 i]) (σ.set key ⟨0,o.xZ⟩)
    | none=>K (.yD [zero,.int .i64 o.xZ.length]) (σ.set key ⟨0,vZ (l ++ [(y,zero)])⟩))
   | none=>False
  | _,_=>False
 | .fD m s x=>match ev m,ev s with
  | .yV key,.int _ i=>match σ.get key with
   | some o=>o.sz=0/\0<=i/\i<o.xZ.length/\(∃ y d,o.xZ.getD i.toNat [] = [y,d]/\K .uO (σ.set key ⟨0,o.xZ.set i.toNat [y,ev x]⟩))
   | none=>False
  | _,_=>False
 | k=>pW C σ ev k λd=>K d σ
def R4 (C:Cx) (o:xN) (f:Fr) (σ:St) (K:Fr->St->Prop):Prop:=zC C σ (wP f) o.k λd σ'=>K (f.put o.dst d) σ'
def xR (o:xN) (f:Fr) (yes no:Prop):Prop:=
 match o.guard with
 | none=>yes
 | some (j,want)=>match f.get j with
  | .bool b=>if b=want then yes else no
  | .uO=>no
  | _=>False
def tP (C:Cx):List xN->Fr->St->(Fr->St->Prop)->Prop
 | [],f,σ,K=>K f σ
 | o :: rest,f,σ,K=>xR o f (R4 C o f σ λf σ=>tP C rest f σ K) (tP C rest (f.put o.dst .uO) σ K)
def uX (C:Cx) (σ:St):List xN->Fr->(Fr->Prop)->Prop
 | [],f,K=>K f
 | o :: rest,f,K=>xR o f (pW C σ (wP f) o.k λd=>uX C σ rest (f.put o.dst d) K) (uX C σ rest (f.put o.dst .uO) K)
structure Env where
 w0:World
 M0:Nat->Prop
 K0:Nat->Prop
 ι0:Nat->Nat
 B:Nat
def Marks (B:Nat) (a:Act) (w:World):Prop:=B<=w.heap.size/\∃ l:List Nat,a.defers=l.map (λD=>{ target:=.collected D,args:=#[] })/\ l.Nodup/\∀ D ∈ l,w.heap[D]?=some (Obj.deferred (some []))/\ B<=D
theorem Marks.xC {B:Nat} {a a':Act} {w w':World} (h:Marks B a w) (ha:a'.defers=a.defers) (hs:w.heap.size<=w'.heap.size) (hk:∀ D:Nat,w.heap[D]?=some (Obj.deferred (some []))->w'.heap[D]?=some (Obj.deferred (some []))):Marks B a' w':=
 let ⟨h0,l,h1,h2,h3⟩:=h
 ⟨δ h0 hs,l,ha.trans h1,h2,λD hD=>⟨hk D (h3 D hD).1,(h3 D hD).2⟩⟩
theorem Marks.none {B:Nat} {a:Act} {w:World} (h:a.defers = []) (hB:B<=w.heap.size):Marks B a w:=⟨hB,[],h,.nil,λD hD=>by cases hD⟩
theorem Kept.mark {w w':World} {K:Nat->Prop} {D:Nat} {o:Obj} (hk:Kept w w' K) (hn:¬ K D) (h:w.heap[D]?=some o):w'.heap[D]?=some o:=(hk.block D (Array.getElem?_eq_some_iff.1 h).1 hn).trans h
theorem zI.cY {M0:Nat->Prop} {w:World} {σ:St} {ι:Nat->Nat} (hS:zI M0 w σ ι) {D:Nat} {x:Option (List Deferred)} (h:w.heap[D]?=some (Obj.deferred x)):¬ rB ι σ D:=by
 rintro ⟨k,o,hk,rfl⟩
 rcases(hS.holds k o hk).2 with ⟨_,cur,e,h1,_⟩ | ⟨_,es,h1,_⟩
 ·rw [h] at h1; cases h1
 ·rw [h] at h1; cases h1
structure yR (C : Cx) (E : Env) (a : Act) (w : World) (f : Fr) (σ : St) (ι : Nat -> Nat) : Prop where
 size:a.tmps.size=C.N
 defers:Marks E.B a w
 nx:C.n0<=σ.nx
 kept:Kept E.w0 w E.K0
 oC:zI E.M0 w σ ι
 oS:∀ b,E.M0 b->b<E.w0.heap.size
 rQ:∀ k o,σ.get k=some o->E.w0.heap.size<=ι k\/E.K0 (ι k)
 stay:∀ k,k<C.n0->ι k=E.ι0 k
 fr:TK (yO E.M0 ι σ) w ι σ.nx a.tmps f
def Good (C:Cx) (E:Env) (a:Act) (w:World) (f:Fr) (σ:St):Prop:=∃ ι,yR C E a w f σ ι
def Vw (C:Cx) (pre:List xN) (dst:Option Nat) (mid:List xN) (un:Bool) (f:Fr) (σ:St) (K:Fr->St->Prop) (f1:Fr) (d:D) (σ1:St):Prop:= uX C σ1 pre f (λg=>g=f1)/\ uX C σ1 mid (f1.put dst d) λf2=>(if un=true then uX C σ mid (f1.put dst d) (λg=>g=f2) else True)/\ K f2 σ1
def wpS (C:Cx) (dc:DC) (f:Fr) (σ:St) (Q:Exit->Fr->St->Prop):Prop:= ∀ code,tW C.P C.N C.own code=some dc->∀ E a w,Good C E a w f σ->code.wpIn C.F 0 C.P (λe a' w'=>∃ f' σ',Good C E a' w' f' σ'/\Q e f' σ') a w
def jA (next:Fr->St->Prop) (Q:Exit->Fr->St->Prop):Exit->Fr->St->Prop
 | .normal,f,σ=>next f σ
 | e,f,σ=>Q e f σ
def nO (id:Nat) (Q:Exit->Fr->St->Prop):Exit->Fr->St->Prop
 | .exit i,f,σ=>if i=id then Q .normal f σ else Q (.exit i) f σ
 | e,f,σ=>Q e f σ
def wo (C:Cx) (it:Nat) (m:vK) (out nx more next pair:Nat) (rest:List xN) (code:DC) (f:Fr) (σ:St) (Q:Exit->Fr->St->Prop):Prop:=
 ∃ key xZ,C.rd=none/\wP f m = .yV key/\σ.get key=some ⟨0,xZ⟩/\ ∀ b:Nat,∃ I:List Nat->Fr->St->Prop,(∃ f1 σ1,(∀ E a w,Good { C with n0:=max C.n0 (key+1) } E a w (f.put (some it) (.zo b)) σ->Good { C with n0:=max C.n0 (key+1) } E a w f1 σ1)/\ I [] f1 σ1)/\
  (∀ seen f σ,I seen f σ->f.get it = .zo b/\σ.get key=some ⟨0,xZ⟩)/\
  ∀ seen f σ,I seen f σ->seen.Nodup->(∀ j ∈ seen,j<xZ.length) ->
   (seen.length=xZ.length->Q .normal ((f.put (some nx) .top).put (some more) .top) σ)/\
   ∀ i,i<xZ.length->i ∉ seen->tP { C with n0:=max C.n0 (key+1) } rest (((f.put (some nx) .top).put (some more) .top).put (some pair) (.yD (xZ.getD i []))) σ λf σ=>wpS { C with n0:=max C.n0 (key+1) } code f σ (nO next (jA (I (seen ++ [i])) (nO out Q)))
def mX (C:Cx):DC->Fr->St->(Exit->Fr->St->Prop)->Prop
 | .Zf ..,_,_,_=>False
 | .WA ..,_,_,_=>False
 | .W9 ..,_,_,_=>False
 | .dY pre it m out nx more next pair rest code,f,σ,Q=>tP C pre f σ λf σ=>wo C it m out nx more next pair rest code f σ Q
 | .skip,f,σ,Q=>Q .normal f σ
 | .sS pre post,f,σ,Q=>uX C σ pre f λf=>tP C post f σ λf σ=>Q .normal f σ
 | .yo pre m mid un post,f,σ,Q=>uX C σ pre f λf1=>zC C σ (wP f1) m.k λd σ1=>Vw C pre m.dst mid un f σ (λf σ=>tP C post f σ λf σ=>Q .normal f σ) f1 d σ1
 | .ym pre m1 mid1 m2 mid2 post,f,σ,Q=>uX C σ pre f λf1=>zC C σ (wP f1) m1.k λd1 σ1=>uX C σ1 pre f (λg=>g=f1)/\ uX C σ1 mid1 (f1.put m1.dst d1) λf2=>zC C σ1 (wP f2) m2.k λd2 σ2=> uX C σ2 pre f (λg=>g=f1)/\ uX C σ2 mid1 (f1.put m1.dst d1) (λg=>g=f2)/\ uX C σ2 mid2 (f2.put m2.dst d2) λf3=>tP C post f3 σ2 λf σ=>Q .normal f σ
 | .seq a b,f,σ,Q=>mX C a f σ (jA (λf σ=>mX C b f σ Q) Q)
 | .cond c a b,f,σ,Q=>match wP f c with
  | .bool t=>if t=true then mX C a f σ Q else mX C b f σ Q
  | _=>False
 | .block id c,f,σ,Q=>mX C c f σ (nO id Q)
 | .loop c,f,σ,Q=>wpS C (.loop c) f σ Q
 | .eE g ps a c,f,σ,Q=>wpS C (.eE g ps a c) f σ Q
 | .bY pre m1 mid1 m2 mid2 post free,f,σ,Q=>wpS C (.bY pre m1 mid1 m2 mid2 post free) f σ Q
 | .bX pre m mid un post fl,f,σ,Q=>wpS C (.bX pre m mid un post fl) f σ Q
 | .mK ms l s xs y,f,σ,Q=>wpS C (.mK ms l s xs y) f σ Q
 | .exit id,f,σ,Q=>Q (.exit id) f σ
 | .ret,f,σ,Q=>Q .ret f σ
@[congr] theorem Pc {C : Cx} {dc : DC} {f f' : Fr} {σ : St} {Q : Exit -> Fr -> St -> Prop} (h : f = f') : wpS C dc f σ Q = wpS C dc f' σ Q := by rw [h]
@[congr] theorem R6 {P : Program} {g : FuncId} {args args' : List D} {σ : St} {K : D -> Prop} (h : args = args') : du P g args σ K = du P g args' σ K := by rw [h]
@[congr] theorem R7 {P : Program} {g : FuncId} {args args' : List D} {σ : St} {K : D -> St -> Prop} (h : args = args') : jH P g args σ K = jH P g args' σ K := by rw [h]
theorem du.go {P:Program} {g:FuncId} {args:List D} {σ:St} {K:D->Prop} {d:D} (h:xU P g args σ d σ) (hk:K d):du P g args σ K:=⟨d,h,hk⟩
theorem jH.go {P:Program} {g:FuncId} {args:List D} {σ:St} {K:D->St->Prop} {d:D} {σ':St} (h:xU P g args σ d σ') (hk:K d σ'):jH P g args σ K:=⟨d,σ',h,hk⟩
end Go.Pd
namespace Go.Pd
open Go
variable [vA]
section inv
variable {M : Nat -> Prop} {w : World} {ι : Nat -> Nat} {n : Nat} {v : Value}
theorem R.yT {k:IntKind} {x:Int} (h:R M w ι n v (.int k x)):v = .int k x/\k.min<=x/\x<=k.max:=by cases h with | pure h=>cases h with | int h=>exact⟨rfl,h⟩
theorem R.nL {b:Bool} (h:R M w ι n v (.bool b)):v = .bool b:=by cases h with | pure h=>cases h; rfl
theorem R.uA (h:R M w ι n v .xI):v = .slice none 0 0:=by cases h with | pure h=>cases h; rfl
theorem R.gK (h:R M w ι n v .emp):∃ a cap,v = .slice (some a) 0 cap:=by cases h with | pure h=>cases h; exact⟨_,_,rfl⟩
theorem R.Sj (h:R M w ι n v .uO):v=undef:=by cases h with | pure h=>cases h; rfl
theorem R.gI {b:Nat} (h:R M w ι n v (.zo b)):v = .pointer (some ⟨b,0,none⟩):=by cases h with | pure h=>cases h; rfl
theorem R.uV {key sz i off:Nat} (h:R M w ι n v (.ref key sz i off)):v = .pointer (some ⟨ι key,i*sz+off,none⟩)/\ key<n/\0<sz:=by
 cases h with
 | pure h=>cases h
 | ref hk h0=>exact⟨rfl,hk,h0⟩
theorem R.qN {key:Nat} (h:R M w ι n v (.yV key)):v = .map (some (ι key))/\ key<n:=by
 cases h with
 | pure h=>cases h
 | yV hk=>exact⟨rfl,hk⟩
theorem R.UH (h:R M w ι n v .sP):v = .map none:=by cases h with | pure h=>cases h; rfl
theorem R.tE {key sz len:Nat} (h:R M w ι n v (.wZ key sz len)) :
  ∃ (cap:Nat) (cur:Array Value) (e:TypeId),v = .slice (some ⟨ι key,0,none⟩) len cap/\key<n/\len<=cap/\cap<=maxLen/\w.heap[ι key]?=some (Obj.cells cur e (0,0))/\ cap*sz<=cur.size:=by
 cases h with
 | pure h=>cases h
 | wZ hk h1 h2 h3 h4=>exact⟨_,_,_,rfl,hk,h1,h2,h3,h4⟩
theorem R.mU {key sz lo len:Nat} (h:R M w ι n v (.sub key sz lo len)) :
  ∃ (cap off:Nat) (cur:Array Value) (e:TypeId),v = .slice (some ⟨ι key,off,none⟩) len cap/\key<n/\len<=cap/\cap<=maxLen/\w.heap[ι key]?=some (Obj.cells cur e (0,0))/\ (cap=0\/(off=lo*sz/\(lo+cap)* sz<=cur.size)):=by
 cases h with
 | pure h=>cases h
 | sub hk h1 h2 h3 h4=>exact⟨_,_,_,_,rfl,hk,h1,h2,h3,h4⟩
theorem R.qR {cs:List D} (h:R M w ι n v (.ptr cs)):∃ (b off:Nat) (vs:Nat->Value),v = .pointer (some ⟨b,off,none⟩)/\ 0<cs.length/\¬ M b/\(∀ j,j<cs.length->w.cell? ⟨b,off+j,none⟩= some (vs j))/\ ∀ j,j<cs.length->RP M w (vs j) (cs.getD j .top):=by cases h with | pure h=>cases h with | ptr vs hs hM hc hr=>exact⟨_,_,vs,rfl,hs,hM,hc,hr⟩
theorem R.kN {sz:Nat} {xZ:List (List D)} (h:R M w ι n v (.sl sz xZ)) :
  (∃ a cap,v = .slice a 0 cap/\xZ = []/\(a=none->cap=0))\/∃ (b off cap:Nat) (vs:Nat->Nat->Value),v = .slice (some ⟨b,off,none⟩) xZ.length cap/\0<sz/\¬ M b/\xZ.length<=cap/\cap<=maxLen/\(∀ e ∈ xZ,e.length=sz)/\
   (∀ i,i<xZ.length->∀ j,j<sz->w.cell? ⟨b,off+i*sz+j,none⟩= some (vs i j))/\ ∀ i,i<xZ.length->∀ j,j<sz->RP M w (vs i j) ((xZ.getD i []).getD j .top):=by
 cases h with
 | pure h=>
  cases h with
  | fw a cap sz h=>exact .inl ⟨a,cap,rfl,rfl,h⟩
  | sl vs hs hM hc hm hl hcell hr=>exact .inr ⟨_,_,_,vs,rfl,hs,hM,hc,hm,hl,hcell,hr⟩
theorem R.cU {cs:List D} (h:R M w ι n v (.agg cs)):∃ vs:Array Value,v = .agg vs/\vs.size=cs.length/\∀ j,j<cs.length->R M w ι n (vs.getD j undef) (cs.getD j .top):=by
 cases h with
 | pure h=>cases h with | agg hl hr=>exact⟨_,rfl,hl,λj hj=>.pure (hr j hj)⟩
 | agg hl hr=>exact⟨_,rfl,hl,hr⟩
theorem R.jn {cs:List D} (h:R M w ι n v (.yD cs)):∃ vs:Array Value,v = .tuple vs/\vs.size=cs.length/\∀ j,j<cs.length->R M w ι n (vs.getD j undef) (cs.getD j .top):=by
 cases h with
 | pure h=>cases h with | yD hl hr=>exact⟨_,rfl,hl,λj hj=>.pure (hr j hj)⟩
 | yD hl hr=>exact⟨_,rfl,hl,hr⟩
theorem R.kM {f:FuncId} {cs:List D} (h:R M w ι n v (.fn f cs)):∃ vs:Array Value,v = .func (.func f) #[] vs/\vs.size=cs.length/\∀ j,j<cs.length->R M w ι n (vs.getD j undef) (cs.getD j .top):=by
 cases h with
 | pure h=>cases h with | fn hl hr=>exact⟨_,rfl,hl,λj hj=>.pure (hr j hj)⟩
 | fn hl hr=>exact⟨_,rfl,hl,hr⟩
end inv
theorem Xi (k:IntKind) (x:Int):k.min<=k.wrap x/\k.wrap x<=k.max:=by cases k <;> simp [IntKind.min,IntKind.max,IntKind.wrap,IntKind.signed,IntKind.bits] <;> (try split) <;> omega
theorem RP.wrap {M:Nat->Prop} {w:World} (k:IntKind) (x:Int):RP M w (.int k (k.wrap x)) (.int k (k.wrap x)):=.int (Xi k x)
theorem Yu {k:IntKind} {x:Int} (h:k.min<=x/\x<=k.max) (m:Nat):k.min<=x.fdiv (2 ^ m)/\ x.fdiv (2 ^ m)<=k.max:=by
 have h2:(0:Int)<2 ^ m:=Int.pow_pos (by decide);have e:x.fdiv (2 ^ m)= x / 2 ^ m:=Int.fdiv_eq_ediv_of_nonneg _ (Int.le_of_lt h2);rw [e];have hle:∀ y:Int,0<=y->y / 2 ^ m<=y:=λy hy=>Int.ediv_le_self _ hy;have h1:(1:Int)<=2 ^ m:=h2
 constructor
 ·by_cases hx:0<=x
  ·have:=Int.ediv_nonneg hx (Int.le_of_lt h2);have hm:k.min<=0:=by cases k <;> decide
   omega
  ·have:x<=x / 2 ^ m:=by refine(Int.le_ediv_iff_mul_le h2).2 ?_;have:=Int.mul_le_mul_of_nonpos_left (show x<=0 by omega) h1;omega
   omega
 ·by_cases hx:0<=x
  ·have:=hle x hx; omega
  ·have:x / 2 ^ m<0:=Int.ediv_neg_of_neg_of_pos (by omega) h2;have hm:0<=k.max:=by cases k <;> decide
   omega
theorem Xf {k:IntKind} {x y:Int} (h:k.min<=x/\x<=k.max):k.min<=x.tmod y/\x.tmod y<=k.max:=by
 have hm:k.min<=0:=by cases k <;> decide
 have hM:0<=k.max:=by cases k <;> decide
 rcases Int.le_total 0 x with hx | hx
 ·have h1:=Int.tmod_nonneg y hx
  have h2:x.tmod y<=x:=by have:=Int.natAbs_tmod x y;have h3:=Nat.mod_le x.natAbs y.natAbs;omega
  omega
 ·have h1:x.tmod y<=0:=by have:=Int.tmod_nonneg (a:=-x) y (by omega);rw [Int.neg_tmod] at this;omega
  have h2:x<=x.tmod y:=by have:=Int.natAbs_tmod x y;have h3:=Nat.mod_le x.natAbs y.natAbs;omega
  omega
theorem kF {M:Nat->Prop} {w:World} {v:Value} {d:D} (h:D.leaf v=some d):RP M w v d:=by
 unfold D.leaf at h;split at h <;> simp at h <;> (try subst h) <;> try constructor
 obtain⟨h1,rfl⟩:=h;exact .int h1
theorem p9 {vs:Array Value} {j:Nat} {v:Value} (h:vs.toList[j]?=some v):vs.getD j undef=v:=by
 have h':vs[j]?=some v:=by simpa using h
 simp [h']
theorem nE {M:Nat->Prop} {w:World} {v:Value} {d:D} (h:D.ofValue v=some d):RP M w v d:=by
 unfold D.ofValue at h
 split at h
 ·rename_i cs;simp at h;obtain⟨ds,h1,rfl⟩:=h;obtain⟨hl,hg⟩:=zA h1;refine .agg (by simpa using hl.symm) λj hj=>?_;have hj':j<cs.toList.length:=by omega
  obtain⟨b,hb,hf⟩:=hg j _ (List.getElem?_eq_getElem hj');have e1:ds.getD j .top=b:=by simp [List.getD,hb]
  rw [e1,p9 (List.getElem?_eq_getElem hj')];exact kF hf
 ·exact kF h
theorem oD {M:Nat->Prop} {w:World} {ι:Nat->Nat} {n N:Nat} {a:Act} {f:Fr} (hf:TK M w ι n a.tmps f) {x:Operand} {y:vK} (h:xM N x=some y):R M w ι n (a.eval x) (wP f y):=by
 cases x with
 | tmp t=> simp [xM] at h;obtain⟨_,rfl⟩:=h;exact hf t
 | const v=> simp [xM] at h;obtain⟨d,hd,rfl⟩:=h;exact .pure (nE hd)
 | func f=> simp [xM] at h;subst h;exact .pure (.fn (by simp) (by simp))
 | global g=> simp [xM] at h;subst h;exact .pure (.zo g)
end Go.Pd
namespace Go.Pd
open Go
variable [vA]
theorem uZ {P:Program} {o:Oper} {a:Act} {w w':World} {next:Act->World->Prop} {Q:Exit->Act->World->Prop} {v:Value}
  (hx:(execOp a.eval o).run P w = .ok (.value v) w') (hn:next (a.put o.dst v) w'):o.wp P a w next Q:=by
 unfold Oper.wp; rw [hx]; exact hn
section
variable {P : Program} {N : Nat} {o : Oper} {a : Act} {w : World} {M : Nat -> Prop} {ι : Nat -> Nat} {n : Nat}
def Yields (P:Program) (o:Oper) (a:Act) (w:World) (v:Value):Prop:=(execOp a.eval o).run P w = .ok (.value v) w
theorem Oz {op:BinOp} {t u:TypeId} {x y:Operand} (ho:o.op = .binOp op t x y u) {k k':IntKind} {p q:Int} (hx:a.eval x = .int k p) (hy:a.eval y = .int k' q)
  (hp:k.min<=p/\p<=k.max) {K:D->Prop} (h:qI op k p k' q K):∃ v d,Yields P o a w v/\K d/\∀ M,RP M w v d:=by
 unfold Yields;cases op <;> simp only [qI] at h
 case shl=>
  refine⟨_,_,?_,h.2,λM=>RP.wrap _ _⟩;have h0:¬ q<0:=by have:=h.1; omega
  simp [execOp,ho,hx,hy,eqGuard,binOp,Op.shift,h0,yp]
 case shr=>
  refine⟨_,_,?_,h.2,λM=>RP.int (Yu hp _)⟩;have h0:¬ q<0:=by have:=h.1; omega
  simp [execOp,ho,hx,hy,eqGuard,binOp,Op.shift,h0,b9]
 case quo=> obtain⟨rfl,h1,h2⟩:=h;refine⟨_,_,?_,h2,λM=>RP.wrap _ _⟩;simp [execOp,ho,hx,hy,eqGuard,binOp,Op.intDiv,h1]
 case rem=> obtain⟨rfl,h1,h2⟩:=h;refine⟨_,_,?_,h2,λM=>RP.int (Xf hp)⟩;simp [execOp,ho,hx,hy,eqGuard,binOp,Op.intDiv,h1]
 all_goals
  obtain⟨rfl,h2⟩:=h;refine⟨_,_,?_,h2,λM=>by first | exact RP.wrap _ _ | exact RP.bool _⟩;simp [execOp,ho,hx,hy,eqGuard,binOp,Op.intArith,Op.intBits,Op.intCmp,mH]
theorem lg {x:Operand} (ho:o.op = .move x\/o.op = .assign x):Yields P o a w (a.eval x):=by rcases ho with ho | ho <;> simp [Yields,execOp,ho]
theorem ra {x:Operand} (ho:o.op = .nilCheck x) {v:Value} (hx:a.eval x=v) (hv:(∃ b,v = .pointer (some b))\/∃ f vs,v = .func (.func f) #[] vs):Yields P o a w v:=by rcases hv with ⟨b,rfl⟩ | ⟨f,vs,rfl⟩ <;> simp [Yields,execOp,ho,hx]
theorem VU {c x y:Operand} (ho:o.op = .pick c x y) {t:Bool} (hc:a.eval c = .bool t):Yields P o a w (if t then a.eval x else a.eval y):=by simp [Yields,execOp,ho,hc,asBool]
theorem fx (d:Nat) {t:TypeId} (ht:P.underlying t=some .bool) (b c:Bool):(Op.equalIn (d+1) t (.bool b) (.bool c)).run P w = .ok (b==c) w:=by simp [Op.equalIn,run_underlying ht]
theorem Ys {t:TypeId} (ht:P.underlying t=some .bool) (b c:Bool):(Op.equal t (.bool b) (.bool c)).run P w = .ok (b==c) w:=fx 9999 ht b c
theorem rj (d:Nat) {t e:TypeId} (ht:P.underlying t=some (.slice e)) {ax ay:Option Addr} {lx ly cx cy:Nat} (hn:ax=none\/ay=none) :
  (Op.equalIn (d+1) t (.slice ax lx cx) (.slice ay ly cy)).run P w = .ok (ax.isNone&&ay.isNone) w:=by
 rcases hn with rfl | rfl <;> (try cases ax) <;> (try cases ay) <;> simp [Op.equalIn,run_underlying ht]
theorem p7 {t e:TypeId} (ht:P.underlying t=some (.slice e)) {ax ay:Option Addr} {lx ly cx cy:Nat} (hn:ax=none\/ay=none) :
  (Op.equal t (.slice ax lx cx) (.slice ay ly cy)).run P w = .ok (ax.isNone&&ay.isNone) w:=rj 9999 ht hn
theorem Ow {op:BinOp} {t u:TypeId} {x y:Operand} (ho:o.op = .binOp op t x y u) (hop:op = .eql\/op = .neq) (ht:P.underlying t=some .bool) {b c:Bool} (hx:a.eval x = .bool b) (hy:a.eval y = .bool c) :
  Yields P o a w (.bool (if op = .neq then b != c else b==c)):=by
 rcases hop with rfl | rfl <;> simp [Yields,execOp,ho,hx,hy,eqGuard,binOp,Ys ht] <;> (try (cases b <;> cases c <;> rfl))
theorem gR {op:BinOp} {t u e:TypeId} {x y:Operand} (ho:o.op = .binOp op t x y u) (hop:op = .eql\/op = .neq) (ht:P.underlying t=some (.slice e)) {ax ay:Option Addr} {lx ly cx cy:Nat}
  (hx:a.eval x = .slice ax lx cx) (hy:a.eval y = .slice ay ly cy) (hn:ax=none\/ay=none) :
  Yields P o a w (.bool (if op = .neq then !(ax.isNone&&ay.isNone) else ax.isNone&&ay.isNone)):=by
 rcases hop with rfl | rfl <;> simp [Yields,execOp,ho,hx,hy,eqGuard,binOp,p7 ht hn]
theorem P4 {t:TypeId} {x:Operand} (ho:o.op = .unOp .not t x) {b:Bool} (hx:a.eval x = .bool b):Yields P o a w (.bool (!b)):=by simp [Yields,execOp,ho,hx,Op.unary]
theorem P3 {t:TypeId} {x:Operand} (ho:o.op = .unOp .neg t x) {k:IntKind} {p:Int} (hx:a.eval x = .int k p):Yields P o a w (.int k (k.wrap (0-p))):=by simp [Yields,execOp,ho,hx,Op.unary,Op.intArith]
theorem Oy {t:TypeId} {x:Operand} (ho:o.op = .unOp .xor t x) {k:IntKind} {p:Int} (hx:a.eval x = .int k p):Yields P o a w (.int k (mH .xor k (if k.signed then -1 else k.max) p)):=by simp [Yields,execOp,ho,hx,Op.unary,Op.intBits,mH]
theorem Qj {s t:TypeId} {x:Operand} (ho:o.op = .convert s t x) {ks k k':IntKind} (hs:P.underlying s=some (.int ks)) (ht:P.underlying t=some (.int k)) {p:Int} (hx:a.eval x = .int k' p) :
  Yields P o a w (.int k (k.wrap p)):=by
 simp [Yields,execOp,ho,hx,convert,run_underlying hs,run_underlying ht,Conv.intToInt]
theorem Ya {t:TypeId} {x:Operand} {i:Nat} (ho:o.op = .fieldAddr t x i) {fs:Array Field} {f:Field} (ht:P.underlying t=some (.struct fs)) (hf:fs[i]?=some f) {inf:TypeInfo} (hi:P.info? f.type=some inf) (hs:0<inf.size)
  {b off:Nat} (hx:a.eval x = .pointer (some ⟨b,off,none⟩)):Yields P o a w (.pointer (some ⟨b,off+f.offset,none⟩)):=by
 have h0:inf.size≠0:=by omega
 simp [Yields,execOp,ho,hx,Instr.fieldAt,run_underlying ht,hf,Instr.sureAddr,fieldPlace,sizeOf,typeInfo,hi,h0,Addr.add_lit]
theorem oI {t e:TypeId} {x y:Operand} (ho:o.op = .indexAddr t x y) {n:Nat} (ht:P.underlying t=some (.array n e)) {inf:TypeInfo} (hi:P.info? e=some inf) {b off:Nat} {k:IntKind} {p:Int}
  (hx:a.eval x = .pointer (some ⟨b,off,none⟩)) (hy:a.eval y = .int k p) (h0:0<=p) (h1:p<n):Yields P o a w (.pointer (some ⟨b,off+p.toNat*inf.size,none⟩)):=by
 simp [Yields,execOp,ho,hx,hy,Instr.indexAt,asIntOf,Instr.sureAddr,run_underlying ht,sizeOf,typeInfo,hi,h0,h1,Addr.add_lit]
theorem lM {t e:TypeId} {x y:Operand} (ho:o.op = .indexAddr t x y) (ht:P.underlying t=some (.slice e)) {inf:TypeInfo} (hi:P.info? e=some inf) {b off len cap:Nat} {k:IntKind} {p:Int}
  (hx:a.eval x = .slice (some ⟨b,off,none⟩) len cap) (hy:a.eval y = .int k p) (h0:0<=p) (h1:p<len):Yields P o a w (.pointer (some ⟨b,off+p.toNat*inf.size,none⟩)):=by
 simp [Yields,execOp,ho,hx,hy,Instr.indexAt,asIntOf,run_underlying ht,sizeOf,typeInfo,hi,h0,h1,Addr.add_lit]
theorem qz {t e ty:TypeId} {x:Operand} {ts:Array TypeId} (ho:o.op = .call { callee:=.builtin .len,args:=#[x],argTypes:=#[t] }) (ht:P.underlying t=some (.slice e)) {ad:Option Addr} {len cap:Nat}
  (hx:a.eval x = .slice ad len cap):Yields P o a w (.int .i64 len):=by
 simp [Yields,execOp,ho,hx,resolve,invoke,builtin,Builtin.len_,run_underlying ht,goInt]
theorem P1 {ts:Array TypeId} {x y:Operand} (ho:o.op = .call { callee:=.builtin .min,args:=#[x,y],argTypes:=ts }) {k k':IntKind} {p q:Int} (hx:a.eval x = .int k p) (hy:a.eval y = .int k' q) :
  Yields P o a w (.int k (if q<p then q else p)):=by
 simp [Yields,execOp,ho,hx,hy,resolve,invoke,builtin,Builtin.min_,Builtin.min2]
theorem Ql {ts:Array TypeId} {x y z:Operand} (ho:o.op = .call { callee:=.builtin .min,args:=#[x,y,z],argTypes:=ts }) {k k' k'':IntKind} {p q r:Int} (hx:a.eval x = .int k p) (hy:a.eval y = .int k' q) (hz:a.eval z = .int k'' r) :
  Yields P o a w (.int k (if r<(if q<p then q else p) then r else if q<p then q else p)):=by
 simp [Yields,execOp,ho,hx,hy,hz,resolve,invoke,builtin,Builtin.min_,Builtin.min2]
theorem P0 {ts:Array TypeId} {x y:Operand} (ho:o.op = .call { callee:=.builtin .max,args:=#[x,y],argTypes:=ts }) {k k':IntKind} {p q:Int} (hx:a.eval x = .int k p) (hy:a.eval y = .int k' q) :
  Yields P o a w (.int k (if q > p then q else p)):=by
 simp [Yields,execOp,ho,hx,hy,resolve,invoke,builtin,Builtin.max_,Builtin.max2]
theorem cL {P:Program} {t:TypeId} {d:D} (h:yh P t=some d):∃ k e q i z,P.underlying t=some (.map k e)/\ P.underlying k=some (.int q)/\ P.info? e=some i/\i.zero=some z/\D.ofValue z=some d:=by
 unfold yh at h
 split at h
 ·rename_i k e ht
  split at h
  ·rename_i q hk;simp only [η,ζ] at h;obtain⟨i,hi,z,hz,hd⟩:=h;exact⟨k,e,q,i,z,ht,hk,hi,hz,hd⟩
  ·simp at h
 ·simp at h
theorem Qk {x:Operand} {i:Nat} (ho:o.op = .extract x i) {vs:Array Value} (hx:a.eval x = .tuple vs) (hi:i<vs.size):Yields P o a w (vs.getD i undef):=by simp [Yields,execOp,ho,hx,Instr.extract,hi]
theorem P2 {f:FuncId} {caps:Array Operand} (ho:o.op = .makeFunc (.func f) #[] caps):Yields P o a w (.func (.func f) #[] (caps.map a.eval)):=by simp [Yields,execOp,ho,Instr.makeFunc]
theorem jq {t:TypeId} {x:Operand} (ho:o.op = .load t x) {td:TypeDesc} (ht:P.underlying t=some td) (hag:qS P t=some false) {ad:Addr} {v:Value} (hx:a.eval x = .pointer (some ad)) (hc:w.cell? ad=some v) :
  Yields P o a w v:=by
 cases td <;> simp [qS,ht] at hag <;> simp [Yields,execOp,ho,hx,Instr.loadAt,Instr.sureAddr,loadVar,isAgg,run_underlying ht,load,Sem.run,hc]
theorem jr {t:TypeId} {x:Operand} (ho:o.op = .load t x) {td:TypeDesc} (ht:P.underlying t=some td) (hag:qS P t=some true) {inf:TypeInfo} (hi:P.info? t=some inf) {ad:Addr} {vs:List Value} (hl:vs.length=inf.size)
  (hx:a.eval x = .pointer (some ad)) (hc:∀ j v,vs[j]?=some v->w.cell? (ad.add j)= some v):Yields P o a w (.agg vs.toArray):=by
 have hr:=run_loadCells_list (P:=P) w ad vs hc;rw [hl] at hr;cases td <;> simp [qS,ht] at hag <;> simp [Yields,execOp,ho,hx,Instr.loadAt,Instr.sureAddr,loadVar,isAgg,run_underlying ht,sizeOf,typeInfo,hi,hr]
end
end Go.Pd
