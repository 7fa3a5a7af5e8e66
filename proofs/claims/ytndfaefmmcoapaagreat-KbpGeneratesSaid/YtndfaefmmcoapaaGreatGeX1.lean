/- Part X1. -/
import Derived.Orders
import Derived.StillTail
import Derived.Below
import Derived.Laws.AppendOwn
import Derived.Laws.World
import Derived.WalkKit
import Derived.CallsIn
import Derived.OrdersIn
import Derived.TacticsIn
import Derived.ChangeKeysEq
import Derived.Laws.StructEq
set_option linter.unusedSectionVars false
set_option linter.unusedVariables false
set_option linter.unusedSimpArgs false
set_option linter.defProp false
open Nat renaming lt_of_lt_of_le->γ,le_trans->δ,le_refl->ε
open List renaming length_cons->ζ,getElem?_eq_getElem->η,drop_eq_nil_of_le->θ
open Option renaming bind_eq_some_iff->κ,bind_eq_bind->μ
namespace Go.Pd
open Go
def zO := And.intro @μ.{0} (And.intro @κ.{0,0} (And.intro @Option.pure_def.{0} @Option.some.injEq.{0}))
inductive D where
 | top
 | rJ
 | int (k:IntKind) (n:Int)
 | bool (b:Bool)
 | str (s:ByteArray)
 | sl (sz:Nat) (xW:List (List D))
 | xL
 | emp
 | agg (cs:List D)
 | wF (vs:List D)
 | fn (f:FuncId) (caps:List D)
 | ref (key sz i off:Nat)
 | yD (key sz len:Nat)
 | sub (key sz lo len:Nat)
 | ptr (cs:List D)
 | wA (key:Nat)
 | qM
 | oH
 | mC
 | l5 (b:Nat)
 deriving Inhabited
structure Ob where
 sz:Nat
 xW:List (List D)
 deriving Inhabited
structure St where
 nx:Nat
 xZ:List (Nat × Ob)
def St.look : List (Nat × Ob)->Nat->Option Ob
 | [],_=>none
 | (j,o) :: r,k=>if j=k then some o else St.look r k
def St.get (σ:St) (k:Nat):Option Ob:=St.look σ.xZ k
abbrev Fr :=List (Nat × D)
def Fr.get : Fr->Nat->D
 | [],_=>.top
 | (t,d) :: r,s=>if t=s then d else Fr.get r s
inductive RP (M : Nat -> Prop) (w : World) : Value -> D -> Prop
 | top (v:Value):RP M w v .top
 | rJ:RP M w undef .rJ
 | int {k:IntKind} {n:Int} (h:k.min<=n/\n<=k.max):RP M w (.int k n) (.int k n)
 | bool (b:Bool):RP M w (.bool b) (.bool b)
 | str {s:ByteArray} (h:s.size<=maxLen):RP M w (.string s) (.str s)
 | kp (a:Option Addr) (cap sz:Nat) (h:a=none->cap=0):RP M w (.slice a 0 cap) (.sl sz [])
 | emp (a:Addr) (cap:Nat):RP M w (.slice (some a) 0 cap) .emp
 | sl {b off cap sz:Nat} {xW:List (List D)} (vs:Nat->Nat->Value) (hs:0<sz) (hM:¬ M b) (hc:xW.length<=cap) (hm:cap<=maxLen) (hl:∀ e ∈ xW,e.length=sz)
   (hcell:∀ i,i<xW.length->∀ j,j<sz->w.cell? ⟨b,off+i*sz+j,none⟩= some (vs i j))
   (hr:∀ i,i<xW.length->∀ j,j<sz->RP M w (vs i j) ((xW.getD i []).getD j .top)):RP M w (.slice (some ⟨b,off,none⟩) xW.length cap) (.sl sz xW)
 | xL:RP M w (.slice none 0 0) .xL
 | ptr {b off:Nat} {cs:List D} (vs:Nat->Value) (hs:0<cs.length) (hM:¬ M b) (hcell:∀ j,j<cs.length->w.cell? ⟨b,off+j,none⟩= some (vs j))
   (hr:∀ j,j<cs.length->RP M w (vs j) (cs.getD j .top)):RP M w (.pointer (some ⟨b,off,none⟩)) (.ptr cs)
 | agg {vs:Array Value} {cs:List D} (hl:vs.size=cs.length) (hr:∀ j,j<cs.length->RP M w (vs.getD j undef) (cs.getD j .top)):RP M w (.agg vs) (.agg cs)
 | wF {vs:Array Value} {cs:List D} (hl:vs.size=cs.length) (hr:∀ j,j<cs.length->RP M w (vs.getD j undef) (cs.getD j .top)):RP M w (.tuple vs) (.wF cs)
 | fn {f:FuncId} {vs:Array Value} {cs:List D} (hl:vs.size=cs.length) (hr:∀ j,j<cs.length->RP M w (vs.getD j undef) (cs.getD j .top)):RP M w (.func (.func f) #[] vs) (.fn f cs)
 | qM:RP M w (.pointer none) .qM
 | oH:RP M w (.map none) .oH
 | mC:RP M w .nilFunc .mC
 | l5 (b:Nat):RP M w (.pointer (some ⟨b,0,none⟩)) (.l5 b)
inductive R (M : Nat -> Prop) (w : World) (ι : Nat -> Nat) (n : Nat) : Value -> D -> Prop
 | pure {v:Value} {d:D} (h:RP M w v d):R M w ι n v d
 | ref {key sz i off:Nat} (hk:key<n) (hs:0<sz):R M w ι n (.pointer (some ⟨ι key,i*sz+off,none⟩)) (.ref key sz i off)
 | yD {key sz len cap:Nat} {cur:Array Value} {e:TypeId} (hk:key<n) (h1:len<=cap) (h2:cap<=maxLen) (h3:w.heap[ι key]?=some (Obj.cells cur e (0,0))) (h4:cap*sz=cur.size) :
   R M w ι n (.slice (some ⟨ι key,0,none⟩) len cap) (.yD key sz len)
 | sub {key sz lo len cap off:Nat} {cur:Array Value} {e:TypeId} (hk:key<n) (h1:len<=cap) (h2:cap<=maxLen) (h3:w.heap[ι key]?=some (Obj.cells cur e (0,0))) (h4:cap=0\/(off=lo*sz/\(lo+cap)* sz=cur.size)) :
   R M w ι n (.slice (some ⟨ι key,off,none⟩) len cap) (.sub key sz lo len)
 | wA {key:Nat} (hk:key<n):R M w ι n (.map (some (ι key))) (.wA key)
 | agg {vs:Array Value} {cs:List D} (hl:vs.size=cs.length) (hr:∀ j,j<cs.length->R M w ι n (vs.getD j undef) (cs.getD j .top)):R M w ι n (.agg vs) (.agg cs)
 | wF {vs:Array Value} {cs:List D} (hl:vs.size=cs.length) (hr:∀ j,j<cs.length->R M w ι n (vs.getD j undef) (cs.getD j .top)):R M w ι n (.tuple vs) (.wF cs)
 | fn {f:FuncId} {vs:Array Value} {cs:List D} (hl:vs.size=cs.length) (hr:∀ j,j<cs.length->R M w ι n (vs.getD j undef) (cs.getD j .top)):R M w ι n (.func (.func f) #[] vs) (.fn f cs)
theorem R.top {M:Nat->Prop} {w:World} {ι:Nat->Nat} {n:Nat} (v:Value):R M w ι n v .top:=.pure (.top v)
structure Kept (w w' : World) (K : Nat -> Prop) : Prop where
 os:w'.os=w.os
 tape:w'.tape=w.tape
 output:w'.output=w.output
 size:w.heap.size<=w'.heap.size
 block:∀ b,b<w.heap.size->¬ K b->w'.heap[b]?=w.heap[b]?
 shape:∀ (b:Nat) (cur:Array Value) (e:TypeId),w.heap[b]?=some (Obj.cells cur e (0,0))->∃ cur':Array Value,w'.heap[b]?=some (Obj.cells cur' e (0,0))/\ cur'.size=cur.size
 drawn:w.drawn<=w'.drawn
theorem Kept.refl (w:World) (K:Nat->Prop):Kept w w K:=⟨rfl,rfl,rfl,ε _,λ_ _ _=>rfl,λ_ cur _ h=>⟨cur,h,rfl⟩,ε _⟩
theorem Kept.mono {w w':World} {K K':Nat->Prop} (h:Kept w w' K) (hk:∀ b,b<w.heap.size->K b->K' b):Kept w w' K':=⟨h.os,h.tape,h.output,h.size,λb hb hn=>h.block b hb λhK=>hn (hk b hb hK),h.shape,h.drawn⟩
theorem Kept.trans {w w' w'':World} {K K' K'':Nat->Prop} (h:Kept w w' K) (h':Kept w' w'' K') (h1:∀ b,b<w.heap.size->K b->K'' b) (h2:∀ b,b<w.heap.size->K' b->K'' b):Kept w w'' K'':=
 ⟨h'.os.trans h.os,h'.tape.trans h.tape,h'.output.trans h.output,δ h.size h'.size,
  λb hb hn=>(h'.block b (γ hb h.size) λhk=>hn (h2 b hb hk)).trans (h.block b hb λhk=>hn (h1 b hb hk)),
  λb cur e hc=>let ⟨c1,e1,s1⟩:=h.shape b cur e hc; let ⟨c2,e2,s2⟩:=h'.shape b c1 e e1; ⟨c2,e2,s2.trans s1⟩,δ h.drawn h'.drawn⟩
theorem Kept.below {w w':World} (h:Kept w w' λ_=>False):RowKit.Below w.heap.size w w':=⟨h.os,h.tape,h.output,h.size,λk hk=>h.block k hk id⟩
theorem Kept.alloc (w:World) (o:Obj) (K:Nat->Prop):Kept w (w.alloc o) K:=
 ⟨rfl,rfl,rfl,by show w.heap.size<=(w.heap.push o).size; simp,λb hb _=>heap_alloc_old w o hb,
  λb cur e h=>⟨cur,by rw [heap_alloc_old w o (Array.getElem?_eq_some_iff.1 h).1]; exact h,rfl⟩,ε _⟩
theorem Kept.drew {w w':World} {K:Nat->Prop} (h:Kept w w' K):Kept w w'.drew K:=⟨h.os,h.tape,h.output,h.size,h.block,h.shape,Nat.le_succ_of_le h.drawn⟩
theorem si {w:World} {a:Addr} {v:Value} (h:w.cell? a=some v):a.block<w.heap.size:=World.block_lt_of_cell? w a h
theorem RP.zN {M M':Nat->Prop} {w w':World} (hb:∀ b,b<w.heap.size->¬ M b->w'.heap[b]?=w.heap[b]?) (hM:∀ b,b<w.heap.size->M' b->M b) {v:Value} {d:D} (h:RP M w v d):RP M' w' v d:=by
 induction h with
 | top v=>exact .top v
 | rJ=>exact .rJ
 | int h=>exact .int h
 | bool b=>exact .bool b
 | str h=>exact .str h
 | kp a cap sz h=>exact .kp a cap sz h
 | emp a cap=>exact .emp a cap
 | @sl b off cap sz xW vs hs hMb hc hm hl hcell hr ih=>
  rcases Nat.eq_zero_or_pos xW.length with h0 | h0
  ·have:xW = []:=List.eq_nil_of_length_eq_zero h0;subst this;exact .kp _ _ _ (by simp)
  ·have hlt:b<w.heap.size:=si (hcell 0 h0 0 hs);refine .sl vs hs (λhm'=>hMb (hM b hlt hm')) hc hm hl (λi hi j hj=>?_) ih;rw [World.cell?_of_block (w:=w) (hb b hlt hMb)];exact hcell i hi j hj
 | xL=>exact .xL
 | @ptr b off cs vs hs hMb hcell hr ih=> have hlt:b<w.heap.size:=si (hcell 0 hs);refine .ptr vs hs (λhm'=>hMb (hM b hlt hm')) (λj hj=>?_) ih;rw [World.cell?_of_block (w:=w) (hb b hlt hMb)];exact hcell j hj
 | agg hl hr ih=>exact .agg hl ih
 | wF hl hr ih=>exact .wF hl ih
 | fn hl hr ih=>exact .fn hl ih
 | qM=>exact .qM
 | oH=>exact .oH
 | mC=>exact .mC
 | l5 b=>exact .l5 b
theorem R.zN {M M':Nat->Prop} {w w':World} {ι ι':Nat->Nat} {n n':Nat} (hb:∀ b,b<w.heap.size->¬ M b->w'.heap[b]?=w.heap[b]?) (hM:∀ b,b<w.heap.size->M' b->M b)
  (hs:∀ (b:Nat) (cur:Array Value) (e:TypeId),w.heap[b]?=some (Obj.cells cur e (0,0))->∃ cur':Array Value,w'.heap[b]?=some (Obj.cells cur' e (0,0))/\ cur'.size=cur.size)
  (hi:∀ k,k<n->ι' k=ι k) (hn:n<=n') {v:Value} {d:D} (h:R M w ι n v d):R M' w' ι' n' v d:=by
 induction h with
 | pure h=>exact .pure (h.zN hb hM)
 | ref hk h0=>rw [<- hi _ hk]; exact .ref (γ hk hn) h0
 | @yD key sz len cap cur e hk h1 h2 h3 h4=> obtain⟨cur',h5,h6⟩:=hs _ _ _ h3;rw [<- hi _ hk] at h5 ⊢;exact .yD (γ hk hn) h1 h2 h5 (h4.trans h6.symm)
 | @sub key sz lo len cap off cur e hk h1 h2 h3 h4=> obtain⟨cur',h5,h6⟩:=hs _ _ _ h3;rw [<- hi _ hk] at h5 ⊢;exact .sub (γ hk hn) h1 h2 h5 (h4.imp id λh=>⟨h.1,h.2.trans h6.symm⟩)
 | wA hk=>rw [<- hi _ hk]; exact .wA (γ hk hn)
 | agg hl hr ih=>exact .agg hl ih
 | wF hl hr ih=>exact .wF hl ih
 | fn hl hr ih=>exact .fn hl ih
def zY (M0:Nat->Prop) (ι:Nat->Nat) (σ:St) (b:Nat):Prop:=M0 b\/∃ k o,σ.get k=some o/\ι k=b
def yG (M:Nat->Prop) (w:World) (ι:Nat->Nat) (n:Nat) (fO:Option Obj) (o:Ob):Prop:=
 (0<o.sz/\∃ (cur:Array Value) (e:TypeId),fO=some (Obj.cells cur e (0,0))/\ (∀ el ∈ o.xW,el.length=o.sz)/\ o.xW.length*o.sz<=cur.size /\
  ∀ i,i<o.xW.length->∀ j,j<o.sz->(cur.getD (i*o.sz+j) undef).oneCell'=true/\R M w ι n (cur.getD (i*o.sz+j) undef) ((o.xW.getD i []).getD j .top)) \/
 (o.sz=0/\∃ es:Array MapEntry,fO=some (Obj.map es es.size)/\ es.size=o.xW.length /\
  ∀ i,i<o.xW.length->∃ (kv v:Value) (x d:D),o.xW.getD i [] = [x,d]/\es[i]?=some ⟨kv,v,i⟩/\ R M w ι n kv x/\R M w ι n v d)
def qi (M:Nat->Prop) (w:World) (ι:Nat->Nat) (n key:Nat) (o:Ob):Prop:=yG M w ι n w.heap[ι key]? o
theorem yG.imp {M M':Nat->Prop} {w w':World} {ι ι':Nat->Nat} {n n':Nat} {fO:Option Obj} {o:Ob} (h:yG M w ι n fO o) (hr:∀ {v:Value} {d:D},R M w ι n v d->R M' w' ι' n' v d):yG M' w' ι' n' fO o:=by
 rcases h with ⟨h0,cur,e,h1,h2,h3,h4⟩ | ⟨h0,es,h1,h2,h3⟩
 ·exact .inl ⟨h0,cur,e,h1,h2,h3,λi hi j hj=>⟨(h4 i hi j hj).1,hr (h4 i hi j hj).2⟩⟩
 ·refine .inr ⟨h0,es,h1,h2,λi hi=>?_⟩;obtain⟨kv,v,x,d,g1,g2,g3,g4⟩:=h3 i hi;exact⟨kv,v,x,d,g1,g2,hr g3,hr g4⟩
theorem yG.cells {M:Nat->Prop} {w:World} {ι:Nat->Nat} {n:Nat} {fO:Option Obj} {o:Ob} (h:yG M w ι n fO o) (h0:0<o.sz) :
  ∃ (cur:Array Value) (e:TypeId),fO=some (Obj.cells cur e (0,0))/\ (∀ el ∈ o.xW,el.length=o.sz)/\ o.xW.length*o.sz<=cur.size /\
  ∀ i,i<o.xW.length->∀ j,j<o.sz->(cur.getD (i*o.sz+j) undef).oneCell'=true/\R M w ι n (cur.getD (i*o.sz+j) undef) ((o.xW.getD i []).getD j .top):=by
 rcases h with ⟨_,h⟩ | ⟨h,_⟩
 ·exact h
 ·omega
theorem yG.rows {M:Nat->Prop} {w:World} {ι:Nat->Nat} {n:Nat} {fO:Option Obj} {o:Ob} {cur0:Array Value} {e0:TypeId} (h:yG M w ι n fO o) (hc:fO=some (Obj.cells cur0 e0 (0,0))) :
  0<o.sz/\∃ (cur:Array Value) (e:TypeId),fO=some (Obj.cells cur e (0,0))/\ (∀ el ∈ o.xW,el.length=o.sz)/\ o.xW.length*o.sz<=cur.size /\
  ∀ i,i<o.xW.length->∀ j,j<o.sz->(cur.getD (i*o.sz+j) undef).oneCell'=true/\R M w ι n (cur.getD (i*o.sz+j) undef) ((o.xW.getD i []).getD j .top):=by
 rcases h with h | ⟨_,es,h1,_⟩
 ·exact h
 ·rw [hc] at h1; cases h1
theorem yG.mapped {M:Nat->Prop} {w:World} {ι:Nat->Nat} {n:Nat} {fO:Option Obj} {o:Ob} (h:yG M w ι n fO o) (h0:o.sz=0) :
  ∃ es:Array MapEntry,fO=some (Obj.map es es.size)/\ es.size=o.xW.length /\
  ∀ i,i<o.xW.length->∃ (kv v:Value) (x d:D),o.xW.getD i [] = [x,d]/\es[i]?=some ⟨kv,v,i⟩/\ R M w ι n kv x/\R M w ι n v d:=by
 rcases h with ⟨h,_⟩ | ⟨_,h⟩
 ·omega
 ·exact h
theorem yG.isSome {M:Nat->Prop} {w:World} {ι:Nat->Nat} {n:Nat} {fO:Option Obj} {o:Ob} (h:yG M w ι n fO o):∃ b,fO=some b:=by
 rcases h with ⟨_,cur,e,h1,_⟩ | ⟨_,es,h1,_⟩
 ·exact⟨_,h1⟩
 ·exact⟨_,h1⟩
def Pi (M:Nat->Prop) (w:World) (ι:Nat->Nat) (n:Nat) (tmps:Array Value) (f:Fr):Prop:=∀ t,R M w ι n (tmps.getD t undef) (f.get t)
end Go.Pd
namespace Go.Pd
open Go
def uH {α β:Type} (f:α->Option β):List α->Option (List β)
 | []=>some []
 | a :: r=>match f a,uH f r with
  | some b,some bs=>some (b :: bs)
  | _,_=>none
theorem uS {α β:Type} {f:α->Option β}:∀ {l:List α} {bs:List β},uH f l=some bs->bs.length=l.length/\∀ (j:Nat) (a:α),l[j]?=some a->∃ b,bs[j]?=some b/\f a=some b
 | [],bs,h=>by simp [uH] at h; subst h; simp
 | a :: r,bs,h=>by
  unfold uH at h
  split at h
  ·rename_i b bs' h1 h2;simp at h; subst h;obtain⟨h3,h4⟩:=uS h2;refine⟨by simp [h3],λj x hx=>?_⟩
   cases j with
   | zero=>simp at hx; subst hx; exact⟨b,by simp,h1⟩
   | succ j=>simp at hx; obtain⟨c,hc,hf⟩:=h4 j x hx; exact⟨c,by simpa using hc,hf⟩
  ·simp at h
def D.leaf : Value->Option D
 | .int k n=>if k.min<=n/\n<=k.max then some (.int k n) else none
 | .bool b=>some (.bool b)
 | .slice none 0 0=>some .xL
 | .pointer none=>some .qM
 | .map none=>some .oH
 | .nilFunc=>some .mC
 | _=>none
def D.ofValue (v:Value):Option D:=
 match v with
 | .agg cs=>(uH D.leaf cs.toList).map .agg
 | v=>D.leaf v
def D.one : D->Bool
 | .top | .rJ | .agg _ | .wF _=>false
 | _=>true
def D.cells : D->Option (List D)
 | .agg cs=>some cs
 | .top | .rJ | .wF _=>none
 | d=>some [d]
mutual
def D.xF : D->Bool
 | .ref .. | .yD .. | .sub .. | .wA _=>false
 | .agg cs | .wF cs | .fn _ cs=>D.xR cs
 | _=>true
def D.xR : List D->Bool
 | []=>true
 | d :: r=>d.xF&&D.xR r
end
def jQ : List D->Nat->List D->List D
 | cs,_,[]=>cs
 | cs,o,d :: ds=>jQ (cs.set o d) (o+1) ds
def re : List D->List (Nat × Nat × D)->Option (List D)
 | cs,[]=>some cs
 | cs,(o,s,d) :: r=>match d.cells with
  | some ds=>if ds.length=s/\o+s<=cs.length then re (jQ cs o ds) r else none
  | none=>none
def vj (sz:Nat):List (List D)->List (Nat × D)->Option (List (List D))
 | es,[]=>some es
 | es,(i,d) :: r=>match d.cells with
  | some ds=>if ds.length=sz/\i<es.length then vj sz (es.set i ds) r else none
  | none=>none
def pA (ag:Bool) (cs:List D):D:=if ag then .agg cs else cs.headD .top
inductive tR where
 | t (n:Nat)
 | c (d:D)
inductive DK where
 | mv (x:tR)
 | pick (c a b:tR)
 | bin (op:BinOp) (x y:tR)
 | beq (neg:Bool) (x y:tR)
 | aG (neg:Bool) (x y:tR)
 | nt (x:tR)
 | neg (x:tR)
 | LI (x:tR)
 | geq (neg:Bool) (n:Nat) (x y:tR)
 | TA (x:tR)
 | conv (k:IntKind) (x:tR)
 | NY (off:Nat) (x:tR)
 | PW (off n:Nat) (ag:Bool) (x:tR)
 | idx (sz:Nat) (x i:tR)
 | build (zero:List D) (parts:List (Nat × Nat × tR))
 | vY (sz len:Nat) (zero:List D) (parts:List (Nat × tR))
 | len (x:tR)
 | mn (x y:tR)
 | mx (x y:tR)
 | T7 (x:tR) (i:Nat)
 | Zh (f:FuncId) (caps:List tR)
 | load (n:Nat) (ag:Bool) (x:tR)
 | Zi (sz:Nat) (x:tR) (lo hi:Option tR)
 | call (fn:tR) (args:List tR)
 | box (x:tR)
 | alloc (zero:List D)
 | store (n:Nat) (a x:tR)
 | app (sz bytes:Nat) (x y:tR)
 | fV (sz bytes:Nat) (zero:List D) (len cap:tR)
 | kF (sz len:Nat) (zero:List D) (parts:List (Nat × tR))
 | V7 (zero:D) (x:tR)
 | LW (x:tR)
 | l4
 | j6 (zero:D) (ok:Bool) (m k:tR)
 | bJ (m k x:tR)
 | vn (n:Nat) (zero:D) (ok:Bool) (m k:tR)
 | jK (n:Nat) (m k x:tR)
 | tz (zero:D) (m k:tR)
 | tw (m s x:tR)
 | Zm (x y:tR)
structure yY where
 dst:Option Nat
 guard:Option (Nat × Bool)
 k:DK
inductive DC where
 | skip
 | qD (pre post:List yY)
 | bh (pre:List yY) (m:yY) (mid:List yY) (un:Bool) (post:List yY)
 | j8 (pre:List yY) (m1:yY) (mid1:List yY) (m2:yY) (mid2:List yY) (post:List yY)
 | bK (pre:List yY) (m1:yY) (mid1:List yY) (m2:yY) (mid2:List yY) (post:List yY) (free:List Nat)
 | aJ (pre:List yY) (m:yY) (mid:List yY) (un:Bool) (post:List yY) (fl:List Bool)
 | seq (a b:DC)
 | cond (c:tR) (a b:DC)
 | block (id:Nat) (c:DC)
 | loop (c:DC)
 | exit (id:Nat)
 | ret
 | TJ (pre:List yY) (it:Nat) (m:tR)
 | TH (it nx more:Nat)
 | TF (it pair:Nat) (rest:List yY)
 | vp (pre:List yY) (it:Nat) (m:tR) (out nx more next pair:Nat) (rest:List yY) (code:DC)
 | uc (f:tR) (ps:List Nat) (a c:DC)
def yV (N:Nat):Operand->Option tR
 | .tmp t=>if t<N then some (.t t) else none
 | .const v=>(D.ofValue v).map .c
 | .func f=>some (.c (.fn f []))
 | .global _=>none
section
variable (P : Program) (N : Nat)
def oX (t:TypeId):Option Bool:=
 match P.underlying t with
 | some (.struct _) | some (.array _ _)=>some true
 | some _=>some false
 | none=>none
def rQ (t:TypeId):Option Nat:=(P.info? t).map (·.size)
def jN (t:TypeId):Option (List D):=do
 let i <- P.info? t
 let z <- i.zero
 uH D.leaf z.cells.toList
def qn (t:TypeId) (f:Nat):Option (Nat × TypeId):=
 match P.underlying t with
 | some (.struct fs)=>(fs[f]?).map λx=>(x.offset,x.type)
 | _=>none
def sliceB (t:TypeId):Option TypeId:=
 match P.underlying t with
 | some (.slice e)=>some e
 | _=>none
def fZ (n:Nat):Option Nat:=if 0<n then some n else none
def zl (x:Option Operand):Option (Option tR):=
 match x with
 | some x=>(yV N x).map some
 | none=>some none
def vk : List Field->Nat->Bool
 | [],_=>true
 | f :: fs,o=>f.name != "_"&&(f.offset==o)&& (match P.underlying f.type with | some (.int .i64)=>true | _=>false)&& vk fs (o+1)
def fK (t:TypeId):Option Nat:=match P.underlying t with
 | some (.struct fs)=>if vk P fs.toList 0&&!P.stoodInHeld t then some fs.size else none
 | _=>none
def mkBin (op:BinOp) (t:TypeId) (x y:tR):Option DK:=
 match P.underlying t with
 | some .bool=>if op = .eql then some (.beq false x y) else if op = .neq then some (.beq true x y) else none
 | some (.slice _)=>if op = .eql then some (.aG false x y) else if op = .neq then some (.aG true x y) else none
 | some (.int _)=>some (.bin op x y)
 | some (.struct _)=>if P.eqGuardType P.depth t then none else if op = .eql then(fK P t).map λn=>.geq false n x y else if op = .neq then(fK P t).map λn=>.geq true n x y else none
 | _=>none
def Mw (op:UnOp) (x:tR):Option DK:=
 match op with
 | .not=>some (.nt x)
 | .neg=>some (.neg x)
 | .xor=>some (.LI x)
 | _=>none
def wi (b:Builtin) (args:List tR) (ts:List TypeId):Option DK:=
 match b with
 | .len=>match args,ts with
  | [x],[t]=>match sliceB P t with
   | some _=>some (.len x)
   | none=>match P.underlying t with
    | some (.map _ _)=>some (.TA x)
    | _=>none
  | _,_=>none
 | .min=>match args with
  | [x,y]=>some (.mn x y)
  | _=>none
 | .max=>match args with
  | [x,y]=>some (.mx x y)
  | _=>none
 | .append=>match args,ts with
  | [x,y],[t,u]=>do
   let e <- sliceB P t
   let i <- P.info? e
   let sz <- fZ i.size
   let zero <- jN P e
   if t=u/\zero.length=sz then some (.app sz i.bytes x y) else none
  | _,_=>none
 | .clear=>match args,ts with
  | [x],[t]=>do
   let e <- sliceB P t
   let i <- P.info? e
   let z <- i.zero
   let d <- D.leaf z
   if i.size=1 then some (.V7 d x) else none
  | _,_=>none
 | .copy=>match args,ts with
  | [x,y],[t,_]=>do
   let e <- sliceB P t
   let i <- P.info? e
   if i.size=1 then some (.Zm x y) else none
  | _,_=>none
 | _=>none
def ZL (c:Call):Option DK:=
 match c.callee with
 | .value f=>do pure (.call (<- yV N f) (<- uH (yV N) c.args.toList))
 | .builtin b=>do wi P b (<- uH (yV N) c.args.toList) c.argTypes.toList
 | .invoke _ _=>none
def mkLit (own:List Nat) (dst:Option Nat) (sz len:Nat) (zero:List D) (parts:List (Nat × tR)):Option DK:=
 match dst with
 | some d=>if own.contains d then some (.kF sz len zero parts) else some (.vY sz len zero parts)
 | none=>none
def zq (t:TypeId):Option D:=
 match P.underlying t with
 | some (.map k e)=>match P.underlying k with
  | some (.int _)=>do
   let i <- P.info? e
   let z <- i.zero
   D.ofValue z
  | _=>none
 | _=>none
def j5 (t:TypeId):Option (Nat × D):=
 match P.underlying t with
 | some (.map k e)=>do
  let n <- fK P k
  let i <- P.info? e
  let z <- i.zero
  let d <- D.ofValue z
  pure (n,d)
 | _=>none
def V9 (own:List Nat) (o:Oper):Option DK:=
 match o.op with
 | .move x=>(yV N x).map .mv
 | .assign x=>(yV N x).map .mv
 | .pick c a b=>do pure (.pick (<- yV N c) (<- yV N a) (<- yV N b))
 | .alloc e=>do pure (.alloc (<- jN P e))
 | .box _ x=>do pure (.box (<- yV N x))
 | .build t ps=>
  match P.underlying t with
  | some (.struct fs)=>do
   let zero <- jN P t
   let places <- fs.toList.mapM (λf=>(P.info? f.type).map λi=>(f.offset,i.size))
   let parts <- uH (λ(p:Nat × Operand)=>do
    let q <- places[p.1]?
    pure (q.1,q.2,<- yV N p.2)) ps.toList
   pure (.build zero parts)
  | _=>none
 | .buildSlice t len ps=>do
  let e <- sliceB P t
  let sz <- fZ (<- rQ P e)
  let zero <- jN P e
  let parts <- uH (λ(p:Nat × Operand)=>do pure (p.1,<- yV N p.2)) ps.toList
  if zero.length=sz/\len*sz<=1000 then mkLit own o.dst sz len zero parts else none
 | .load t x=>do
  let ag <- oX P t
  let n <- rQ P t
  let x' <- yV N x
  if ag=true\/n=1 then pure (.load n ag x') else none
 | .store t a x=>do pure (.store (<- rQ P t) (<- yV N a) (<- yV N x))
 | .binOp op t x y _=>do mkBin P op t (<- yV N x) (<- yV N y)
 | .unOp op _ x=>do Mw op (<- yV N x)
 | .convert src dst x=>
  match P.underlying src,P.underlying dst with
  | some (.int _),some (.int k)=>do pure (.conv k (<- yV N x))
  | _,_=>none
 | .makeFunc fn first caps=>
  match fn with
  | .func f=>do
   let cs <- uH (yV N) caps.toList
   if first = #[] then pure (.Zh f cs) else none
  | _=>none
 | .makeSlice t l c=>do
  let e <- sliceB P t
  let i <- P.info? e
  let sz <- fZ i.size
  let zero <- jN P e
  let l' <- yV N l
  let c' <- yV N c
  if zero.length=sz then pure (.fV sz i.bytes zero l' c') else none
 | .slice t x lo hi mx=>do
  let e <- sliceB P t
  let sz <- fZ (<- rQ P e)
  let lo' <- zl N lo
  let hi' <- zl N hi
  let x' <- yV N x
  match mx with
  | none=>pure (.Zi sz x' lo' hi')
  | some _=>none
 | .fieldAddr t x f=>do
  let q <- qn P t f
  let _ <- fZ (<- rQ P q.2)
  pure (.NY q.1 (<- yV N x))
 | .field t x f=>do
  let q <- qn P t f
  pure (.PW q.1 (<- rQ P q.2) (<- oX P q.2) (<- yV N x))
 | .indexAddr t x i=>
  match sliceB P t with
  | some e=>do pure (.idx (<- fZ (<- rQ P e)) (<- yV N x) (<- yV N i))
  | none=>
   match P.underlying t,i with
   | some (.array n e),.const (.int _ p)=>do
    let sz <- fZ (<- rQ P e)
    let x' <- yV N x
    if 0<=p/\p<n then some (.NY (p.toNat*sz) x') else none
   | _,_=>none
 | .extract x i=>do pure (.T7 (<- yV N x) i)
 | .call c=>ZL P N c
 | .nilCheck x=>(yV N x).map .LW
 | .makeMap t r=>
  match r with
  | none=>if (zq P t).isSome || (j5 P t).isSome then some .l4 else none
  | some (.const (.int _ _))=>if (zq P t).isSome || (j5 P t).isSome then some .l4 else none
  | _=>none
 | .lookup t m k ok=>match zq P t with
  | some z=>do pure (.j6 z ok (<- yV N m) (<- yV N k))
  | none=>do
   let p <- j5 P t
   pure (.vn p.1 p.2 ok (<- yV N m) (<- yV N k))
 | .mapUpdate t m k x=>match zq P t with
  | some _=>do pure (.bJ (<- yV N m) (<- yV N k) (<- yV N x))
  | none=>do
   let p <- j5 P t
   pure (.jK p.1 (<- yV N m) (<- yV N k) (<- yV N x))
 | .insert t m k x=>do
  let _ <- zq P t
  pure (.bJ (<- yV N m) (<- yV N k) (<- yV N x))
 | .mapEntry t m k=>do pure (.tz (<- zq P t) (<- yV N m) (<- yV N k))
 | .entryStore t m s x=>do
  let _ <- zq P t
  pure (.tw (<- yV N m) (<- yV N s) (<- yV N x))
 | .makeInterface _ _ | .panic _=>some (.alloc [])
 | _=>none
def iP (own:List Nat) (ops:Array Oper) (o:Oper):Option yY:=do
 let k <- V9 P N own o
 let dst <- (match o.dst with | some d=>if d<N then some (some d) else none | none=>some none)
 let g <- (match o.guard with
  | none=>some none
  | some (j,b)=>do
   let oj <- ops[j]?
   let d <- oj.dst
   if d<N then some (some (d,b)) else none)
 pure ⟨dst,g,k⟩
end
def DK.vW : DK->Bool
 | .mv _ | .LW _ | .pick .. | .bin .. | .beq .. | .geq .. | .nt _ | .neg _ | .LI _ | .conv .. | .NY .. | .PW .. | .T7 .. | .Zh .. | .mn .. | .mx .. | .build .. | .idx .. | .len _ | .aG ..=>true
 | _=>false
def DK.still : DK->Bool
 | .box _ | .alloc _ | .store .. | .app .. | .fV .. | .kF .. | .V7 .. | .l4 | .bJ .. | .jK .. | .tz .. | .tw .. | .Zm ..=>false
 | _=>true
def DK.ZZ : DK->List tR
 | .mv x | .LW x | .nt x | .neg x | .LI x | .TA x | .conv _ x | .NY _ x | .PW _ _ _ x | .len x | .T7 x _ | .load _ _ x | .box x | .V7 _ x=>[x]
 | .pick c a b=>[c,a,b]
 | .bin _ x y | .beq _ x y | .geq _ _ x y | .aG _ x y | .idx _ x y | .mn x y | .mx x y | .store _ x y | .app _ _ x y | .fV _ _ _ x y | .Zm x y=>[x,y]
 | .build _ ps=>ps.map (·.2.2)
 | .vY _ _ _ ps | .kF _ _ _ ps=>ps.map (·.2)
 | .Zh _ cs=>cs
 | .Zi _ x lo hi=>x :: (lo.toList++hi.toList)
 | .call f xs=>f :: xs
 | .alloc _ | .l4=>[]
 | .j6 _ _ m k | .tz _ m k | .vn _ _ _ m k=>[m,k]
 | .bJ m k x | .tw m k x | .jK _ m k x=>[m,k,x]
def tR.Jt : tR->Option Nat
 | .t n=>some n
 | .c _=>none
def yY.names (o:yY):List Nat:=o.k.ZZ.filterMap tR.Jt++(match o.guard with | some (g,_)=>[g] | none=>[])
def wH : List Oper->List Nat->List Nat
 | [],acc=>acc
 | o :: rest,acc=>wH rest (acc ++ [o.after.foldl (λs e=>if Region.binds .any e then s ||| 2 ^ e.on ||| acc.getD e.on 0 else s) 0])
def ordered (ms:List Nat) (i j:Nat):Bool:=(ms.getD j 0).testBit i
def jV (x y:yY):Bool:=
 (match x.dst with | some d=>!y.names.contains d&&y.dst != some d | none=>true)&&
 (match y.dst with | some d=>!x.names.contains d | none=>true)
def xn (ops:List Oper) (ds:List yY) (s:Nat) (mu:Nat->Bool) (xo:Nat->Nat->Bool):Bool:=
 let ms:=wH ops []
 (List.range ops.length).all λj=>
  match ops[j]?,ds[j]? with
  | some oj,some dj=>(oj.after.toList.all λe=>!Region.binds .any e || decide (e.on<j))&& (List.range j).all λi=>
   match ds[i]? with
   | some di=>ordered ms i j || (jV di dj&&((decide (j<s)&& !(mu i&&mu j)) || di.k.vW || dj.k.vW || xo i j))
   | none=>false
  | _,_=>false
def qm (ops:List Oper) (ds:List yY) (s:Nat) (mu:Nat->Bool):Bool:=xn ops ds s mu λ_ _=>false
def wG (own:List Nat) (o:yY):Bool:=match o.dst,o.guard with
 | some d,none=>own.contains (1000000+d)
 | _,_=>false
def pJ (own:List Nat) (ds:List yY) (i:Nat):Bool:=match ds[i]? with
 | some d=>wG own d
 | none=>false
def sM (own:List Nat):List yY->Nat
 | []=>0
 | o :: r=>if o.k.still || wG own o then sM own r+1 else 0
def uG (l:List yY):Bool:=(l.all λo=>o.dst.isSome)&& decide (l.map (·.dst)).Nodup
def rK (ms:List Nat) (m:Nat):List yY->Nat->Bool
 | [],_=>true
 | o :: r,j=>(o.k.vW || ordered ms m j)&& rK ms m r (j+1)
def Ss (own:List Nat) (ops:List Oper) (l:List yY) (s:Nat):Option DC:=
 let h:=l.take s
 match h.findIdx? (wG own) with
 | none=>some (.qD h (l.drop s))
 | some m=>match h[m]? with
  | none=>none
  | some o=>
   let r:=h.drop (m+1)
   match r.findIdx? (wG own) with
   | none=>if uG (h.take m)&& uG r&&!o.k.vW then some (.bh (h.take m) o r (!rK (wH ops []) m r (m+1)) (l.drop s)) else none
   | some n=>match r[n]? with
    | none=>none
    | some o2=>if ((r.drop (n+1)).findIdx? (wG own)).isNone&&(uG (h.take m)&& uG (r.take n)&& uG (r.drop (n+1)))&& (!o.k.vW&&!o2.k.vW)&& (rK (wH ops []) m (r.take n) (m+1)&& rK (wH ops []) (m+1+n) (r.drop (n+1)) (m+1+n+1)) then
      some (.j8 (h.take m) o (r.take n) o2 (r.drop (n+1)) (l.drop s)) else none
def aj (own:List Nat) (ops:List Oper) (l:List yY) (s:Nat):Option DC:=
 let h:=l.take s
 match h.findIdx? (wG own) with
 | none=>none
 | some m=>match h[m]? with
  | none=>none
  | some o=>
   let r:=h.drop (m+1)
   if own.contains (2000000+o.dst.getD 0)&& (r.findIdx? (wG own)).isNone&&uG (h.take m)&& uG r&&!o.k.vW then
    some (.aJ (h.take m) o r (!rK (wH ops []) m r (m+1)) (l.drop s) ((List.range m).map λi=>ordered (wH ops []) i m)) else none
def Sp (ms:List Nat) (x y:Nat) (l:List yY):List Nat:=(List.range l.length).filterMap λj=>if j==x || j==y || ordered ms x j || ordered ms y j then none else(l[j]?).bind (·.dst)
def sn : DK->Bool
 | .alloc _=>true
 | _=>false
def ZM (own:List Nat) (ops:List Oper) (l:List yY) (s:Nat):Option DC:=
 let h:=l.take s
 match h.findIdx? (wG own) with
 | none=>none
 | some m=>match h[m]? with
  | none=>none
  | some o=>
   let r:=h.drop (m+1)
   match r.findIdx? (wG own) with
   | none=>none
   | some n=>match r[n]? with
    | none=>none
    | some o2=>if ((r.drop (n+1)).findIdx? (wG own)).isNone&&uG h&&decide (l.filterMap (·.dst)).Nodup&&(!o.k.vW&&sn o2.k)&& xn ops l s (pJ own l) (λi j=>i==m&&j==m+1+n) then
      some (.bK (h.take m) o (r.take n) o2 (r.drop (n+1)) (l.drop s) (Sp (wH ops []) m (m+1+n) l)) else none
def SX (P:Program) (t:TypeId):Bool:=match P.underlying t with
 | some (.map _ _)=>true
 | _=>false
def aF (P:Program) (N:Nat) (own:List Nat) (ops:Array Oper):Option DC:=
 match ops.toList.getLast? with
 | some o=>match o.op,o.dst,o.guard with
  | .range t x,some it,none=>do
   let m <- yV N x
   let pre <- uH (iP P N own ops) ops.toList.dropLast
   if SX P t=true/\it<N then some (.TJ pre it m) else none
  | _,_,_=>none
 | none=>none
def jf (N:Nat) (ops:Array Oper):Option DC:=
 match ops.toList with
 | [o2,o3]=>match o2.op,o2.dst,o2.guard,o3.op,o3.dst,o3.guard with
  | .next (.tmp it) false,some nx,none,.extract (.tmp nx') 0,some more,none=>if nx'=nx/\nx<N/\more<N then some (.TH it nx more) else none
  | _,_,_,_,_,_=>none
 | _=>none
def je (P:Program) (N:Nat) (own:List Nat) (ops:Array Oper):Option DC:=
 match ops.toList with
 | o :: l=>match o.op,o.dst,o.guard with
  | .entry (.tmp it),some pair,none=>do
   let rest <- uH (iP P N own ops) l
   if pair<N then some (.TF it pair rest) else none
  | _,_,_=>none
 | _=>none
def ra (o:Oper):Bool:=match o.op with
 | .move _ | .assign _ | .nilCheck _ | .fieldAddr .. | .indexAddr .. | .load ..=>true
 | _=>false
def qp (P:Program) (N:Nat) (own:List Nat) (ops:Array Oper) (draw:Bool):Option DC:=
 if draw then(if (ops.toList.dropLast.all λo=>ra o&&o.guard.isNone)&& Region.lexTailB .any ops (ops.size-1) then aF P N own ops else none) else match aF P N own ops with
  | some d=>some d
  | none=>match jf N ops with
   | some d=>some d
   | none=>je P N own ops
def Pe (x y:DC):DC:=
 match x,y with
 | .TJ pre it m,.block out (.loop (.seq (.TH it1 nx more) (.seq (.cond (.t more1) .skip (.exit out1)) (.block next (.seq (.TF it2 pair rest) code)))))=> if it1=it/\it2=it/\more1=more/\out1=out/\it≠nx/\it≠more/\it≠pair then .vp pre it m out nx more next pair rest code else .seq x y
 | _,_=>.seq x y
def sJ (P:Program) (N:Nat) (own:List Nat):Code->Option DC
 | .skip=>some .skip
 | .region _ ops draw=>match qp P N own ops draw with
  | some d=>some d
  | none=>do
   let l <- uH (iP P N own ops) ops.toList
   if draw then
    let s:=sM own l
    if own.contains 77777=false/\qm ops.toList l s (pJ own l)= true then(match aj own ops.toList l s with | some d=>some d | none=>Ss own ops.toList l s) else if own.contains 77777=false then ZM own ops.toList l s else none
   else pure (.qD [] l)
 | .seq a b=>do pure (Pe (<- sJ P N own a) (<- sJ P N own b))
 | .cond c a b=>do pure (.cond (<- yV N c) (<- sJ P N own a) (<- sJ P N own b))
 | .block id c=>do pure (.block id (<- sJ P N own c))
 | .loop c=>do pure (.loop (<- sJ P N own c))
 | .rangeFunc f ps a c=>do pure (.uc (<- yV N f) ps.toList (<- sJ P N own a) (<- sJ P N own c))
 | .exit id=>some (.exit id)
 | .ret=>some .ret
 | _=>none
end Go.Pd
namespace Go.Pd
open Go
def pI (f:Fr):tR->D
 | .t n=>f.get n
 | .c d=>d
def sW (op:BinOp) (k:IntKind) (a b:Int):Int:=
 match op with
 | .and=>k.wrap (BitVec.ofInt k.bits a &&& BitVec.ofInt k.bits b).toNat
 | .or=>k.wrap (BitVec.ofInt k.bits a ||| BitVec.ofInt k.bits b).toNat
 | .xor=>k.wrap (BitVec.ofInt k.bits a ^^^ BitVec.ofInt k.bits b).toNat
 | _=>k.wrap (BitVec.ofInt k.bits a &&& ~~~BitVec.ofInt k.bits b).toNat
def kg (k:IntKind) (a b:Int):Int:=k.wrap (a*2 ^ (min b.toNat k.bits))
def bl (k:IntKind) (a b:Int):Int:=a.fdiv (2 ^ (min b.toNat k.bits))
def nO (op:BinOp) (k:IntKind) (a:Int) (k':IntKind) (b:Int) (K:D->Prop):Prop:=
 match op with
 | .shl=>0<=b/\K (.int k (kg k a b))
 | .shr=>0<=b/\K (.int k (bl k a b))
 | .add=>k=k'/\K (.int k (k.wrap (a+b)))
 | .sub=>k=k'/\K (.int k (k.wrap (a-b)))
 | .mul=>k=k'/\K (.int k (k.wrap (a*b)))
 | .quo=>k=k'/\b≠0/\K (.int k (k.wrap (a.tdiv b)))
 | .rem=>k=k'/\b≠0/\K (.int k (a.tmod b))
 | .and=>k=k'/\K (.int k (sW .and k a b))
 | .or=>k=k'/\K (.int k (sW .or k a b))
 | .xor=>k=k'/\K (.int k (sW .xor k a b))
 | .andNot=>k=k'/\K (.int k (sW .andNot k a b))
 | .eql=>k=k'/\K (.bool (a==b))
 | .neq=>k=k'/\K (.bool (a != b))
 | .lss=>k=k'/\K (.bool (decide (a<b)))
 | .leq=>k=k'/\K (.bool (decide (a<=b)))
 | .gtr=>k=k'/\K (.bool (decide (a > b)))
 | .geq=>k=k'/\K (.bool (decide (a >= b)))
def Own (ι:Nat->Nat) (σ:St) (b:Nat):Prop:=∃ k o,σ.get k=some o/\ι k=b
class tP where
 nR:List (Nat × List Value)
variable [tP]
def iz (w:World) (M:Nat->Prop):Prop:=∀ p ∈ tP.nR,p.1<w.heap.size/\¬ M p.1/\∀ j v,p.2[j]?=some v->w.cell? ⟨p.1,j,none⟩= some v
theorem iz.zN {M M':Nat->Prop} {w w':World} (h:iz w M) (hs:w.heap.size<=w'.heap.size) (hb:∀ b,b<w.heap.size->¬ M b->w'.heap[b]?=w.heap[b]?) (hM:∀ b,b<w.heap.size->M' b->M b):iz w' M':=λp hp=>
 let ⟨h1,h2,h3⟩:=h p hp
 ⟨γ h1 hs,λhm=>h2 (hM _ h1 hm),λj v hv=>by rw [World.cell?_of_block (w:=w) (hb _ h1 h2)]; exact h3 j v hv⟩
structure wI (M0 : Nat -> Prop) (w : World) (σ : St) (ι : Nat -> Nat) : Prop where
 oJ:∀ b,M0 b->b<w.heap.size
 holds:∀ k o,σ.get k=some o->k<σ.nx/\qi (zY M0 ι σ) w ι σ.nx k o
 inj:∀ k k' o o',σ.get k=some o->σ.get k'=some o'->ι k=ι k'->k=k'
 notM:∀ k o,σ.get k=some o->¬ M0 (ι k)
 nR:iz w (zY M0 ι σ)
def oR (P:Program) (g:FuncId):Prop:=∃ fn,P.funcs[g]?=some fn/\(fn.name == "runtime.NumGoroutine")= false/\fn.body.isNone=false
structure xQ (P : Program) (g : FuncId) (args : List D) (σ : St) (d : D) (σ' : St) : Prop where
 ord:oR P g
 run:∀ (M0:Nat->Prop) (w:World) (ι:Nat->Nat) (vals:Array Value),wI M0 w σ ι->vals.size=args.length ->
  (∀ j,j<args.length->R (zY M0 ι σ) w ι σ.nx (vals.getD j undef) (args.getD j .top)) ->
  Calls P g vals w λe w'=>∃ v ι',e = .returned v/\Kept w w' (Own ι σ)/\ wI M0 w' σ' ι'/\σ.nx<=σ'.nx/\(∀ k,k<σ.nx->ι' k=ι k)/\
   (∀ k o,σ'.get k=some o->w.heap.size<=ι' k\/Own ι σ (ι' k))/\ R (zY M0 ι' σ') w' ι' σ'.nx v d
structure Cx where
 P:Program
 N:Nat
 n0:Nat:=0
 own:List Nat:=[]
 rd:Option Nat:=none
def Cx.F (C:Cx):Fence:={ Fence.wide with round:=C.rd }
def LU : Option D->Option Int
 | none=>some 0
 | some (.int _ n)=>some n
 | _=>none
omit [tP] in
theorem tS {c:Prop} [Decidable c] {p q:Prop} (h:if c then p else q):(c->p)/\ (¬ c->q):=⟨λhc=>by rwa [if_pos hc] at h,λhc=>by rwa [if_neg hc] at h⟩
omit [tP] in
theorem zk {c:Prop} [Decidable c] {p q:Prop} (h1:c->p) (h2:¬ c->q):if c then p else q:=by
 by_cases h:c
 ·rw [if_pos h]; exact h1 h
 ·rw [if_neg h]; exact h2 h
omit [tP] in
theorem Uz {t:Bool} {p q:Prop} (h:if t=true then p else q):(t=true->p)/\ (t=false->q):=⟨λhc=>(tS h).1 hc,λhc=>(tS h).2 (by simp [hc])⟩
def aD (P:Program) (g:FuncId) (args:List D) (σ:St) (K:D->Prop):Prop:=∃ d,xQ P g args σ d σ/\K d
def Xx (P:Program) (g:FuncId) (args:List D) (σ:St) (K:D->St->Prop):Prop:=∃ d σ',xQ P g args σ d σ'/\K d σ'
def gA (kk:IntKind) (xW:List (List D)):Prop:=∀ row ∈ xW,∃ m d,row = [D.int kk m,d]
def nN (x:Int):List (List D)->Nat->Option (Nat × D)
 | [],_=>none
 | [.int _ m,d] :: r,i=>if x=m then some (i,d) else nN x r (i+1)
 | _ :: r,i=>nN x r (i+1)
def rh (kk:IntKind) (xW:List (List D)) (x:Int) (d:D):List (List D):=
 match nN x xW 0 with
 | some (i,_)=>xW.set i [.int kk x,d]
 | none=>xW ++ [[.int kk x,d]]
def mB (ok:Bool) (zero:D) (r:Option (Nat × D)):D:= if ok then .wF [(r.map (·.2)).getD zero,.bool r.isSome] else(r.map (·.2)).getD zero
def rD (l:List (List Int × D)):List (List D):=l.map λp=>[.agg (p.1.map (D.int .i64)),p.2]
def lS (x:List Int):List (List Int × D)->Nat->Option (Nat × D)
 | [],_=>none
 | (k,d) :: r,i=>if x=k then some (i,d) else lS x r (i+1)
def zj : List D->Option (List Int)
 | []=>some []
 | .int .i64 a :: r=>(zj r).map (a :: ·)
 | _=>none
theorem eG : ∀ {cs:List D} {xs:List Int},zj cs=some xs->cs=xs.map (D.int .i64)
 | [],xs,h=>by cases h; rfl
 | d :: r,xs,h=>by
  unfold zj at h
  split at h
  ·rename_i e; cases e
  ·rename_i a r' e;cases e;rw [Option.map_eq_some_iff] at h;obtain⟨ys,h1,rfl⟩:=h;rw [eG h1]; rfl
  ·cases h
def aB (y:List Int) (x:D) (l:List (List Int × D)):List (List Int × D):=match lS y l 0 with
 | some (i,_)=>l.set i (y,x)
 | none=>l ++ [(y,x)]
def pW (C:Cx) (σ:St) (ev:tR->D):DK->(D->Prop)->Prop
 | .mv x,K=>K (ev x)
 | .pick c a b,K=>match ev c with
  | .bool t=>if t=true then K (ev a) else K (ev b)
  | _=>False
 | .bin op x y,K=>match ev x,ev y with
  | .int k a,.int k' b=>nO op k a k' b K
  | _,_=>False
 | .beq neg x y,K=>match ev x,ev y with
  | .bool a,.bool b=>K (.bool (if neg then a != b else a==b))
  | _,_=>False
 | .aG neg x y,K=>match ev x,ev y with
  | .xL,.xL=>K (.bool (!neg))
  | .yD ..,.xL | .xL,.yD ..=>K (.bool neg)
  | .emp,.xL | .xL,.emp=>K (.bool neg)
  | .sl _ (_ :: _),.xL=>K (.bool neg)
  | _,_=>False
 | .nt x,K=>match ev x with
  | .bool b=>K (.bool (!b))
  | _=>False
 | .neg x,K=>match ev x with
  | .int k a=>K (.int k (k.wrap (0-a)))
  | _=>False
 | .LI x,K=>match ev x with
  | .int k a=>K (.int k (sW .xor k (if k.signed then -1 else k.max) a))
  | _=>False
 | .geq neg n x y,K=>match ev x,ev y with
  | .agg cs,.agg ds=>match zj cs,zj ds with
   | some xs,some ys=>xs.length=n/\ys.length=n/\K (.bool (if neg then !decide (xs=ys) else decide (xs=ys)))
   | _,_=>False
  | _,_=>False
 | .TA x,K=>match ev x with
  | .wA key=>match σ.get key with
   | some o=>o.sz=0/\o.xW.length<=1000000/\K (.int .i64 o.xW.length)
   | none=>False
  | _=>False
 | .conv k x,K=>match ev x with
  | .int _ n=>K (.int k (k.wrap n))
  | _=>False
 | .NY off x,K=>match ev x with
  | .ref key sz i o=>K (.ref key sz i (o+off))
  | .ptr cs=>off<cs.length/\K (.ptr (cs.drop off))
  | _=>False
 | .PW off n ag x,K=>match ev x with
  | .agg cs=>off+n<=cs.length/\(ag=true\/n=1)/\ K (pA ag ((cs.drop off).take n))
  | _=>False
 | .idx sz x i,K=>match ev x,ev i with
  | .sl sz' xW,.int _ n=>sz=sz'/\0<=n/\n<xW.length/\K (.ptr (xW.getD n.toNat []))
  | .yD key sz' len,.int _ n=>sz=sz'/\0<=n/\n<len/\K (.ref key sz n.toNat 0)
  | .sub key sz' lo len,.int _ n=>sz=sz'/\0<=n/\n<len/\K (.ref key sz (lo+n.toNat) 0)
  | _,_=>False
 | .build zero parts,K=>match re zero (parts.map λp=>(p.1,p.2.1,ev p.2.2)) with
  | some cs=>K (.agg cs)
  | none=>False
 | .vY sz len zero parts,K=>match vj sz (List.replicate len zero) (parts.map λp=>(p.1,ev p.2)) with
  | some es=>(es.all D.xR)= true/\K (.sl sz es)
  | none=>False
 | .len x,K=>match ev x with
  | .sl _ xW=>K (.int .i64 xW.length)
  | .yD _ _ n=>K (.int .i64 n)
  | .sub _ _ _ n=>K (.int .i64 n)
  | .xL=>K (.int .i64 0)
  | .emp=>K (.int .i64 0)
  | _=>False
 | .mn x y,K=>match ev x,ev y with
  | .int k a,.int k' b=>k=k'/\K (.int k (if b<a then b else a))
  | _,_=>False
 | .mx x y,K=>match ev x,ev y with
  | .int k a,.int k' b=>k=k'/\K (.int k (if b > a then b else a))
  | _,_=>False
 | .T7 x i,K=>match ev x with
  | .wF vs=>i<vs.length/\K (vs.getD i .top)
  | _=>False
 | .Zh f caps,K=>K (.fn f (caps.map ev))
 | .load n ag x,K=>match ev x with
  | .ref key sz i off=>match σ.get key with
   | some o=>o.sz=sz/\i<o.xW.length/\off+n<=sz/\(ag=true\/n=1)/\ K (pA ag (((o.xW.getD i []).drop off).take n))
   | none=>False
  | .ptr cs=>n<=cs.length/\(ag=true\/n=1)/\ K (pA ag (cs.take n))
  | _=>False
 | .Zi sz x lo hi,K=>match ev x with
  | .sl sz' xW=>sz=sz'/\∃ l h:Int,LU (lo.map ev)= some l/\(match hi.map ev with | none=>h=xW.length | some (.int _ n)=>h=n | some _=>False)/\ 0<=l/\l<=h/\h<=xW.length/\K (.sl sz ((xW.take h.toNat).drop l.toNat))
  | .yD key sz' len=>sz=sz'/\∃ l h:Int,LU (lo.map ev)= some l/\(match hi.map ev with | none=>h=len | some (.int _ n)=>h=n | some _=>False)/\ 0<=l/\l<=h/\h<=len/\K (if l=0 then .yD key sz h.toNat else if l=h then .emp else .sub key sz l.toNat (h.toNat-l.toNat))
  | .sub key sz' lo0 len=>sz=sz'/\∃ l h:Int,LU (lo.map ev)= some l/\(match hi.map ev with | none=>h=len | some (.int _ n)=>h=n | some _=>False)/\ 0<=l/\l<=h/\h<=len/\K (.sub key sz (lo0+l.toNat) (h.toNat-l.toNat))
  | _=>False
 | .call fn args,K=>match ev fn with
  | .fn g caps=>aD C.P g (args.map ev++caps) σ K
  | _=>False
 | .LW x,K=>match ev x with
  | .ref key sz i off=>K (.ref key sz i off)
  | .ptr cs=>K (.ptr cs)
  | .fn f cs=>K (.fn f cs)
  | _=>False
 | .j6 zero ok m k,K=>match ev m,ev k with
  | .wA key,.int kk x=>match σ.get key with
   | some o=>o.sz=0/\gA kk o.xW/\K (mB ok zero (nN x o.xW 0))
   | none=>False
  | .oH,.int _ _=>K (mB ok zero none)
  | _,_=>False
 | .vn n zero ok m k,K=>match ev m,ev k with
  | .wA key,.agg cs=>match σ.get key with
   | some o=>o.sz=0/\∃ (x:List Int) (l:List (List Int × D)),(cs=x.map (D.int .i64)/\ o.xW=rD l/\x.length=n/\∀ p ∈ l,p.1.length=n)/\ K (mB ok zero (lS x l 0))
   | none=>False
  | _,_=>False
 | _,_=>False
def Fr.put (f:Fr):Option Nat->D->Fr
 | some t,d=>(t,d) :: f
 | none,_=>f
def zC : List (Nat × Ob)->Nat->Ob->List (Nat × Ob)
 | [],_,_=>[]
 | (j,o) :: r,k,o'=>if j=k then(j,o') :: r else(j,o) :: zC r k o'
def St.set (σ:St) (k:Nat) (o:Ob):St:=⟨σ.nx,zC σ.xZ k o⟩
def St.new (σ:St) (o:Ob):St:=⟨σ.nx+1,(σ.nx,o) :: σ.xZ⟩
def yN : List (Nat × Ob)->Nat->List (Nat × Ob)
 | [],_=>[]
 | (j,o) :: r,k=>if j=k then yN r k else(j,o) :: yN r k
def St.erase (σ:St) (k:Nat):St:=⟨σ.nx,yN σ.xZ k⟩
def uX (cs:List D):Bool:=cs.all D.one
def rowsOf (σ:St) (sz:Nat):D->Option (List (List D))
 | .sl sz' xW=>if sz=sz' then some xW else none
 | .xL=>some []
 | .emp=>some []
 | .yD key sz' n=>if sz=sz' then(match σ.get key with | some o=>if o.sz=sz/\n<=o.xW.length then some (o.xW.take n) else none | none=>none) else none
 | _=>none
def qW (C:Cx) (σ:St) (ev:tR->D) (k:DK) (K:D->St->Prop):Prop:=
 match k with
 | .box x=>match (ev x).cells with
  | some cs=>uX cs=true/\0<cs.length/\K (.ref σ.nx cs.length 0 0) (σ.new ⟨cs.length,[cs]⟩)
  | none=>False
 | .alloc zero=>uX zero=true/\0<zero.length/\K (.ref σ.nx zero.length 0 0) (σ.new ⟨zero.length,[zero]⟩)
 | .store n a x=>match ev a,(ev x).cells with
  | .ref key sz i off,some ds=>match σ.get key with
   | some ob=>ob.sz=sz/\i<ob.xW.length/\ds.length=n/\off+n<=sz/\uX ds=true/\K .rJ (σ.set key ⟨sz,ob.xW.set i (jQ (ob.xW.getD i []) off ds)⟩)
   | none=>False
  | _,_=>False
 | .app sz bytes x y=>match rowsOf σ sz (ev y) with
  | none=>False
  | some rows=>(∀ r ∈ rows,uX r=true)/\ match ev x with
   | .xL=>rows.length*bytes<=140737488355328/\rows.length<=8000000000000/\(rows = []->K .xL σ)/\ (rows ≠ []->K (.yD σ.nx sz rows.length) (σ.new ⟨sz,rows⟩))
   | .yD key sz' n=>match σ.get key with
    | some ob=>sz=sz'/\ob.sz=sz/\n<=ob.xW.length/\(n+rows.length)* bytes<=140737488355328/\n+rows.length<=8000000000000 /\
     K (.yD σ.nx sz (n+rows.length)) ((σ.erase key).new ⟨sz,ob.xW.take n++rows⟩)
    | none=>False
   | .sub key sz' lo n=>match σ.get key with
    | some ob=>C.own.contains 77777=true/\sz=sz'/\ob.sz=sz/\lo+n<=ob.xW.length/\(n+rows.length)* bytes<=140737488355328/\n+rows.length<=8000000000000 /\
     ∀ pre:List (List D),(pre = []\/pre=ob.xW.take lo)->K (.sub σ.nx sz pre.length (n+rows.length)) ((σ.erase key).new ⟨sz,pre++((ob.xW.drop lo).take n++rows)⟩)
    | none=>False
   | _=>False
 | .fV sz bytes zero len cap=>match ev len,ev cap with
  | .int .i64 n,.int .i64 m=>n=m/\0<=n/\bytes*n<=281474976710656/\uX zero=true/\K (.yD σ.nx sz n.toNat) (σ.new ⟨sz,List.replicate n.toNat zero⟩)
  | _,_=>False
 | .kF sz len zero parts=>match vj sz (List.replicate len zero) (parts.map λp=>(p.1,ev p.2)) with
  | some es=>(∀ e ∈ es,uX e=true)/\ K (.yD σ.nx sz len) (σ.new ⟨sz,es⟩)
  | none=>False
 | .V7 zero x=>match ev x with
  | .xL=>K (.wF []) σ
  | .emp=>K (.wF []) σ
  | .yD key sz n=>match σ.get key with
   | some ob=>sz=1/\ob.sz=1/\0<n/\n<=ob.xW.length/\zero.one=true/\K (.wF []) (σ.set key ⟨1,List.replicate n [zero]++ob.xW.drop n⟩)
   | none=>False
  | .sub key sz lo n=>match σ.get key with
   | some ob=>sz=1/\ob.sz=1/\0<n/\lo+n<=ob.xW.length/\zero.one=true/\K (.wF []) (σ.set key ⟨1,ob.xW.take lo++(List.replicate n [zero]++ob.xW.drop (lo+n))⟩)
   | none=>False
  | _=>False
 | .call fn args=>match ev fn with
  | .fn g caps=>Xx C.P g (args.map ev++caps) σ K
  | _=>False
 | .Zm x y=>match rowsOf σ 1 (ev y) with
  | none=>False
  | some rows=>(∀ r ∈ rows,uX r=true)/\ match ev x with
   | .yD key sz n=>match σ.get key with
    | some ob=>sz=1/\ob.sz=1/\n<=ob.xW.length/\0<min n rows.length/\K (.int .i64 ((min n rows.length:Nat):Int)) (σ.set key ⟨1,rows.take (min n rows.length)++ ob.xW.drop (min n rows.length)⟩)
    | none=>False
   | .sub key sz lo n=>match σ.get key with
    | some ob=>sz=1/\ob.sz=1/\lo+n<=ob.xW.length/\0<min n rows.length/\K (.int .i64 ((min n rows.length:Nat):Int)) (σ.set key ⟨1,ob.xW.take lo++(rows.take (min n rows.length)++ ob.xW.drop (lo+min n rows.length))⟩)
    | none=>False
   | _=>False
 | .l4=>K (.wA σ.nx) (σ.new ⟨0,[]⟩)
 | .bJ m k x=>match ev m,ev k with
  | .wA key,.int kk y=>match σ.get key with
   | some o=>o.sz=0/\gA kk o.xW/\K .rJ (σ.set key ⟨0,rh kk o.xW y (ev x)⟩)
   | none=>False
  | _,_=>False
 | .jK n m k x=>match ev m,ev k with
  | .wA key,.agg cs=>match σ.get key with
   | some o=>o.sz=0/\∃ (y:List Int) (l:List (List Int × D)),(cs=y.map (D.int .i64)/\ o.xW=rD l/\(y.length=n/\∀ p ∈ l,p.1.length=n))/\ K .rJ (σ.set key ⟨0,rD (aB y (ev x) l)⟩)
   | none=>False
  | _,_=>False
 | .tz zero m k=>match ev m,ev k with
  | .wA key,.int kk y=>match σ.get key with
   | some o=>o.sz=0/\gA kk o.xW/\o.xW.length<=1000000000/\(match nN y o.xW 0 with
    | some (i,d)=>K (.wF [d,.int .i64 i]) (σ.set key ⟨0,o.xW⟩)
    | none=>K (.wF [zero,.int .i64 o.xW.length]) (σ.set key ⟨0,o.xW ++ [[.int kk y,zero]]⟩))
   | none=>False
  | _,_=>False
 | .tw m s x=>match ev m,ev s with
  | .wA key,.int _ i=>match σ.get key with
   | some o=>o.sz=0/\0<=i/\i<o.xW.length/\(∃ kk y d,o.xW.getD i.toNat [] = [.int kk y,d]/\K .rJ (σ.set key ⟨0,o.xW.set i.toNat [.int kk y,ev x]⟩))
   | none=>False
  | _,_=>False
 | k=>pW C σ ev k λd=>K d σ
def N3 (C:Cx) (o:yY) (f:Fr) (σ:St) (K:Fr->St->Prop):Prop:=qW C σ (pI f) o.k λd σ'=>K (f.put o.dst d) σ'
def yB (o:yY) (f:Fr) (yes no:Prop):Prop:=
 match o.guard with
 | none=>yes
 | some (j,want)=>match f.get j with
  | .bool b=>if b=want then yes else no
  | .rJ=>no
  | _=>False
def rH (C:Cx):List yY->Fr->St->(Fr->St->Prop)->Prop
 | [],f,σ,K=>K f σ
 | o :: rest,f,σ,K=>yB o f (N3 C o f σ λf σ=>rH C rest f σ K) (rH C rest (f.put o.dst .rJ) σ K)
def uW (C:Cx) (σ:St):List yY->Fr->(Fr->Prop)->Prop
 | [],f,K=>K f
 | o :: rest,f,K=>yB o f (pW C σ (pI f) o.k λd=>uW C σ rest (f.put o.dst d) K) (uW C σ rest (f.put o.dst .rJ) K)
structure Env where
 w0:World
 M0:Nat->Prop
 K0:Nat->Prop
 ι0:Nat->Nat
 B:Nat
def Marks (B:Nat) (a:Act) (w:World):Prop:=B<=w.heap.size/\∃ l:List Nat,a.defers=l.map (λD=>{ target:=.collected D,args:=#[] })/\ l.Nodup/\∀ D ∈ l,w.heap[D]?=some (Obj.deferred (some []))/\ B<=D
theorem Marks.zN {B:Nat} {a a':Act} {w w':World} (h:Marks B a w) (ha:a'.defers=a.defers) (hs:w.heap.size<=w'.heap.size) (hk:∀ D:Nat,w.heap[D]?=some (Obj.deferred (some []))->w'.heap[D]?=some (Obj.deferred (some []))):Marks B a' w':=
 let ⟨h0,l,h1,h2,h3⟩:=h
 ⟨δ h0 hs,l,ha.trans h1,h2,λD hD=>⟨hk D (h3 D hD).1,(h3 D hD).2⟩⟩
theorem Marks.none {B:Nat} {a:Act} {w:World} (h:a.defers = []) (hB:B<=w.heap.size):Marks B a w:=⟨hB,[],h,.nil,λD hD=>by cases hD⟩
theorem Kept.mark {w w':World} {K:Nat->Prop} {D:Nat} {o:Obj} (hk:Kept w w' K) (hn:¬ K D) (h:w.heap[D]?=some o):w'.heap[D]?=some o:=(hk.block D (Array.getElem?_eq_some_iff.1 h).1 hn).trans h
theorem wI.xt {M0:Nat->Prop} {w:World} {σ:St} {ι:Nat->Nat} (hS:wI M0 w σ ι) {D:Nat} {x:Option (List Deferred)} (h:w.heap[D]?=some (Obj.deferred x)):¬ Own ι σ D:=by
 rintro ⟨k,o,hk,rfl⟩
 rcases(hS.holds k o hk).2 with ⟨_,cur,e,h1,_⟩ | ⟨_,es,h1,_⟩
 ·rw [h] at h1; cases h1
 ·rw [h] at h1; cases h1
structure yI (C : Cx) (E : Env) (a : Act) (w : World) (f : Fr) (σ : St) (ι : Nat -> Nat) : Prop where
 size:a.tmps.size=C.N
 defers:Marks E.B a w
 nx:C.n0<=σ.nx
 kept:Kept E.w0 w E.K0
 mL:wI E.M0 w σ ι
 oJ:∀ b,E.M0 b->b<E.w0.heap.size
 qK:∀ k o,σ.get k=some o->E.w0.heap.size<=ι k\/E.K0 (ι k)
 stay:∀ k,k<C.n0->ι k=E.ι0 k
 fr:Pi (zY E.M0 ι σ) w ι σ.nx a.tmps f
def Good (C:Cx) (E:Env) (a:Act) (w:World) (f:Fr) (σ:St):Prop:=∃ ι,yI C E a w f σ ι
def T9 (C:Cx) (pre:List yY) (dst:Option Nat) (mid:List yY) (un:Bool) (f:Fr) (σ:St) (K:Fr->St->Prop) (f1:Fr) (d:D) (σ1:St):Prop:= uW C σ1 pre f (λg=>g=f1)/\ uW C σ1 mid (f1.put dst d) λf2=>(if un=true then uW C σ mid (f1.put dst d) (λg=>g=f2) else True)/\ K f2 σ1
def wpS (C:Cx) (dc:DC) (f:Fr) (σ:St) (Q:Exit->Fr->St->Prop):Prop:= ∀ code,sJ C.P C.N C.own code=some dc->∀ E a w,Good C E a w f σ->code.wpIn C.F 0 C.P (λe a' w'=>∃ f' σ',Good C E a' w' f' σ'/\Q e f' σ') a w
def jM (next:Fr->St->Prop) (Q:Exit->Fr->St->Prop):Exit->Fr->St->Prop
 | .normal,f,σ=>next f σ
 | e,f,σ=>Q e f σ
def lT (id:Nat) (Q:Exit->Fr->St->Prop):Exit->Fr->St->Prop
 | .exit i,f,σ=>if i=id then Q .normal f σ else Q (.exit i) f σ
 | e,f,σ=>Q e f σ
def qq (C:Cx) (it:Nat) (m:tR) (out nx more next pair:Nat) (rest:List yY) (code:DC) (f:Fr) (σ:St) (Q:Exit->Fr->St->Prop):Prop:=
 ∃ key xW,C.rd=none/\pI f m = .wA key/\σ.get key=some ⟨0,xW⟩/\ ∀ b:Nat,∃ I:List Nat->Fr->St->Prop,(∃ f1 σ1,(∀ E a w,Good { C with n0:=max C.n0 (key+1) } E a w (f.put (some it) (.l5 b)) σ->Good { C with n0:=max C.n0 (key+1) } E a w f1 σ1)/\ I [] f1 σ1)/\
  (∀ seen f σ,I seen f σ->f.get it = .l5 b/\σ.get key=some ⟨0,xW⟩)/\
  ∀ seen f σ,I seen f σ->seen.Nodup->(∀ j ∈ seen,j<xW.length) ->
   (seen.length=xW.length->Q .normal ((f.put (some nx) .top).put (some more) .top) σ)/\
   ∀ i,i<xW.length->i ∉ seen->rH { C with n0:=max C.n0 (key+1) } rest (((f.put (some nx) .top).put (some more) .top).put (some pair) (.wF (xW.getD i []))) σ λf σ=>wpS { C with n0:=max C.n0 (key+1) } code f σ (lT next (jM (I (seen ++ [i])) (lT out Q)))
def zw (C:Cx):DC->Fr->St->(Exit->Fr->St->Prop)->Prop
 | .TJ ..,_,_,_=>False
 | .TH ..,_,_,_=>False
 | .TF ..,_,_,_=>False
 | .vp pre it m out nx more next pair rest code,f,σ,Q=>rH C pre f σ λf σ=>qq C it m out nx more next pair rest code f σ Q
 | .skip,f,σ,Q=>Q .normal f σ
 | .qD pre post,f,σ,Q=>uW C σ pre f λf=>rH C post f σ λf σ=>Q .normal f σ
 | .bh pre m mid un post,f,σ,Q=>uW C σ pre f λf1=>qW C σ (pI f1) m.k λd σ1=>T9 C pre m.dst mid un f σ (λf σ=>rH C post f σ λf σ=>Q .normal f σ) f1 d σ1
 | .j8 pre m1 mid1 m2 mid2 post,f,σ,Q=>uW C σ pre f λf1=>qW C σ (pI f1) m1.k λd1 σ1=>uW C σ1 pre f (λg=>g=f1)/\ uW C σ1 mid1 (f1.put m1.dst d1) λf2=>qW C σ1 (pI f2) m2.k λd2 σ2=> uW C σ2 pre f (λg=>g=f1)/\ uW C σ2 mid1 (f1.put m1.dst d1) (λg=>g=f2)/\ uW C σ2 mid2 (f2.put m2.dst d2) λf3=>rH C post f3 σ2 λf σ=>Q .normal f σ
 | .seq a b,f,σ,Q=>zw C a f σ (jM (λf σ=>zw C b f σ Q) Q)
 | .cond c a b,f,σ,Q=>match pI f c with
  | .bool t=>if t=true then zw C a f σ Q else zw C b f σ Q
  | _=>False
 | .block id c,f,σ,Q=>zw C c f σ (lT id Q)
 | .loop c,f,σ,Q=>wpS C (.loop c) f σ Q
 | .uc g ps a c,f,σ,Q=>wpS C (.uc g ps a c) f σ Q
 | .bK pre m1 mid1 m2 mid2 post free,f,σ,Q=>wpS C (.bK pre m1 mid1 m2 mid2 post free) f σ Q
 | .aJ pre m mid un post fl,f,σ,Q=>wpS C (.aJ pre m mid un post fl) f σ Q
 | .exit id,f,σ,Q=>Q (.exit id) f σ
 | .ret,f,σ,Q=>Q .ret f σ
@[congr] theorem LP {C : Cx} {dc : DC} {f f' : Fr} {σ : St} {Q : Exit -> Fr -> St -> Prop} (h : f = f') : wpS C dc f σ Q = wpS C dc f' σ Q := by rw [h]
@[congr] theorem N7 {P : Program} {g : FuncId} {args args' : List D} {σ : St} {K : D -> Prop} (h : args = args') : aD P g args σ K = aD P g args' σ K := by rw [h]
@[congr] theorem N8 {P : Program} {g : FuncId} {args args' : List D} {σ : St} {K : D -> St -> Prop} (h : args = args') : Xx P g args σ K = Xx P g args' σ K := by rw [h]
theorem aD.go {P:Program} {g:FuncId} {args:List D} {σ:St} {K:D->Prop} {d:D} (h:xQ P g args σ d σ) (hk:K d):aD P g args σ K:=⟨d,h,hk⟩
theorem Xx.go {P:Program} {g:FuncId} {args:List D} {σ:St} {K:D->St->Prop} {d:D} {σ':St} (h:xQ P g args σ d σ') (hk:K d σ'):Xx P g args σ K:=⟨d,σ',h,hk⟩
end Go.Pd
namespace Go.Pd
open Go
variable [tP]
section inv
variable {M : Nat -> Prop} {w : World} {ι : Nat -> Nat} {n : Nat} {v : Value}
theorem R.zB {k:IntKind} {x:Int} (h:R M w ι n v (.int k x)):v = .int k x/\k.min<=x/\x<=k.max:=by cases h with | pure h=>cases h with | int h=>exact⟨rfl,h⟩
theorem R.lL {b:Bool} (h:R M w ι n v (.bool b)):v = .bool b:=by cases h with | pure h=>cases h; rfl
theorem R.tD (h:R M w ι n v .xL):v = .slice none 0 0:=by cases h with | pure h=>cases h; rfl
theorem R.cX (h:R M w ι n v .emp):∃ a cap,v = .slice (some a) 0 cap:=by cases h with | pure h=>cases h; exact⟨_,_,rfl⟩
theorem R.PC (h:R M w ι n v .rJ):v=undef:=by cases h with | pure h=>cases h; rfl
theorem R.sT {key sz i off:Nat} (h:R M w ι n v (.ref key sz i off)):v = .pointer (some ⟨ι key,i*sz+off,none⟩)/\ key<n/\0<sz:=by
 cases h with
 | pure h=>cases h
 | ref hk h0=>exact⟨rfl,hk,h0⟩
theorem R.nH {key:Nat} (h:R M w ι n v (.wA key)):v = .map (some (ι key))/\ key<n:=by
 cases h with
 | pure h=>cases h
 | wA hk=>exact⟨rfl,hk⟩
theorem R.Qv (h:R M w ι n v .oH):v = .map none:=by cases h with | pure h=>cases h; rfl
theorem R.rL {key sz len:Nat} (h:R M w ι n v (.yD key sz len)) :
  ∃ (cap:Nat) (cur:Array Value) (e:TypeId),v = .slice (some ⟨ι key,0,none⟩) len cap/\key<n/\len<=cap/\cap<=maxLen/\w.heap[ι key]?=some (Obj.cells cur e (0,0))/\ cap*sz=cur.size:=by
 cases h with
 | pure h=>cases h
 | yD hk h1 h2 h3 h4=>exact⟨_,_,_,rfl,hk,h1,h2,h3,h4⟩
theorem R.kX {key sz lo len:Nat} (h:R M w ι n v (.sub key sz lo len)) :
  ∃ (cap off:Nat) (cur:Array Value) (e:TypeId),v = .slice (some ⟨ι key,off,none⟩) len cap/\key<n/\len<=cap/\cap<=maxLen/\w.heap[ι key]?=some (Obj.cells cur e (0,0))/\ (cap=0\/(off=lo*sz/\(lo+cap)* sz=cur.size)):=by
 cases h with
 | pure h=>cases h
 | sub hk h1 h2 h3 h4=>exact⟨_,_,_,_,rfl,hk,h1,h2,h3,h4⟩
theorem R.oY {cs:List D} (h:R M w ι n v (.ptr cs)):∃ (b off:Nat) (vs:Nat->Value),v = .pointer (some ⟨b,off,none⟩)/\ 0<cs.length/\¬ M b/\(∀ j,j<cs.length->w.cell? ⟨b,off+j,none⟩= some (vs j))/\ ∀ j,j<cs.length->RP M w (vs j) (cs.getD j .top):=by cases h with | pure h=>cases h with | ptr vs hs hM hc hr=>exact⟨_,_,vs,rfl,hs,hM,hc,hr⟩
theorem R.bC {sz:Nat} {xW:List (List D)} (h:R M w ι n v (.sl sz xW)) :
  (∃ a cap,v = .slice a 0 cap/\xW = []/\(a=none->cap=0))\/∃ (b off cap:Nat) (vs:Nat->Nat->Value),v = .slice (some ⟨b,off,none⟩) xW.length cap/\0<sz/\¬ M b/\xW.length<=cap/\cap<=maxLen/\(∀ e ∈ xW,e.length=sz)/\
   (∀ i,i<xW.length->∀ j,j<sz->w.cell? ⟨b,off+i*sz+j,none⟩= some (vs i j))/\ ∀ i,i<xW.length->∀ j,j<sz->RP M w (vs i j) ((xW.getD i []).getD j .top):=by
 cases h with
 | pure h=>
  cases h with
  | kp a cap sz h=>exact .inl ⟨a,cap,rfl,rfl,h⟩
  | sl vs hs hM hc hm hl hcell hr=>exact .inr ⟨_,_,_,vs,rfl,hs,hM,hc,hm,hl,hcell,hr⟩
theorem R.xk {cs:List D} (h:R M w ι n v (.agg cs)):∃ vs:Array Value,v = .agg vs/\vs.size=cs.length/\∀ j,j<cs.length->R M w ι n (vs.getD j undef) (cs.getD j .top):=by
 cases h with
 | pure h=>cases h with | agg hl hr=>exact⟨_,rfl,hl,λj hj=>.pure (hr j hj)⟩
 | agg hl hr=>exact⟨_,rfl,hl,hr⟩
theorem R.x7 {cs:List D} (h:R M w ι n v (.wF cs)):∃ vs:Array Value,v = .tuple vs/\vs.size=cs.length/\∀ j,j<cs.length->R M w ι n (vs.getD j undef) (cs.getD j .top):=by
 cases h with
 | pure h=>cases h with | wF hl hr=>exact⟨_,rfl,hl,λj hj=>.pure (hr j hj)⟩
 | wF hl hr=>exact⟨_,rfl,hl,hr⟩
theorem R.bB {f:FuncId} {cs:List D} (h:R M w ι n v (.fn f cs)):∃ vs:Array Value,v = .func (.func f) #[] vs/\vs.size=cs.length/\∀ j,j<cs.length->R M w ι n (vs.getD j undef) (cs.getD j .top):=by
 cases h with
 | pure h=>cases h with | fn hl hr=>exact⟨_,rfl,hl,λj hj=>.pure (hr j hj)⟩
 | fn hl hr=>exact⟨_,rfl,hl,hr⟩
end inv
theorem ZD (k:IntKind) (x:Int):k.min<=k.wrap x/\k.wrap x<=k.max:=by cases k <;> simp [IntKind.min,IntKind.max,IntKind.wrap,IntKind.signed,IntKind.bits] <;> (try split) <;> omega
theorem RP.wrap {M:Nat->Prop} {w:World} (k:IntKind) (x:Int):RP M w (.int k (k.wrap x)) (.int k (k.wrap x)):=.int (ZD k x)
theorem WV {k:IntKind} {x:Int} (h:k.min<=x/\x<=k.max) (m:Nat):k.min<=x.fdiv (2 ^ m)/\ x.fdiv (2 ^ m)<=k.max:=by
 have h2:(0:Int)<2 ^ m:=Int.pow_pos (by decide);have e:x.fdiv (2 ^ m)= x / 2 ^ m:=Int.fdiv_eq_ediv_of_nonneg _ (Int.le_of_lt h2);rw [e];have hle:∀ y:Int,0<=y->y / 2 ^ m<=y:=λy hy=>Int.ediv_le_self _ hy;have h1:(1:Int)<=2 ^ m:=h2
 constructor
 ·by_cases hx:0<=x
  ·have:=Int.ediv_nonneg hx (Int.le_of_lt h2);have hm:k.min<=0:=by cases k <;> decide
   omega
  ·have:x<=x / 2 ^ m:=by refine(Int.le_ediv_iff_mul_le h2).2 ?_;have:=Int.mul_le_mul_of_nonpos_left (show x<=0 by omega) h1;omega
   omega
 ·by_cases hx:0<=x
  ·have:=hle x hx; omega
  ·have:x / 2 ^ m<0:=Int.ediv_neg_of_neg_of_pos (by omega) h2;have hm:0<=k.max:=by cases k <;> decide
   omega
theorem Z9 {k:IntKind} {x y:Int} (h:k.min<=x/\x<=k.max):k.min<=x.tmod y/\x.tmod y<=k.max:=by
 have hm:k.min<=0:=by cases k <;> decide
 have hM:0<=k.max:=by cases k <;> decide
 rcases Int.le_total 0 x with hx | hx
 ·have h1:=Int.tmod_nonneg y hx
  have h2:x.tmod y<=x:=by have:=Int.natAbs_tmod x y;have h3:=Nat.mod_le x.natAbs y.natAbs;omega
  omega
 ·have h1:x.tmod y<=0:=by have:=Int.tmod_nonneg (a:=-x) y (by omega);rw [Int.neg_tmod] at this;omega
  have h2:x<=x.tmod y:=by have:=Int.natAbs_tmod x y;have h3:=Nat.mod_le x.natAbs y.natAbs;omega
  omega
theorem cZ {M:Nat->Prop} {w:World} {v:Value} {d:D} (h:D.leaf v=some d):RP M w v d:=by
 unfold D.leaf at h;split at h <;> simp at h <;> (try subst h) <;> try constructor
 obtain⟨h1,rfl⟩:=h;exact .int h1
theorem Y4 {vs:Array Value} {j:Nat} {v:Value} (h:vs.toList[j]?=some v):vs.getD j undef=v:=by
 have h':vs[j]?=some v:=by simpa using h
 simp [h']
theorem gL {M:Nat->Prop} {w:World} {v:Value} {d:D} (h:D.ofValue v=some d):RP M w v d:=by
 unfold D.ofValue at h
 split at h
 ·rename_i cs;simp at h;obtain⟨ds,h1,rfl⟩:=h;obtain⟨hl,hg⟩:=uS h1;refine .agg (by simpa using hl.symm) λj hj=>?_;have hj':j<cs.toList.length:=by omega
  obtain⟨b,hb,hf⟩:=hg j _ (η hj');have e1:ds.getD j .top=b:=by simp [List.getD,hb]
  rw [e1,Y4 (η hj')];exact cZ hf
 ·exact cZ h
theorem mG {M:Nat->Prop} {w:World} {ι:Nat->Nat} {n N:Nat} {a:Act} {f:Fr} (hf:Pi M w ι n a.tmps f) {x:Operand} {y:tR} (h:yV N x=some y):R M w ι n (a.eval x) (pI f y):=by
 cases x with
 | tmp t=> simp [yV] at h;obtain⟨_,rfl⟩:=h;exact hf t
 | const v=> simp [yV] at h;obtain⟨d,hd,rfl⟩:=h;exact .pure (gL hd)
 | func f=> simp [yV] at h;subst h;exact .pure (.fn (by simp) (by simp))
 | global g=>simp [yV] at h
end Go.Pd
namespace Go.Pd
open Go
variable [tP]
theorem tY {P:Program} {o:Oper} {a:Act} {w w':World} {next:Act->World->Prop} {Q:Exit->Act->World->Prop} {v:Value}
  (hx:(execOp a.eval o).run P w = .ok (.value v) w') (hn:next (a.put o.dst v) w'):o.wp P a w next Q:=by
 unfold Oper.wp; rw [hx]; exact hn
section
variable {P : Program} {N : Nat} {o : Oper} {a : Act} {w : World} {M : Nat -> Prop} {ι : Nat -> Nat} {n : Nat}
def Yields (P:Program) (o:Oper) (a:Act) (w:World) (v:Value):Prop:=(execOp a.eval o).run P w = .ok (.value v) w
theorem Kj {op:BinOp} {t u:TypeId} {x y:Operand} (ho:o.op = .binOp op t x y u) {k k':IntKind} {p q:Int} (hx:a.eval x = .int k p) (hy:a.eval y = .int k' q)
  (hp:k.min<=p/\p<=k.max) {K:D->Prop} (h:nO op k p k' q K):∃ v d,Yields P o a w v/\K d/\∀ M,RP M w v d:=by
 unfold Yields;cases op <;> simp only [nO] at h
 case shl=>
  refine⟨_,_,?_,h.2,λM=>RP.wrap _ _⟩;have h0:¬ q<0:=by have:=h.1; omega
  simp [execOp,ho,hx,hy,eqGuard,binOp,Op.shift,h0,kg]
 case shr=>
  refine⟨_,_,?_,h.2,λM=>RP.int (WV hp _)⟩;have h0:¬ q<0:=by have:=h.1; omega
  simp [execOp,ho,hx,hy,eqGuard,binOp,Op.shift,h0,bl]
 case quo=> obtain⟨rfl,h1,h2⟩:=h;refine⟨_,_,?_,h2,λM=>RP.wrap _ _⟩;simp [execOp,ho,hx,hy,eqGuard,binOp,Op.intDiv,h1]
 case rem=> obtain⟨rfl,h1,h2⟩:=h;refine⟨_,_,?_,h2,λM=>RP.int (Z9 hp)⟩;simp [execOp,ho,hx,hy,eqGuard,binOp,Op.intDiv,h1]
 all_goals
  obtain⟨rfl,h2⟩:=h;refine⟨_,_,?_,h2,λM=>by first | exact RP.wrap _ _ | exact RP.bool _⟩;simp [execOp,ho,hx,hy,eqGuard,binOp,Op.intArith,Op.intBits,Op.intCmp,sW]
theorem ba {x:Operand} (ho:o.op = .move x\/o.op = .assign x):Yields P o a w (a.eval x):=by rcases ho with ho | ho <;> simp [Yields,execOp,ho]
theorem jk {x:Operand} (ho:o.op = .nilCheck x) {v:Value} (hx:a.eval x=v) (hv:(∃ b,v = .pointer (some b))\/∃ f vs,v = .func (.func f) #[] vs):Yields P o a w v:=by rcases hv with ⟨b,rfl⟩ | ⟨f,vs,rfl⟩ <;> simp [Yields,execOp,ho,hx]
theorem Sk {c x y:Operand} (ho:o.op = .pick c x y) {t:Bool} (hc:a.eval c = .bool t):Yields P o a w (if t then a.eval x else a.eval y):=by simp [Yields,execOp,ho,hc,asBool]
theorem n9 (d:Nat) {t:TypeId} (ht:P.underlying t=some .bool) (b c:Bool):(Op.equalIn (d+1) t (.bool b) (.bool c)).run P w = .ok (b==c) w:=by simp [Op.equalIn,run_underlying ht]
theorem WQ {t:TypeId} (ht:P.underlying t=some .bool) (b c:Bool):(Op.equal t (.bool b) (.bool c)).run P w = .ok (b==c) w:=n9 9999 ht b c
theorem jn (d:Nat) {t e:TypeId} (ht:P.underlying t=some (.slice e)) {ax ay:Option Addr} {lx ly cx cy:Nat} (hn:ax=none\/ay=none) :
  (Op.equalIn (d+1) t (.slice ax lx cx) (.slice ay ly cy)).run P w = .ok (ax.isNone&&ay.isNone) w:=by
 rcases hn with rfl | rfl <;> (try cases ax) <;> (try cases ay) <;> simp [Op.equalIn,run_underlying ht]
theorem Y0 {t e:TypeId} (ht:P.underlying t=some (.slice e)) {ax ay:Option Addr} {lx ly cx cy:Nat} (hn:ax=none\/ay=none) :
  (Op.equal t (.slice ax lx cx) (.slice ay ly cy)).run P w = .ok (ax.isNone&&ay.isNone) w:=jn 9999 ht hn
theorem Ki {op:BinOp} {t u:TypeId} {x y:Operand} (ho:o.op = .binOp op t x y u) (hop:op = .eql\/op = .neq) (ht:P.underlying t=some .bool) {b c:Bool} (hx:a.eval x = .bool b) (hy:a.eval y = .bool c) :
  Yields P o a w (.bool (if op = .neq then b != c else b==c)):=by
 rcases hop with rfl | rfl <;> simp [Yields,execOp,ho,hx,hy,eqGuard,binOp,WQ ht] <;> (try (cases b <;> cases c <;> rfl))
theorem eD {op:BinOp} {t u e:TypeId} {x y:Operand} (ho:o.op = .binOp op t x y u) (hop:op = .eql\/op = .neq) (ht:P.underlying t=some (.slice e)) {ax ay:Option Addr} {lx ly cx cy:Nat}
  (hx:a.eval x = .slice ax lx cx) (hy:a.eval y = .slice ay ly cy) (hn:ax=none\/ay=none) :
  Yields P o a w (.bool (if op = .neq then !(ax.isNone&&ay.isNone) else ax.isNone&&ay.isNone)):=by
 rcases hop with rfl | rfl <;> simp [Yields,execOp,ho,hx,hy,eqGuard,binOp,Y0 ht hn]
theorem Kq {t:TypeId} {x:Operand} (ho:o.op = .unOp .not t x) {b:Bool} (hx:a.eval x = .bool b):Yields P o a w (.bool (!b)):=by simp [Yields,execOp,ho,hx,Op.unary]
theorem Kp {t:TypeId} {x:Operand} (ho:o.op = .unOp .neg t x) {k:IntKind} {p:Int} (hx:a.eval x = .int k p):Yields P o a w (.int k (k.wrap (0-p))):=by simp [Yields,execOp,ho,hx,Op.unary,Op.intArith]
theorem Kk {t:TypeId} {x:Operand} (ho:o.op = .unOp .xor t x) {k:IntKind} {p:Int} (hx:a.eval x = .int k p):Yields P o a w (.int k (sW .xor k (if k.signed then -1 else k.max) p)):=by simp [Yields,execOp,ho,hx,Op.unary,Op.intBits,sW]
theorem Mp {s t:TypeId} {x:Operand} (ho:o.op = .convert s t x) {ks k k':IntKind} (hs:P.underlying s=some (.int ks)) (ht:P.underlying t=some (.int k)) {p:Int} (hx:a.eval x = .int k' p) :
  Yields P o a w (.int k (k.wrap p)):=by
 simp [Yields,execOp,ho,hx,convert,run_underlying hs,run_underlying ht,Conv.intToInt]
theorem W4 {t:TypeId} {x:Operand} {i:Nat} (ho:o.op = .fieldAddr t x i) {fs:Array Field} {f:Field} (ht:P.underlying t=some (.struct fs)) (hf:fs[i]?=some f) {inf:TypeInfo} (hi:P.info? f.type=some inf) (hs:0<inf.size)
  {b off:Nat} (hx:a.eval x = .pointer (some ⟨b,off,none⟩)):Yields P o a w (.pointer (some ⟨b,off+f.offset,none⟩)):=by
 have h0:inf.size≠0:=by omega
 simp [Yields,execOp,ho,hx,Instr.fieldAt,run_underlying ht,hf,Instr.sureAddr,fieldPlace,sizeOf,typeInfo,hi,h0,Addr.add_lit]
theorem cV {t e:TypeId} {x y:Operand} (ho:o.op = .indexAddr t x y) {n:Nat} (ht:P.underlying t=some (.array n e)) {inf:TypeInfo} (hi:P.info? e=some inf) {b off:Nat} {k:IntKind} {p:Int}
  (hx:a.eval x = .pointer (some ⟨b,off,none⟩)) (hy:a.eval y = .int k p) (h0:0<=p) (h1:p<n):Yields P o a w (.pointer (some ⟨b,off+p.toNat*inf.size,none⟩)):=by
 simp [Yields,execOp,ho,hx,hy,Instr.indexAt,asIntOf,Instr.sureAddr,run_underlying ht,sizeOf,typeInfo,hi,h0,h1,Addr.add_lit]
theorem jI {t e:TypeId} {x y:Operand} (ho:o.op = .indexAddr t x y) (ht:P.underlying t=some (.slice e)) {inf:TypeInfo} (hi:P.info? e=some inf) {b off len cap:Nat} {k:IntKind} {p:Int}
  (hx:a.eval x = .slice (some ⟨b,off,none⟩) len cap) (hy:a.eval y = .int k p) (h0:0<=p) (h1:p<len):Yields P o a w (.pointer (some ⟨b,off+p.toNat*inf.size,none⟩)):=by
 simp [Yields,execOp,ho,hx,hy,Instr.indexAt,asIntOf,run_underlying ht,sizeOf,typeInfo,hi,h0,h1,Addr.add_lit]
theorem jj {t e ty:TypeId} {x:Operand} {ts:Array TypeId} (ho:o.op = .call { callee:=.builtin .len,args:=#[x],argTypes:=#[t] }) (ht:P.underlying t=some (.slice e)) {ad:Option Addr} {len cap:Nat}
  (hx:a.eval x = .slice ad len cap):Yields P o a w (.int .i64 len):=by
 simp [Yields,execOp,ho,hx,resolve,invoke,builtin,Builtin.len_,run_underlying ht,goInt]
theorem Kn {ts:Array TypeId} {x y:Operand} (ho:o.op = .call { callee:=.builtin .min,args:=#[x,y],argTypes:=ts }) {k k':IntKind} {p q:Int} (hx:a.eval x = .int k p) (hy:a.eval y = .int k' q) :
  Yields P o a w (.int k (if q<p then q else p)):=by
 simp [Yields,execOp,ho,hx,hy,resolve,invoke,builtin,Builtin.min_,Builtin.min2]
theorem Km {ts:Array TypeId} {x y:Operand} (ho:o.op = .call { callee:=.builtin .max,args:=#[x,y],argTypes:=ts }) {k k':IntKind} {p q:Int} (hx:a.eval x = .int k p) (hy:a.eval y = .int k' q) :
  Yields P o a w (.int k (if q > p then q else p)):=by
 simp [Yields,execOp,ho,hx,hy,resolve,invoke,builtin,Builtin.max_,Builtin.max2]
theorem xa {P:Program} {t:TypeId} {d:D} (h:zq P t=some d):∃ k e q i z,P.underlying t=some (.map k e)/\ P.underlying k=some (.int q)/\ P.info? e=some i/\i.zero=some z/\D.ofValue z=some d:=by
 unfold zq at h
 split at h
 ·rename_i k e ht
  split at h
  ·rename_i q hk;simp only [μ,κ] at h;obtain⟨i,hi,z,hz,hd⟩:=h;exact⟨k,e,q,i,z,ht,hk,hi,hz,hd⟩
  ·simp at h
 ·simp at h
theorem Mq {x:Operand} {i:Nat} (ho:o.op = .extract x i) {vs:Array Value} (hx:a.eval x = .tuple vs) (hi:i<vs.size):Yields P o a w (vs.getD i undef):=by simp [Yields,execOp,ho,hx,Instr.extract,hi]
theorem Ko {f:FuncId} {caps:Array Operand} (ho:o.op = .makeFunc (.func f) #[] caps):Yields P o a w (.func (.func f) #[] (caps.map a.eval)):=by simp [Yields,execOp,ho,Instr.makeFunc]
theorem ab {t:TypeId} {x:Operand} (ho:o.op = .load t x) {td:TypeDesc} (ht:P.underlying t=some td) (hag:oX P t=some false) {ad:Addr} {v:Value} (hx:a.eval x = .pointer (some ad)) (hc:w.cell? ad=some v) :
  Yields P o a w v:=by
 cases td <;> simp [oX,ht] at hag <;> simp [Yields,execOp,ho,hx,Instr.loadAt,Instr.sureAddr,loadVar,isAgg,run_underlying ht,load,Sem.run,hc]
theorem ae {t:TypeId} {x:Operand} (ho:o.op = .load t x) {td:TypeDesc} (ht:P.underlying t=some td) (hag:oX P t=some true) {inf:TypeInfo} (hi:P.info? t=some inf) {ad:Addr} {vs:List Value} (hl:vs.length=inf.size)
  (hx:a.eval x = .pointer (some ad)) (hc:∀ j v,vs[j]?=some v->w.cell? (ad.add j)= some v):Yields P o a w (.agg vs.toArray):=by
 have hr:=run_loadCells_list (P:=P) w ad vs hc;rw [hl] at hr;cases td <;> simp [oX,ht] at hag <;> simp [Yields,execOp,ho,hx,Instr.loadAt,Instr.sureAddr,loadVar,isAgg,run_underlying ht,sizeOf,typeInfo,hi,hr]
end
end Go.Pd

/- Part K1. -/
namespace Go.Pd
open Go
def sN (ks:List Int):Value:=.agg (ks.map (Value.int .i64)).toArray
section
variable {P : Program} {w : World}
theorem fh {f:Field} {fs:List Field} {o:Nat} (h:vk P (f :: fs) o=true):f.name ≠ "_"/\f.offset=o/\P.underlying f.type=some (.int .i64)/\ vk P fs (o+1)= true:=by
 unfold vk at h;simp only [Bool.and_eq_true,bne_iff_ne,beq_iff_eq] at h;obtain⟨⟨⟨h1,h2⟩,h3⟩,h4⟩:=h;refine⟨h1,h2,?_,h4⟩
 split at h3
 ·assumption
 ·cases h3
theorem gK {t:TypeId} {ks:List Int} {o:Nat} (ht:P.underlying t=some (.int .i64)) (h:o<ks.length):(part t (ks.map (Value.int .i64)).toArray o).run P w = .ok (.int .i64 (ks.getD o 0)) w:=by
 have e:((ks.map (Value.int .i64)).toArray)[o]?=some (.int .i64 (ks.getD o 0)):=by simp [List.getD,h]
 simp [part,isAgg,run_underlying ht,e]
theorem kJ {xs ys:List Int} (d:Nat):∀ (fs:List Field) (o:Nat),vk P fs o=true->xs.length=o+fs.length->ys.length=o+fs.length ->
  (Op.eqFields (d+1) (xs.map (Value.int .i64)).toArray (ys.map (Value.int .i64)).toArray fs).run P w = .ok (decide (xs.drop o=ys.drop o)) w
 | [],o,_,hx,hy=>by rw [θ (by rw [hx]; simp),θ (by rw [hy]; simp)];simp [Op.eqFields]
 | f :: fs,o,h,hx,hy=>by
  obtain⟨h1,h2,h3,h4⟩:=fh h;simp only [ζ] at hx hy;have ih:=kJ (xs:=xs) (ys:=ys) d fs (o+1) h4 (by omega) (by omega);have ex:xs.drop o=xs.getD o 0 :: xs.drop (o+1):=by simp [List.getD,show o<xs.length by omega]
  have ey:ys.drop o=ys.getD o 0 :: ys.drop (o+1):=by simp [List.getD,show o<ys.length by omega]
  subst h2;simp only [Op.eqFields,ne_eq,h1,not_false_eq_true,if_true,Sem.run_bind,gK h3 (show f.offset<xs.length by omega),gK h3 (show f.offset<ys.length by omega),Result.andThen_ok,run_equalIn_int w d f.type .i64 .i64 _ _ h3];rw [ex,ey]
  by_cases e:xs.getD f.offset 0=ys.getD f.offset 0
  ·have e1:(xs.getD f.offset 0==ys.getD f.offset 0)= true:=by simpa using e
   rw [e1];simp only [Bool.not_true,Bool.false_eq_true,if_false,List.cons.injEq,e,true_and];exact ih
  ·have e1:(xs.getD f.offset 0==ys.getD f.offset 0)= false:=by simpa using e
   rw [e1];simp only [Bool.not_false,if_true,Sem.run_pure,List.cons.injEq,e,false_and,decide_false]
theorem ph {t:TypeId} {n:Nat} (h:fK P t=some n):∃ fs,P.underlying t=some (.struct fs)/\ vk P fs.toList 0=true/\P.stoodInHeld t=false/\fs.size=n:=by
 unfold fK at h
 split at h
 ·rename_i fs hu
  split at h
  ·rename_i hc;simp only [Bool.and_eq_true,Bool.not_eq_true'] at hc;simp at h;exact⟨fs,hu,hc.1,hc.2,h⟩
  ·cases h
 ·cases h
theorem bP {t:TypeId} {n:Nat} (h:fK P t=some n) {xs ys:List Int} (hx:xs.length=n) (hy:ys.length=n):(Op.equal t (sN xs) (sN ys)).run P w = .ok (decide (xs=ys)) w:=by
 obtain⟨fs,h1,h2,h3,h4⟩:=ph h;have hf:P.fieldsOf t=fs:=by unfold Program.fieldsOf; rw [h1]
 have e:=run_equalIn_struct w 9999 t (xs.map (Value.int .i64)).toArray (ys.map (Value.int .i64)).toArray (by rw [hf]; exact h1) h3;have e2:=kJ (P:=P) (w:=w) (xs:=xs) (ys:=ys) 9998 fs.toList 0 h2 (by simp; omega) (by simp; omega);rw [hf] at e;unfold Op.equal sN;rw [show Op.maxDepth=9999+1 from rfl,e,e2];simp
theorem ig {α:Type} {body:α->PUnit->Sem (ForInStep PUnit)}:∀ {l:List α},(∀ f ∈ l,(body f PUnit.unit).run P w = .ok (.yield PUnit.unit) w)->(forIn l PUnit.unit body).run P w = .ok PUnit.unit w
 | [],_=>by simp
 | f :: l,h=>by simp only [List.forIn_cons,Sem.run_bind,h f (by simp),Result.andThen_ok];exact ig λf hf=>h f (by simp [hf])
theorem Tw {fs:List Field}:∀ {o:Nat},vk P fs o=true->∀ f ∈ fs,f.name ≠ "_"/\P.underlying f.type=some (.int .i64)/\ f.offset<o+fs.length:=by
 induction fs with
 | nil=>intro o _ f hf; cases hf
 | cons g fs ih=>
  intro o h f hf;obtain⟨h1,h2,h3,h4⟩:=fh h
  rcases List.mem_cons.1 hf with rfl | hf
  ·exact⟨h1,h3,by rw [h2,ζ]; omega⟩
  ·obtain⟨a,b,c⟩:=ih h4 f hf;exact⟨a,b,by rw [ζ]; omega⟩
theorem vr {t:TypeId} {n:Nat} (h:fK P t=some n) (b:Bool) (m:Nat) {xs:List Int} (hx:xs.length=n):(Instr.checkKey b (m+2) t (sN xs)).run P w = .ok () w:=by
 obtain⟨fs,h1,h2,h3,h4⟩:=ph h;unfold sN;simp only [Instr.checkKey,Sem.run_bind,run_underlying h1,Result.andThen_ok];rw [<- Array.forIn_toList]
 refine(congrArg (λr=>Result.andThen r _) (ig (l:=fs.toList) λf hf=>?_)).trans ?_
 ·obtain⟨g1,g2,g3⟩:=Tw h2 f hf;simp only [ne_eq,g1,not_false_eq_true,if_true,Sem.run_bind,gK g2 (show f.offset<xs.length by rw [hx,<- h4]; simpa using g3),Result.andThen_ok,run_underlying g2,Sem.run_pure]
 ·simp
def pP (x:List Int):List (List Int × Value)->Nat->Option (Nat × Value)
 | [],_=>none
 | (k,v) :: r,i=>if x=k then some (i,v) else pP x r (i+1)
def yK : List (List Int × Value)->Nat->List MapEntry
 | [],_=>[]
 | (k,v) :: r,i=>⟨sN k,v,i⟩ :: yK r (i+1)
theorem lF {t:TypeId} {n:Nat} (h:fK P t=some n) {x:List Int} (hx:x.length=n):∀ (l:List (List Int × Value)) (i j:Nat),(∀ p ∈ l,p.1.length=n)->(Instr.findAsking t (sN x) (yK l j) i).run P w = .ok (pP x l i) w
 | [],i,j,_=>by simp [yK,Instr.findAsking,pP]
 | (k,v) :: r,i,j,hl=>by
  have he:=bP (w:=w) h hx (hl (k,v) (by simp));have ih:=lF h hx r (i+1) (j+1) λp hp=>hl p (by simp [hp]);simp only [yK,Instr.findAsking,pP,Sem.run_bind,he,Result.andThen_ok]
  by_cases e:x=k
  ·rw [decide_eq_true e,if_pos e]; simp
  ·rw [decide_eq_false e,if_neg e]; simpa using ih
theorem mY {t:TypeId} {n:Nat} (h:fK P t=some n) {x:List Int} (hx:x.length=n) (l:List (List Int × Value)) (hl:∀ p ∈ l,p.1.length=n):(Instr.findKey t (sN x) (yK l 0)).run P w = .ok (pP x l 0) w:=by
 obtain⟨fs,h1,h2,h3,h4⟩:=ph h;unfold Instr.findKey;simp only [Sem.run_bind,run_underlying h1,Result.andThen_ok]
 cases l with
 | nil=>simp [yK,Instr.findNow,pP]
 | cons p r=> have:=lF (w:=w) h hx (p :: r) 0 0 hl;obtain⟨k,v⟩:=p;rw [show Instr.findNow (.struct fs) (sN x) (yK ((k,v) :: r) 0) 0=none from rfl];exact this
theorem nV {t:TypeId} {n:Nat} (h:fK P t=some n) (b:Bool) {x:List Int} (hx:x.length=n):(Instr.checkKey b 10000 t (sN x)).run P w = .ok () w:=vr h b 9998 hx
theorem lh {t kt et:TypeId} {n:Nat} (ht:P.underlying t=some (.map kt et)) (h:fK P kt=some n) {inf:TypeInfo} {z:Value} (hi:P.info? et=some inf) (hz:inf.zero=some z) {x:List Int} (hx:x.length=n) {b clock:Nat} {l:List (List Int × Value)} (hl:∀ p ∈ l,p.1.length=n)
  (hb:w.heap[b]?=some (.map (yK l 0).toArray clock)) (ok:Bool) :
  (Instr.lookup t (.map (some b)) (sN x) ok).run P w = .ok (if ok then .tuple #[((pP x l 0).map (·.2)).getD z,.bool (pP x l 0).isSome] else((pP x l 0).map (·.2)).getD z) w:=by
 have hg:(getObj b).run P w = .ok (.map (yK l 0).toArray clock) w:=by simp [getObj,Sem.run,hb]
 have hc:=nV (w:=w) h (yK l 0).isEmpty hx;have hf:=mY (w:=w) h hx l hl
 cases hr:pP x l 0 with
 | none=>rw [hr] at hf; cases ok <;> simp [Instr.lookup,run_underlying ht,hg,hc,hf,zeroValue,typeInfo,hi,hz]
 | some p=>rw [hr] at hf; cases ok <;> simp [Instr.lookup,run_underlying ht,hg,hc,hf]
theorem oB (l:List (List Int × Value)):∀ i,(yK l i).length=l.length:=by
 induction l with
 | nil=>intro i; rfl
 | cons p r ih=>intro i; obtain⟨k,v⟩:=p; simp [yK,ih]
theorem aQ (k:List Int) (v:Value):∀ (l:List (List Int × Value)) (i:Nat),yK (l ++ [(k,v)]) i=yK l i ++ [⟨sN k,v,i+l.length⟩]
 | [],i=>rfl
 | (k',v') :: r,i=>by show _ :: yK (r ++ [(k,v)]) (i+1)= _;rw [aQ k v r (i+1)];simp [yK,Nat.add_assoc,Nat.add_comm 1]
theorem pj {t:TypeId} {n:Nat} {d:D} (h:j5 P t=some (n,d)):∃ k e i z,P.underlying t=some (.map k e)/\ fK P k=some n/\P.info? e=some i/\i.zero=some z/\D.ofValue z=some d:=by
 unfold j5 at h
 split at h
 ·rename_i k e ht;simp only [zO,Prod.mk.injEq] at h;obtain⟨m,h1,i,h2,z,h3,d',h4,rfl,rfl⟩:=h;exact⟨k,e,i,z,ht,h1,h2,h3,h4⟩
 ·cases h
end
def tF (Rel:Value->D->Prop):List (List Int × Value)->List (List Int × D)->Prop
 | [],[]=>True
 | (k,v) :: r,(k',d) :: r'=>k=k'/\Rel (sN k) (.agg (k.map (D.int .i64)))/\ Rel v d/\tF Rel r r'
 | _,_=>False
theorem tF.len {Rel:Value->D->Prop}:∀ {a:List (List Int × Value)} {b:List (List Int × D)},tF Rel a b->a.length=b.length
 | [],[],_=>rfl
 | (k,v) :: r,(k',d) :: r',h=>by simp [tF.len h.2.2.2]
theorem tF.all {Rel:Value->D->Prop} {n:Nat}:∀ {a:List (List Int × Value)} {b:List (List Int × D)},tF Rel a b->(∀ p ∈ b,p.1.length=n)->∀ p ∈ a,p.1.length=n
 | [],[],_,_,p,hp=>by cases hp
 | (k,v) :: r,(k',d) :: r',h,hb,p,hp=>by
  rcases List.mem_cons.1 hp with rfl | hp
  ·have:=hb (k',d) (by simp);rw [h.1]; exact this
  ·exact tF.all h.2.2.2 (λp hp=>hb p (by simp [hp])) p hp
theorem tF.find {Rel:Value->D->Prop} (x:List Int):∀ {a:List (List Int × Value)} {b:List (List Int × D)} (i:Nat),tF Rel a b->(pP x a i=none/\lS x b i=none)\/∃ j v d,pP x a i=some (j,v)/\ lS x b i=some (j,d)/\ Rel v d
 | [],[],i,_=>.inl ⟨rfl,rfl⟩
 | (k,v) :: r,(k',d) :: r',i,h=>by
  obtain⟨rfl,_,h2,h3⟩:=h;unfold pP lS
  by_cases e:x=k
  ·rw [if_pos e,if_pos e]; exact .inr ⟨i,v,d,rfl,rfl,h2⟩
  ·rw [if_neg e,if_neg e]; exact tF.find x (i+1) h3
theorem tF.snoc {Rel:Value->D->Prop} {x:List Int} {v:Value} {d:D} (hk:Rel (sN x) (.agg (x.map (D.int .i64)))) (hr:Rel v d):∀ {a:List (List Int × Value)} {b:List (List Int × D)},tF Rel a b->tF Rel (a ++ [(x,v)]) (b ++ [(x,d)])
 | [],[],_=>⟨rfl,hk,hr,trivial⟩
 | (k,v') :: r,(k',d') :: r',h=>⟨h.1,h.2.1,h.2.2.1,tF.snoc hk hr h.2.2.2⟩
theorem tF.of {Rel:Value->D->Prop} (hR:∀ v ks,Rel v (.agg (ks.map (D.int .i64)))->v=sN ks):∀ {es:List MapEntry} {l:List (List Int × D)} {i0:Nat},es.length=l.length ->
  (∀ i,i<l.length->∃ (kv v:Value) (x d:D),(rD l).getD i [] = [x,d]/\es[i]?=some ⟨kv,v,i0+i⟩/\ Rel kv x/\Rel v d)->∃ lv,es=yK lv i0/\tF Rel lv l
 | [],[],_,_,_=>⟨[],rfl,trivial⟩
 | e :: es,(ks,d0) :: r,i0,hl,h=>by
  obtain⟨kv,v,x,d,h1,h2,h3,h4⟩:=h 0 (by simp);have h1':[D.agg (ks.map (D.int .i64)),d0] = [x,d]:=h1;simp only [List.cons.injEq,and_true] at h1';obtain⟨rfl,rfl⟩:=h1';have hk:=hR _ _ h3;simp only [List.getElem?_cons_zero,Option.some.injEq,Nat.add_zero] at h2
  obtain⟨lv,e1,e2⟩:=tF.of hR (es:=es) (l:=r) (i0:=i0+1) (by simpa using hl) λi hi=>by
   obtain⟨kv,v,x,d,g1,g2,g3,g4⟩:=h (i+1) (by simpa using hi);refine⟨kv,v,x,d,g1,?_,g3,g4⟩;have:i0+(i+1)= i0+1+i:=by omega
   rw [<- this]; simpa using g2
  exact⟨(ks,v) :: lv,by rw [h2,hk,e1]; rfl,rfl,by rw [<- hk]; exact h3,h4,e2⟩
theorem jC (l:List (List Int × D)):(rD l).length=l.length:=by simp [rD]
theorem tF.get {Rel:Value->D->Prop}:∀ {lv:List (List Int × Value)} {l:List (List Int × D)} {i0:Nat},tF Rel lv l->∀ i,i<l.length->∃ (ks:List Int) (v:Value) (d:D),(rD l).getD i [] = [.agg (ks.map (D.int .i64)),d]/\(yK lv i0)[i]?=some ⟨sN ks,v,i0+i⟩/\ Rel v d/\Rel (sN ks) (.agg (ks.map (D.int .i64)))
 | [],[],_,_,i,hi=>by simp at hi
 | (k,v) :: r,(k',d) :: r',i0,h,i,hi=>by
  obtain⟨rfl,h1,h2,h3⟩:=h
  cases i with
  | zero=>exact⟨k,v,d,rfl,rfl,h2,h1⟩
  | succ i=>
   obtain⟨ks,v',d',g1,g2,g3,g4⟩:=tF.get (i0:=i0+1) h3 i (by simpa using hi);refine⟨ks,v',d',g1,?_,g3,g4⟩;have:i0+(i+1)= i0+1+i:=by omega
   rw [this]; simpa [yK] using g2
end Go.Pd
