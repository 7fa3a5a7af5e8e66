/-
  PURE DATA, part A: values as data, the relation of a Go value in a world to a datum, and how it is kept when the world grows. Over any program.
-/
import Derived.Orders
import Derived.Below
import Derived.Laws.AppendOwn
import Derived.Laws.World
import Derived.WalkKit
namespace Go.Pd
open Go

/-- A value as data. 'sl': a slice that is never written (its elements as rows of cells); 'osl': a slice over an object of one's own; 'ref': a pointer into such an object; 'ptr': a pointer to cells that are never written. -/
inductive D where
  | top
  | und
  | int (k : IntKind) (n : Int)
  | bool (b : Bool)
  | str (s : ByteArray)
  | sl (sz : Nat) (els : List (List D))
  | nils
  | emp
  | agg (cs : List D)
  | tup (vs : List D)
  | fn (f : FuncId) (caps : List D)
  | ref (key sz i off : Nat)
  | osl (key sz len : Nat)
  | ptr (cs : List D)
  | mref (key : Nat)
  | nilp
  | nilm
  | nilf
  deriving Inhabited

/-- An object of one's own: rows of cells. -/
structure Ob where
  sz : Nat
  els : List (List D)
  deriving Inhabited

structure St where
  nx : Nat
  objs : List (Nat × Ob)

def St.look : List (Nat × Ob) → Nat → Option Ob
  | [], _ => none
  | (j, o) :: r, k => if j = k then some o else St.look r k
def St.get (σ : St) (k : Nat) : Option Ob := St.look σ.objs k

abbrev Fr := List (Nat × D)
def Fr.get : Fr → Nat → D
  | [], _ => .top
  | (t, d) :: r, s => if t = s then d else Fr.get r s

/-! ### The relation -/
inductive RP (M : Nat → Prop) (w : World) : Value → D → Prop
  | top (v : Value) : RP M w v .top
  | und : RP M w undef .und
  | int {k : IntKind} {n : Int} (h : k.min ≤ n ∧ n ≤ k.max) : RP M w (.int k n) (.int k n)
  | bool (b : Bool) : RP M w (.bool b) (.bool b)
  | str {s : ByteArray} (h : s.size ≤ maxLen) : RP M w (.string s) (.str s)
  | sl0 (a : Option Addr) (cap sz : Nat) (h : a = none → cap = 0) : RP M w (.slice a 0 cap) (.sl sz [])
  | emp (a : Addr) (cap : Nat) : RP M w (.slice (some a) 0 cap) .emp
  | sl {b off cap sz : Nat} {els : List (List D)} (vs : Nat → Nat → Value) (hs : 0 < sz) (hM : ¬ M b) (hc : els.length ≤ cap) (hm : cap ≤ maxLen) (hl : ∀ e ∈ els, e.length = sz)
      (hcell : ∀ i, i < els.length → ∀ j, j < sz → w.cell? ⟨b, off + i * sz + j, none⟩ = some (vs i j))
      (hr : ∀ i, i < els.length → ∀ j, j < sz → RP M w (vs i j) ((els.getD i []).getD j .top)) : RP M w (.slice (some ⟨b, off, none⟩) els.length cap) (.sl sz els)
  | nils : RP M w (.slice none 0 0) .nils
  | ptr {b off : Nat} {cs : List D} (vs : Nat → Value) (hs : 0 < cs.length) (hM : ¬ M b) (hcell : ∀ j, j < cs.length → w.cell? ⟨b, off + j, none⟩ = some (vs j))
      (hr : ∀ j, j < cs.length → RP M w (vs j) (cs.getD j .top)) : RP M w (.pointer (some ⟨b, off, none⟩)) (.ptr cs)
  | agg {vs : Array Value} {cs : List D} (hl : vs.size = cs.length) (hr : ∀ j, j < cs.length → RP M w (vs.getD j undef) (cs.getD j .top)) : RP M w (.agg vs) (.agg cs)
  | tup {vs : Array Value} {cs : List D} (hl : vs.size = cs.length) (hr : ∀ j, j < cs.length → RP M w (vs.getD j undef) (cs.getD j .top)) : RP M w (.tuple vs) (.tup cs)
  | fn {f : FuncId} {vs : Array Value} {cs : List D} (hl : vs.size = cs.length) (hr : ∀ j, j < cs.length → RP M w (vs.getD j undef) (cs.getD j .top)) : RP M w (.func (.func f) #[] vs) (.fn f cs)
  | nilp : RP M w (.pointer none) .nilp
  | nilm : RP M w (.map none) .nilm
  | nilf : RP M w .nilFunc .nilf

inductive R (M : Nat → Prop) (w : World) (ι : Nat → Nat) (n : Nat) : Value → D → Prop
  | pure {v : Value} {d : D} (h : RP M w v d) : R M w ι n v d
  | ref {key sz i off : Nat} (hk : key < n) : R M w ι n (.pointer (some ⟨ι key, i * sz + off, none⟩)) (.ref key sz i off)
  | osl {key sz len cap : Nat} {cur : Array Value} {e : TypeId} (hk : key < n) (h1 : len ≤ cap) (h2 : cap ≤ maxLen) (h3 : w.heap[ι key]? = some (Obj.cells cur e (0, 0))) (h4 : cap * sz = cur.size) :
      R M w ι n (.slice (some ⟨ι key, 0, none⟩) len cap) (.osl key sz len)
  | mref {key : Nat} (hk : key < n) : R M w ι n (.map (some (ι key))) (.mref key)
  | agg {vs : Array Value} {cs : List D} (hl : vs.size = cs.length) (hr : ∀ j, j < cs.length → R M w ι n (vs.getD j undef) (cs.getD j .top)) : R M w ι n (.agg vs) (.agg cs)
  | tup {vs : Array Value} {cs : List D} (hl : vs.size = cs.length) (hr : ∀ j, j < cs.length → R M w ι n (vs.getD j undef) (cs.getD j .top)) : R M w ι n (.tuple vs) (.tup cs)
  | fn {f : FuncId} {vs : Array Value} {cs : List D} (hl : vs.size = cs.length) (hr : ∀ j, j < cs.length → R M w ι n (vs.getD j undef) (cs.getD j .top)) : R M w ι n (.func (.func f) #[] vs) (.fn f cs)

theorem R.top {M : Nat → Prop} {w : World} {ι : Nat → Nat} {n : Nat} (v : Value) : R M w ι n v .top := .pure (.top v)

/-- 'w'' keeps what is outside M, the streams; no block of cells changes its size. -/
structure Kept (w w' : World) (K : Nat → Prop) : Prop where
  os : w'.os = w.os
  tape : w'.tape = w.tape
  output : w'.output = w.output
  size : w.heap.size ≤ w'.heap.size
  block : ∀ b, b < w.heap.size → ¬ K b → w'.heap[b]? = w.heap[b]?
  shape : ∀ (b : Nat) (cur : Array Value) (e : TypeId), w.heap[b]? = some (Obj.cells cur e (0, 0)) → ∃ cur' : Array Value, w'.heap[b]? = some (Obj.cells cur' e (0, 0)) ∧ cur'.size = cur.size

theorem Kept.refl (w : World) (K : Nat → Prop) : Kept w w K := ⟨rfl, rfl, rfl, Nat.le_refl _, fun _ _ _ => rfl, fun _ cur _ h => ⟨cur, h, rfl⟩⟩
theorem Kept.mono {w w' : World} {K K' : Nat → Prop} (h : Kept w w' K) (hk : ∀ b, b < w.heap.size → K b → K' b) : Kept w w' K' :=
  ⟨h.os, h.tape, h.output, h.size, fun b hb hn => h.block b hb fun hK => hn (hk b hb hK), h.shape⟩
theorem Kept.trans {w w' w'' : World} {K K' K'' : Nat → Prop} (h : Kept w w' K) (h' : Kept w' w'' K') (h1 : ∀ b, b < w.heap.size → K b → K'' b) (h2 : ∀ b, b < w.heap.size → K' b → K'' b) : Kept w w'' K'' :=
  ⟨h'.os.trans h.os, h'.tape.trans h.tape, h'.output.trans h.output, Nat.le_trans h.size h'.size,
    fun b hb hn => (h'.block b (Nat.lt_of_lt_of_le hb h.size) fun hk => hn (h2 b hb hk)).trans (h.block b hb fun hk => hn (h1 b hb hk)),
    fun b cur e hc => let ⟨c1, e1, s1⟩ := h.shape b cur e hc; let ⟨c2, e2, s2⟩ := h'.shape b c1 e e1; ⟨c2, e2, s2.trans s1⟩⟩
theorem Kept.below {w w' : World} (h : Kept w w' fun _ => False) : RowKit.Below w.heap.size w w' := ⟨h.os, h.tape, h.output, h.size, fun k hk => h.block k hk id⟩

theorem Kept.alloc (w : World) (o : Obj) (K : Nat → Prop) : Kept w (w.alloc o) K :=
  ⟨rfl, rfl, rfl, by show w.heap.size ≤ (w.heap.push o).size; simp, fun b hb _ => heap_alloc_old w o hb,
    fun b cur e h => ⟨cur, by rw [heap_alloc_old w o (Array.getElem?_eq_some_iff.1 h).1]; exact h, rfl⟩⟩
theorem Kept.drew {w w' : World} {K : Nat → Prop} (h : Kept w w' K) : Kept w w'.drew K := ⟨h.os, h.tape, h.output, h.size, h.block, h.shape⟩

theorem cell_lt {w : World} {a : Addr} {v : Value} (h : w.cell? a = some v) : a.block < w.heap.size := World.block_lt_of_cell? w a h

theorem RP.keep {M M' : Nat → Prop} {w w' : World} (hb : ∀ b, b < w.heap.size → ¬ M b → w'.heap[b]? = w.heap[b]?) (hM : ∀ b, b < w.heap.size → M' b → M b) {v : Value} {d : D} (h : RP M w v d) : RP M' w' v d := by
  induction h with
  | top v => exact .top v
  | und => exact .und
  | int h => exact .int h
  | bool b => exact .bool b
  | str h => exact .str h
  | sl0 a cap sz h => exact .sl0 a cap sz h
  | emp a cap => exact .emp a cap
  | @sl b off cap sz els vs hs hMb hc hm hl hcell hr ih =>
    rcases Nat.eq_zero_or_pos els.length with h0 | h0
    · have : els = [] := List.eq_nil_of_length_eq_zero h0
      subst this
      exact .sl0 _ _ _ (by simp)
    · have hlt : b < w.heap.size := cell_lt (hcell 0 h0 0 hs)
      refine .sl vs hs (fun hm' => hMb (hM b hlt hm')) hc hm hl (fun i hi j hj => ?_) ih
      rw [World.cell?_of_block (w := w) (hb b hlt hMb)]
      exact hcell i hi j hj
  | nils => exact .nils
  | @ptr b off cs vs hs hMb hcell hr ih =>
    have hlt : b < w.heap.size := cell_lt (hcell 0 hs)
    refine .ptr vs hs (fun hm' => hMb (hM b hlt hm')) (fun j hj => ?_) ih
    rw [World.cell?_of_block (w := w) (hb b hlt hMb)]
    exact hcell j hj
  | agg hl hr ih => exact .agg hl ih
  | tup hl hr ih => exact .tup hl ih
  | fn hl hr ih => exact .fn hl ih
  | nilp => exact .nilp
  | nilm => exact .nilm
  | nilf => exact .nilf

theorem R.keep {M M' : Nat → Prop} {w w' : World} {ι ι' : Nat → Nat} {n n' : Nat} (hb : ∀ b, b < w.heap.size → ¬ M b → w'.heap[b]? = w.heap[b]?) (hM : ∀ b, b < w.heap.size → M' b → M b)
    (hs : ∀ (b : Nat) (cur : Array Value) (e : TypeId), w.heap[b]? = some (Obj.cells cur e (0, 0)) → ∃ cur' : Array Value, w'.heap[b]? = some (Obj.cells cur' e (0, 0)) ∧ cur'.size = cur.size)
    (hi : ∀ k, k < n → ι' k = ι k) (hn : n ≤ n') {v : Value} {d : D} (h : R M w ι n v d) : R M' w' ι' n' v d := by
  induction h with
  | pure h => exact .pure (h.keep hb hM)
  | ref hk => rw [← hi _ hk]; exact .ref (Nat.lt_of_lt_of_le hk hn)
  | @osl key sz len cap cur e hk h1 h2 h3 h4 =>
    obtain ⟨cur', h5, h6⟩ := hs _ _ _ h3
    rw [← hi _ hk] at h5 ⊢
    exact .osl (Nat.lt_of_lt_of_le hk hn) h1 h2 h5 (h4.trans h6.symm)
  | mref hk => rw [← hi _ hk]; exact .mref (Nat.lt_of_lt_of_le hk hn)
  | agg hl hr ih => exact .agg hl ih
  | tup hl hr ih => exact .tup hl ih
  | fn hl hr ih => exact .fn hl ih

/-! ### The state of one's own objects -/
/-- The blocks that a state may write, and those of whoever called. -/
def Mof (M0 : Nat → Prop) (ι : Nat → Nat) (σ : St) (b : Nat) : Prop := M0 b ∨ ∃ k o, σ.get k = some o ∧ ι k = b

def HoldsO (M : Nat → Prop) (w : World) (ι : Nat → Nat) (n key : Nat) (o : Ob) : Prop :=
  ∃ (cur : Array Value) (e : TypeId), w.heap[ι key]? = some (Obj.cells cur e (0, 0)) ∧ (∀ el ∈ o.els, el.length = o.sz) ∧ o.els.length * o.sz ≤ cur.size ∧
    ∀ i, i < o.els.length → ∀ j, j < o.sz → (cur.getD (i * o.sz + j) undef).oneCell' = true ∧ R M w ι n (cur.getD (i * o.sz + j) undef) ((o.els.getD i []).getD j .top)

structure Sim (w0 : World) (M0 K0 : Nat → Prop) (w : World) (σ : St) (ι : Nat → Nat) : Prop where
  kept : Kept w0 w K0
  old : ∀ b, M0 b → b < w0.heap.size
  holds : ∀ k o, σ.get k = some o → k < σ.nx ∧ HoldsO (Mof M0 ι σ) w ι σ.nx k o
  inj : ∀ k k' o o', σ.get k = some o → σ.get k' = some o' → ι k = ι k' → k = k'
  notM : ∀ k o, σ.get k = some o → ¬ M0 (ι k)
  mine : ∀ k o, σ.get k = some o → w0.heap.size ≤ ι k ∨ K0 (ι k)

/-- A frame's slots. -/
def FrR (M : Nat → Prop) (w : World) (ι : Nat → Nat) (n : Nat) (tmps : Array Value) (f : Fr) : Prop := ∀ t, R M w ι n (tmps.getD t undef) (f.get t)

end Go.Pd
