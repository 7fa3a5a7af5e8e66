/-
  PURE DATA, part C: what an operation comes to over data ('pW', 'opW'), over code ('wpD'), and the triple of a call ('CallT'). Over any program.
-/
import Derived.Test.YtkinhajadppfaaaDoorPdB
namespace Go.Pd
open Go

def evO (f : Fr) : Opd → D
  | .t n => f.get n
  | .c d => d

def bitI (op : BinOp) (k : IntKind) (a b : Int) : Int :=
  match op with
  | .and => k.wrap (BitVec.ofInt k.bits a &&& BitVec.ofInt k.bits b).toNat
  | .or => k.wrap (BitVec.ofInt k.bits a ||| BitVec.ofInt k.bits b).toNat
  | .xor => k.wrap (BitVec.ofInt k.bits a ^^^ BitVec.ofInt k.bits b).toNat
  | _ => k.wrap (BitVec.ofInt k.bits a &&& ~~~BitVec.ofInt k.bits b).toNat

def shlI (k : IntKind) (a b : Int) : Int := k.wrap (a * 2 ^ (min b.toNat k.bits))
def shrI (k : IntKind) (a b : Int) : Int := a.fdiv (2 ^ (min b.toNat k.bits))

def binW (op : BinOp) (k : IntKind) (a : Int) (k' : IntKind) (b : Int) (K : D → Prop) : Prop :=
  match op with
  | .shl => 0 ≤ b ∧ K (.int k (shlI k a b))
  | .shr => 0 ≤ b ∧ K (.int k (shrI k a b))
  | .add => k = k' ∧ K (.int k (k.wrap (a + b)))
  | .sub => k = k' ∧ K (.int k (k.wrap (a - b)))
  | .mul => k = k' ∧ K (.int k (k.wrap (a * b)))
  | .quo => k = k' ∧ b ≠ 0 ∧ K (.int k (k.wrap (a.tdiv b)))
  | .rem => k = k' ∧ b ≠ 0 ∧ K (.int k (a.tmod b))
  | .and => k = k' ∧ K (.int k (bitI .and k a b))
  | .or => k = k' ∧ K (.int k (bitI .or k a b))
  | .xor => k = k' ∧ K (.int k (bitI .xor k a b))
  | .andNot => k = k' ∧ K (.int k (bitI .andNot k a b))
  | .eql => k = k' ∧ K (.bool (a == b))
  | .neq => k = k' ∧ K (.bool (a != b))
  | .lss => k = k' ∧ K (.bool (decide (a < b)))
  | .leq => k = k' ∧ K (.bool (decide (a ≤ b)))
  | .gtr => k = k' ∧ K (.bool (decide (a > b)))
  | .geq => k = k' ∧ K (.bool (decide (a ≥ b)))

/-- The own objects' blocks. -/
def Own (ι : Nat → Nat) (σ : St) (b : Nat) : Prop := ∃ k o, σ.get k = some o ∧ ι k = b

/-- Package-level tables: blocks that nobody writes, and what their cells hold. -/
class Tabs where
  tabs : List (Nat × List Value)
variable [Tabs]

def TabOK (w : World) (M : Nat → Prop) : Prop := ∀ p ∈ Tabs.tabs, p.1 < w.heap.size ∧ ¬ M p.1 ∧ ∀ j v, p.2[j]? = some v → w.cell? ⟨p.1, j, none⟩ = some v

theorem TabOK.keep {M M' : Nat → Prop} {w w' : World} (h : TabOK w M) (hs : w.heap.size ≤ w'.heap.size) (hb : ∀ b, b < w.heap.size → ¬ M b → w'.heap[b]? = w.heap[b]?) (hM : ∀ b, b < w.heap.size → M' b → M b) : TabOK w' M' := fun p hp =>
  let ⟨h1, h2, h3⟩ := h p hp
  ⟨Nat.lt_of_lt_of_le h1 hs, fun hm => h2 (hM _ h1 hm), fun j v hv => by rw [World.cell?_of_block (w := w) (hb _ h1 h2)]; exact h3 j v hv⟩

structure SimS (M0 : Nat → Prop) (w : World) (σ : St) (ι : Nat → Nat) : Prop where
  old : ∀ b, M0 b → b < w.heap.size
  holds : ∀ k o, σ.get k = some o → k < σ.nx ∧ HoldsO (Mof M0 ι σ) w ι σ.nx k o
  inj : ∀ k k' o o', σ.get k = some o → σ.get k' = some o' → ι k = ι k' → k = k'
  notM : ∀ k o, σ.get k = some o → ¬ M0 (ι k)
  tabs : TabOK w (Mof M0 ι σ)

def Ordinary (P : Program) (g : FuncId) : Prop := ∃ fn, P.funcs[g]? = some fn ∧ (fn.name == "runtime.NumGoroutine") = false ∧ fn.body.isNone = false

/-- The triple of a call: with these arguments, in a world in which the state holds, the function returns 'd' and leaves the state σ'; of old memory only the state's own objects may have turned; keys stay where they are. -/
structure CallT (P : Program) (g : FuncId) (args : List D) (σ : St) (d : D) (σ' : St) : Prop where
  ord : Ordinary P g
  run : ∀ (M0 : Nat → Prop) (w : World) (ι : Nat → Nat) (vals : Array Value), SimS M0 w σ ι → vals.size = args.length →
    (∀ j, j < args.length → R (Mof M0 ι σ) w ι σ.nx (vals.getD j undef) (args.getD j .top)) →
    Calls P g vals w fun e w' => ∃ v ι', e = .returned v ∧ Kept w w' (Own ι σ) ∧ SimS M0 w' σ' ι' ∧ σ.nx ≤ σ'.nx ∧ (∀ k, k < σ.nx → ι' k = ι k) ∧
      (∀ k o, σ'.get k = some o → w.heap.size ≤ ι' k ∨ Own ι σ (ι' k)) ∧ R (Mof M0 ι' σ') w' ι' σ'.nx v d

structure Cx where
  P : Program
  N : Nat
  n0 : Nat := 0
  own : List Nat := []

def loW : Option D → Option Int
  | none => some 0
  | some (.int _ n) => some n
  | _ => none

omit [Tabs] in
theorem ite_and {c : Prop} [Decidable c] {p q : Prop} (h : if c then p else q) : (c → p) ∧ (¬ c → q) :=
  ⟨fun hc => by rwa [if_pos hc] at h, fun hc => by rwa [if_neg hc] at h⟩
omit [Tabs] in
theorem ite_mk {c : Prop} [Decidable c] {p q : Prop} (h1 : c → p) (h2 : ¬ c → q) : if c then p else q := by
  by_cases h : c
  · rw [if_pos h]; exact h1 h
  · rw [if_neg h]; exact h2 h
omit [Tabs] in
theorem iteb {t : Bool} {p q : Prop} (h : if t = true then p else q) : (t = true → p) ∧ (t = false → q) :=
  ⟨fun hc => (ite_and h).1 hc, fun hc => (ite_and h).2 (by simp [hc])⟩

/-- A call, and what goes on behind it. -/
def callP (P : Program) (g : FuncId) (args : List D) (σ : St) (K : D → Prop) : Prop := ∃ d, CallT P g args σ d σ ∧ K d
def callW (P : Program) (g : FuncId) (args : List D) (σ : St) (K : D → St → Prop) : Prop := ∃ d σ', CallT P g args σ d σ' ∧ K d σ'

/-- A still operation: what it yields. -/
def pW (C : Cx) (σ : St) (ev : Opd → D) : DK → (D → Prop) → Prop
  | .mv x, K => K (ev x)
  | .pick c a b, K => match ev c with
    | .bool t => if t = true then K (ev a) else K (ev b)
    | _ => False
  | .bin op x y, K => match ev x, ev y with
    | .int k a, .int k' b => binW op k a k' b K
    | _, _ => False
  | .beq neg x y, K => match ev x, ev y with
    | .bool a, .bool b => K (.bool (if neg then a != b else a == b))
    | _, _ => False
  | .nileq neg x y, K => match ev x, ev y with
    | .nils, .nils => K (.bool (!neg))
    | .osl .., .nils | .nils, .osl .. => K (.bool neg)
    | .emp, .nils | .nils, .emp => K (.bool neg)
    | .sl _ (_ :: _), .nils => K (.bool neg)
    | _, _ => False
  | .nt x, K => match ev x with
    | .bool b => K (.bool (!b))
    | _ => False
  | .neg x, K => match ev x with
    | .int k a => K (.int k (k.wrap (0 - a)))
    | _ => False
  | .conv k x, K => match ev x with
    | .int _ n => K (.int k (k.wrap n))
    | _ => False
  | .fld off x, K => match ev x with
    | .ref key sz i o => K (.ref key sz i (o + off))
    | .ptr cs => off < cs.length ∧ K (.ptr (cs.drop off))
    | _ => False
  | .fval off n ag x, K => match ev x with
    | .agg cs => off + n ≤ cs.length ∧ (ag = true ∨ n = 1) ∧ K (packD ag ((cs.drop off).take n))
    | _ => False
  | .idx sz x i, K => match ev x, ev i with
    | .sl sz' els, .int _ n => sz = sz' ∧ 0 ≤ n ∧ n < els.length ∧ K (.ptr (els.getD n.toNat []))
    | .osl key sz' len, .int _ n => sz = sz' ∧ 0 ≤ n ∧ n < len ∧ K (.ref key sz n.toNat 0)
    | _, _ => False
  | .build zero parts, K => match fillD zero (parts.map fun p => (p.1, p.2.1, ev p.2.2)) with
    | some cs => K (.agg cs)
    | none => False
  | .blit sz len zero parts, K => match fillE sz (List.replicate len zero) (parts.map fun p => (p.1, ev p.2)) with
    | some es => (es.all D.isPureL) = true ∧ K (.sl sz es)
    | none => False
  | .len x, K => match ev x with
    | .sl _ els => K (.int .i64 els.length)
    | .osl _ _ n => K (.int .i64 n)
    | .nils => K (.int .i64 0)
    | .emp => K (.int .i64 0)
    | _ => False
  | .mn x y, K => match ev x, ev y with
    | .int k a, .int k' b => k = k' ∧ K (.int k (if b < a then b else a))
    | _, _ => False
  | .mx x y, K => match ev x, ev y with
    | .int k a, .int k' b => k = k' ∧ K (.int k (if b > a then b else a))
    | _, _ => False
  | .extr x i, K => match ev x with
    | .tup vs => i < vs.length ∧ K (vs.getD i .top)
    | _ => False
  | .mkf f caps, K => K (.fn f (caps.map ev))
  | .load n ag x, K => match ev x with
    | .ref key sz i off => match σ.get key with
      | some o => o.sz = sz ∧ i < o.els.length ∧ off + n ≤ sz ∧ (ag = true ∨ n = 1) ∧ K (packD ag (((o.els.getD i []).drop off).take n))
      | none => False
    | .ptr cs => n ≤ cs.length ∧ (ag = true ∨ n = 1) ∧ K (packD ag (cs.take n))
    | _ => False
  | .slc sz x lo hi, K => match ev x with
    | .sl sz' els => sz = sz' ∧ ∃ l h : Int, loW (lo.map ev) = some l ∧ (match hi.map ev with | none => h = els.length | some (.int _ n) => h = n | some _ => False) ∧ 0 ≤ l ∧ l ≤ h ∧ h ≤ els.length ∧ K (.sl sz ((els.take h.toNat).drop l.toNat))
    | .osl key sz' len => sz = sz' ∧ loW (lo.map ev) = some 0 ∧ ∃ h : Int, (match hi.map ev with | none => h = len | some (.int _ n) => h = n | some _ => False) ∧ 0 ≤ h ∧ h ≤ len ∧ K (.osl key sz h.toNat)
    | _ => False
  | .call fn args, K => match ev fn with
    | .fn g caps => callP C.P g (args.map ev ++ caps) σ K
    | _ => False
  | _, _ => False

def Fr.put (f : Fr) : Option Nat → D → Fr
  | some t, d => (t, d) :: f
  | none, _ => f

def setL : List (Nat × Ob) → Nat → Ob → List (Nat × Ob)
  | [], _, _ => []
  | (j, o) :: r, k, o' => if j = k then (j, o') :: r else (j, o) :: setL r k o'
def St.set (σ : St) (k : Nat) (o : Ob) : St := ⟨σ.nx, setL σ.objs k o⟩
def St.new (σ : St) (o : Ob) : St := ⟨σ.nx + 1, (σ.nx, o) :: σ.objs⟩
def eraseL : List (Nat × Ob) → Nat → List (Nat × Ob)
  | [], _ => []
  | (j, o) :: r, k => if j = k then eraseL r k else (j, o) :: eraseL r k
def St.erase (σ : St) (k : Nat) : St := ⟨σ.nx, eraseL σ.objs k⟩

def oneAll (cs : List D) : Bool := cs.all D.one

/-- The rows that an append takes from its second operand. -/
def rowsOf (σ : St) (sz : Nat) : D → Option (List (List D))
  | .sl sz' els => if sz = sz' then some els else none
  | .nils => some []
  | .emp => some []
  | .osl key sz' n => if sz = sz' then (match σ.get key with | some o => if o.sz = sz ∧ n ≤ o.els.length then some (o.els.take n) else none | none => none) else none
  | _ => none

/-- Any operation: what it yields, and the state behind it. -/
def opV (C : Cx) (σ : St) (ev : Opd → D) (k : DK) (K : D → St → Prop) : Prop :=
  match k with
  | .box x => match (ev x).cells with
    | some cs => oneAll cs = true ∧ 0 < cs.length ∧ K (.ref σ.nx cs.length 0 0) (σ.new ⟨cs.length, [cs]⟩)
    | none => False
  | .alloc zero => oneAll zero = true ∧ 0 < zero.length ∧ K (.ref σ.nx zero.length 0 0) (σ.new ⟨zero.length, [zero]⟩)
  | .store n a x => match ev a, (ev x).cells with
    | .ref key sz i off, some ds => match σ.get key with
      | some ob => ob.sz = sz ∧ i < ob.els.length ∧ ds.length = n ∧ off + n ≤ sz ∧ oneAll ds = true ∧ K .und (σ.set key ⟨sz, ob.els.set i (setD (ob.els.getD i []) off ds)⟩)
      | none => False
    | _, _ => False
  | .app sz bytes x y => match rowsOf σ sz (ev y) with
    | none => False
    | some rows => (∀ r ∈ rows, oneAll r = true) ∧ match ev x with
      | .nils => rows.length * bytes ≤ 140737488355328 ∧ rows.length ≤ 1000000000000 ∧ (rows = [] → K .nils σ) ∧ (rows ≠ [] → K (.osl σ.nx sz rows.length) (σ.new ⟨sz, rows⟩))
      | .osl key sz' n => match σ.get key with
        | some ob => sz = sz' ∧ ob.sz = sz ∧ n ≤ ob.els.length ∧ (n + rows.length) * bytes ≤ 140737488355328 ∧ n + rows.length ≤ 1000000000000 ∧
          K (.osl σ.nx sz (n + rows.length)) ((σ.erase key).new ⟨sz, ob.els.take n ++ rows⟩)
        | none => False
      | _ => False
  | .mksl sz bytes zero len cap => match ev len, ev cap with
    | .int .i64 n, .int .i64 m => n = m ∧ 0 ≤ n ∧ bytes * n ≤ 281474976710656 ∧ oneAll zero = true ∧ K (.osl σ.nx sz n.toNat) (σ.new ⟨sz, List.replicate n.toNat zero⟩)
    | _, _ => False
  | .olit sz len zero parts => match fillE sz (List.replicate len zero) (parts.map fun p => (p.1, ev p.2)) with
    | some es => (∀ e ∈ es, oneAll e = true) ∧ K (.osl σ.nx sz len) (σ.new ⟨sz, es⟩)
    | none => False
  | .call fn args => match ev fn with
    | .fn g caps => callW C.P g (args.map ev ++ caps) σ K
    | _ => False
  | k => pW C σ ev k fun d => K d σ

def opW (C : Cx) (o : DOp) (f : Fr) (σ : St) (K : Fr → St → Prop) : Prop := opV C σ (evO f) o.k fun d σ' => K (f.put o.dst d) σ'

/-- Is the operation wanted? -/
def guardW (o : DOp) (f : Fr) (yes no : Prop) : Prop :=
  match o.guard with
  | none => yes
  | some (j, want) => match f.get j with
    | .bool b => if b = want then yes else no
    | .und => no
    | _ => False

def opsW (C : Cx) : List DOp → Fr → St → (Fr → St → Prop) → Prop
  | [], f, σ, K => K f σ
  | o :: rest, f, σ, K => guardW o f (opW C o f σ fun f σ => opsW C rest f σ K) (opsW C rest (f.put o.dst .und) σ K)

/-- The part that may be reordered: still operations alone. -/
def preW (C : Cx) (σ : St) : List DOp → Fr → (Fr → Prop) → Prop
  | [], f, K => K f
  | o :: rest, f, K => guardW o f (pW C σ (evO f) o.k fun d => preW C σ rest (f.put o.dst d) K) (preW C σ rest (f.put o.dst .und) K)

structure Env where
  w0 : World
  M0 : Nat → Prop
  K0 : Nat → Prop
  ι0 : Nat → Nat

structure GoodI (C : Cx) (E : Env) (a : Act) (w : World) (f : Fr) (σ : St) (ι : Nat → Nat) : Prop where
  size : a.tmps.size = C.N
  defers : a.defers = []
  nx : C.n0 ≤ σ.nx
  kept : Kept E.w0 w E.K0
  sim : SimS E.M0 w σ ι
  old : ∀ b, E.M0 b → b < E.w0.heap.size
  mine : ∀ k o, σ.get k = some o → E.w0.heap.size ≤ ι k ∨ E.K0 (ι k)
  stay : ∀ k, k < C.n0 → ι k = E.ι0 k
  fr : FrR (Mof E.M0 ι σ) w ι σ.nx a.tmps f

def Good (C : Cx) (E : Env) (a : Act) (w : World) (f : Fr) (σ : St) : Prop := ∃ ι, GoodI C E a w f σ ι

/-- What is to be shown of code. -/
def wpS (C : Cx) (dc : DC) (f : Fr) (σ : St) (Q : Exit → Fr → St → Prop) : Prop :=
  ∀ code, mkC C.P C.N C.own code = some dc → ∀ E a w, Good C E a w f σ → code.wp C.P (fun e a' w' => ∃ f' σ', Good C E a' w' f' σ' ∧ Q e f' σ') a w

def thenW (next : Fr → St → Prop) (Q : Exit → Fr → St → Prop) : Exit → Fr → St → Prop
  | .normal, f, σ => next f σ
  | e, f, σ => Q e f σ
def blockW (id : Nat) (Q : Exit → Fr → St → Prop) : Exit → Fr → St → Prop
  | .exit i, f, σ => if i = id then Q .normal f σ else Q (.exit i) f σ
  | e, f, σ => Q e f σ

def wpD (C : Cx) : DC → Fr → St → (Exit → Fr → St → Prop) → Prop
  | .skip, f, σ, Q => Q .normal f σ
  | .reg pre post, f, σ, Q => preW C σ pre f fun f => opsW C post f σ fun f σ => Q .normal f σ
  | .seq a b, f, σ, Q => wpD C a f σ (thenW (fun f σ => wpD C b f σ Q) Q)
  | .cond c a b, f, σ, Q => match evO f c with
    | .bool t => if t = true then wpD C a f σ Q else wpD C b f σ Q
    | _ => False
  | .block id c, f, σ, Q => wpD C c f σ (blockW id Q)
  | .loop c, f, σ, Q => wpS C (.loop c) f σ Q
  | .exit id, f, σ, Q => Q (.exit id) f σ
  | .ret, f, σ, Q => Q .ret f σ

/-! Where the reckoning stops: at a loop, at a call. -/
@[congr] theorem wpS_congr {C : Cx} {dc : DC} {f f' : Fr} {σ : St} {Q : Exit → Fr → St → Prop} (h : f = f') : wpS C dc f σ Q = wpS C dc f' σ Q := by rw [h]
@[congr] theorem callP_congr {P : Program} {g : FuncId} {args args' : List D} {σ : St} {K : D → Prop} (h : args = args') : callP P g args σ K = callP P g args' σ K := by rw [h]
@[congr] theorem callW_congr {P : Program} {g : FuncId} {args args' : List D} {σ : St} {K : D → St → Prop} (h : args = args') : callW P g args σ K = callW P g args' σ K := by rw [h]
theorem callP.go {P : Program} {g : FuncId} {args : List D} {σ : St} {K : D → Prop} {d : D} (h : CallT P g args σ d σ) (hk : K d) : callP P g args σ K := ⟨d, h, hk⟩
theorem callW.go {P : Program} {g : FuncId} {args : List D} {σ : St} {K : D → St → Prop} {d : D} {σ' : St} (h : CallT P g args σ d σ') (hk : K d σ') : callW P g args σ K := ⟨d, σ', h, hk⟩
end Go.Pd
