/-
  PURE DATA, part B: the small code, how it is made out of the model's code, and what is to be shown of it ('wpD'). Over any program.
-/
import Derived.Test.YtkinhajadppfaaaDoorPdA
namespace Go.Pd
open Go

/-! ### Data out of values, cells -/
def mapO {α β : Type} (f : α → Option β) : List α → Option (List β)
  | [] => some []
  | a :: r => match f a, mapO f r with
    | some b, some bs => some (b :: bs)
    | _, _ => none

theorem mapO_spec {α β : Type} {f : α → Option β} : ∀ {l : List α} {bs : List β}, mapO f l = some bs → bs.length = l.length ∧ ∀ (j : Nat) (a : α), l[j]? = some a → ∃ b, bs[j]? = some b ∧ f a = some b
  | [], bs, h => by
    simp [mapO] at h; subst h; simp
  | a :: r, bs, h => by
    unfold mapO at h
    split at h
    · rename_i b bs' h1 h2
      simp at h; subst h
      obtain ⟨h3, h4⟩ := mapO_spec h2
      refine ⟨by simp [h3], fun j x hx => ?_⟩
      cases j with
      | zero => simp at hx; subst hx; exact ⟨b, by simp, h1⟩
      | succ j => simp at hx; obtain ⟨c, hc, hf⟩ := h4 j x hx; exact ⟨c, by simpa using hc, hf⟩
    · simp at h

def D.leaf : Value → Option D
  | .int k n => if k.min ≤ n ∧ n ≤ k.max then some (.int k n) else none
  | .bool b => some (.bool b)
  | .slice none 0 0 => some .nils
  | .pointer none => some .nilp
  | .map none => some .nilm
  | .nilFunc => some .nilf
  | _ => none
def D.ofValue (v : Value) : Option D :=
  match v with
  | .agg cs => (mapO D.leaf cs.toList).map .agg
  | v => D.leaf v

def D.one : D → Bool
  | .top | .und | .agg _ | .tup _ => false
  | _ => true

def D.cells : D → Option (List D)
  | .agg cs => some cs
  | .top | .und | .tup _ => none
  | d => some [d]

mutual
def D.isPure : D → Bool
  | .ref .. | .osl .. | .mref _ => false
  | .agg cs | .tup cs | .fn _ cs => D.isPureL cs
  | _ => true
def D.isPureL : List D → Bool
  | [] => true
  | d :: r => d.isPure && D.isPureL r
end

def setD : List D → Nat → List D → List D
  | cs, _, [] => cs
  | cs, o, d :: ds => setD (cs.set o d) (o + 1) ds

def fillD : List D → List (Nat × Nat × D) → Option (List D)
  | cs, [] => some cs
  | cs, (o, s, d) :: r => match d.cells with
    | some ds => if ds.length = s ∧ o + s ≤ cs.length then fillD (setD cs o ds) r else none
    | none => none

def fillE (sz : Nat) : List (List D) → List (Nat × D) → Option (List (List D))
  | es, [] => some es
  | es, (i, d) :: r => match d.cells with
    | some ds => if ds.length = sz ∧ i < es.length then fillE sz (es.set i ds) r else none
    | none => none

def packD (ag : Bool) (cs : List D) : D := if ag then .agg cs else cs.headD .top

/-! ### Small code -/
inductive Opd where
  | t (n : Nat)
  | c (d : D)

inductive DK where
  | mv (x : Opd)
  | pick (c a b : Opd)
  | bin (op : BinOp) (x y : Opd)
  | beq (neg : Bool) (x y : Opd)
  | nileq (neg : Bool) (x y : Opd)
  | nt (x : Opd)
  | neg (x : Opd)
  | conv (k : IntKind) (x : Opd)
  | fld (off : Nat) (x : Opd)
  | fval (off n : Nat) (ag : Bool) (x : Opd)
  | idx (sz : Nat) (x i : Opd)
  | build (zero : List D) (parts : List (Nat × Nat × Opd))
  | blit (sz len : Nat) (zero : List D) (parts : List (Nat × Opd))
  | len (x : Opd)
  | mn (x y : Opd)
  | mx (x y : Opd)
  | extr (x : Opd) (i : Nat)
  | mkf (f : FuncId) (caps : List Opd)
  | load (n : Nat) (ag : Bool) (x : Opd)
  | slc (sz : Nat) (x : Opd) (lo hi : Option Opd)
  | call (fn : Opd) (args : List Opd)
  | box (x : Opd)
  | alloc (zero : List D)
  | store (n : Nat) (a x : Opd)
  | app (sz bytes : Nat) (x y : Opd)
  | mksl (sz bytes : Nat) (zero : List D) (len cap : Opd)
  | olit (sz len : Nat) (zero : List D) (parts : List (Nat × Opd))

structure DOp where
  dst : Option Nat
  guard : Option (Nat × Bool)
  k : DK

inductive DC where
  | skip
  | reg (pre post : List DOp)
  | seq (a b : DC)
  | cond (c : Opd) (a b : DC)
  | block (id : Nat) (c : DC)
  | loop (c : DC)
  | exit (id : Nat)
  | ret

/-! ### Making it -/
def mkOpd (N : Nat) : Operand → Option Opd
  | .tmp t => if t < N then some (.t t) else none
  | .const v => (D.ofValue v).map .c
  | .func f => some (.c (.fn f []))
  | .global _ => none

section
variable (P : Program) (N : Nat)
def isAggB (t : TypeId) : Option Bool :=
  match P.underlying t with
  | some (.struct _) | some (.array _ _) => some true
  | some _ => some false
  | none => none
def sizeB (t : TypeId) : Option Nat := (P.info? t).map (·.size)
def zeroB (t : TypeId) : Option (List D) := do
  let i ← P.info? t
  let z ← i.zero
  mapO D.leaf z.cells.toList
def fieldB (t : TypeId) (f : Nat) : Option (Nat × TypeId) :=
  match P.underlying t with
  | some (.struct fs) => (fs[f]?).map fun x => (x.offset, x.type)
  | _ => none
def sliceB (t : TypeId) : Option TypeId :=
  match P.underlying t with
  | some (.slice e) => some e
  | _ => none
def posB (n : Nat) : Option Nat := if 0 < n then some n else none

def optOpd (x : Option Operand) : Option (Option Opd) :=
  match x with
  | some x => (mkOpd N x).map some
  | none => some none
def mkBin (op : BinOp) (t : TypeId) (x y : Opd) : Option DK :=
  match P.underlying t with
  | some .bool => if op = .eql then some (.beq false x y) else if op = .neq then some (.beq true x y) else none
  | some (.slice _) => if op = .eql then some (.nileq false x y) else if op = .neq then some (.nileq true x y) else none
  | some (.int _) => some (.bin op x y)
  | _ => none
def mkUn (op : UnOp) (x : Opd) : Option DK :=
  match op with
  | .not => some (.nt x)
  | .neg => some (.neg x)
  | _ => none
def mkBuiltin (b : Builtin) (args : List Opd) (ts : List TypeId) : Option DK :=
  match b with
  | .len => match args, ts with
    | [x], [t] => (sliceB P t).map fun _ => .len x
    | _, _ => none
  | .min => match args with
    | [x, y] => some (.mn x y)
    | _ => none
  | .max => match args with
    | [x, y] => some (.mx x y)
    | _ => none
  | .append => match args, ts with
    | [x, y], [t, u] => do
      let e ← sliceB P t
      let i ← P.info? e
      let sz ← posB i.size
      let zero ← zeroB P e
      if t = u ∧ zero.length = sz then some (.app sz i.bytes x y) else none
    | _, _ => none
  | _ => none
def mkCall (c : Call) : Option DK :=
  match c.callee with
  | .value f => do pure (.call (← mkOpd N f) (← mapO (mkOpd N) c.args.toList))
  | .builtin b => do mkBuiltin P b (← mapO (mkOpd N) c.args.toList) c.argTypes.toList
  | .invoke _ _ => none
def mkLit (own : List Nat) (dst : Option Nat) (sz len : Nat) (zero : List D) (parts : List (Nat × Opd)) : Option DK :=
  match dst with
  | some d => if own.contains d then some (.olit sz len zero parts) else some (.blit sz len zero parts)
  | none => none

/-- 'own': literals that are to be objects of one's own (their slots). -/
def mkK (own : List Nat) (o : Oper) : Option DK :=
  match o.op with
  | .move x => (mkOpd N x).map .mv
  | .assign x => (mkOpd N x).map .mv
  | .pick c a b => do pure (.pick (← mkOpd N c) (← mkOpd N a) (← mkOpd N b))
  | .alloc e => do pure (.alloc (← zeroB P e))
  | .box _ x => do pure (.box (← mkOpd N x))
  | .build t ps =>
    match P.underlying t with
    | some (.struct fs) => do
      let zero ← zeroB P t
      let places ← fs.toList.mapM (fun f => (P.info? f.type).map fun i => (f.offset, i.size))
      let parts ← mapO (fun (p : Nat × Operand) => do
        let q ← places[p.1]?
        pure (q.1, q.2, ← mkOpd N p.2)) ps.toList
      pure (.build zero parts)
    | _ => none
  | .buildSlice t len ps => do
    let e ← sliceB P t
    let sz ← posB (← sizeB P e)
    let zero ← zeroB P e
    let parts ← mapO (fun (p : Nat × Operand) => do pure (p.1, ← mkOpd N p.2)) ps.toList
    if zero.length = sz ∧ len * sz ≤ 1000 then mkLit own o.dst sz len zero parts else none
  | .load t x => do
    let ag ← isAggB P t
    let n ← sizeB P t
    let x' ← mkOpd N x
    if ag = true ∨ n = 1 then pure (.load n ag x') else none
  | .store t a x => do pure (.store (← sizeB P t) (← mkOpd N a) (← mkOpd N x))
  | .binOp op t x y _ => do mkBin P op t (← mkOpd N x) (← mkOpd N y)
  | .unOp op _ x => do mkUn op (← mkOpd N x)
  | .convert src dst x =>
    match P.underlying src, P.underlying dst with
    | some (.int _), some (.int k) => do pure (.conv k (← mkOpd N x))
    | _, _ => none
  | .makeFunc fn first caps =>
    match fn with
    | .func f => do
      let cs ← mapO (mkOpd N) caps.toList
      if first = #[] then pure (.mkf f cs) else none
    | _ => none
  | .makeSlice t l c => do
    let e ← sliceB P t
    let i ← P.info? e
    let sz ← posB i.size
    let zero ← zeroB P e
    let l' ← mkOpd N l
    let c' ← mkOpd N c
    if zero.length = sz then pure (.mksl sz i.bytes zero l' c') else none
  | .slice t x lo hi mx => do
    let e ← sliceB P t
    let sz ← posB (← sizeB P e)
    let lo' ← optOpd N lo
    let hi' ← optOpd N hi
    let x' ← mkOpd N x
    match mx with
    | none => pure (.slc sz x' lo' hi')
    | some _ => none
  | .fieldAddr t x f => do
    let q ← fieldB P t f
    let _ ← posB (← sizeB P q.2)
    pure (.fld q.1 (← mkOpd N x))
  | .field t x f => do
    let q ← fieldB P t f
    pure (.fval q.1 (← sizeB P q.2) (← isAggB P q.2) (← mkOpd N x))
  | .indexAddr t x i => do
    let e ← sliceB P t
    pure (.idx (← posB (← sizeB P e)) (← mkOpd N x) (← mkOpd N i))
  | .extract x i => do pure (.extr (← mkOpd N x) i)
  | .call c => mkCall P N c
  | _ => none

def mkOp (own : List Nat) (ops : Array Oper) (o : Oper) : Option DOp := do
  let k ← mkK P N own o
  let dst ← (match o.dst with | some d => if d < N then some (some d) else none | none => some none)
  let g ← (match o.guard with
    | none => some none
    | some (j, b) => do
      let oj ← ops[j]?
      let d ← oj.dst
      if d < N then some (some (d, b)) else none)
  pure ⟨dst, g, k⟩
end

/-! ### What may be reordered -/
/-- An operation that touches nothing but slots. -/
def DK.silent : DK → Bool
  | .mv _ | .pick .. | .bin .. | .beq .. | .nt _ | .neg _ | .conv .. | .fld .. | .fval .. | .extr .. | .mkf .. | .mn .. | .mx .. | .build .. | .idx .. | .len _ | .nileq .. => true
  | _ => false
/-- An operation that leaves one's own objects alone. -/
def DK.still : DK → Bool
  | .box _ | .alloc _ | .store .. | .app .. | .mksl .. | .olit .. => false
  | _ => true

/-- The operands of an operation. -/
def DK.opds : DK → List Opd
  | .mv x | .nt x | .neg x | .conv _ x | .fld _ x | .fval _ _ _ x | .len x | .extr x _ | .load _ _ x | .box x => [x]
  | .pick c a b => [c, a, b]
  | .bin _ x y | .beq _ x y | .nileq _ x y | .idx _ x y | .mn x y | .mx x y | .store _ x y | .app _ _ x y | .mksl _ _ _ x y => [x, y]
  | .build _ ps => ps.map (·.2.2)
  | .blit _ _ _ ps | .olit _ _ _ ps => ps.map (·.2)
  | .mkf _ cs => cs
  | .slc _ x lo hi => x :: (lo.toList ++ hi.toList)
  | .call f xs => f :: xs
  | .alloc _ => []
def Opd.tmp? : Opd → Option Nat
  | .t n => some n
  | .c _ => none
/-- The slots that an operation looks at. -/
def DOp.names (o : DOp) : List Nat := o.k.opds.filterMap Opd.tmp? ++ (match o.guard with | some (g, _) => [g] | none => [])

/-- Operation j waits for operation i (directly or through others): by bit masks. -/
def masks : List Oper → List Nat → List Nat
  | [], acc => acc
  | o :: rest, acc => masks rest (acc ++ [o.after.foldl (fun s e => if Region.binds .any e then s ||| 2 ^ e.on ||| acc.getD e.on 0 else s) 0])

def ordered (ms : List Nat) (i j : Nat) : Bool := (ms.getD j 0).testBit i

/-- Are x and y apart: neither writes what the other looks at or writes? -/
def apartD (x y : DOp) : Bool :=
  (match x.dst with | some d => !y.names.contains d && y.dst != some d | none => true) &&
  (match y.dst with | some d => !x.names.contains d | none => true)

/-- For a region that draws its order: every two operations that are not apart wait for one another; every two loud ones of which the later stands in the tail do so, too; every edge leads back. -/
def drawOk (ops : List Oper) (ds : List DOp) (s : Nat) : Bool :=
  let ms := masks ops []
  (List.range ops.length).all fun j =>
    match ops[j]?, ds[j]? with
    | some oj, some dj => (oj.after.toList.all fun e => !Region.binds .any e || decide (e.on < j)) && (List.range j).all fun i =>
      match ds[i]? with
      | some di => ordered ms i j || (apartD di dj && (decide (j < s) || di.k.silent || dj.k.silent))
      | none => false
    | _, _ => false

/-- The number of operations ahead of the first that is not still. -/
def headLen : List DK → Nat
  | [] => 0
  | k :: r => if k.still then headLen r + 1 else 0

def mkC (P : Program) (N : Nat) (own : List Nat) : Code → Option DC
  | .skip => some .skip
  | .region _ ops draw => do
    let l ← mapO (mkOp P N own ops) ops.toList
    if draw then
      let s := headLen (l.map (·.k))
      if drawOk ops.toList l s then pure (.reg (l.take s) (l.drop s)) else none
    else pure (.reg [] l)
  | .seq a b => do pure (.seq (← mkC P N own a) (← mkC P N own b))
  | .cond c a b => do pure (.cond (← mkOpd N c) (← mkC P N own a) (← mkC P N own b))
  | .block id c => do pure (.block id (← mkC P N own c))
  | .loop c => do pure (.loop (← mkC P N own c))
  | .exit id => some (.exit id)
  | .ret => some .ret
  | _ => none

end Go.Pd
