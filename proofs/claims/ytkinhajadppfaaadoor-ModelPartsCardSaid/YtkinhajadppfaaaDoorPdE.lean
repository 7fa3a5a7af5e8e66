/-
  PURE DATA, part E: each still operation, in the model. Over any program.
-/
import Derived.Test.YtkinhajadppfaaaDoorPdD
namespace Go.Pd
open Go
set_option linter.unusedSectionVars false
variable [Tabs]
set_option linter.unusedSimpArgs false
set_option linter.unusedVariables false

theorem wp_val {P : Program} {o : Oper} {a : Act} {w w' : World} {next : Act → World → Prop} {Q : Exit → Act → World → Prop} {v : Value}
    (hx : (execOp a.eval o).run P w = .ok (.value v) w') (hn : next (a.put o.dst v) w') : o.wp P a w next Q := by
  unfold Oper.wp; rw [hx]; exact hn

theorem run_asInt {P : Program} {w : World} (k : IntKind) (n : Int) : (asIntOf (.int k n)).run P w = .ok (k, n) w := rfl

section
variable {P : Program} {N : Nat} {o : Oper} {a : Act} {w : World} {M : Nat → Prop} {ι : Nat → Nat} {n : Nat}

/-- The value of a still operation that touches no memory. -/
def Yields (P : Program) (o : Oper) (a : Act) (w : World) (v : Value) : Prop := (execOp a.eval o).run P w = .ok (.value v) w

theorem y_bin {op : BinOp} {t u : TypeId} {x y : Operand} (ho : o.op = .binOp op t x y u) {k k' : IntKind} {p q : Int} (hx : a.eval x = .int k p) (hy : a.eval y = .int k' q)
    (hp : k.min ≤ p ∧ p ≤ k.max) {K : D → Prop} (h : binW op k p k' q K) : ∃ v d, Yields P o a w v ∧ K d ∧ ∀ M, RP M w v d := by
  unfold Yields
  cases op <;> simp only [binW] at h
  case shl =>
    refine ⟨_, _, ?_, h.2, fun M => RP.wrap _ _⟩
    have h0 : ¬ q < 0 := by have := h.1; omega
    simp [execOp, ho, hx, hy, eqGuard, binOp, Op.shift, h0, shlI]
  case shr =>
    refine ⟨_, _, ?_, h.2, fun M => RP.int (fdiv_range hp _)⟩
    have h0 : ¬ q < 0 := by have := h.1; omega
    simp [execOp, ho, hx, hy, eqGuard, binOp, Op.shift, h0, shrI]
  case quo =>
    obtain ⟨rfl, h1, h2⟩ := h
    refine ⟨_, _, ?_, h2, fun M => RP.wrap _ _⟩
    simp [execOp, ho, hx, hy, eqGuard, binOp, Op.intDiv, h1]
  case rem =>
    obtain ⟨rfl, h1, h2⟩ := h
    refine ⟨_, _, ?_, h2, fun M => RP.int (tmod_range hp)⟩
    simp [execOp, ho, hx, hy, eqGuard, binOp, Op.intDiv, h1]
  all_goals
    obtain ⟨rfl, h2⟩ := h
    refine ⟨_, _, ?_, h2, fun M => by first | exact RP.wrap _ _ | exact RP.bool _⟩
    simp [execOp, ho, hx, hy, eqGuard, binOp, Op.intArith, Op.intBits, Op.intCmp, bitI]

theorem y_move {x : Operand} (ho : o.op = .move x ∨ o.op = .assign x) : Yields P o a w (a.eval x) := by
  rcases ho with ho | ho <;> simp [Yields, execOp, ho]

theorem y_pick {c x y : Operand} (ho : o.op = .pick c x y) {t : Bool} (hc : a.eval c = .bool t) : Yields P o a w (if t then a.eval x else a.eval y) := by
  simp [Yields, execOp, ho, hc, asBool]

theorem equalIn_bool (d : Nat) {t : TypeId} (ht : P.underlying t = some .bool) (b c : Bool) : (Op.equalIn (d + 1) t (.bool b) (.bool c)).run P w = .ok (b == c) w := by
  simp [Op.equalIn, run_underlying ht]
theorem equal_bool {t : TypeId} (ht : P.underlying t = some .bool) (b c : Bool) : (Op.equal t (.bool b) (.bool c)).run P w = .ok (b == c) w := equalIn_bool 9999 ht b c
theorem equalIn_slice (d : Nat) {t e : TypeId} (ht : P.underlying t = some (.slice e)) {ax ay : Option Addr} {lx ly cx cy : Nat} (hn : ax = none ∨ ay = none) :
    (Op.equalIn (d + 1) t (.slice ax lx cx) (.slice ay ly cy)).run P w = .ok (ax.isNone && ay.isNone) w := by
  rcases hn with rfl | rfl <;> (try cases ax) <;> (try cases ay) <;> simp [Op.equalIn, run_underlying ht]
theorem equal_slice {t e : TypeId} (ht : P.underlying t = some (.slice e)) {ax ay : Option Addr} {lx ly cx cy : Nat} (hn : ax = none ∨ ay = none) :
    (Op.equal t (.slice ax lx cx) (.slice ay ly cy)).run P w = .ok (ax.isNone && ay.isNone) w := equalIn_slice 9999 ht hn

theorem y_beq {op : BinOp} {t u : TypeId} {x y : Operand} (ho : o.op = .binOp op t x y u) (hop : op = .eql ∨ op = .neq) (ht : P.underlying t = some .bool) {b c : Bool} (hx : a.eval x = .bool b) (hy : a.eval y = .bool c) :
    Yields P o a w (.bool (if op = .neq then b != c else b == c)) := by
  rcases hop with rfl | rfl <;> simp [Yields, execOp, ho, hx, hy, eqGuard, binOp, equal_bool ht] <;> (try (cases b <;> cases c <;> rfl))

theorem y_nileq {op : BinOp} {t u e : TypeId} {x y : Operand} (ho : o.op = .binOp op t x y u) (hop : op = .eql ∨ op = .neq) (ht : P.underlying t = some (.slice e)) {ax ay : Option Addr} {lx ly cx cy : Nat}
    (hx : a.eval x = .slice ax lx cx) (hy : a.eval y = .slice ay ly cy) (hn : ax = none ∨ ay = none) :
    Yields P o a w (.bool (if op = .neq then !(ax.isNone && ay.isNone) else ax.isNone && ay.isNone)) := by
  rcases hop with rfl | rfl <;> simp [Yields, execOp, ho, hx, hy, eqGuard, binOp, equal_slice ht hn]

theorem y_not {t : TypeId} {x : Operand} (ho : o.op = .unOp .not t x) {b : Bool} (hx : a.eval x = .bool b) : Yields P o a w (.bool (!b)) := by
  simp [Yields, execOp, ho, hx, Op.unary]
theorem y_neg {t : TypeId} {x : Operand} (ho : o.op = .unOp .neg t x) {k : IntKind} {p : Int} (hx : a.eval x = .int k p) : Yields P o a w (.int k (k.wrap (0 - p))) := by
  simp [Yields, execOp, ho, hx, Op.unary, Op.intArith]
theorem y_conv {s t : TypeId} {x : Operand} (ho : o.op = .convert s t x) {ks k k' : IntKind} (hs : P.underlying s = some (.int ks)) (ht : P.underlying t = some (.int k)) {p : Int} (hx : a.eval x = .int k' p) :
    Yields P o a w (.int k (k.wrap p)) := by
  simp [Yields, execOp, ho, hx, convert, run_underlying hs, run_underlying ht, Conv.intToInt]

theorem y_fld {t : TypeId} {x : Operand} {i : Nat} (ho : o.op = .fieldAddr t x i) {fs : Array Field} {f : Field} (ht : P.underlying t = some (.struct fs)) (hf : fs[i]? = some f) {inf : TypeInfo} (hi : P.info? f.type = some inf) (hs : 0 < inf.size)
    {b off : Nat} (hx : a.eval x = .pointer (some ⟨b, off, none⟩)) : Yields P o a w (.pointer (some ⟨b, off + f.offset, none⟩)) := by
  have h0 : inf.size ≠ 0 := by omega
  simp [Yields, execOp, ho, hx, Instr.fieldAt, run_underlying ht, hf, Instr.sureAddr, fieldPlace, sizeOf, typeInfo, hi, h0, Addr.add_lit]

theorem y_idx_sl {t e : TypeId} {x y : Operand} (ho : o.op = .indexAddr t x y) (ht : P.underlying t = some (.slice e)) {inf : TypeInfo} (hi : P.info? e = some inf) {b off len cap : Nat} {k : IntKind} {p : Int}
    (hx : a.eval x = .slice (some ⟨b, off, none⟩) len cap) (hy : a.eval y = .int k p) (h0 : 0 ≤ p) (h1 : p < len) : Yields P o a w (.pointer (some ⟨b, off + p.toNat * inf.size, none⟩)) := by
  simp [Yields, execOp, ho, hx, hy, Instr.indexAt, asIntOf, run_underlying ht, sizeOf, typeInfo, hi, h0, h1, Addr.add_lit]

theorem y_len {t e ty : TypeId} {x : Operand} {ts : Array TypeId} (ho : o.op = .call { callee := .builtin .len, args := #[x], argTypes := #[t] }) (ht : P.underlying t = some (.slice e)) {ad : Option Addr} {len cap : Nat}
    (hx : a.eval x = .slice ad len cap) : Yields P o a w (.int .i64 len) := by
  simp [Yields, execOp, ho, hx, resolve, invoke, builtin, Builtin.len_, run_underlying ht, goInt]

theorem y_min {ts : Array TypeId} {x y : Operand} (ho : o.op = .call { callee := .builtin .min, args := #[x, y], argTypes := ts }) {k k' : IntKind} {p q : Int} (hx : a.eval x = .int k p) (hy : a.eval y = .int k' q) :
    Yields P o a w (.int k (if q < p then q else p)) := by
  simp [Yields, execOp, ho, hx, hy, resolve, invoke, builtin, Builtin.min_, Builtin.min2]
theorem y_max {ts : Array TypeId} {x y : Operand} (ho : o.op = .call { callee := .builtin .max, args := #[x, y], argTypes := ts }) {k k' : IntKind} {p q : Int} (hx : a.eval x = .int k p) (hy : a.eval y = .int k' q) :
    Yields P o a w (.int k (if q > p then q else p)) := by
  simp [Yields, execOp, ho, hx, hy, resolve, invoke, builtin, Builtin.max_, Builtin.max2]

theorem y_extr {x : Operand} {i : Nat} (ho : o.op = .extract x i) {vs : Array Value} (hx : a.eval x = .tuple vs) (hi : i < vs.size) : Yields P o a w (vs.getD i undef) := by
  simp [Yields, execOp, ho, hx, Instr.extract, hi]

theorem y_mkf {f : FuncId} {caps : Array Operand} (ho : o.op = .makeFunc (.func f) #[] caps) : Yields P o a w (.func (.func f) #[] (caps.map a.eval)) := by
  simp [Yields, execOp, ho, Instr.makeFunc]

theorem y_load1 {t : TypeId} {x : Operand} (ho : o.op = .load t x) {td : TypeDesc} (ht : P.underlying t = some td) (hag : isAggB P t = some false) {ad : Addr} {v : Value} (hx : a.eval x = .pointer (some ad)) (hc : w.cell? ad = some v) :
    Yields P o a w v := by
  cases td <;> simp [isAggB, ht] at hag <;> simp [Yields, execOp, ho, hx, Instr.loadAt, Instr.sureAddr, loadVar, isAgg, run_underlying ht, load, Sem.run, hc]

theorem y_loadN {t : TypeId} {x : Operand} (ho : o.op = .load t x) {td : TypeDesc} (ht : P.underlying t = some td) (hag : isAggB P t = some true) {inf : TypeInfo} (hi : P.info? t = some inf) {ad : Addr} {vs : List Value} (hl : vs.length = inf.size)
    (hx : a.eval x = .pointer (some ad)) (hc : ∀ j v, vs[j]? = some v → w.cell? (ad.add j) = some v) : Yields P o a w (.agg vs.toArray) := by
  have hr := run_loadCells_list (P := P) w ad vs hc
  rw [hl] at hr
  cases td <;> simp [isAggB, ht] at hag <;> simp [Yields, execOp, ho, hx, Instr.loadAt, Instr.sureAddr, loadVar, isAgg, run_underlying ht, sizeOf, typeInfo, hi, hr]
end
end Go.Pd
