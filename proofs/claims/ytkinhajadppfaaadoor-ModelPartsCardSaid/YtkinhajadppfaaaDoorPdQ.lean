/-
  PURE DATA, part Q: the rules as they are used. Over any program.
-/
import Derived.Test.YtkinhajadppfaaaDoorPdP
import Derived.KernelRfl
namespace Go.Pd
open Go
set_option linter.unusedSectionVars false
variable [Tabs]

/-! ### What a datum that stands for a value satisfies -/
mutual
def D.fact : D → Prop
  | .int k n => k.min ≤ n ∧ n ≤ k.max
  | .sl _ els => els.length ≤ 9223372036854775807 ∧ D.factE els
  | .agg cs | .tup cs | .fn _ cs | .ptr cs => D.factL cs
  | _ => True
def D.factL : List D → Prop
  | [] => True
  | d :: r => d.fact ∧ D.factL r
def D.factE : List (List D) → Prop
  | [] => True
  | e :: r => D.factL e ∧ D.factE r
end

theorem factL_of : ∀ {cs : List D}, (∀ j, j < cs.length → (cs.getD j .top).fact) → D.factL cs
  | [], _ => trivial
  | d :: r, h => ⟨by simpa using h 0 (by simp), factL_of fun j hj => by simpa using h (j + 1) (by simpa using hj)⟩
theorem factE_of : ∀ {es : List (List D)}, (∀ i, i < es.length → D.factL (es.getD i [])) → D.factE es
  | [], _ => trivial
  | e :: r, h => ⟨by simpa using h 0 (by simp), factE_of fun j hj => by simpa using h (j + 1) (by simpa using hj)⟩

theorem RP.fact {M : Nat → Prop} {w : World} {v : Value} {d : D} (h : RP M w v d) : d.fact := by
  induction h with
  | int h => exact h
  | sl0 => exact ⟨by simp, trivial⟩
  | @sl b off cap sz els vs hs hM hc hm hl hcell hr ih =>
    refine ⟨by simp only [maxLen] at hm; omega, factE_of fun i hi => factL_of fun j hj => ?_⟩
    have hmem : els.getD i [] ∈ els := by simp [List.getD, hi]
    exact ih i hi j (by rw [← hl _ hmem]; exact hj)
  | ptr vs hs hM hc hr ih => exact factL_of ih
  | agg hl hr ih => exact factL_of ih
  | tup hl hr ih => exact factL_of ih
  | fn hl hr ih => exact factL_of ih
  | _ => trivial

theorem R.fact {M : Nat → Prop} {w : World} {ι : Nat → Nat} {n : Nat} {v : Value} {d : D} (h : R M w ι n v d) : d.fact := by
  induction h with
  | pure h => exact h.fact
  | agg hl hr ih => exact factL_of ih
  | tup hl hr ih => exact factL_of ih
  | fn hl hr ih => exact factL_of ih
  | _ => trivial

/-- What is said of the arguments may be used. -/
theorem CallT.facts {P : Program} {g : FuncId} {args : List D} {σ σ' : St} {d : D} (ho : Ordinary P g) (h : D.factL args → CallT P g args σ d σ') : CallT P g args σ d σ' := by
  refine ⟨ho, fun M0 w ι vals hS hl hv => ?_⟩
  exact (h (factL_of fun j hj => (hv j hj).fact)).run M0 w ι vals hS hl hv

/-- The code of a function, the small one. -/
def codeOf (P : Program) (own : List Nat) (fn : Func) : Option (Nat × DC × List DRes) :=
  match fn.body with
  | none => none
  | some c =>
    if fn.name == "runtime.NumGoroutine" then none else
    match mkC P fn.ntmps own c, mapO (mkRes P fn.ntmps) fn.results.toList with
    | some dc, some rs => some (fn.ntmps, dc, rs)
    | _, _ => none

theorem CallT.of_fn {P : Program} {g : FuncId} {fn : Func} {own : List Nat} {N : Nat} {dc : DC} {rs : List DRes} {args : List D} {σ : St} {d : D} {σ' : St} (hm : P.follows .mixedOrders = true) (hf : P.funcs[g]? = some fn)
    (hc : codeOf P own fn = some (N, dc, rs)) (hla : args.length ≤ N)
    (h : D.factL args → wpD ⟨P, N, σ.nx, own⟩ dc (argFr 0 args) σ (bodyQ ⟨P, N, σ.nx, own⟩ rs d σ')) : CallT P g args σ d σ' := by
  unfold codeOf at hc
  split at hc
  · cases hc
  · rename_i c hb
    split at hc
    · cases hc
    · rename_i hname
      split at hc
      · rename_i dc' rs' h1 h2
        simp at hc
        obtain ⟨rfl, rfl, rfl⟩ := hc
        refine CallT.facts ⟨fn, hf, by simpa using hname, by rw [hb]; rfl⟩ fun hfa => ?_
        exact CallT.of_body hm hf hb (by simpa using hname) h1 h2 hla (wpS_of (C := ⟨P, fn.ntmps, σ.nx, own⟩) hm (h hfa))
      · cases hc

/-- A slice of which only its emptiness is known is nil or not. -/
theorem CallT.split {P : Program} {g : FuncId} {pre post : List D} {sz : Nat} {σ σ' : St} {d : D} (h1 : CallT P g (pre ++ .nils :: post) σ d σ') (h2 : CallT P g (pre ++ .emp :: post) σ d σ') : CallT P g (pre ++ .sl sz [] :: post) σ d σ' := by
  refine ⟨h1.ord, fun M0 w ι vals hS hl hv => ?_⟩
  have hk := hv pre.length (by simp)
  have e0 : (pre ++ D.sl sz [] :: post).getD pre.length .top = .sl sz [] := by simp [List.getD]
  rw [e0] at hk
  have other : ∀ (x : D) j, j ≠ pre.length → (pre ++ x :: post).getD j .top = (pre ++ D.sl sz [] :: post).getD j .top := by
    intro x j hj
    simp only [List.getD]
    rcases Nat.lt_trichotomy j pre.length with h | h | h
    · rw [List.getElem?_append_left h, List.getElem?_append_left h]
    · exact absurd h hj
    · rw [List.getElem?_append_right (by omega), List.getElem?_append_right (by omega)]
      have : j - pre.length = (j - pre.length - 1) + 1 := by omega
      rw [this]
      simp
  have same : ∀ (x : D), (pre ++ x :: post).getD pre.length .top = x := by intro x; simp [List.getD]
  have go : ∀ (x : D), R (Mof M0 ι σ) w ι σ.nx (vals.getD pre.length undef) x → ∀ j, j < (pre ++ x :: post).length → R (Mof M0 ι σ) w ι σ.nx (vals.getD j undef) ((pre ++ x :: post).getD j .top) := by
    intro x hx j hj
    by_cases h : j = pre.length
    · subst h; rw [same]; exact hx
    · rw [other x j h]; exact hv j (by simpa using hj)
  rcases hk.sl_inv with ⟨a, cap, e1, _, h0⟩ | ⟨b, off, cap, vs, e1, _, _, _, g4, _⟩
  · cases a with
    | none =>
      have hc := h0 rfl
      subst hc
      exact h1.run M0 w ι vals hS (by simpa using hl) (go .nils (by rw [e1]; exact .pure .nils))
    | some a => exact h2.run M0 w ι vals hS (by simpa using hl) (go .emp (by rw [e1]; exact .pure (.emp _ _)))
  · exact h2.run M0 w ι vals hS (by simpa using hl) (go .emp (by rw [e1]; exact .pure (.emp _ _)))

theorem CallT.split1 {P : Program} {g : FuncId} {post : List D} {sz : Nat} {σ σ' : St} {d : D} (h1 : CallT P g (.nils :: post) σ d σ') (h2 : CallT P g (.emp :: post) σ d σ') : CallT P g (.sl sz [] :: post) σ d σ' := CallT.split (pre := []) h1 h2

omit [Tabs]
/-! ### Lists of numbers as rows -/
def rows (k : IntKind) (l : List Int) : List (List D) := l.map fun n => [.int k n]
theorem rows_len (k : IntKind) (l : List Int) : (rows k l).length = l.length := by simp [rows]
theorem rows_get (k : IntKind) (l : List Int) {i : Nat} (h : i < l.length) : (rows k l).getD i [] = [.int k (l.getD i 0)] := by simp [rows, List.getD, h]
theorem rows_pure (k : IntKind) (l : List Int) : ∀ e ∈ rows k l, D.isPureL e = true := by
  intro e he
  simp only [rows, List.mem_map] at he
  obtain ⟨n, _, rfl⟩ := he
  rfl
theorem rows_one' (k : IntKind) (l : List Int) : ∀ e ∈ rows k l, oneAll e = true := by
  intro e he
  simp only [rows, List.mem_map] at he
  obtain ⟨n, _, rfl⟩ := he
  rfl
theorem rows_take (k : IntKind) (l : List Int) (n : Nat) : (rows k l).take n = rows k (l.take n) := by simp [rows, List.map_take]
theorem rows_append (k : IntKind) (l r : List Int) : rows k l ++ rows k r = rows k (l ++ r) := by simp [rows]

theorem rows_fact {k : IntKind} : ∀ {l : List Int}, D.factE (rows k l) ↔ ∀ x ∈ l, k.min ≤ x ∧ x ≤ k.max
  | [] => by simp [rows, D.factE]
  | x :: l => by
    have := rows_fact (k := k) (l := l)
    simp only [rows] at this
    simp only [rows, List.map_cons, D.factE, D.factL, D.fact, this, List.mem_cons, forall_eq_or_imp, and_true]

/-! ### Wraps that do nothing -/
theorem wrap_i64 {x : Int} (h : -9223372036854775808 ≤ x ∧ x ≤ 9223372036854775807) : IntKind.i64.wrap x = x := by
  simp [IntKind.wrap, IntKind.signed, IntKind.bits]
  split <;> omega
theorem wrap_u64 {x : Int} (h : 0 ≤ x ∧ x < 18446744073709551616) : IntKind.u64.wrap x = x := by
  simp [IntKind.wrap, IntKind.signed, IntKind.bits]
  omega
end Go.Pd
