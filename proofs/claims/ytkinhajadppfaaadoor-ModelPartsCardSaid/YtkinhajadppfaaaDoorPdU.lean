/-
  PURE DATA, part U: slices that grow, however many elements they have. Over any program.
-/
import Derived.Test.YtkinhajadppfaaaDoorPdT
set_option linter.unusedSectionVars false
set_option linter.unusedVariables false
set_option linter.unusedSimpArgs false
set_option linter.defProp false
namespace Go.Pd
open Go

/-- The object of a slice that grows, if there is one. -/
def growG (sz : Nat) : List (List D) → Option Ob
  | [] => none
  | e :: r => some ⟨sz, e :: r⟩
theorem look_growO {k s : Nat} {els : List (List D)} {r : List (Nat × Ob)} {k' : Nat} : St.look (growO k s els ++ r) k' = if k = k' then (growG s els).or (St.look r k') else St.look r k' := by
  cases els with
  | nil => simp [growO, growG]
  | cons e l => simp [growO, growG, St.look]
theorem look_growO1 {k s : Nat} {els : List (List D)} {k' : Nat} : St.look (growO k s els) k' = if k = k' then growG s els else none := by
  have := look_growO (k := k) (s := s) (els := els) (r := []) (k' := k')
  simp only [List.append_nil, St.look, Option.or_none] at this
  exact this
theorem erase_growO {k s : Nat} {els : List (List D)} {r : List (Nat × Ob)} {k' : Nat} : eraseL (growO k s els ++ r) k' = if k = k' then eraseL r k' else growO k s els ++ eraseL r k' := by
  cases els with
  | nil => simp [growO]
  | cons e l => simp [growO, eraseL]
theorem erase_growO1 {k s : Nat} {els : List (List D)} {k' : Nat} : eraseL (growO k s els) k' = if k = k' then [] else growO k s els := by
  have := erase_growO (k := k) (s := s) (els := els) (r := []) (k' := k')
  simp only [List.append_nil, eraseL] at this
  exact this
theorem set_look : ∀ {r : List (Nat × Ob)} {k : Nat} {o : Ob}, St.look r k = none → setL r k o = r
  | [], _, _, _ => rfl
  | (j, o') :: r, k, o, h => by
    simp only [St.look] at h
    split at h
    · cases h
    · rename_i hn
      simp only [setL, if_neg hn, set_look h]
theorem erase_look : ∀ {r : List (Nat × Ob)} {k : Nat}, St.look r k = none → eraseL r k = r
  | [], _, _ => rfl
  | (j, o') :: r, k, h => by
    simp only [St.look] at h
    split at h
    · cases h
    · rename_i hn
      simp only [eraseL, if_neg hn, erase_look h]
theorem set_growO {k s : Nat} {els els' : List (List D)} {r : List (Nat × Ob)} (hl : els'.length = els.length) (h : St.look r k = none) : setL (growO k s els ++ r) k ⟨s, els'⟩ = growO k s els' ++ r := by
  cases els with
  | nil =>
    have : els' = [] := List.eq_nil_of_length_eq_zero (by simpa using hl)
    subst this
    simp only [growO, List.nil_append]
    exact set_look h
  | cons e l =>
    cases els' with
    | nil => simp at hl
    | cons e' l' => simp [growO, setL]
theorem set_growO1 {k s : Nat} {els els' : List (List D)} (hl : els'.length = els.length) : setL (growO k s els) k ⟨s, els'⟩ = growO k s els' := by
  have := set_growO (k := k) (s := s) (r := []) hl rfl
  simp only [List.append_nil] at this
  exact this
theorem set_growO_ne {k s : Nat} {els : List (List D)} {r : List (Nat × Ob)} {k' : Nat} {o : Ob} (h : k ≠ k') : setL (growO k s els ++ r) k' o = growO k s els ++ setL r k' o := by
  cases els with
  | nil => simp [growO]
  | cons e l => simp [growO, setL, h]
theorem cells_growD (k s : Nat) (els : List (List D)) : (growD k s els).cells = some [growD k s els] := by cases els <;> rfl
theorem one_growD (k s : Nat) (els : List (List D)) : (growD k s els).one = true := by cases els <;> rfl
theorem cells_osl (k s n : Nat) : (D.osl k s n).cells = some [.osl k s n] := rfl
theorem cells_int (k : IntKind) (n : Int) : (D.int k n).cells = some [.int k n] := rfl
theorem cells_bool (b : Bool) : (D.bool b).cells = some [.bool b] := rfl
theorem cells_str (s : ByteArray) : (D.str s).cells = some [.str s] := rfl
theorem cells_sl (sz : Nat) (els : List (List D)) : (D.sl sz els).cells = some [.sl sz els] := rfl
theorem cells_nils : D.nils.cells = some [.nils] := rfl
theorem cells_emp : D.emp.cells = some [.emp] := rfl
theorem cells_agg (cs : List D) : (D.agg cs).cells = some cs := rfl
theorem cells_fn (f : FuncId) (cs : List D) : (D.fn f cs).cells = some [.fn f cs] := rfl
theorem cells_ref (a b c d : Nat) : (D.ref a b c d).cells = some [.ref a b c d] := rfl
theorem cells_ptr (cs : List D) : (D.ptr cs).cells = some [.ptr cs] := rfl
theorem cells_mref (k : Nat) : (D.mref k).cells = some [.mref k] := rfl
theorem cells_nilp : D.nilp.cells = some [.nilp] := rfl
theorem cells_nilm : D.nilm.cells = some [.nilm] := rfl
theorem cells_nilf : D.nilf.cells = some [.nilf] := rfl
theorem one_int (k : IntKind) (n : Int) : (D.int k n).one = true := rfl
theorem one_bool (b : Bool) : (D.bool b).one = true := rfl
theorem one_str (s : ByteArray) : (D.str s).one = true := rfl
theorem one_sl (sz : Nat) (els : List (List D)) : (D.sl sz els).one = true := rfl
theorem one_nils : D.nils.one = true := rfl
theorem one_emp : D.emp.one = true := rfl
theorem one_fn (f : FuncId) (cs : List D) : (D.fn f cs).one = true := rfl
theorem one_ref (a b c d : Nat) : (D.ref a b c d).one = true := rfl
theorem one_osl (a b c : Nat) : (D.osl a b c).one = true := rfl
theorem one_ptr (cs : List D) : (D.ptr cs).one = true := rfl
theorem one_mref (k : Nat) : (D.mref k).one = true := rfl
theorem one_nilp : D.nilp.one = true := rfl
theorem one_nilm : D.nilm.one = true := rfl
theorem one_nilf : D.nilf.one = true := rfl

section
variable [Tabs]
theorem appW_grow {σ : St} {sz bytes key : Nat} {els : List (List D)} {rw : List (List D)} {K : D → St → Prop} (h : σ.get key = growG sz els) (h0 : rw ≠ []) :
    appW σ sz bytes (growD key sz els) (some rw) K = ((∀ r ∈ rw, oneAll r = true) ∧ (els.length + rw.length) * bytes ≤ 140737488355328 ∧ els.length + rw.length ≤ 1000000000000 ∧
      K (growD σ.nx sz (els ++ rw)) ⟨σ.nx + 1, growO σ.nx sz (els ++ rw) ++ eraseL σ.objs key⟩) := by
  cases els with
  | nil =>
    obtain ⟨r, rs, rfl⟩ : ∃ r rs, rw = r :: rs := by cases rw with | nil => exact absurd rfl h0 | cons r rs => exact ⟨r, rs, rfl⟩
    have he : eraseL σ.objs key = σ.objs := erase_look h
    simp only [appW, growD, growO, St.new, he, List.nil_append, List.length_nil, Nat.zero_add]
    simp
  | cons e l =>
    have e1 : l.length + 1 + rw.length = l.length + rw.length + 1 := by omega
    simp only [appW, growD, h, growG, St.erase, St.new, growO]
    simp [growD, growO, e1]
theorem appW_growS {nx : Nat} {objs : List (Nat × Ob)} {sz bytes key : Nat} {els : List (List D)} {r : List D} {rs : List (List D)} {K : D → St → Prop} (h : St.look objs key = growG sz els) :
    appW ⟨nx, objs⟩ sz bytes (growD key sz els) (some (r :: rs)) K = ((∀ x ∈ r :: rs, oneAll x = true) ∧ (els.length + (r :: rs).length) * bytes ≤ 140737488355328 ∧ els.length + (r :: rs).length ≤ 1000000000000 ∧
      K (growD nx sz (els ++ r :: rs)) ⟨nx + 1, growO nx sz (els ++ r :: rs) ++ eraseL objs key⟩) := appW_grow h (by simp)
theorem appW_nil {σ : St} {sz bytes : Nat} {r : List D} {rs : List (List D)} {K : D → St → Prop} :
    appW σ sz bytes .nils (some (r :: rs)) K = ((∀ x ∈ r :: rs, oneAll x = true) ∧ (r :: rs).length * bytes ≤ 140737488355328 ∧ (r :: rs).length ≤ 1000000000000 ∧ K (.osl σ.nx sz (r :: rs).length) (σ.new ⟨sz, r :: rs⟩)) := by
  simp [appW]
theorem appW_osl {σ : St} {sz sz' bytes key n : Nat} {rows : List (List D)} {K : D → St → Prop} :
    appW σ sz bytes (.osl key sz' n) (some rows) K = ((∀ x ∈ rows, oneAll x = true) ∧ match σ.get key with
      | some ob => sz = sz' ∧ ob.sz = sz ∧ n ≤ ob.els.length ∧ (n + rows.length) * bytes ≤ 140737488355328 ∧ n + rows.length ≤ 1000000000000 ∧ K (.osl σ.nx sz (n + rows.length)) ((σ.erase key).new ⟨sz, ob.els.take n ++ rows⟩)
      | none => False) := rfl
def stoO (nx : Nat) (objs : List (Nat × Ob)) (n key sz i off : Nat) (ds : List D) (K : D → St → Prop) : Option Ob → Prop
  | some ob => ob.sz = sz ∧ i < ob.els.length ∧ ds.length = n ∧ off + n ≤ sz ∧ oneAll ds = true ∧ K .und ⟨nx, setL objs key ⟨sz, ob.els.set i (setD (ob.els.getD i []) off ds)⟩⟩
  | none => False
@[congr] theorem stoO_congr {nx : Nat} {objs : List (Nat × Ob)} {n key sz i off : Nat} {ds : List D} {K : D → St → Prop} {o o' : Option Ob} (h : o = o') : stoO nx objs n key sz i off ds K o = stoO nx objs n key sz i off ds K o' := by rw [h]
theorem stoW_ref {nx : Nat} {objs : List (Nat × Ob)} {n key sz i off : Nat} {ds : List D} {K : D → St → Prop} : stoW ⟨nx, objs⟩ n (.ref key sz i off) (some ds) K = stoO nx objs n key sz i off ds K (St.look objs key) := by
  simp only [stoW, St.get]
  cases St.look objs key <;> rfl
theorem stoO_some {nx : Nat} {objs : List (Nat × Ob)} {n key sz i off : Nat} {ds : List D} {K : D → St → Prop} {sz' : Nat} {els : List (List D)} :
    stoO nx objs n key sz i off ds K (some ⟨sz', els⟩) = (sz' = sz ∧ i < els.length ∧ ds.length = n ∧ off + n ≤ sz ∧ oneAll ds = true ∧ K .und ⟨nx, setL objs key ⟨sz, els.set i (setD (els.getD i []) off ds)⟩⟩) := rfl
theorem stoO_grow {nx : Nat} {objs : List (Nat × Ob)} {n key sz i off : Nat} {ds : List D} {K : D → St → Prop} {els : List (List D)} :
    stoO nx objs n key sz i off ds K (growG sz els) = (i < els.length ∧ ds.length = n ∧ off + n ≤ sz ∧ oneAll ds = true ∧ K .und ⟨nx, setL objs key ⟨sz, els.set i (setD (els.getD i []) off ds)⟩⟩) := by
  cases els with
  | nil => simp [stoO, growG]
  | cons e l => simp [stoO, growG]
def loadO (n : Nat) (ag : Bool) (sz i off : Nat) (K : D → Prop) : Option Ob → Prop
  | some o => o.sz = sz ∧ i < o.els.length ∧ off + n ≤ sz ∧ (ag = true ∨ n = 1) ∧ K (packD ag (((o.els.getD i []).drop off).take n))
  | none => False
@[congr] theorem loadO_congr {n sz i off : Nat} {ag : Bool} {K : D → Prop} {o o' : Option Ob} (h : o = o') : loadO n ag sz i off K o = loadO n ag sz i off K o' := by rw [h]
theorem loadW_ref {nx : Nat} {objs : List (Nat × Ob)} {n key sz i off : Nat} {ag : Bool} {K : D → Prop} : loadW ⟨nx, objs⟩ n ag (.ref key sz i off) K = loadO n ag sz i off K (St.look objs key) := by
  simp only [loadW, St.get]
  cases St.look objs key <;> rfl
theorem loadO_some {n sz i off : Nat} {ag : Bool} {K : D → Prop} {sz' : Nat} {els : List (List D)} : loadO n ag sz i off K (some ⟨sz', els⟩) = (sz' = sz ∧ i < els.length ∧ off + n ≤ sz ∧ (ag = true ∨ n = 1) ∧ K (packD ag (((els.getD i []).drop off).take n))) := rfl
theorem loadO_grow {n sz i off : Nat} {ag : Bool} {K : D → Prop} {els : List (List D)} : loadO n ag sz i off K (growG sz els) = (i < els.length ∧ off + n ≤ sz ∧ (ag = true ∨ n = 1) ∧ K (packD ag (((els.getD i []).drop off).take n))) := by
  cases els with
  | nil => simp [loadO, growG]
  | cons e l => simp [loadO, growG]
theorem loadW_ptr {σ : St} {n : Nat} {ag : Bool} {cs : List D} {K : D → Prop} : loadW σ n ag (.ptr cs) K = (n ≤ cs.length ∧ (ag = true ∨ n = 1) ∧ K (packD ag (cs.take n))) := rfl
theorem lenW_sl {sz : Nat} {els : List (List D)} {K : D → Prop} : lenW (.sl sz els) K = K (.int .i64 els.length) := rfl
theorem lenW_osl {k sz n : Nat} {K : D → Prop} : lenW (.osl k sz n) K = K (.int .i64 n) := rfl
theorem lenW_nils {K : D → Prop} : lenW .nils K = K (.int .i64 0) := rfl
theorem lenW_emp {K : D → Prop} : lenW .emp K = K (.int .i64 0) := rfl
theorem idxW_sl {sz sz' : Nat} {els : List (List D)} {k : IntKind} {n : Int} {K : D → Prop} : idxW sz (.sl sz' els) (.int k n) K = (sz = sz' ∧ 0 ≤ n ∧ n < els.length ∧ K (.ptr (els.getD n.toNat []))) := rfl
theorem idxW_osl {sz key sz' len : Nat} {k : IntKind} {n : Int} {K : D → Prop} : idxW sz (.osl key sz' len) (.int k n) K = (sz = sz' ∧ 0 ≤ n ∧ n < len ∧ K (.ref key sz n.toNat 0)) := rfl
theorem nileqW_1 {neg : Bool} {K : D → Prop} : nileqW neg .nils .nils K = K (.bool (!neg)) := rfl
theorem nileqW_2 {neg : Bool} {K : D → Prop} {a b c : Nat} : nileqW neg (.osl a b c) .nils K = K (.bool neg) := rfl
theorem nileqW_3 {neg : Bool} {K : D → Prop} {a b c : Nat} : nileqW neg .nils (.osl a b c) K = K (.bool neg) := rfl
theorem nileqW_4 {neg : Bool} {K : D → Prop} : nileqW neg .emp .nils K = K (.bool neg) := rfl
theorem nileqW_5 {neg : Bool} {K : D → Prop} : nileqW neg .nils .emp K = K (.bool neg) := rfl
theorem nileqW_6 {neg : Bool} {K : D → Prop} {sz : Nat} {e : List D} {r : List (List D)} : nileqW neg (.sl sz (e :: r)) .nils K = K (.bool neg) := rfl
def appO (nx : Nat) (objs : List (Nat × Ob)) (sz sz' bytes key n : Nat) (rows : List (List D)) (K : D → St → Prop) : Option Ob → Prop
  | some ob => sz = sz' ∧ ob.sz = sz ∧ n ≤ ob.els.length ∧ (n + rows.length) * bytes ≤ 140737488355328 ∧ n + rows.length ≤ 1000000000000 ∧ K (.osl nx sz (n + rows.length)) ⟨nx + 1, (nx, ⟨sz, ob.els.take n ++ rows⟩) :: eraseL objs key⟩
  | none => False
@[congr] theorem appO_congr {nx : Nat} {objs : List (Nat × Ob)} {sz sz' bytes key n : Nat} {rows : List (List D)} {K : D → St → Prop} {o o' : Option Ob} (h : o = o') : appO nx objs sz sz' bytes key n rows K o = appO nx objs sz sz' bytes key n rows K o' := by rw [h]
theorem appW_oslO {nx : Nat} {objs : List (Nat × Ob)} {sz sz' bytes key n : Nat} {rows : List (List D)} {K : D → St → Prop} :
    appW ⟨nx, objs⟩ sz bytes (.osl key sz' n) (some rows) K = ((∀ x ∈ rows, oneAll x = true) ∧ appO nx objs sz sz' bytes key n rows K (St.look objs key)) := by
  rw [appW_osl]
  simp only [St.get]
  cases St.look objs key <;> rfl
theorem appO_some {nx : Nat} {objs : List (Nat × Ob)} {sz sz' bytes key n : Nat} {rows : List (List D)} {K : D → St → Prop} {sz0 : Nat} {els : List (List D)} :
    appO nx objs sz sz' bytes key n rows K (some ⟨sz0, els⟩) = (sz = sz' ∧ sz0 = sz ∧ n ≤ els.length ∧ (n + rows.length) * bytes ≤ 140737488355328 ∧ n + rows.length ≤ 1000000000000 ∧ K (.osl nx sz (n + rows.length)) ⟨nx + 1, (nx, ⟨sz, els.take n ++ rows⟩) :: eraseL objs key⟩) := rfl
theorem lenW_grow {key sz : Nat} {els : List (List D)} {K : D → Prop} : lenW (growD key sz els) K = K (.int .i64 els.length) := by
  cases els <;> simp [lenW, growD]
theorem idxW_grow {key sz sz' : Nat} {els : List (List D)} {k : IntKind} {n : Int} {K : D → Prop} : idxW sz' (growD key sz els) (.int k n) K = (sz' = sz ∧ 0 ≤ n ∧ n < els.length ∧ K (.ref key sz n.toNat 0)) := by
  cases els with
  | nil => simp only [idxW, growD, List.length_nil]; simp; intro _ h1 h2; omega
  | cons e l => simp [idxW, growD]; rintro rfl _ _; rfl
theorem nileqW_grow {key sz : Nat} {neg : Bool} {els : List (List D)} {K : D → Prop} : nileqW neg (growD key sz els) .nils K = K (.bool (if neg then !els.isEmpty else els.isEmpty)) := by
  cases els <;> cases neg <;> simp [nileqW, growD]
/-! ### Views with slices that grow -/
/-- New names. -/
def sw : List (Nat × Nat) → Nat → Nat
  | [], k => k
  | (a, b) :: r, k => if k = a then b else sw r k
def pureE (els : List (List D)) : Prop := ∀ e ∈ els, D.isPureL e = true
theorem pureE_us (l : List (BitVec 64)) : pureE (us l) = True := eq_true (us_pure l)
theorem pureE_rr (l : List (List (BitVec 64))) : pureE (rr l) = True := eq_true (rr_pure l)
theorem pureE_rows (k : IntKind) (l : List Int) : pureE (rows k l) = True := eq_true (rows_pure k l)
theorem pureE_nil : pureE [] = True := by simp [pureE]
theorem pureE_append (a b : List (List D)) : pureE (a ++ b) = (pureE a ∧ pureE b) := by
  simp only [pureE, List.mem_append]
  exact propext ⟨fun h => ⟨fun e he => h e (.inl he), fun e he => h e (.inr he)⟩, fun h e he => he.elim (h.1 e) (h.2 e)⟩
theorem pureE_set (l : List (BitVec 64)) (i : Nat) (s : BitVec 64) : pureE ((us l).set i [.int .u64 (ui s)]) = True := by rw [us_set, pureE_us]

theorem vw_grow {σ σ' : St} {ρ : Nat → Nat} {a b sz : Nat} {els : List (List D)} : vw σ σ' ρ (growD a sz els) (growD b sz els) = (els = [] ∨ (b < σ'.nx ∧ a = ρ b)) := by
  cases els with
  | nil => simp [growD, vw]
  | cons e l => simp [growD, vw]
def away (σ' : St) (ρ : Nat → Nat) (k0 : Nat) : Prop := ∀ p ∈ σ'.objs, ρ p.1 ≠ k0
theorem vw_grow_sl {σ σ' : St} {ρ : Nat → Nat} {k0 sz : Nat} {els : List (List D)} (hs : 0 < sz) (h : away σ' ρ k0) (hg : σ.get k0 = growG sz els) (hp : pureE els) : vw σ σ' ρ (growD k0 sz els) (.sl sz els) = True := by
  cases els with
  | nil => simp [growD, vw]
  | cons e l =>
    refine eq_true ?_
    simp only [growD, vw]
    exact ⟨trivial, hs, h, ⟨sz, e :: l⟩, hg, rfl, Nat.le_refl _, by simp, hp⟩

/-- Rows against rows. -/
def vwR (σ σ' : St) (ρ : Nat → Nat) : List (List D) → List (List D) → Prop
  | [], [] => True
  | a :: as, b :: bs => a.length = b.length ∧ vwL σ σ' ρ a b ∧ vwR σ σ' ρ as bs
  | _, _ => False
def vwQ (σ σ' : St) (ρ : Nat → Nat) (as bs : List (List D)) : Prop := vwE σ σ' ρ as bs
theorem vwR_E {σ σ' : St} {ρ : Nat → Nat} : ∀ {as bs : List (List D)}, vwR σ σ' ρ as bs → vwE σ σ' ρ as bs
  | [], [], _ => .nil
  | a :: as, b :: bs, h => .cons h.1 h.2.1 (vwR_E h.2.2)
  | [], _ :: _, h => h.elim
  | _ :: _, [], h => h.elim
theorem vwQ_pure {σ σ' : St} {ρ : Nat → Nat} {els : List (List D)} (h : pureE els) : vwQ σ σ' ρ els els = True := eq_true (.same h)
end
section
variable [Tabs]
theorem vwL_refl {σ σ' : St} {ρ : Nat → Nat} : ∀ {a : List D}, D.isPureL a = true → vwL σ σ' ρ a a := by
  intro a h
  have key : ∀ d : D, d.isPure = true → vw σ σ' ρ d d := by
    intro d
    refine D.rec (motive_1 := fun d => d.isPure = true → vw σ σ' ρ d d) (motive_2 := fun _ => True) (motive_3 := fun cs => D.isPureL cs = true → vwL σ σ' ρ cs cs)
      ?top ?und ?int ?bool ?str ?sl ?nils ?emp ?agg ?tup ?fn ?ref ?osl ?ptr ?mref ?nilp ?nilm ?nilf trivial (fun _ _ _ _ => trivial) ?nil ?cons d
    case agg => intro cs ih h; simp only [D.isPure] at h; simp only [vw]; exact ⟨trivial, ih h⟩
    case tup => intro cs ih h; simp only [D.isPure] at h; simp only [vw]; exact ⟨trivial, ih h⟩
    case fn => intro f cs ih h; simp only [D.isPure] at h; simp only [vw]; exact ⟨trivial, trivial, ih h⟩
    case ref => intro k sz i off h; simp [D.isPure] at h
    case osl => intro k sz n h; simp [D.isPure] at h
    case mref => intro k h; simp [D.isPure] at h
    case nil => intro _; simp [vwL]
    case cons =>
      intro d r h1 h2 h
      simp only [D.isPureL, Bool.and_eq_true] at h
      simp only [vwL]
      exact ⟨h1 h.1, h2 h.2⟩
    all_goals intros; simp [vw]
  induction a with
  | nil => simp [vwL]
  | cons d r ih =>
    simp only [D.isPureL, Bool.and_eq_true] at h
    simp only [vwL]
    exact ⟨key d h.1, ih h.2⟩
theorem vwE_snoc {σ σ' : St} {ρ : Nat → Nat} : ∀ {els : List (List D)} {a b : List D}, pureE els → a.length = b.length → vwL σ σ' ρ a b → vwE σ σ' ρ (els ++ [a]) (els ++ [b])
  | [], a, b, _, hl, h => .cons hl h .nil
  | e :: r, a, b, hp, hl, h => .cons rfl (vwL_refl (hp e (by simp))) (vwE_snoc (fun x hx => hp x (by simp [hx])) hl h)
theorem vwQ_at {σ σ' : St} {ρ : Nat → Nat} {els : List (List D)} {a b : List D} (h : vwQ σ σ' ρ (els ++ [a]) (els ++ [b])) : a.length = b.length ∧ vwL σ σ' ρ a b := by
  have := (vwE_row (show vwE σ σ' ρ (els ++ [a]) (els ++ [b]) from h)).2 els.length (by simp)
  have e1 : ∀ x : List D, (els ++ [x]).getD els.length [] = x := by intro x; simp [List.getD]
  rw [e1, e1] at this
  refine ⟨this.1, ?_⟩
  rcases this.2 with h | ⟨h1, h2⟩
  · exact h
  · rw [h1]; exact vwL_refl h2
theorem vwQ_snoc {σ σ' : St} {ρ : Nat → Nat} {els : List (List D)} {a b : List D} (hp : pureE els) : vwQ σ σ' ρ (els ++ [a]) (els ++ [b]) = (a.length = b.length ∧ vwL σ σ' ρ a b) :=
  propext ⟨fun h => vwQ_at h, fun h => vwE_snoc hp h.1 h.2⟩
theorem vwQ_one {σ σ' : St} {ρ : Nat → Nat} {a b : List D} : vwQ σ σ' ρ [a] [b] = (a.length = b.length ∧ vwL σ σ' ρ a b) := vwQ_snoc (els := []) (by simp [pureE])
theorem vwQ_rr {σ σ' : St} {ρ : Nat → Nat} {l : List (List (BitVec 64))} {r : List (BitVec 64)} {x : D} : vwQ σ σ' ρ (rr l ++ [[x]]) (rr (l ++ [r])) = vwL σ σ' ρ [x] [.sl 1 (us r)] := by
  rw [← rr_snoc, vwQ_snoc (rr_pure l)]
  simp

/-- One object that stays. -/
def stay1 (σ σ' : St) (ρ : Nat → Nat) (p : Nat × Ob) : Prop := p.1 < σ'.nx ∧ ∃ ob, σ.get (ρ p.1) = some ob ∧ ob.sz = p.2.sz ∧ vwQ σ σ' ρ ob.els p.2.els
def stayL (σ σ' : St) (ρ : Nat → Nat) (l : List (Nat × Ob)) : Prop := ∀ p ∈ l, stay1 σ σ' ρ p
theorem stayL_nil {σ σ' : St} {ρ : Nat → Nat} : stayL σ σ' ρ [] = True := by simp [stayL]
theorem stayL_cons {σ σ' : St} {ρ : Nat → Nat} {p : Nat × Ob} {l : List (Nat × Ob)} : stayL σ σ' ρ (p :: l) = (stay1 σ σ' ρ p ∧ stayL σ σ' ρ l) := by simp [stayL]
theorem stayL_grow {σ σ' : St} {ρ : Nat → Nat} {k sz : Nat} {els : List (List D)} {l : List (Nat × Ob)} (hk : k < σ'.nx) (hg : σ.get (ρ k) = growG sz els) (hp : pureE els) : stayL σ σ' ρ (growO k sz els ++ l) = stayL σ σ' ρ l := by
  cases els with
  | nil => rfl
  | cons e r =>
    simp only [growO, List.cons_append, List.nil_append, stayL_cons]
    refine propext ⟨fun h => h.2, fun h => ⟨⟨hk, ⟨sz, e :: r⟩, hg, rfl, .same hp⟩, h⟩⟩
theorem stayL_grow1 {σ σ' : St} {ρ : Nat → Nat} {k sz : Nat} {els : List (List D)} (hk : k < σ'.nx) (hg : σ.get (ρ k) = growG sz els) (hp : pureE els) : stayL σ σ' ρ (growO k sz els) = True := by
  have := stayL_grow (l := []) hk hg hp
  rw [List.append_nil, stayL_nil] at this
  exact this
theorem growG_ne {sz : Nat} {els : List (List D)} (h : els ≠ []) : growG sz els = some ⟨sz, els⟩ := by
  cases els with
  | nil => exact absurd rfl h
  | cons e r => rfl
/-- An object that has grown by a row that is no pure one. -/
theorem stayL_growQ {σ σ' : St} {ρ : Nat → Nat} {k sz : Nat} {els els' : List (List D)} {l : List (Nat × Ob)} (hk : k < σ'.nx) (hg : σ.get (ρ k) = growG sz els') (hq : vwQ σ σ' ρ els' els) : stayL σ σ' ρ (growO k sz els ++ l) = stayL σ σ' ρ l := by
  cases els with
  | nil => rfl
  | cons e r =>
    have hne : els' ≠ [] := by
      rintro rfl
      have := (vwE_row (show vwE σ σ' ρ [] (e :: r) from hq)).1
      simp at this
    simp only [growO, List.cons_append, List.nil_append, stayL_cons]
    refine propext ⟨fun h => h.2, fun h => ⟨⟨hk, ⟨sz, els'⟩, ?_, rfl, hq⟩, h⟩⟩
    rw [hg, growG_ne hne]
theorem stayL_growQ1 {σ σ' : St} {ρ : Nat → Nat} {k sz : Nat} {els els' : List (List D)} (hk : k < σ'.nx) (hg : σ.get (ρ k) = growG sz els') (hq : vwQ σ σ' ρ els' els) : stayL σ σ' ρ (growO k sz els) = True := by
  have := stayL_growQ (l := []) hk hg hq
  rw [List.append_nil, stayL_nil] at this
  exact this
/-- Which names there are. -/
def inL (ks : List Nat) (l : List (Nat × Ob)) : Prop := ∀ p ∈ l, p.1 ∈ ks
theorem inL_nil {ks : List Nat} : inL ks [] = True := by simp [inL]
theorem inL_cons {ks : List Nat} {p : Nat × Ob} {l : List (Nat × Ob)} : inL ks (p :: l) = (p.1 ∈ ks ∧ inL ks l) := by simp [inL]
theorem inL_grow {ks : List Nat} {k sz : Nat} {els : List (List D)} {l : List (Nat × Ob)} (h : k ∈ ks) : inL ks (growO k sz els ++ l) = inL ks l := by
  cases els with
  | nil => rfl
  | cons e r => simp [growO, inL_cons, h]
theorem inL_grow1 {ks : List Nat} {k sz : Nat} {els : List (List D)} (h : k ∈ ks) : inL ks (growO k sz els) = True := by
  have := inL_grow (sz := sz) (els := els) (l := []) h
  rw [List.append_nil, inL_nil] at this
  exact this
def awayL (ρ : Nat → Nat) (k0 : Nat) (l : List (Nat × Ob)) : Prop := ∀ p ∈ l, ρ p.1 ≠ k0
theorem away_eq {σ' : St} {ρ : Nat → Nat} {k0 : Nat} : away σ' ρ k0 = awayL ρ k0 σ'.objs := propext Iff.rfl
theorem awayL_nil {ρ : Nat → Nat} {k0 : Nat} : awayL ρ k0 [] = True := by simp [awayL]
theorem awayL_cons {ρ : Nat → Nat} {k0 : Nat} {p : Nat × Ob} {l : List (Nat × Ob)} : awayL ρ k0 (p :: l) = (ρ p.1 ≠ k0 ∧ awayL ρ k0 l) := by simp [awayL]
theorem awayL_grow {ρ : Nat → Nat} {k0 k sz : Nat} {els : List (List D)} {l : List (Nat × Ob)} : awayL ρ k0 (growO k sz els ++ l) = ((els = [] ∨ ρ k ≠ k0) ∧ awayL ρ k0 l) := by
  cases els with
  | nil => simp [growO]
  | cons e r => simp [growO, awayL_cons]
theorem awayL_grow1 {ρ : Nat → Nat} {k0 k sz : Nat} {els : List (List D)} : awayL ρ k0 (growO k sz els) = (els = [] ∨ ρ k ≠ k0) := by
  have := awayL_grow (ρ := ρ) (k0 := k0) (k := k) (sz := sz) (els := els) (l := [])
  rw [List.append_nil, awayL_nil, and_true] at this
  exact this

theorem Weak.ren {C : Cx} {f f' : Fr} {σ σ' : St} (l : List (Nat × Nat)) (ks : List Nat) (hn : C.n0 ≤ σ'.nx) (h0 : ∀ p ∈ l, C.n0 ≤ p.1) (hd : (ks.map (sw l)).Nodup)
    (h : inL ks σ'.objs ∧ stayL σ σ' (sw l) σ'.objs ∧ vwF σ σ' (sw l) f f') : Weak C f σ f' σ' := by
  obtain ⟨hk, hs, hf⟩ := h
  refine Weak.view (sw l) hn ?_ hf ?_ ?_
  · intro k hk
    induction l with
    | nil => rfl
    | cons p l ih =>
      obtain ⟨a, b⟩ := p
      have : C.n0 ≤ a := h0 (a, b) (by simp)
      simp only [sw]
      rw [if_neg (by omega)]
      have hm : ∀ p ∈ l, C.n0 ≤ p.1 := fun p hp => h0 p (by simp [hp])
      clear ih hd hs hf h0
      induction l with
      | nil => rfl
      | cons q l ih =>
        obtain ⟨c, d⟩ := q
        have : C.n0 ≤ c := hm (c, d) (by simp)
        simp only [sw]
        rw [if_neg (by omega)]
        exact ih fun p hp => hm p (by simp [hp])
  · intro p hp
    obtain ⟨h1, ob, h2, h3, h4⟩ := hs p hp
    exact ⟨h1, ob, h2, h3, h4⟩
  · intro p hp q hq e
    have h1 := hk p hp
    have h2 := hk q hq
    have inj : ∀ (ks : List Nat), (ks.map (sw l)).Nodup → ∀ a ∈ ks, ∀ b ∈ ks, sw l a = sw l b → a = b := by
      intro ks
      induction ks with
      | nil => intro _ a ha; simp at ha
      | cons x ks ih =>
        intro hd a ha b hb e
        simp only [List.map_cons, List.nodup_cons, List.mem_map, not_exists, not_and] at hd
        rcases List.mem_cons.1 ha with h1 | h1 <;> rcases List.mem_cons.1 hb with h2 | h2
        · rw [h1, h2]
        · rw [h1] at e; exact absurd e.symm (hd.1 b h2)
        · rw [h2] at e; exact absurd e (hd.1 a h1)
        · exact ih hd.2 a h1 b h2 e
    exact inj ks hd _ h1 _ h2 e
/-- What comes back, under new names. -/
theorem RetV.ren {n0 : Nat} {σ σ' : St} {d d' : D} (l : List (Nat × Nat)) (ks : List Nat) (hn : n0 ≤ σ'.nx) (h0 : ∀ p ∈ l, n0 ≤ p.1) (hd : (ks.map (sw l)).Nodup)
    (h : inL ks σ'.objs ∧ stayL σ σ' (sw l) σ'.objs ∧ vw σ σ' (sw l) d d') : RetV n0 σ d σ' d' := by
  obtain ⟨hk, hs, hf⟩ := h
  refine .inr ⟨sw l, hn, ?_, hf, ?_, ?_⟩
  · intro k hk
    have hm : ∀ p ∈ l, n0 ≤ p.1 := h0
    clear hd hs hf h0
    induction l with
    | nil => rfl
    | cons q l ih =>
      obtain ⟨c, d⟩ := q
      have : n0 ≤ c := hm (c, d) (by simp)
      simp only [sw]
      rw [if_neg (by omega)]
      exact ih fun p hp => hm p (by simp [hp])
  · intro p hp
    obtain ⟨h1, ob, h2, h3, h4⟩ := hs p hp
    exact ⟨h1, ob, h2, h3, h4⟩
  · intro p hp q hq e
    have h1 := hk p hp
    have h2 := hk q hq
    have inj : ∀ (ks : List Nat), (ks.map (sw l)).Nodup → ∀ a ∈ ks, ∀ b ∈ ks, sw l a = sw l b → a = b := by
      intro ks
      induction ks with
      | nil => intro _ a ha; simp at ha
      | cons x ks ih =>
        intro hd a ha b hb e
        simp only [List.map_cons, List.nodup_cons, List.mem_map, not_exists, not_and] at hd
        rcases List.mem_cons.1 ha with h1 | h1 <;> rcases List.mem_cons.1 hb with h2 | h2
        · rw [h1, h2]
        · rw [h1] at e; exact absurd e.symm (hd.1 b h2)
        · rw [h2] at e; exact absurd e (hd.1 a h1)
        · exact ih hd.2 a h1 b h2 e
    exact inj ks hd _ h1 _ h2 e
/-- Behind a loop (or wherever a goal of this kind ends) the state may be viewed otherwise. -/
def weakQ (C : Cx) (Q : Exit → Fr → St → Prop) (e : Exit) (f : Fr) (σ : St) : Prop := ∃ f' σ', Weak C f σ f' σ' ∧ Q e f' σ'
theorem weakQ.keep {C : Cx} {Q : Exit → Fr → St → Prop} {e : Exit} {f : Fr} {σ : St} (h : Q e f σ) : weakQ C Q e f σ := ⟨f, σ, Weak.refl, h⟩
theorem weakQ.go {C : Cx} {Q : Exit → Fr → St → Prop} {e : Exit} {f : Fr} {σ : St} (f' : Fr) (σ' : St) (hw : Weak C f σ f' σ') (h : Q e f' σ') : weakQ C Q e f σ := ⟨f', σ', hw, h⟩
theorem wpS_weakQ {C : Cx} {dc : DC} {f : Fr} {σ : St} {Q : Exit → Fr → St → Prop} (h : wpS C dc f σ (weakQ C Q)) : wpS C dc f σ Q := by
  intro code hc E a w G
  refine wp_mono (h code hc E a w G) fun e a' w' hh => ?_
  obtain ⟨f1, σ1, G1, f2, σ2, hw, hq⟩ := hh
  exact ⟨f2, σ2, hw E a' w' G1, hq⟩
theorem wpS_loopW {C : Cx} {dc : DC} {f : Fr} {σ : St} {Q : Exit → Fr → St → Prop} {α : Type} (g : α → Fr) (s : α → St) (I : α → Prop) (m : α → Nat) (a0 : α) (h0 : I a0) (hw : Weak C f σ (g a0) (s a0))
    (round : ∀ a, I a → wpS C dc (g a) (s a) (thenW (fun f' σ' => ∃ a', I a' ∧ Weak C f' σ' (g a') (s a') ∧ m a' < m a) (weakQ C Q))) : wpS C (.loop dc) f σ Q :=
  wpS_weakQ (wpS_loop g s I m a0 h0 hw round)
end
theorem cast0 : ((0 : Nat) : Int) = 0 := rfl
theorem wrap_up {k : Nat} (h : k < 9223372036854775807) : IntKind.i64.wrap ((k : Int) + 1) = ((k + 1 : Nat) : Int) := by
  rw [wrap_i64 (by omega)]; omega
section
variable [Tabs]
/-- The laws that the reckoning uses: ahead of the parts, behind them, for views. -/
def zD := And.intro @wpZ_skip (And.intro @wpZ_reg (And.intro @wpZ_seq (And.intro @wpZ_cond (And.intro @wpZ_block (And.intro @wpZ_loop (And.intro @wpZ_exit (And.intro @wpZ_ret (And.intro @preZ_nil (And.intro @preZ_cons (And.intro @opsZ_nil (And.intro @opsZ_cons (And.intro @gd_none @gd_some))))))))))))
def zT := And.intro @Int.cast_ofNat_Int (And.intro @cast0 (And.intro @Int.toNat_zero (And.intro @Int.toNat_one (And.intro @beq_self_eq_true.{0} (And.intro @bne_self_eq_false.{0} (And.intro @Bool.false_eq_true (And.intro @gdB_bool (And.intro @gdB_und (And.intro @cdB_bool (And.intro @appW_growS (And.intro @appW_nil (And.intro @appW_oslO (And.intro @appO_some (And.intro @stoW_ref (And.intro @stoO_some (And.intro @stoO_grow (And.intro @lenW_grow (And.intro @lenW_sl (And.intro @lenW_osl (And.intro @lenW_nils (And.intro @lenW_emp (And.intro @idxW_grow (And.intro @idxW_sl (And.intro @idxW_osl (And.intro @nileqW_grow (And.intro @nileqW_1 (And.intro @nileqW_2 (And.intro @nileqW_3 (And.intro @nileqW_4 (And.intro @nileqW_5 (And.intro @nileqW_6 (And.intro @loadW_ref (And.intro @loadO_some (And.intro @loadO_grow (And.intro @loadW_ptr (And.intro @look_growO (And.intro @look_growO1 (And.intro @erase_growO (And.intro @erase_growO1 (And.intro @set_growO (And.intro @set_growO1 (And.intro @set_growO_ne (And.intro @Option.or_none.{0} (And.intro @List.length_set.{0} (And.intro @cells_growD (And.intro @one_growD (And.intro @Nat.lt_irrefl (And.intro @rows_len (And.intro @us_len (And.intro @us_take (And.intro @true_and (And.intro @and_true (And.intro @List.getD_cons_zero.{0} (And.intro @List.getD_cons_succ.{0} (And.intro @List.length_cons.{0} (And.intro @List.length_nil.{0} (And.intro @Bool.not_true (And.intro @Bool.not_false (And.intro @List.map_cons.{0, 0} (And.intro @List.map_nil.{0, 0} (And.intro @List.nil_append.{0} (And.intro @List.cons_append.{0} (And.intro @List.append_nil.{0} (And.intro @packD_one (And.intro @packD_agg (And.intro @List.take_succ_cons.{0} (And.intro @List.take_zero.{0} (And.intro @List.drop_succ_cons.{0} (And.intro @List.drop_zero.{0} (And.intro @false_implies (And.intro @or_true (And.intro @true_or (And.intro @Nat.le_refl (And.intro @Int.toNat_natCast (And.intro @and_self (And.intro @lit0 (And.intro @lit1 (And.intro @lit2 (And.intro @litm (And.intro @ui_and (And.intro @ui_or (And.intro @ui_xor (And.intro @ui_andNot (And.intro @ui_add (And.intro @ui_sub (And.intro @ui_mul (And.intro @ui_shl (And.intro @ui_shr (And.intro @ui_rem (And.intro @ui_beq (And.intro @ui_bne (And.intro @ui2_ne (And.intro @not_false_eq_true (And.intro @cells_osl (And.intro @cells_int (And.intro @cells_bool (And.intro @cells_str (And.intro @cells_sl (And.intro @cells_nils (And.intro @cells_emp (And.intro @cells_agg (And.intro @cells_fn (And.intro @cells_ref (And.intro @cells_ptr (And.intro @cells_mref (And.intro @cells_nilp (And.intro @cells_nilm (And.intro @cells_nilf (And.intro @one_int (And.intro @one_bool (And.intro @one_str (And.intro @one_sl (And.intro @one_nils (And.intro @one_emp (And.intro @one_fn (And.intro @one_ref (And.intro @one_osl (And.intro @one_ptr (And.intro @one_mref (And.intro @one_nilp (And.intro @one_nilm (And.intro @one_nilf (And.intro @List.all_cons.{0} (And.intro @List.all_nil.{0} (And.intro @Bool.and_true (And.intro @Bool.and_self (And.intro @List.set_cons_zero.{0} (And.intro @List.set_cons_succ.{0} (And.intro @Nat.zero_add (And.intro @Nat.add_zero (And.intro @Nat.zero_lt_succ (And.intro @Nat.lt_add_one (And.intro @decide_true (And.intro @decide_false (And.intro @gt_iff_lt.{0} (And.intro @ge_iff_le.{0} (And.intro @rr_len (And.intro @rr_take (And.intro @Bool.true_and (And.intro @decide_eq_true_eq (And.intro @decide_eq_false_iff_not (And.intro @growD_nil (And.intro @growD_cons (And.intro @growO_nil (And.intro @growO_cons (And.intro @rows_take (And.intro @rows_snoc (And.intro @us_snoc (And.intro @rr_snoc (And.intro @rows_nil (And.intro @rows_cons (And.intro @us_nil (And.intro @us_cons (And.intro @List.mem_singleton.{0} (And.intro @List.cons_ne_nil.{0} (And.intro @List.take_length.{0} (And.intro @Option.map_some.{0, 0} (And.intro @Option.map_none.{0, 0} (And.intro @List.length_append.{0} (And.intro @rr_nil @rr_cons))))))))))))))))))))))))))))))))))))))))))))))))))))))))))))))))))))))))))))))))))))))))))))))))))))))))))))))))))))))))))))))))))))))))))))))))))))))))))))))))
def zR := And.intro @cast0 (And.intro @inL_grow (And.intro @inL_grow1 (And.intro @inL_cons (And.intro @inL_nil (And.intro @stayL_grow (And.intro @stayL_grow1 (And.intro @stayL_growQ (And.intro @stayL_growQ1 (And.intro @stayL_cons (And.intro @stayL_nil (And.intro @vwQ_rr (And.intro @vwQ_snoc (And.intro @vwQ_pure (And.intro @vwQ_one (And.intro @vw_grow (And.intro @vw_grow_sl (And.intro @away_eq (And.intro @awayL_grow (And.intro @awayL_grow1 (And.intro @awayL_cons (And.intro @awayL_nil (And.intro @pureE_us (And.intro @pureE_rr (And.intro @pureE_rows (And.intro @pureE_nil (And.intro @pureE_append (And.intro @pureE_set (And.intro @look_growO (And.intro @look_growO1 (And.intro @Option.or_none.{0} (And.intro @Nat.zero_lt_succ (And.intro @Nat.lt_add_one (And.intro @Option.some.injEq.{0} (And.intro @and_true (And.intro @true_and (And.intro @and_self (And.intro @or_true (And.intro @true_or (And.intro @not_false_eq_true (And.intro @List.mem_cons.{0} (And.intro @List.mem_singleton.{0} (And.intro @List.not_mem_nil.{0} (And.intro @D.int.injEq (And.intro @D.bool.injEq (And.intro @D.sl.injEq (And.intro @D.ref.injEq (And.intro @List.length_cons.{0} (And.intro @List.length_nil.{0} (And.intro @us_snoc (And.intro @rows_snoc (And.intro @rr_snoc (And.intro @Nat.zero_add (And.intro @us_cons (And.intro @us_nil (And.intro @rr_nil (And.intro @rr_cons (And.intro @rows_nil @rows_cons)))))))))))))))))))))))))))))))))))))))))))))))))))))))))
end
end Go.Pd
