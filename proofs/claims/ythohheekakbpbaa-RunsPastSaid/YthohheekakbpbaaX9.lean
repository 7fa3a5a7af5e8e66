/- PURE DATA: the framework, part X9: small laws that the packages share. -/
import Derived.Test.YthohheekakbpbaaX8
import Derived.Test.YthohheekakbpbaaCode
set_option linter.unusedSectionVars false
set_option linter.unusedVariables false
set_option linter.unusedSimpArgs false
set_option linter.defProp false
set_option maxRecDepth 20000
namespace Go.Pd
open Go Go.Proofs
theorem shlN {n : Nat} (hn : n ≤ 61) : shlI .i64 1 (n : Int) = ((2 ^ n : Nat) : Int) := shl_one (by omega)
theorem convN {n : Nat} (hn : n ≤ 1000000) : IntKind.u64.wrap (n : Int) = (n : Int) := wrap_u64 (by omega)
theorem uiPow {n : Nat} (hn : n ≤ 61) : ui (1#64 <<< n) = ((2 ^ n : Nat) : Int) := by
  have h : 2 ^ n < 2 ^ 64 := Nat.pow_lt_pow_right (by omega) (by omega)
  unfold ui
  rw [BitVec.toNat_shiftLeft, Nat.shiftLeft_eq]
  show ((1 * 2 ^ n % 2 ^ 64 : Nat) : Int) = _
  rw [Nat.one_mul, Nat.mod_eq_of_lt h]
theorem ui_ofNat {k : Nat} (h : k < 18446744073709551616) : ui (BitVec.ofNat 64 k) = (k : Int) := by
  unfold ui; rw [BitVec.toNat_ofNat, Nat.mod_eq_of_lt h]
theorem take_snoc {α : Type} {l : List α} {k : Nat} {d : α} (h : k < l.length) : l.take (k + 1) = l.take k ++ [l.getD k d] := by
  rw [List.take_add_one]; simp [List.getD, h]
theorem drop_cons {α : Type} {l : List α} {k : Nat} {d : α} (h : k < l.length) : l.drop k = l.getD k d :: l.drop (k + 1) := by simp [List.getD, h]
theorem getD_mem {α : Type} {l : List α} {k : Nat} {d : α} (h : k < l.length) : l.getD k d ∈ l := by simp [List.getD, h]
theorem take_all {α : Type} {l : List α} {k : Nat} (h : k = l.length) : l.take k = l := by rw [h, List.take_length]
theorem mx_max (x y : Int) : (if x < y then y else x) = max x y := by rw [Int.max_def]; split <;> split <;> omega
theorem mn_min (x y : Int) : (if y < x then y else x) = min x y := by rw [Int.min_def]; split <;> split <;> omega
theorem getD_set {α : Type} (o : List α) (i j : Nat) (x d : α) : (o.set i x).getD j d = if i = j ∧ j < o.length then x else o.getD j d := by
  simp only [List.getD, List.getElem?_set]
  split
  · rename_i h; subst h; by_cases hj : i < o.length
    · simp [hj]
    · simp [hj]
  · rename_i h; simp [h]
theorem ne_of_len {α : Type} {l : List α} (h : 0 < l.length) : l ≠ [] := List.length_pos_iff.1 h
theorem rows_set (k : IntKind) (l : List Int) (i : Nat) (n : Int) : (rows k l).set i [.int k n] = rows k (l.set i n) := by simp [rows, List.map_set]
theorem rows_replicate (k : IntKind) (n : Nat) (s : Int) : List.replicate n [D.int k s] = rows k (List.replicate n s) := by simp [rows]
theorem rows_app (k : IntKind) (a b : List Int) : rows k (a ++ b) = rows k a ++ rows k b := by simp [rows]
theorem us_app (p q : List (BitVec 64)) : us (p ++ q) = us p ++ us q := by simp [us]

variable [Tabs]
/-- A contract whose result is one fresh object. -/
theorem CallT.own1' {P : Program} {g : FuncId} {args : List D} {σ : St} {sz len : Nat} {els : List (List D)} (hc : CallT P g args St0 (.osl 0 sz len) ⟨1, [(0, ⟨sz, els⟩)]⟩) (hp : D.isPureL args = true) (he : ∀ e ∈ els, D.isPureL e = true) :
    CallT P g args σ (.osl σ.nx sz len) ⟨σ.nx + 1, (σ.nx, ⟨sz, els⟩) :: σ.objs⟩ := by
  have h := CallT.own (σ := σ) hc hp
  simpa [shiftObjs, Ob.shift, shiftE_pure _ he, D.shift] using h
theorem osl_view {key m n sz len : Nat} {els : List (List D)} (hs : 0 < sz) (hp : ∀ e ∈ els, D.isPureL e = true) (hl : len = els.length) {ρ : Nat → Nat} {r : List (Nat × Ob)} : vw ⟨m, (key, ⟨sz, els⟩) :: r⟩ ⟨n, []⟩ ρ (.osl key sz len) (.sl sz els) := by
  subst hl
  simp only [vw]
  exact ⟨trivial, hs, by simp, ⟨sz, els⟩, by simp [St.get, St.look], rfl, Nat.le_refl _, by simp, hp⟩
/-- The first rows of an object, read as a slice that nobody writes. -/
theorem osl_view_take {key m n sz len : Nat} {els els' : List (List D)} (hs : 0 < sz) (hp : ∀ e ∈ els', D.isPureL e = true) (hl : len ≤ els.length) (he : els.take len = els') {ρ : Nat → Nat} {r : List (Nat × Ob)} : vw ⟨m, (key, ⟨sz, els⟩) :: r⟩ ⟨n, []⟩ ρ (.osl key sz len) (.sl sz els') := by
  subst he
  simp only [vw]
  exact ⟨trivial, hs, by simp, ⟨sz, els⟩, by simp [St.get, St.look], rfl, hl, rfl, hp⟩
/-- A contract may show less of what comes back. -/
theorem CallT.ret {P : Program} {g : FuncId} {args : List D} {σ σ1 σ' : St} {d1 d : D} (hc : CallT P g args σ d1 σ1) (hr : RetV σ.nx σ1 d1 σ' d) : CallT P g args σ d σ' := by
  refine ⟨hc.ord, fun M0 w ι vals hS hl hv => (hc.run M0 w ι vals hS hl hv).mono fun e w' hh => ?_⟩
  obtain ⟨v, ι1, he, kept, sim, nx, stay, mine, hR⟩ := hh
  rcases hr with ⟨rfl, rfl⟩ | ⟨ρ, r1, r2, r3, r4, r5⟩
  · exact ⟨v, ι1, he, kept, sim, nx, stay, mine, hR⟩
  · have hlive : ∀ p ∈ σ'.objs, ∃ ob, σ1.get (ρ p.1) = some ob := fun p hp => by
      obtain ⟨_, ob, h, _⟩ := r4 p hp
      exact ⟨ob, h⟩
    refine ⟨v, fun k => ι1 (ρ k), he, kept, sim.view r4 r5, r1, fun k hk => ?_, fun k o hk => ?_, vw_sound sim hlive _ _ hR r3⟩
    · show ι1 (ρ k) = ι k
      rw [r2 k hk]; exact stay k hk
    · obtain ⟨ob, h⟩ := hlive _ (look_mem hk)
      exact mine _ _ h
theorem lend_rows {σ : St} {k0 n : Nat} {k : IntKind} {l : List Int} (hg : σ.get k0 = some ⟨1, rows k l⟩) (hn : n = l.length) : lend σ (.osl k0 1 n) (.sl 1 (rows k l)) := by
  subst hn
  simp only [lend]
  exact ⟨trivial, by omega, ⟨1, rows k l⟩, hg, rfl, by rw [rows_len]; exact Nat.le_refl _, by rw [← rows_len k l, List.take_length], rows_pure k l⟩
theorem lend_els {σ : St} {k0 n sz : Nat} {els : List (List D)} (hs : 0 < sz) (hg : σ.get k0 = some ⟨sz, els⟩) (hn : n = els.length) (hp : ∀ e ∈ els, D.isPureL e = true) : lend σ (.osl k0 sz n) (.sl sz els) := by
  subst hn
  simp only [lend]
  exact ⟨trivial, hs, ⟨sz, els⟩, hg, rfl, Nat.le_refl _, by rw [List.take_length], hp⟩
theorem lend_us {σ : St} {k0 n : Nat} {l : List (BitVec 64)} (hg : σ.get k0 = some ⟨1, us l⟩) (hn : n = l.length) : lend σ (.osl k0 1 n) (.sl 1 (us l)) :=
  lend_els (by omega) hg (by rw [us_len]; exact hn) (us_pure l)
theorem lend_int {σ : St} (k : IntKind) (x : Int) : lend σ (.int k x) (.int k x) := by simp [lend, D.isPure]
theorem lend_bool {σ : St} (b : Bool) : lend σ (.bool b) (.bool b) := by simp [lend, D.isPure]
theorem lend_sl {σ : St} (sz : Nat) (els : List (List D)) : lend σ (.sl sz els) (.sl sz els) := by simp [lend]
theorem lend_nil {σ : St} (sz : Nat) : lend σ .nils (.sl sz []) := by simp [lend]
theorem rows_fl (k : IntKind) (l : List Int) : ∀ e ∈ rows k l, D.flL e = true := by
  intro e he
  simp only [rows, List.mem_map] at he
  obtain ⟨n, _, rfl⟩ := he
  simp [D.flL, D.fl]
theorem growD_ne {k s : Nat} {els : List (List D)} (h : els ≠ []) : growD k s els = .osl k s els.length := by cases els with
  | nil => exact absurd rfl h
  | cons e r => rfl
theorem growO_ne {k s : Nat} {els : List (List D)} (h : els ≠ []) : growO k s els = [(k, ⟨s, els⟩)] := by cases els with
  | nil => exact absurd rfl h
  | cons e r => rfl
theorem vw_growL {σ σ' : St} {ρ : Nat → Nat} {a b sz : Nat} {els els' : List (List D)} (hl : els'.length = els.length) : vw σ σ' ρ (growD a sz els') (growD b sz els) = (els = [] ∨ (b < σ'.nx ∧ a = ρ b)) := by
  cases els' with
  | nil => cases els with
    | nil => simp [growD, vw]
    | cons e l => simp at hl
  | cons e' l' => cases els with
    | nil => simp at hl
    | cons e l => simp only [growD, vw, hl]; simp
/-! ### Lists of lists -/
def rl (ll : List (List Int)) : List (List D) := ll.map fun l => [.sl 1 (rows .i64 l)]
theorem rl_len (l : List (List Int)) : (rl l).length = l.length := by simp [rl]
theorem rl_get (l : List (List Int)) {i : Nat} (h : i < l.length) : (rl l).getD i [] = [.sl 1 (rows .i64 (l.getD i []))] := by simp [rl, List.getD, h]
theorem rl_take (l : List (List Int)) (n : Nat) : (rl l).take n = rl (l.take n) := by simp [rl, List.map_take]
theorem rl_snoc (l : List (List Int)) (r : List Int) : rl l ++ [[.sl 1 (rows .i64 r)]] = rl (l ++ [r]) := by simp [rl]
theorem rl_nil : rl [] = [] := rfl
theorem rl_pure (l : List (List Int)) : ∀ e ∈ rl l, D.isPureL e = true := by
  intro e he
  simp only [rl, List.mem_map] at he
  obtain ⟨r, _, rfl⟩ := he
  have h : ∀ e ∈ rows .i64 r, D.isPureL e = true := rows_pure _ r
  have : (rows .i64 r).all D.isPureL = true := List.all_eq_true.2 h
  simp [D.isPureL, D.isPure, this]
theorem rl_one (l : List (List Int)) : ∀ e ∈ rl l, oneAll e = true := by
  intro e he
  simp only [rl, List.mem_map] at he
  obtain ⟨r, _, rfl⟩ := he
  rfl
theorem pureE_rl (l : List (List Int)) : pureE (rl l) := rl_pure l
/-! ### A function's goal, semantic: a view may be taken ahead of any part -/
theorem CallT.go_fnS {P : Program} {g : FuncId} {fn : Func} {own : List Nat} {N : Nat} {dc : DC} {rs : List DRes} {args : List D} {σ : St} {d : D} {σ' : St} (hm : P.follows .mixedOrders = true) (hf : P.funcs[g]? = some fn)
    (hc : codeOf P own fn = some (N, dc, rs)) (hla : args.length ≤ N)
    (h : D.factL args → wpS ⟨P, N, σ.nx, own⟩ dc (argFr 0 args) σ (bodyQ ⟨P, N, σ.nx, own⟩ rs d σ')) : CallT P g args σ d σ' := by
  unfold codeOf at hc
  split at hc
  · cases hc
  · rename_i c hb
    split at hc
    · cases hc
    · rename_i hname
      split at hc
      · rename_i dc' rs' h1 h2
        simp at hc
        obtain ⟨rfl, rfl, rfl⟩ := hc
        refine CallT.facts ⟨fn, hf, by simpa using hname, by rw [hb]; rfl⟩ fun hfa => ?_
        exact CallT.of_body hm hf hb (by simpa using hname) h1 h2 hla (h hfa)
      · cases hc
/-! ### A view in the middle of a part: branches meet in one frame and state -/
theorem wpS_cut {C} {x y : DC} {f σ Q} (f0 : Fr) (σ0 : St) (h : wpS C x f σ (thenW (fun f' σ' => Weak C f' σ' f0 σ0) Q)) (h2 : wpS C y f0 σ0 Q) : wpS C (.seq x y) f σ Q :=
  wpS_seq (wpS_mono h fun e f' σ' hq => by cases e with | normal => exact wpS_weak hq h2 | _ => exact hq)
end Go.Pd
