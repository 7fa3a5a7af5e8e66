/-
  PURE DATA, part R: unsigned 64-bit numbers as bit vectors. Over any program.
-/
import Derived.Test.YtkinhajadppfaaaDoorPdQ
set_option linter.unusedSectionVars false
set_option linter.unusedVariables false
set_option linter.unusedSimpArgs false
set_option linter.defProp false
namespace Go.Pd
open Go

/-- An unsigned number, as the integer that the program holds. -/
def ui (s : BitVec 64) : Int := s.toNat
theorem ui_nonneg (s : BitVec 64) : 0 ≤ ui s := by unfold ui; omega
theorem ui_lt (s : BitVec 64) : ui s < 18446744073709551616 := by unfold ui; have := s.isLt; omega
theorem ui_inj {s t : BitVec 64} : ui s = ui t ↔ s = t := by
  unfold ui
  constructor
  · intro h; exact BitVec.eq_of_toNat_eq (by omega)
  · rintro rfl; rfl
theorem ui_of {n : Int} (h0 : 0 ≤ n) (h1 : n < 18446744073709551616) : ui (BitVec.ofInt 64 n) = n := by
  unfold ui
  rw [BitVec.toNat_ofInt]
  have : n % 2 ^ 64 = n := Int.emod_eq_of_lt h0 (by omega)
  omega
theorem ofInt_ui (s : BitVec 64) : BitVec.ofInt 64 (ui s) = s := by
  unfold ui
  rw [BitVec.ofInt_natCast]
  simp
theorem wrap_toNat (s : BitVec 64) : IntKind.u64.wrap (s.toNat : Int) = ui s := by
  unfold ui
  have := s.isLt
  exact wrap_u64 ⟨by omega, by omega⟩
theorem wrap_ui (s : BitVec 64) : IntKind.u64.wrap (ui s) = ui s := wrap_toNat s
theorem ui_and (s t : BitVec 64) : bitI .and .u64 (ui s) (ui t) = ui (s &&& t) := by
  show IntKind.u64.wrap ((BitVec.ofInt 64 (ui s) &&& BitVec.ofInt 64 (ui t)).toNat : Int) = _
  rw [ofInt_ui, ofInt_ui, wrap_toNat]
theorem ui_or (s t : BitVec 64) : bitI .or .u64 (ui s) (ui t) = ui (s ||| t) := by
  show IntKind.u64.wrap ((BitVec.ofInt 64 (ui s) ||| BitVec.ofInt 64 (ui t)).toNat : Int) = _
  rw [ofInt_ui, ofInt_ui, wrap_toNat]
theorem ui_xor (s t : BitVec 64) : bitI .xor .u64 (ui s) (ui t) = ui (s ^^^ t) := by
  show IntKind.u64.wrap ((BitVec.ofInt 64 (ui s) ^^^ BitVec.ofInt 64 (ui t)).toNat : Int) = _
  rw [ofInt_ui, ofInt_ui, wrap_toNat]
theorem ui_andNot (s t : BitVec 64) : bitI .andNot .u64 (ui s) (ui t) = ui (s &&& ~~~t) := by
  show IntKind.u64.wrap ((BitVec.ofInt 64 (ui s) &&& ~~~BitVec.ofInt 64 (ui t)).toNat : Int) = _
  rw [ofInt_ui, ofInt_ui, wrap_toNat]
theorem wrap_int (n : Int) : IntKind.u64.wrap n = ui (BitVec.ofInt 64 n) := by
  unfold ui
  rw [BitVec.toNat_ofInt]
  simp [IntKind.wrap, IntKind.signed, IntKind.bits]
  omega
theorem ui_add (s t : BitVec 64) : IntKind.u64.wrap (ui s + ui t) = ui (s + t) := by
  rw [wrap_int, BitVec.ofInt_add, ofInt_ui, ofInt_ui]
theorem ui_sub (s t : BitVec 64) : IntKind.u64.wrap (ui s - ui t) = ui (s - t) := by
  rw [wrap_int]
  congr 1
  rw [Int.sub_eq_add_neg, BitVec.ofInt_add, BitVec.ofInt_neg, ofInt_ui, ofInt_ui, BitVec.sub_eq_add_neg]
theorem ui_mul (s t : BitVec 64) : IntKind.u64.wrap (ui s * ui t) = ui (s * t) := by
  rw [wrap_int, BitVec.ofInt_mul, ofInt_ui, ofInt_ui]
theorem ui_shl (s : BitVec 64) (k : Int) : shlI .u64 (ui s) k = ui (s <<< k.toNat) := by
  unfold shlI
  rw [wrap_int]
  congr 1
  rw [BitVec.ofInt_mul, ofInt_ui]
  show s * BitVec.ofInt 64 (2 ^ min k.toNat 64) = _
  apply BitVec.eq_of_toNat_eq
  rw [BitVec.toNat_mul, BitVec.toNat_shiftLeft, Nat.shiftLeft_eq]
  have e : (BitVec.ofInt 64 (2 ^ min k.toNat 64)).toNat = 2 ^ min k.toNat 64 % 2 ^ 64 := by
    have : ((2 : Int) ^ min k.toNat 64) = ((2 ^ min k.toNat 64 : Nat) : Int) := by norm_cast
    rw [this, BitVec.ofInt_natCast, BitVec.toNat_ofNat]
  rw [e, Nat.mul_mod_mod]
  rcases Nat.lt_or_ge k.toNat 64 with h | h
  · rw [Nat.min_eq_left (by omega)]
  · rw [Nat.min_eq_right h]
    obtain ⟨m, hm⟩ := Nat.exists_eq_add_of_le h
    rw [hm, Nat.pow_add, ← Nat.mul_assoc, Nat.mul_right_comm]
    simp
theorem ui_shr (s : BitVec 64) (k : Int) : shrI .u64 (ui s) k = ui (s >>> k.toNat) := by
  unfold shrI ui
  rw [BitVec.toNat_ushiftRight, Nat.shiftRight_eq_div_pow]
  show (s.toNat : Int).fdiv (2 ^ min k.toNat 64) = _
  have : ((2 : Int) ^ min k.toNat 64) = ((2 ^ min k.toNat 64 : Nat) : Int) := by norm_cast
  rw [this, Int.fdiv_eq_ediv_of_nonneg _ (Int.natCast_nonneg _), ← Int.natCast_ediv]
  congr 1
  rcases Nat.lt_or_ge k.toNat 64 with h | h
  · rw [Nat.min_eq_left (by omega)]
  · rw [Nat.min_eq_right h]
    have h1 := s.isLt
    rw [Nat.div_eq_of_lt h1, Nat.div_eq_of_lt (Nat.lt_of_lt_of_le h1 (Nat.pow_le_pow_right (by omega) h))]
theorem ui_rem (s t : BitVec 64) : (ui s).tmod (ui t) = ui (s % t) := by
  unfold ui
  rw [BitVec.toNat_umod, Int.tmod_eq_emod_of_nonneg (by omega), Int.natCast_emod]
theorem ui_beq (s t : BitVec 64) : (ui s == ui t) = (s == t) := by
  by_cases h : s = t
  · subst h; simp
  · have : ui s ≠ ui t := fun e => h (ui_inj.1 e)
    rw [beq_eq_false_iff_ne.2 this, beq_eq_false_iff_ne.2 h]
theorem ui_bne (s t : BitVec 64) : (ui s != ui t) = (s != t) := by simp only [bne, ui_beq]
theorem ui_lt_iff (s t : BitVec 64) : decide (ui s < ui t) = decide (s < t) := by
  unfold ui
  simp [BitVec.lt_def]
theorem ui_le_iff (s t : BitVec 64) : decide (ui s ≤ ui t) = decide (s ≤ t) := by
  unfold ui
  simp [BitVec.le_def]
/-- The constants of the code. -/
theorem lit0 : D.int .u64 0 = D.int .u64 (ui 0#64) := rfl
theorem lit1 : D.int .u64 1 = D.int .u64 (ui 1#64) := rfl
theorem lit2 : D.int .u64 2 = D.int .u64 (ui 2#64) := rfl
theorem litm : D.int .u64 18446744073709551615 = D.int .u64 (ui 18446744073709551615#64) := rfl
theorem ui2_ne : ui 2#64 ≠ 0 := by decide

def us (l : List (BitVec 64)) : List (List D) := l.map fun s => [.int .u64 (ui s)]
def sets (l : List (BitVec 64)) : D := .sl 1 (us l)
theorem us_len (l : List (BitVec 64)) : (us l).length = l.length := by simp [us]
theorem us_nil : us [] = [] := rfl
theorem us_cons (s : BitVec 64) (l : List (BitVec 64)) : us (s :: l) = [.int .u64 (ui s)] :: us l := rfl
theorem us_get (l : List (BitVec 64)) {i : Nat} (h : i < l.length) : (us l).getD i [] = [.int .u64 (ui (l.getD i 0))] := by simp [us, List.getD, h]
theorem us_pure (l : List (BitVec 64)) : ∀ e ∈ us l, D.isPureL e = true := by
  intro e he
  simp only [us, List.mem_map] at he
  obtain ⟨n, _, rfl⟩ := he
  rfl
theorem us_one (l : List (BitVec 64)) : ∀ e ∈ us l, oneAll e = true := by
  intro e he
  simp only [us, List.mem_map] at he
  obtain ⟨n, _, rfl⟩ := he
  rfl
theorem us_take (l : List (BitVec 64)) (n : Nat) : (us l).take n = us (l.take n) := by simp [us, List.map_take]
theorem us_append (l r : List (BitVec 64)) : us l ++ us r = us (l ++ r) := by simp [us]
theorem us_snoc (l : List (BitVec 64)) (s : BitVec 64) : us l ++ [[.int .u64 (ui s)]] = us (l ++ [s]) := by simp [us]
theorem us_set (l : List (BitVec 64)) (i : Nat) (s : BitVec 64) : (us l).set i [.int .u64 (ui s)] = us (l.set i s) := by simp [us, List.map_set]
theorem us_replicate (n : Nat) (s : BitVec 64) : List.replicate n [D.int .u64 (ui s)] = us (List.replicate n s) := by simp [us]
theorem us_all_pure (l : List (BitVec 64)) : (us l).all D.isPureL = true := List.all_eq_true.2 (us_pure l)

/-- Rows of numbers that stand for unsigned ones. -/
theorem us_of : ∀ {els : List (List D)}, (∀ e ∈ els, ∃ n : Int, e = [.int .u64 n]) → D.factE els → ∃ l, els = us l
  | [], _, _ => ⟨[], rfl⟩
  | e :: r, h, hf => by
    obtain ⟨n, rfl⟩ := h e (by simp)
    obtain ⟨l, rfl⟩ := us_of (fun e he => h e (by simp [he])) hf.2
    have h1 := hf.1
    simp only [D.factL, D.fact, and_true] at h1
    obtain ⟨h1, h2⟩ := h1
    refine ⟨BitVec.ofInt 64 n :: l, ?_⟩
    have : ui (BitVec.ofInt 64 n) = n := ui_of (by simpa [IntKind.min, IntKind.signed] using h1) (by have : IntKind.u64.max = 18446744073709551615 := rfl; omega)
    simp [us, this]

theorem packD_one (d : D) : packD false [d] = d := rfl
theorem packD_agg (cs : List D) : packD true cs = .agg cs := rfl

/-- A slice that grows by appending: nil as long as it is empty. -/
def growD (key sz : Nat) : List (List D) → D
  | [] => .nils
  | e :: r => .osl key sz (e :: r).length
def growO (key sz : Nat) : List (List D) → List (Nat × Ob)
  | [] => []
  | e :: r => [(key, ⟨sz, e :: r⟩)]
end Go.Pd
namespace Go.Pd
open Go
variable [Tabs]
/-- Every listed slot holds what it held. -/
def sameF (f : Fr) : Fr → Prop
  | [] => True
  | (t, d) :: r => f.get t = d ∧ sameF f r
omit [Tabs] in
theorem sameF_get {f : Fr} : ∀ {f' : Fr}, sameF f f' → ∀ t, f'.get t = .top ∨ f'.get t = f.get t
  | [], _, t => .inl rfl
  | (s, d) :: r, h, t => by
    simp only [Fr.get]
    split
    · rename_i e; subst e; exact .inr h.1.symm
    · exact sameF_get h.2 t
theorem Weak.same {C : Cx} {f f' : Fr} {σ : St} (h : sameF f f') : Weak C f σ f' σ := Weak.frame (sameF_get h)
end Go.Pd
namespace Go.Pd
open Go
def rr (ll : List (List (BitVec 64))) : List (List D) := ll.map fun l => [sets l]
def rels (ll : List (List (BitVec 64))) : D := .sl 1 (rr ll)
theorem rr_len (l : List (List (BitVec 64))) : (rr l).length = l.length := by simp [rr]
theorem rr_get (l : List (List (BitVec 64))) {i : Nat} (h : i < l.length) : (rr l).getD i [] = [.sl 1 (us (l.getD i []))] := by simp [rr, sets, List.getD, h]
theorem rr_take (l : List (List (BitVec 64))) (n : Nat) : (rr l).take n = rr (l.take n) := by simp [rr, List.map_take]
theorem rr_pure (l : List (List (BitVec 64))) : ∀ e ∈ rr l, D.isPureL e = true := by
  intro e he
  simp only [rr, List.mem_map] at he
  obtain ⟨n, _, rfl⟩ := he
  simp [D.isPureL, D.isPure, sets]
end Go.Pd
namespace Go.Pd
open Go
theorem RetV.same {n0 : Nat} {σ : St} {d : D} : RetV n0 σ d σ d := .inl ⟨rfl, rfl⟩
theorem RetV.drop {n0 n : Nat} {σ : St} {d d' : D} (hn : n0 ≤ n) (h : vw σ ⟨n, []⟩ (fun k => k) d d') : RetV n0 σ d ⟨n, []⟩ d' :=
  .inr ⟨fun k => k, hn, fun _ _ => rfl, h, by simp [stays], by simp [apartNames]⟩
end Go.Pd
