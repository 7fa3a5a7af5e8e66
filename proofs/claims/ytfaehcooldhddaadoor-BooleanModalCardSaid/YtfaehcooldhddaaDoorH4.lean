/- Boolean: contract: prime implicants. -/
import Derived.Test.YtfaehcooldhddaaDoorH3
set_option linter.unusedSectionVars false
set_option linter.unusedVariables false
set_option linter.unusedSimpArgs false
set_option linter.defProp false
set_option maxRecDepth 20000
namespace Go.Pd
open Go Go.Proofs
open Rs Fm
theorem xorNat : ∀ a, a < 64 → ∀ b, b < 64 → bitI .xor .i64 ((a : Nat) : Int) ((b : Nat) : Int) = ((a ^^^ b : Nat) : Int) := by decide +kernel
theorem andNotNat : ∀ a, a < 64 → ∀ b, b < 6 → bitI .andNot .i64 ((a : Nat) : Int) ((2 ^ b : Nat) : Int) = ((clr a b : Nat) : Int) := by decide +kernel
theorem andNat : ∀ a, a < 64 → ∀ b, b < 64 → bitI .and .i64 ((a : Nat) : Int) ((b : Nat) : Int) = ((a &&& b : Nat) : Int) := by decide +kernel
namespace Fm
def fillN (t : BitVec 64) (n : Nat) : Nat → List (Nat × Nat)
  | 0 => []
  | k + 1 => if t.getLsbD k = true then insN (2 ^ n - 1, k) (fillN t n k) else fillN t n k
theorem fillN_mem {t : BitVec 64} {n : Nat} {p : Nat × Nat} : ∀ k, p ∈ fillN t n k ↔ p.1 = 2 ^ n - 1 ∧ p.2 < k ∧ t.getLsbD p.2 = true
  | 0 => by simp [fillN]
  | k + 1 => by
    have ih := fillN_mem (t := t) (n := n) (p := p) k
    unfold fillN
    split
    · rename_i h
      rw [insN_mem, ih]
      constructor
      · rintro (⟨h1, h2, h3⟩ | rfl)
        · exact ⟨h1, by omega, h3⟩
        · exact ⟨rfl, by simp, h⟩
      · rintro ⟨h1, h2, h3⟩
        by_cases e : p.2 = k
        · exact .inr (Prod.ext h1 e)
        · exact .inl ⟨h1, by omega, h3⟩
    · rename_i h
      rw [ih]
      constructor
      · rintro ⟨h1, h2, h3⟩; exact ⟨h1, by omega, h3⟩
      · rintro ⟨h1, h2, h3⟩
        refine ⟨h1, ?_, h3⟩
        by_cases e : p.2 = k
        · rw [e] at h3; exact absurd h3 h
        · omega
theorem fillN_nodup (t : BitVec 64) (n : Nat) : ∀ k, (fillN t n k).Nodup
  | 0 => by simp [fillN]
  | k + 1 => by
    unfold fillN
    split
    · exact insN_nodup (fillN_nodup t n k)
    · exact fillN_nodup t n k
theorem fillN_len (t : BitVec 64) (n : Nat) : ∀ k, (fillN t n k).length ≤ k
  | 0 => by simp [fillN]
  | k + 1 => by
    have := fillN_len t n k
    unfold fillN insN
    split
    · split
      · omega
      · rw [List.length_append, List.length_singleton]; omega
    · omega
theorem fill_ok {t : BitVec 64} {n : Nat} (hn : n ≤ 6) : NowOK t n 0 (fillN t n (2 ^ n)) := by
  have hp : 0 < 2 ^ n := Nat.two_pow_pos n
  refine ⟨fillN_nodup t n _, fun p => ?_⟩
  rw [fillN_mem, cube_iff]
  constructor
  · rintro ⟨h1, h2, h3⟩
    refine ⟨⟨by omega, ?_, fun u hu e => ?_⟩, ?_⟩
    · rw [h1]; exact Nat.and_two_pow_sub_one_of_lt_two_pow h2
    · rw [h1, Nat.and_two_pow_sub_one_of_lt_two_pow hu] at e
      rw [e]; exact h3
    · rw [Nat.add_zero]; exact (pc_full n hn p.1 (by omega)).2 h1
  · rintro ⟨⟨h1, h2, h3⟩, h4⟩
    have e := (pc_full n hn p.1 h1).1 (by omega)
    have := sub_le h2
    refine ⟨e, by omega, h3 p.2 (by omega) ?_⟩
    rw [e]; exact Nat.and_two_pow_sub_one_of_lt_two_pow (by omega)
def implA (t : BitVec 64) (n : Int) : List (Int × Int) × Int := if tableErr t n ≠ 0 then ([], tableErr t n) else (pairI (primesN t n.toNat), 0)
theorem prR_pure (l : List (Int × Int)) : ∀ e ∈ prR l, D.isPureL e = true := by
  intro e he
  simp only [prR, List.mem_map] at he
  obtain ⟨p, _, rfl⟩ := he
  rfl
theorem pureE_prR (l : List (Int × Int)) : pureE (prR l) = True := eq_true (prR_pure l)
theorem prR_len (l : List (Int × Int)) : (prR l).length = l.length := by simp [prR]
theorem prR_snoc (l : List (Nat × Nat)) (c v : Nat) : prR (pairI l) ++ [[.int .i64 (c : Int), .int .i64 (v : Int)]] = prR (pairI (l ++ [(c, v)])) := by simp [prR, pairI]
theorem prR_nil : prR (pairI []) = [] := rfl
theorem arow_pure (l : List (Nat × Nat)) : ∀ e ∈ arow (entC l), D.isPureL e = true := by
  intro e he
  simp only [arow, entC, List.map_map, List.mem_map] at he
  obtain ⟨p, _, rfl⟩ := he
  rfl
theorem pureE_ent (l : List (Nat × Nat)) : pureE (arow (entC l)) = True := eq_true (arow_pure l)
/-- What merges out of a cube of a level. -/
def childOf (now : List (Nat × Nat)) (p q : Nat × Nat) : Prop := ∃ b, p.1.testBit b = true ∧ (p.1, p.2 ^^^ 2 ^ b) ∈ now ∧ q = (clr p.1 b, clr p.2 b)
def NextJ (now : List (Nat × Nat)) (seen : List Nat) (nx : List (Nat × Nat)) : Prop := nx.Nodup ∧ ∀ q, q ∈ nx ↔ ∃ i, i ∈ seen ∧ childOf now (now.getD i (0, 0)) q
def OutJ (t : BitVec 64) (m : Nat) (now out : List (Nat × Nat)) (seen : List Nat) (o : List (Nat × Nat)) : Prop := o.Nodup ∧ ∀ q, q ∈ o ↔ q ∈ out ∨ ∃ i, i ∈ seen ∧ q = now.getD i (0, 0) ∧ primeB t m q = true
theorem nodup_inj {α : Type} {l : List α} (h : l.Nodup) {i j : Nat} (hi : i < l.length) (hj : j < l.length) (e : l[i] = l[j]) : i = j := by
  unfold List.Nodup at h
  rw [List.pairwise_iff_getElem] at h
  refine Classical.byContradiction fun hne => ?_
  rcases Nat.lt_or_gt_of_ne hne with hlt | hlt
  · exact h i j hi hj hlt e
  · exact h j i hj hi hlt e.symm
theorem all_in {n : Nat} {l : List Nat} (hd : l.Nodup) (h : ∀ x ∈ l, x < n) (hl : l.length = n) : ∀ i, i < n → i ∈ l := fun i hi => by
  refine Classical.byContradiction fun hno => ?_
  have := nodup_below n (i :: l) (List.nodup_cons.2 ⟨hno, hd⟩) fun x hx => by
    rcases List.mem_cons.1 hx with rfl | hx
    · exact hi
    · exact h x hx
  rw [List.length_cons] at this
  omega
theorem NextJ.done {t : BitVec 64} {m r : Nat} {now nx : List (Nat × Nat)} {seen : List Nat} (hm : m ≤ 6) (hn : NowOK t m r now) (h : NextJ now seen nx) (hall : ∀ i, i < now.length → i ∈ seen) (hlt : ∀ i ∈ seen, i < now.length) : NowOK t m (r + 1) nx := by
  refine next_ok hm hn h.1 fun q => ?_
  rw [h.2]
  constructor
  · rintro ⟨i, hi, b, h1, h2, h3⟩
    exact ⟨_, getD_mem (hlt i hi), b, h1, h2, h3⟩
  · rintro ⟨p, hp, b, h1, h2, h3⟩
    obtain ⟨i, hi, rfl⟩ := List.getElem_of_mem hp
    refine ⟨i, hall i hi, b, ?_⟩
    rw [show now.getD i (0, 0) = now[i] by simp [List.getD, hi]]
    exact ⟨h1, h2, h3⟩
theorem OutJ.done {t : BitVec 64} {m r : Nat} {now out o : List (Nat × Nat)} {seen : List Nat} (hn : NowOK t m r now) (ho : OutOK t m r out) (h : OutJ t m now out seen o) (hall : ∀ i, i < now.length → i ∈ seen) (hlt : ∀ i ∈ seen, i < now.length) : OutOK t m (r + 1) o := by
  refine ⟨h.1, fun p => ?_⟩
  rw [h.2, ho.2]
  constructor
  · rintro (⟨h1, h2⟩ | ⟨i, hi, rfl, h1⟩)
    · exact ⟨h1, by omega⟩
    · have := ((hn.2 _).1 (getD_mem (d := (0, 0)) (hlt i hi))).2
      exact ⟨h1, by omega⟩
  · rintro ⟨h1, h2⟩
    by_cases he : m < pc p.1 + r
    · exact .inl ⟨h1, he⟩
    · have hp := (hn.2 p).2 ⟨(prime_iff.1 h1).1, by omega⟩
      obtain ⟨i, hi, rfl⟩ := List.getElem_of_mem hp
      exact .inr ⟨i, hall i hi, by simp [List.getD, hi], h1⟩
theorem prime_now {t : BitVec 64} {m r : Nat} {now : List (Nat × Nat)} (hm : m ≤ 6) (hn : NowOK t m r now) {p : Nat × Nat} (hp : p ∈ now) : primeB t m p = true ↔ ∀ b, p.1.testBit b = true → (p.1, p.2 ^^^ 2 ^ b) ∉ now := by
  have hc := ((hn.2 p).1 hp).1
  have h64 := cube_lt hm hc
  rw [prime_iff]
  constructor
  · rintro ⟨_, h⟩ b hb hin
    have := (neigh hm hn hp hb).1 hin
    rw [h b (bit_lt6 h64.1 hb) hb] at this
    cases this
  · intro h
    refine ⟨hc, fun b hb6 hb => ?_⟩
    cases hcb : cubeB t m (clr p.1 b, clr p.2 b)
    · rfl
    · exact absurd ((neigh hm hn hp hb).2 hcb) (h b hb)
/-- The bits of a cube, one after another. -/
structure BitI (now : List (Nat × Nat)) (c v : Nat) (nx0 : List (Nat × Nat)) (mm : Nat) (nx : List (Nat × Nat)) (pr : Bool) : Prop where
  lt : mm < 64
  sub : ∀ b, mm.testBit b = true → c.testBit b = true
  nd : nx.Nodup
  mem : ∀ q, q ∈ nx ↔ q ∈ nx0 ∨ ∃ b, c.testBit b = true ∧ mm.testBit b = false ∧ (c, v ^^^ 2 ^ b) ∈ now ∧ q = (clr c b, clr v b)
  pr : pr = true ↔ ∀ b, c.testBit b = true → mm.testBit b = false → (c, v ^^^ 2 ^ b) ∉ now
theorem BitI.step {now : List (Nat × Nat)} {c v : Nat} {nx0 : List (Nat × Nat)} {mm : Nat} {nx : List (Nat × Nat)} {pr : Bool} (h : BitI now c v nx0 mm nx pr) {b : Nat} (hb : mm.testBit b = true) :
    BitI now c v nx0 (clr mm b) (if (c, v ^^^ 2 ^ b) ∈ now then insN (clr c b, clr v b) nx else nx) (if (c, v ^^^ 2 ^ b) ∈ now then false else pr) := by
  have hcb := h.sub b hb
  have hbit : ∀ j, (clr mm b).testBit j = false ↔ mm.testBit j = false ∨ b = j := fun j => by
    rw [clr_bit]
    cases mm.testBit j <;> by_cases e : b = j <;> simp [e]
  refine ⟨clr_lt (n := 6) h.lt, fun j hj => h.sub j (by rw [clr_bit, Bool.and_eq_true] at hj; exact hj.1), ?_, fun q => ?_, ?_⟩
  · split
    · exact insN_nodup h.nd
    · exact h.nd
  · by_cases hin : (c, v ^^^ 2 ^ b) ∈ now
    · rw [if_pos hin, insN_mem, h.mem]
      constructor
      · rintro ((hq | ⟨j, h1, h2, h3, h4⟩) | rfl)
        · exact .inl hq
        · exact .inr ⟨j, h1, (hbit j).2 (.inl h2), h3, h4⟩
        · exact .inr ⟨b, hcb, (hbit b).2 (.inr rfl), hin, rfl⟩
      · rintro (hq | ⟨j, h1, h2, h3, h4⟩)
        · exact .inl (.inl hq)
        · rcases (hbit j).1 h2 with h2 | rfl
          · exact .inl (.inr ⟨j, h1, h2, h3, h4⟩)
          · exact .inr h4
    · rw [if_neg hin, h.mem]
      constructor
      · rintro (hq | ⟨j, h1, h2, h3, h4⟩)
        · exact .inl hq
        · exact .inr ⟨j, h1, (hbit j).2 (.inl h2), h3, h4⟩
      · rintro (hq | ⟨j, h1, h2, h3, h4⟩)
        · exact .inl hq
        · rcases (hbit j).1 h2 with h2 | rfl
          · exact .inr ⟨j, h1, h2, h3, h4⟩
          · exact absurd h3 hin
  · by_cases hin : (c, v ^^^ 2 ^ b) ∈ now
    · rw [if_pos hin]
      exact ⟨fun h => absurd h (by simp), fun h => absurd hin (h b hcb ((hbit b).2 (.inr rfl)))⟩
    · rw [if_neg hin, h.pr]
      constructor
      · intro hh j h1 h2
        rcases (hbit j).1 h2 with h2 | rfl
        · exact hh j h1 h2
        · exact hin
      · intro hh j h1 h2
        exact hh j h1 ((hbit j).2 (.inl h2))
theorem BitI.start {now : List (Nat × Nat)} {c v : Nat} {nx0 : List (Nat × Nat)} (hc : c < 64) (hd : nx0.Nodup) : BitI now c v nx0 c nx0 true :=
  ⟨hc, fun _ h => h, hd, fun q => ⟨.inl, fun h => h.elim id fun ⟨b, h1, h2, _⟩ => by rw [h1] at h2; cases h2⟩, ⟨fun _ b h1 h2 => absurd h1 (by simp [h2]), fun _ => rfl⟩⟩
end Fm
theorem Implicants19 (t : BitVec 64) (n : Int) : Runs Tryd.prog 19 [.int .u64 (ui t), .int .i64 n] (.tup [.sl 2 (prR (implA t n).1), .int .i64 (implA t n).2]) := by
  refine CallT.go_fn mixed Tryd.func19 k19 (by simp) fun hf => ?_
  simp only [Int.reduceToNat, Int.reduceLT, Int.reduceLE, Int.reduceBEq, Int.reduceBNe, St0, argFr, ↓callZ, ↓midZ, ↓unZ, ↓thenW, ↓blockW, ↓opX, ↓opV, ↓pX, ↓pW, ↓putK, ↓putP, ↓atK, ↓normK, ↓postZ, ↓reduceIte, reduceIte, Nat.reduceEqDiff, Nat.reduceAdd, Nat.reduceBEq, Nat.reduceLT, Nat.reduceLeDiff, binW, bodyQ, ressW, resW, ne_eq, forall_const, reduceCtorEq, implies_true, sets, oneAll, setD, rels, fillE, fillD, List.replicate, rowsOf, forall_eq, Nat.reduceMul, ↓zD, zT]
  refine .go (CallT.of_runs (tableErr50 t n) rfl) ?_
  by_cases hc : tableErr t n = 0
  case neg =>
    have e : (tableErr t n != 0) = true := by simpa using hc
    simp only [Int.reduceToNat, Int.reduceLT, Int.reduceLE, Int.reduceBEq, Int.reduceBNe, St0, argFr, ↓callZ, ↓midZ, ↓unZ, ↓thenW, ↓blockW, ↓opX, ↓opV, ↓pX, ↓pW, ↓putK, ↓putP, ↓atK, ↓normK, ↓postZ, ↓reduceIte, reduceIte, Nat.reduceEqDiff, Nat.reduceAdd, Nat.reduceBEq, Nat.reduceLT, Nat.reduceLeDiff, binW, bodyQ, ressW, resW, ne_eq, forall_const, reduceCtorEq, implies_true, sets, oneAll, setD, rels, fillE, fillD, List.replicate, rowsOf, forall_eq, Nat.reduceMul, ↓zD, zT, e]
    rw [show implA t n = ([], tableErr t n) from if_pos hc]
    exact .drop (by simp) (by simp [vw, vwL, prR])
  have e : (tableErr t n != 0) = false := by simpa using hc
  obtain ⟨m, rfl, hm⟩ : ∃ m : Nat, n = m ∧ m ≤ 6 := by
    unfold tableErr at hc
    by_cases h : n < 0 ∨ 6 < n
    · rw [if_pos h] at hc; cases hc
    · exact ⟨n.toNat, by omega, by omega⟩
  rw [show implA t m = (pairI (primesN t m), 0) by rw [implA, if_neg (by simpa using hc), Int.toNat_natCast]]
  have h64 := two64 hm
  have hp0 : 0 < 2 ^ m := Nat.two_pow_pos m
  have hw1 : IntKind.i64.wrap (((2 ^ m : Nat) : Int) - 1) = ((2 ^ m - 1 : Nat) : Int) := by rw [wrap_i64 (by omega)]; omega
  simp only [Int.reduceToNat, Int.reduceLT, Int.reduceLE, Int.reduceBEq, Int.reduceBNe, St0, argFr, ↓callZ, ↓midZ, ↓unZ, ↓thenW, ↓blockW, ↓opX, ↓opV, ↓pX, ↓pW, ↓putK, ↓putP, ↓atK, ↓normK, ↓postZ, ↓reduceIte, reduceIte, Nat.reduceEqDiff, Nat.reduceAdd, Nat.reduceBEq, Nat.reduceLT, Nat.reduceLeDiff, binW, bodyQ, ressW, resW, ne_eq, forall_const, reduceCtorEq, implies_true, sets, oneAll, setD, rels, fillE, fillD, List.replicate, rowsOf, forall_eq, Nat.reduceMul, ↓zD, zT, e, shlN (show m ≤ 61 by omega)]
  (repeat refine And.intro (by first | omega | exact ui_nonneg _ | exact Int.natCast_nonneg _ | rfl | exact rows_one' _ _ | exact us_one _ | (intro _ h; cases h; done)) ?_)
  refine wpS_loop (fun k : Nat => [(24, .int .i64 k), (23, .int .i64 ((2 ^ m : Nat) : Int)), (7, .mref 0), (1, .int .i64 m), (0, .int .u64 (ui t))]) (fun k => ⟨1, [(0, ⟨0, arow (entC (fillN t m k))⟩)]⟩) (fun k => k ≤ 2 ^ m) (fun k => 2 ^ m - k) 0 (Nat.zero_le _) ?_ ?_
  · (refine Weak.same ?_; simp [sameF, Fr.get, fillN, entC, arow])
  intro k hk
  refine wpS_go mixed ?_
  have hw : IntKind.i64.wrap ((k : Int) + 1) = ((k + 1 : Nat) : Int) := wrap_i64 (by omega)
  by_cases h : k < 2 ^ m
  · have hd : ((k : Int) < ((2 ^ m : Nat) : Int)) := by omega
    cases hb : t.getLsbD k
    · simp only [Int.reduceToNat, Int.reduceLT, Int.reduceLE, Int.reduceBEq, Int.reduceBNe, St0, argFr, ↓callZ, ↓midZ, ↓unZ, ↓thenW, ↓blockW, ↓opX, ↓opV, ↓pX, ↓pW, ↓putK, ↓putP, ↓atK, ↓normK, ↓postZ, ↓reduceIte, reduceIte, Nat.reduceEqDiff, Nat.reduceAdd, Nat.reduceBEq, Nat.reduceLT, Nat.reduceLeDiff, binW, bodyQ, ressW, resW, ne_eq, forall_const, reduceCtorEq, implies_true, sets, oneAll, setD, rels, fillE, fillD, List.replicate, rowsOf, forall_eq, Nat.reduceMul, ↓zD, zT, hd, bit_and1_eq, hb]
      (repeat refine And.intro (by first | omega | exact ui_nonneg _ | exact Int.natCast_nonneg _ | rfl | exact rows_one' _ _ | exact us_one _ | (intro _ h; cases h; done)) ?_)
      refine ⟨k + 1, by omega, ?_, by omega⟩
      rw [show fillN t m (k + 1) = fillN t m k by rw [fillN, hb, if_neg (by simp)]]
      (refine Weak.same ?_; simp only [sameF, Fr.get, ↓reduceIte, reduceIte, Nat.reduceEqDiff, reduceCtorEq, D.int.injEq, D.bool.injEq, D.sl.injEq, and_true, true_and, and_self])
      exact hw
    · have hmp : ∀ {nx' : Nat} {objs' : List (Nat × Ob)} {K : D → St → Prop}, St.look objs' 0 = some ⟨0, arow (entC (fillN t m k))⟩ → mputsW ⟨nx', objs'⟩ 2 (.mref 0) (.agg [.int .i64 ((2 ^ m - 1 : Nat) : Int), .int .i64 k]) (.bool true) K = K .und ⟨nx', setL objs' 0 ⟨0, arow (entC (insN (2 ^ m - 1, k) (fillN t m k)))⟩⟩ := fun hl => by
        rw [← put_ent]
        exact mputsW_any hl rfl rfl (entC_two _)
      simp only [Int.reduceToNat, Int.reduceLT, Int.reduceLE, Int.reduceBEq, Int.reduceBNe, St0, argFr, ↓callZ, ↓midZ, ↓unZ, ↓thenW, ↓blockW, ↓opX, ↓opV, ↓pX, ↓pW, ↓putK, ↓putP, ↓atK, ↓normK, ↓postZ, ↓reduceIte, reduceIte, Nat.reduceEqDiff, Nat.reduceAdd, Nat.reduceBEq, Nat.reduceLT, Nat.reduceLeDiff, binW, bodyQ, ressW, resW, ne_eq, forall_const, reduceCtorEq, implies_true, sets, oneAll, setD, rels, fillE, fillD, List.replicate, rowsOf, forall_eq, Nat.reduceMul, ↓zD, zT, hd, bit_and1_eq, hb, shlN (show m ≤ 61 by omega), hw1, hmp]
      (repeat refine And.intro (by first | omega | exact ui_nonneg _ | exact Int.natCast_nonneg _ | rfl | exact rows_one' _ _ | exact us_one _ | (intro _ h; cases h; done)) ?_)
      refine ⟨k + 1, by omega, ?_, by omega⟩
      rw [show fillN t m (k + 1) = insN (2 ^ m - 1, k) (fillN t m k) by rw [fillN, hb, if_pos rfl]]
      (refine Weak.same ?_; simp only [sameF, Fr.get, ↓reduceIte, reduceIte, Nat.reduceEqDiff, reduceCtorEq, D.int.injEq, D.bool.injEq, D.sl.injEq, and_true, true_and, and_self])
      exact hw
  have hd : ¬ ((k : Int) < ((2 ^ m : Nat) : Int)) := by omega
  have hfill := fill_ok (t := t) hm
  rw [show k = 2 ^ m by omega]
  rw [show k = 2 ^ m by omega] at hd
  generalize fillN t m (2 ^ m) = l0 at hfill
  simp only [Int.reduceToNat, Int.reduceLT, Int.reduceLE, Int.reduceBEq, Int.reduceBNe, St0, argFr, ↓callZ, ↓midZ, ↓unZ, ↓thenW, ↓blockW, ↓opX, ↓opV, ↓pX, ↓pW, ↓putK, ↓putP, ↓atK, ↓normK, ↓postZ, ↓reduceIte, reduceIte, Nat.reduceEqDiff, Nat.reduceAdd, Nat.reduceBEq, Nat.reduceLT, Nat.reduceLeDiff, binW, bodyQ, ressW, resW, ne_eq, forall_const, reduceCtorEq, implies_true, sets, oneAll, setD, rels, fillE, fillD, List.replicate, rowsOf, forall_eq, Nat.reduceMul, ↓zD, zT, hd]
  refine wpS_loop (fun a : Nat × List (Nat × Nat) × List (Nat × Nat) => [(9, growD 1 2 (prR (pairI a.2.2))), (7, .mref 0)]) (fun a => ⟨2, growO 1 2 (prR (pairI a.2.2)) ++ [(0, ⟨0, arow (entC a.2.1)⟩)]⟩) (fun a => NowOK t m a.1 a.2.1 ∧ OutOK t m a.1 a.2.2 ∧ a.1 ≤ m + 1) (fun a => m + 1 - a.1) (0, l0, [])
    ⟨hfill, ⟨by simp, fun p => ⟨fun h => by simp at h, fun ⟨h1, h2⟩ => absurd h2 (by have := pc_le m hm p.1 (cube_iff.1 (prime_iff.1 h1).1).1; omega)⟩⟩, by simp⟩ ?_ ?_
  · (refine Weak.ren [] [0] (by simp) (by simp) (by decide) ?_; simp only [stay1, vwL, vw, vwF, sw, St.get, St.look, Fr.get, ↓reduceIte, reduceIte, Nat.reduceEqDiff, Nat.reduceAdd, Nat.reduceBEq, Nat.reduceLT, Nat.reduceLeDiff, exists_eq_left', ne_eq, reduceCtorEq, zR, prR_nil, growD_nil, growO_nil, List.nil_append, pureE_ent])
  rintro ⟨r, now, out⟩ ⟨hnow, hout, hr⟩
  simp only at hnow hout hr
  refine wpS_go mixed ?_
  have hnl : now.length ≤ 4096 := few_pairs hnow.1 fun p hp => cube_lt hm ((hnow.2 p).1 hp).1
  have hol : out.length ≤ 4096 := few_pairs hout.1 fun p hp => cube_lt hm (prime_iff.1 ((hout.2 p).1 hp).1).1
  by_cases hne : now = []
  · subst hne
    have hperm := out_perm hm hout hnow
    have hd : ¬ (0 : Int) < ((([] : List (Nat × Nat)).length : Nat) : Int) := by simp
    by_cases ho : out = []
    · subst ho
      have hpn : primesN t m = [] := List.perm_nil.1 hperm
      rw [hpn]
      simp only [Int.reduceToNat, Int.reduceLT, Int.reduceLE, Int.reduceBEq, Int.reduceBNe, St0, argFr, ↓callZ, ↓midZ, ↓unZ, ↓thenW, ↓blockW, ↓opX, ↓opV, ↓pX, ↓pW, ↓putK, ↓putP, ↓atK, ↓normK, ↓postZ, ↓reduceIte, reduceIte, Nat.reduceEqDiff, Nat.reduceAdd, Nat.reduceBEq, Nat.reduceLT, Nat.reduceLeDiff, binW, bodyQ, ressW, resW, ne_eq, forall_const, reduceCtorEq, implies_true, sets, oneAll, setD, rels, fillE, fillD, List.replicate, rowsOf, forall_eq, Nat.reduceMul, ↓zD, zT, entC_len, hd, prR_nil, growD_nil, growO_nil]
      (repeat refine And.intro (by first | omega | exact ui_nonneg _ | exact Int.natCast_nonneg _ | rfl | exact rows_one' _ _ | exact us_one _ | (intro _ h; cases h; done)) ?_)
      refine .go sort52n ?_
      simp only [Int.reduceToNat, Int.reduceLT, Int.reduceLE, Int.reduceBEq, Int.reduceBNe, St0, argFr, ↓callZ, ↓midZ, ↓unZ, ↓thenW, ↓blockW, ↓opX, ↓opV, ↓pX, ↓pW, ↓putK, ↓putP, ↓atK, ↓normK, ↓postZ, ↓reduceIte, reduceIte, Nat.reduceEqDiff, Nat.reduceAdd, Nat.reduceBEq, Nat.reduceLT, Nat.reduceLeDiff, binW, bodyQ, ressW, resW, ne_eq, forall_const, reduceCtorEq, implies_true, sets, oneAll, setD, rels, fillE, fillD, List.replicate, rowsOf, forall_eq, Nat.reduceMul, ↓zD, zT]
      exact .drop (by simp) (by simp [vw, vwL, prR, pairI])
    · have hone : prR (pairI out) ≠ [] := by simpa [prR, pairI] using ho
      have hpi : (pairI (primesN t m)).Perm (pairI out) := hperm.map _
      rw [growD_ne hone, growO_ne hone, prR_len]
      simp only [Int.reduceToNat, Int.reduceLT, Int.reduceLE, Int.reduceBEq, Int.reduceBNe, St0, argFr, ↓callZ, ↓midZ, ↓unZ, ↓thenW, ↓blockW, ↓opX, ↓opV, ↓pX, ↓pW, ↓putK, ↓putP, ↓atK, ↓normK, ↓postZ, ↓reduceIte, reduceIte, Nat.reduceEqDiff, Nat.reduceAdd, Nat.reduceBEq, Nat.reduceLT, Nat.reduceLeDiff, binW, bodyQ, ressW, resW, ne_eq, forall_const, reduceCtorEq, implies_true, sets, oneAll, setD, rels, fillE, fillD, List.replicate, rowsOf, forall_eq, Nat.reduceMul, ↓zD, zT, entC_len, hd]
      (repeat refine And.intro (by first | omega | exact ui_nonneg _ | exact Int.natCast_nonneg _ | rfl | exact rows_one' _ _ | exact us_one _ | (intro _ h; cases h; done)) ?_)
      refine .go (sort52 (l := pairI out) (target := pairI (primesN t m)) (by simp [St.get, St.look]) (by rw [pairI_len]; omega) hpi (pairI_sorted t m)) ?_
      simp only [Int.reduceToNat, Int.reduceLT, Int.reduceLE, Int.reduceBEq, Int.reduceBNe, St0, argFr, ↓callZ, ↓midZ, ↓unZ, ↓thenW, ↓blockW, ↓opX, ↓opV, ↓pX, ↓pW, ↓putK, ↓putP, ↓atK, ↓normK, ↓postZ, ↓reduceIte, reduceIte, Nat.reduceEqDiff, Nat.reduceAdd, Nat.reduceBEq, Nat.reduceLT, Nat.reduceLeDiff, binW, bodyQ, ressW, resW, ne_eq, forall_const, reduceCtorEq, implies_true, sets, oneAll, setD, rels, fillE, fillD, List.replicate, rowsOf, forall_eq, Nat.reduceMul, ↓zD, zT]
      exact .drop (by simp) ⟨rfl, osl_view (by omega) (prR_pure _) (by rw [prR_len]; exact hpi.length_eq.symm), by simp [vw], trivial⟩
  have hpos : 0 < now.length := List.length_pos_iff.2 hne
  have hd : (0 : Int) < (now.length : Int) := by omega
  have hrm : r ≤ m := by
    have := (hnow.2 _).1 (getD_mem (d := (0, 0)) hpos)
    omega
  simp only [Int.reduceToNat, Int.reduceLT, Int.reduceLE, Int.reduceBEq, Int.reduceBNe, St0, argFr, ↓callZ, ↓midZ, ↓unZ, ↓thenW, ↓blockW, ↓opX, ↓opV, ↓pX, ↓pW, ↓putK, ↓putP, ↓atK, ↓normK, ↓postZ, ↓reduceIte, reduceIte, Nat.reduceEqDiff, Nat.reduceAdd, Nat.reduceBEq, Nat.reduceLT, Nat.reduceLeDiff, binW, bodyQ, ressW, resW, ne_eq, forall_const, reduceCtorEq, implies_true, sets, oneAll, setD, rels, fillE, fillD, List.replicate, rowsOf, forall_eq, Nat.reduceMul, ↓zD, zT, entC_len, hd]
  (repeat refine And.intro (by first | omega | exact ui_nonneg _ | exact Int.natCast_nonneg _ | rfl | exact rows_one' _ _ | exact us_one _ | (intro _ h; cases h; done)) ?_)
  refine mloop_go mixed 0 (arow (entC now)) (by simp [evO, Fr.get]) (by show St.look _ 0 = _; rw [look_cons, if_neg (by omega), look_growO, if_neg (by omega)]; rfl)
    (fun (_ : List Nat) (a : List (Nat × Nat) × List (Nat × Nat)) => [(10, .mref 2), (9, growD 1 2 (prR (pairI a.2))), (7, .mref 0)]) (fun _ a => ⟨3, (2, ⟨0, arow (entC a.1)⟩) :: (growO 1 2 (prR (pairI a.2)) ++ [(0, ⟨0, arow (entC now)⟩)])⟩)
    (fun seen a => NextJ now seen a.1 ∧ OutJ t m now out seen a.2) ([], out) ⟨⟨by simp, by simp⟩, hout.1, by simp⟩ ?_ ?_ ?_ ?_
  · intro b
    (refine Weak.same ?_; simp [sameF, Fr.get, entC, arow])
  · intro seen a _
    show St.look _ 0 = _
    rw [look_cons, if_neg (by omega), look_growO, if_neg (by omega)]; rfl
  · rintro b seen ⟨nx, o⟩ ⟨hj1, hj2⟩ hnd hlt hall
    rw [entC_len] at hlt hall
    have hal := all_in hnd hlt hall
    simp only [Int.reduceToNat, Int.reduceLT, Int.reduceLE, Int.reduceBEq, Int.reduceBNe, St0, argFr, ↓callZ, ↓midZ, ↓unZ, ↓thenW, ↓blockW, ↓opX, ↓opV, ↓pX, ↓pW, ↓putK, ↓putP, ↓atK, ↓normK, ↓postZ, ↓reduceIte, reduceIte, Nat.reduceEqDiff, Nat.reduceAdd, Nat.reduceBEq, Nat.reduceLT, Nat.reduceLeDiff, binW, bodyQ, ressW, resW, ne_eq, forall_const, reduceCtorEq, implies_true, sets, oneAll, setD, rels, fillE, fillD, List.replicate, rowsOf, forall_eq, Nat.reduceMul, ↓zD, zT]
    refine ⟨(r + 1, nx, o), ⟨hj1.done hm hnow hal hlt, hj2.done hnow hout hal hlt, by simp only; omega⟩, ?_, by simp only; omega⟩
    (refine Weak.ren [(0, 2)] [1, 0] (by simp) (by simp) (by decide) ?_; simp only [stay1, vwL, vw, vwF, sw, St.get, St.look, Fr.get, ↓reduceIte, reduceIte, Nat.reduceEqDiff, Nat.reduceAdd, Nat.reduceBEq, Nat.reduceLT, Nat.reduceLeDiff, exists_eq_left', ne_eq, reduceCtorEq, zR, pureE_prR, pureE_ent])
  rintro b0 seen ⟨nx0, o⟩ i ⟨hj1, hj2⟩ hnd hlt hi hni
  simp only at hj1 hj2
  rw [entC_len] at hlt hi
  have hgi := entC_get now hi
  have hpm := getD_mem (d := (0, 0)) hi
  generalize hpi : now.getD i (0, 0) = p at hgi hpm
  obtain ⟨c, v⟩ := p
  simp only at hgi
  have hcube := ((hnow.2 _).1 hpm).1
  have h64c := cube_lt hm hcube
  simp only at h64c
  rw [hgi]
  simp only [Int.reduceToNat, Int.reduceLT, Int.reduceLE, Int.reduceBEq, Int.reduceBNe, St0, argFr, ↓callZ, ↓midZ, ↓unZ, ↓thenW, ↓blockW, ↓opX, ↓opV, ↓pX, ↓pW, ↓putK, ↓putP, ↓atK, ↓normK, ↓postZ, ↓reduceIte, reduceIte, Nat.reduceEqDiff, Nat.reduceAdd, Nat.reduceBEq, Nat.reduceLT, Nat.reduceLeDiff, binW, bodyQ, ressW, resW, ne_eq, forall_const, reduceCtorEq, implies_true, sets, oneAll, setD, rels, fillE, fillD, List.replicate, rowsOf, forall_eq, Nat.reduceMul, ↓zD, zT]
  (repeat refine And.intro (by first | omega | exact ui_nonneg _ | exact Int.natCast_nonneg _ | rfl | exact rows_one' _ _ | exact us_one _ | (intro _ h; cases h; done)) ?_)
  refine mround_go mixed ?_
  simp only [Int.reduceToNat, Int.reduceLT, Int.reduceLE, Int.reduceBEq, Int.reduceBNe, St0, argFr, ↓callZ, ↓midZ, ↓unZ, ↓thenW, ↓blockW, ↓opX, ↓opV, ↓pX, ↓pW, ↓putK, ↓putP, ↓atK, ↓normK, ↓postZ, ↓reduceIte, reduceIte, Nat.reduceEqDiff, Nat.reduceAdd, Nat.reduceBEq, Nat.reduceLT, Nat.reduceLeDiff, binW, bodyQ, ressW, resW, ne_eq, forall_const, reduceCtorEq, implies_true, sets, oneAll, setD, rels, fillE, fillD, List.replicate, rowsOf, forall_eq, Nat.reduceMul, ↓zD, zT]
  (repeat refine And.intro (by first | omega | exact ui_nonneg _ | exact Int.natCast_nonneg _ | rfl | exact rows_one' _ _ | exact us_one _ | (intro _ h; cases h; done)) ?_)
  refine wpS_loop (fun a : Nat × List (Nat × Nat) × Bool => [(44, .adr b0), (13, .int .i64 a.1), (12, .bool a.2.2), (11, .ref 3 2 0 0), (10, .mref 2), (9, growD 1 2 (prR (pairI o))), (7, .mref 0)])
    (fun a => ⟨4, (3, ⟨2, [[.int .i64 c, .int .i64 v]]⟩) :: (2, ⟨0, arow (entC a.2.1)⟩) :: (growO 1 2 (prR (pairI o)) ++ [(0, ⟨0, arow (entC now)⟩)])⟩) (fun a => BitI now c v nx0 a.1 a.2.1 a.2.2) (fun a => pc a.1) (c, nx0, true) (BitI.start h64c.1 hj1.1) ?_ ?_
  · (refine Weak.same ?_; simp [sameF, Fr.get])
  rintro ⟨mm, nx, pr⟩ hB
  simp only at hB
  refine wpS_go mixed ?_
  by_cases hm0 : mm = 0
  case neg =>
    have hmn : ((mm : Int) != 0) = true := by rw [bne_iff_ne]; omega
    obtain ⟨l1, l2, l3⟩ := low_bit mm hB.lt hm0
    have htz : Runs Tryd.prog 51 [.int .u64 mm] (.int .i64 (Lib.ctz 64 mm : Nat)) := by
      have h := tz51 (BitVec.ofNat 64 mm)
      have hlt := hB.lt
      rw [ui_ofNat (by omega)] at h
      unfold tz at h
      rw [BitVec.toNat_ofNat, Nat.mod_eq_of_lt (by omega)] at h
      exact h
    have hstep := hB.step l2
    have hcb := hB.sub _ l2
    have hmlt := hB.lt
    have hpcs := pc_clr mm hB.lt _ l1 l2
    generalize Lib.ctz 64 mm = b at l1 l2 l3 htz hstep hcb hpcs
    have hb64 : 2 ^ b < 64 := by
      have : 2 ^ b ≤ 2 ^ 5 := Nat.pow_le_pow_right (by decide) (by omega)
      omega
    have hmg : ∀ {nx' : Nat} {objs' : List (Nat × Ob)} {K : D → Prop}, St.look objs' 0 = some ⟨0, arow (entC now)⟩ → mgetsW ⟨nx', objs'⟩ 2 (.bool false) false (.mref 0) (.agg [.int .i64 c, .int .i64 ((v ^^^ 2 ^ b : Nat) : Int)]) K = K (.bool (decide ((c, v ^^^ 2 ^ b) ∈ now))) := fun hl => by
      rw [← get_ent]
      exact mgetsW_at hl (x := [(c : Int), ((v ^^^ 2 ^ b : Nat) : Int)]) rfl rfl (entC_two _)
    have hmp : ∀ {nx' : Nat} {objs' : List (Nat × Ob)} {K : D → St → Prop}, St.look objs' 2 = some ⟨0, arow (entC nx)⟩ → mputsW ⟨nx', objs'⟩ 2 (.mref 2) (.agg [.int .i64 ((clr c b : Nat) : Int), .int .i64 ((clr v b : Nat) : Int)]) (.bool true) K = K .und ⟨nx', setL objs' 2 ⟨0, arow (entC (insN (clr c b, clr v b) nx))⟩⟩ := fun hl => by
      rw [← put_ent]
      exact mputsW_any hl (y := [((clr c b : Nat) : Int), ((clr v b : Nat) : Int)]) rfl rfl (entC_two _)
    have hx := xorNat v (by omega) (2 ^ b) hb64
    have ha1 := andNotNat c (by omega) b l1
    have ha2 := andNotNat v (by omega) b l1
    have hm1 : IntKind.i64.wrap ((mm : Int) - 1) = ((mm - 1 : Nat) : Int) := by rw [wrap_i64 (by omega)]; omega
    have ham := andNat mm hmlt (mm - 1) (by omega)
    rw [l3] at ham
    simp only [Int.reduceToNat, Int.reduceLT, Int.reduceLE, Int.reduceBEq, Int.reduceBNe, St0, argFr, ↓callZ, ↓midZ, ↓unZ, ↓thenW, ↓blockW, ↓opX, ↓opV, ↓pX, ↓pW, ↓putK, ↓putP, ↓atK, ↓normK, ↓postZ, ↓reduceIte, reduceIte, Nat.reduceEqDiff, Nat.reduceAdd, Nat.reduceBEq, Nat.reduceLT, Nat.reduceLeDiff, binW, bodyQ, ressW, resW, ne_eq, forall_const, reduceCtorEq, implies_true, sets, oneAll, setD, rels, fillE, fillD, List.replicate, rowsOf, forall_eq, Nat.reduceMul, ↓zD, zT, hmn, convN (show mm ≤ 1000000 by omega)]
    (repeat refine And.intro (by first | omega | exact ui_nonneg _ | exact Int.natCast_nonneg _ | rfl | exact rows_one' _ _ | exact us_one _ | (intro _ h; cases h; done)) ?_)
    refine .go (CallT.of_runs htz rfl) ?_
    by_cases hin : (c, v ^^^ 2 ^ b) ∈ now
    · have hdec : decide ((c, v ^^^ 2 ^ b) ∈ now) = true := decide_eq_true hin
      rw [if_pos hin, if_pos hin] at hstep
      simp only [Int.reduceToNat, Int.reduceLT, Int.reduceLE, Int.reduceBEq, Int.reduceBNe, St0, argFr, ↓callZ, ↓midZ, ↓unZ, ↓thenW, ↓blockW, ↓opX, ↓opV, ↓pX, ↓pW, ↓putK, ↓putP, ↓atK, ↓normK, ↓postZ, ↓reduceIte, reduceIte, Nat.reduceEqDiff, Nat.reduceAdd, Nat.reduceBEq, Nat.reduceLT, Nat.reduceLeDiff, binW, bodyQ, ressW, resW, ne_eq, forall_const, reduceCtorEq, implies_true, sets, oneAll, setD, rels, fillE, fillD, List.replicate, rowsOf, forall_eq, Nat.reduceMul, ↓zD, zT, shlN (show b ≤ 61 by omega), hx, hmg, hdec, ha1, ha2, hmp, hm1, ham, look_growO]
      (repeat refine And.intro (by first | omega | exact ui_nonneg _ | exact Int.natCast_nonneg _ | rfl | exact rows_one' _ _ | exact us_one _ | (intro _ h; cases h; done)) ?_)
      refine ⟨(clr mm b, insN (clr c b, clr v b) nx, false), hstep, ?_, by simp only; omega⟩
      (refine Weak.same ?_; simp [sameF, Fr.get])
    · have hdec : decide ((c, v ^^^ 2 ^ b) ∈ now) = false := decide_eq_false hin
      rw [if_neg hin, if_neg hin] at hstep
      simp only [Int.reduceToNat, Int.reduceLT, Int.reduceLE, Int.reduceBEq, Int.reduceBNe, St0, argFr, ↓callZ, ↓midZ, ↓unZ, ↓thenW, ↓blockW, ↓opX, ↓opV, ↓pX, ↓pW, ↓putK, ↓putP, ↓atK, ↓normK, ↓postZ, ↓reduceIte, reduceIte, Nat.reduceEqDiff, Nat.reduceAdd, Nat.reduceBEq, Nat.reduceLT, Nat.reduceLeDiff, binW, bodyQ, ressW, resW, ne_eq, forall_const, reduceCtorEq, implies_true, sets, oneAll, setD, rels, fillE, fillD, List.replicate, rowsOf, forall_eq, Nat.reduceMul, ↓zD, zT, shlN (show b ≤ 61 by omega), hx, hmg, hdec, hm1, ham, look_growO]
      (repeat refine And.intro (by first | omega | exact ui_nonneg _ | exact Int.natCast_nonneg _ | rfl | exact rows_one' _ _ | exact us_one _ | (intro _ h; cases h; done)) ?_)
      refine ⟨(clr mm b, nx, pr), hstep, ?_, by simp only; omega⟩
      (refine Weak.same ?_; simp [sameF, Fr.get])
  subst hm0
  have hz : ∀ b, (0 : Nat).testBit b = false := fun b => Nat.zero_testBit b
  have hnext : NextJ now (seen ++ [i]) nx := by
    refine ⟨hB.nd, fun q => ?_⟩
    rw [hB.mem, hj1.2]
    constructor
    · rintro (⟨j, hj, hq⟩ | ⟨b, h1, _, h3, h4⟩)
      · exact ⟨j, by simp [hj], hq⟩
      · exact ⟨i, by simp, b, by rw [hpi]; exact h1, by rw [hpi]; exact h3, by rw [hpi]; exact h4⟩
    · rintro ⟨j, hj, hq⟩
      rcases List.mem_append.1 hj with hj | hj
      · exact .inl ⟨j, hj, hq⟩
      · rw [List.mem_singleton] at hj
        subst hj
        rw [hpi] at hq
        obtain ⟨b, h1, h3, h4⟩ := hq
        exact .inr ⟨b, h1, hz b, h3, h4⟩
  have hprime : pr = true ↔ primeB t m (c, v) = true := by
    rw [hB.pr, prime_now hm hnow hpm]
    exact ⟨fun h b hb => h b hb (hz b), fun h b hb _ => h b hb⟩
  have hol2 : o.length ≤ 4096 := few_pairs hj2.1 fun q hq => by
    rcases (hj2.2 q).1 hq with hq | ⟨j, hj, rfl, hq⟩
    · exact cube_lt hm (prime_iff.1 ((hout.2 q).1 hq).1).1
    · exact cube_lt hm (prime_iff.1 hq).1
  have hm00 : (((0 : Nat) : Int) != 0) = false := rfl
  cases pr
  · have hnp : ¬ primeB t m (c, v) = true := fun h => by have := hprime.2 h; cases this
    simp only [Int.reduceToNat, Int.reduceLT, Int.reduceLE, Int.reduceBEq, Int.reduceBNe, St0, argFr, ↓callZ, ↓midZ, ↓unZ, ↓thenW, ↓blockW, ↓opX, ↓opV, ↓pX, ↓pW, ↓putK, ↓putP, ↓atK, ↓normK, ↓postZ, ↓reduceIte, reduceIte, Nat.reduceEqDiff, Nat.reduceAdd, Nat.reduceBEq, Nat.reduceLT, Nat.reduceLeDiff, binW, bodyQ, ressW, resW, ne_eq, forall_const, reduceCtorEq, implies_true, sets, oneAll, setD, rels, fillE, fillD, List.replicate, rowsOf, forall_eq, Nat.reduceMul, ↓zD, zT, hm00]
    refine ⟨(nx, o), ⟨hnext, hj2.1, fun q => ?_⟩, ?_⟩
    · rw [hj2.2]
      constructor
      · rintro (hq | ⟨j, hj, hq⟩)
        · exact .inl hq
        · exact .inr ⟨j, by simp [hj], hq⟩
      · rintro (hq | ⟨j, hj, hq, hq2⟩)
        · exact .inl hq
        · rcases List.mem_append.1 hj with hj | hj
          · exact .inr ⟨j, hj, hq, hq2⟩
          · rw [List.mem_singleton] at hj
            subst hj
            rw [hpi] at hq
            subst hq
            exact absurd hq2 hnp
    · (refine Weak.ren [] [2, 1, 0] (by simp) (by simp) (by decide) ?_; simp only [stay1, vwL, vw, vwF, sw, St.get, St.look, Fr.get, ↓reduceIte, reduceIte, Nat.reduceEqDiff, Nat.reduceAdd, Nat.reduceBEq, Nat.reduceLT, Nat.reduceLeDiff, exists_eq_left', ne_eq, reduceCtorEq, zR, pureE_prR, pureE_ent])
  · have hp := hprime.1 rfl
    have hno : (c, v) ∉ o := by
      intro hin
      rcases (hj2.2 _).1 hin with hq | ⟨j, hj, hq, _⟩
      · have h1 := ((hout.2 _).1 hq).2
        have h2 := ((hnow.2 _).1 hpm).2
        omega
      · have hjl := hlt j hj
        have e1 : now.getD j (0, 0) = now[j] := by simp [List.getD, hjl]
        have e2 : now.getD i (0, 0) = now[i] := by simp [List.getD, hi]
        rw [← hpi, e1, e2] at hq
        exact hni (nodup_inj hnow.1 hi hjl hq ▸ hj)
    simp only [Int.reduceToNat, Int.reduceLT, Int.reduceLE, Int.reduceBEq, Int.reduceBNe, St0, argFr, ↓callZ, ↓midZ, ↓unZ, ↓thenW, ↓blockW, ↓opX, ↓opV, ↓pX, ↓pW, ↓putK, ↓putP, ↓atK, ↓normK, ↓postZ, ↓reduceIte, reduceIte, Nat.reduceEqDiff, Nat.reduceAdd, Nat.reduceBEq, Nat.reduceLT, Nat.reduceLeDiff, binW, bodyQ, ressW, resW, ne_eq, forall_const, reduceCtorEq, implies_true, sets, oneAll, setD, rels, fillE, fillD, List.replicate, rowsOf, forall_eq, Nat.reduceMul, ↓zD, zT, hm00, prR_len, pairI_len]
    (repeat refine And.intro (by first | omega | exact ui_nonneg _ | exact Int.natCast_nonneg _ | rfl | exact rows_one' _ _ | exact us_one _ | (intro _ h; cases h; done)) ?_)
    refine ⟨(nx, o ++ [(c, v)]), ⟨hnext, ?_, fun q => ?_⟩, ?_⟩
    · rw [List.nodup_append]
      refine ⟨hj2.1, by simp, fun a ha b hb => ?_⟩
      rw [List.mem_singleton] at hb
      subst hb
      exact fun e => hno (e ▸ ha)
    · rw [List.mem_append, List.mem_singleton, hj2.2]
      constructor
      · rintro ((hq | ⟨j, hj, hq⟩) | rfl)
        · exact .inl hq
        · exact .inr ⟨j, by simp [hj], hq⟩
        · exact .inr ⟨i, by simp, hpi.symm, hp⟩
      · rintro (hq | ⟨j, hj, hq, hq2⟩)
        · exact .inl (.inl hq)
        · rcases List.mem_append.1 hj with hj | hj
          · exact .inl (.inr ⟨j, hj, hq, hq2⟩)
          · rw [List.mem_singleton] at hj
            subst hj
            rw [hpi] at hq
            exact .inr hq
    · (refine Weak.ren [(1, 4)] [2, 1, 0] (by simp) (by simp) (by decide) ?_; simp only [stay1, vwL, vw, vwF, sw, St.get, St.look, Fr.get, ↓reduceIte, reduceIte, Nat.reduceEqDiff, Nat.reduceAdd, Nat.reduceBEq, Nat.reduceLT, Nat.reduceLeDiff, exists_eq_left', ne_eq, reduceCtorEq, zR, pureE_prR, pureE_ent, prR_snoc])
end Go.Pd
