/- Part C7. -/
import Derived.Test.YtjklmijiccabfaaKC4
set_option linter.unusedSectionVars false
set_option linter.unusedVariables false
set_option linter.unusedSimpArgs false
set_option linter.defProp false
set_option maxRecDepth 20000
set_option maxHeartbeats 1000000
namespace Go.Pd
open Go Go.Proofs
open Int renaming reduceToNat → ZA, reduceLT → ZB, reduceLE → ZC, reduceBEq → ZD, reduceBNe → ZE
open Nat renaming reduceEqDiff → ZF, reduceAdd → ZG, reduceBEq → ZH, reduceLT → ZI, reduceLeDiff → ZJ, reduceMul → ZK
open Rs Fm Ru Te
namespace Te
def mixF {α : Type} (L : Nat) (g h : Nat → α) (k : Nat) : List α := (List.range L).map fun i => if i < k then g i else h i
theorem mixF_len {α : Type} (L : Nat) (g h : Nat → α) (k : Nat) : (mixF L g h k).length = L := by simp [mixF]
theorem mixF_get {α : Type} {L : Nat} (g h : Nat → α) (k : Nat) {i : Nat} (hi : i < L) (d : α) : (mixF L g h k).getD i d = if i < k then g i else h i := by
 simp [mixF, List.getD, hi]
theorem mixF_set {α : Type} (L : Nat) (g h : Nat → α) (k : Nat) : (mixF L g h k).set k (g k) = mixF L g h (k + 1) := by
 refine List.ext_getElem (by simp [mixF]) fun i h1 h2 => ?_
 rw [List.getElem_set]
 simp only [mixF, List.getElem_map, List.getElem_range]
 by_cases e : k = i
 ·subst e; rw [if_pos rfl, if_pos (by omega)]
 ·rw [if_neg e]
  by_cases hk : i < k
  ·rw [if_pos hk, if_pos (by omega)]
  ·rw [if_neg hk, if_neg (by omega)]
theorem mixF_skip {α : Type} {L : Nat} {g h : Nat → α} {k : Nat} (e : g k = h k) : mixF L g h k = mixF L g h (k + 1) := by
 unfold mixF
 refine List.map_congr_left fun i _ => ?_
 by_cases hk : i < k
 ·rw [if_pos hk, if_pos (by omega)]
 ·rw [if_neg hk]
  by_cases e2 : i = k
  ·subst e2; rw [if_pos (by omega), e]
  ·rw [if_neg (by omega)]
theorem mixF_zero {α : Type} (L : Nat) (g : Nat → α) (c : α) : mixF L g (fun _ => c) 0 = List.replicate L c := by
 refine List.ext_getElem (by simp [mixF]) fun i h1 h2 => by simp [mixF]
theorem mixF_all {α : Type} (L : Nat) (g h : Nat → α) : mixF L g h L = (List.range L).map g := by
 refine List.map_congr_left fun f hf => ?_
 rw [if_pos (List.mem_range.1 hf)]
def binB (op : Int) : Bool := (decide (5 ≤ op) && decide (op ≤ 8)) || decide (op = 13)
def okF (f : List Nd) (fv : Nat → Bool) (k : Nat) : Bool := (if 4 ≤ (f.getD k nd0).op then fv (f.getD k nd0).x.toNat else true) && (if binB (f.getD k nd0).op = true then fv (f.getD k nd0).y.toNat else true)
end Te
theorem Sets49 {m : ModA} {f : List Nd} (hc : checkF f = 0) (hreq : Runs Try.prog 92 [m.d, .sl 6 (ndR f)] (.int .i64 0)) {sv : Nat → BitVec 64} {fv : Nat → Bool}
  (hcall : ∀ k, k < f.length → okF f fv k = true → ∀ x y, ((usesA (f.getD k nd0).op).1.x = true → x = sv (f.getD k nd0).x.toNat) → ((usesA (f.getD k nd0).op).1.y = true → y = sv (f.getD k nd0).y.toNat) →
   Runs Try.prog 93 [m.d, .agg (f.getD k nd0).row, .int .u64 (ui x), .int .u64 (ui y)] (.tup [.int .u64 (ui (sv k)), .bool (fv k)]))
  (hno : ∀ k, k < f.length → okF f fv k = false → sv k = 0#64 ∧ fv k = false) :
  Runs Try.prog 49 [m.d, .sl 6 (ndR f)] (.tup [.sl 1 (us ((List.range f.length).map sv)), .int .i64 0]) := by
 obtain ⟨c1, c2, c3⟩ := checkF_zero hc
 have hn : 0 < f.length := List.length_pos_iff.2 c1
 unfold ModA.d at hreq hcall ⊢
 refine CallT.go_fn mixed Try.func49 k49 (by simp) fun hf => ?_
 simp only [ZA, ZB, ZC, ZD, ZE, ↓reduceIte, reduceIte, ZF, ZG, ZH, ZI, ZJ, ne_eq, forall_const, reduceCtorEq, implies_true, forall_eq, ZK, ↓zU, ↓zD, zV, zT]
 (repeat refine sd ?_)
 refine .go (CallT.of_runs hreq (by simp [D.isPureL, D.isPure])) ?_
 simp only [ZA, ZB, ZC, ZD, ZE, ↓reduceIte, reduceIte, ZF, ZG, ZH, ZI, ZJ, ne_eq, forall_const, reduceCtorEq, implies_true, forall_eq, ZK, ↓zU, ↓zD, zV, zT, ndR_len]
 (repeat refine sd ?_)
 refine wpS_loop (fun k : Nat => [(26, .int .i64 k), (25, .int .i64 f.length), (24, .sl 6 (ndR f)), (8, .osl 2 1 f.length), (7, .osl 1 1 f.length), (2, .ref 0 3 0 0)])
  (fun k => ⟨3, [(2, ⟨1, rb (mixF f.length fv (fun _ => false) k)⟩), (1, ⟨1, us (mixF f.length sv (fun _ => 0#64) k)⟩), (0, ⟨3, [[.int .i64 m.W, .sl 1 (us m.V), .sl 1 (rr m.R)]]⟩)]⟩)
  (fun k => k ≤ f.length) (fun k => f.length - k) 0 (Nat.zero_le _) ?_ ?_
 ·rw [mixF_zero, mixF_zero, ← us_replicate, ← rb_replicate]
  (refine Weak.same ?_; simp [sameF, Fr.get])
 intro k hk
 refine wpS_go mixed ?_
 by_cases hkl : k < f.length
 case neg =>
  have hd : ¬ ((k : Int) < (f.length : Int)) := by omega
  have hke : k = f.length := by omega
  subst hke
  rw [mixF_all, mixF_all]
  have hlen : ((List.range f.length).map sv).length = f.length := by simp
  generalize (List.range f.length).map sv = l at hlen ⊢
  simp only [ZA, ZB, ZC, ZD, ZE, ↓reduceIte, reduceIte, ZF, ZG, ZH, ZI, ZJ, ne_eq, forall_const, reduceCtorEq, implies_true, forall_eq, ZK, ↓zU, ↓zD, zV, zT, hd]
  refine .drop (by simp) ?_
  simp only [vw, vwL]
  exact ⟨rfl, ⟨trivial, by decide, by simp, ⟨1, us l⟩, rfl, rfl, by simp only [us_len]; omega, by rw [← hlen, ← us_len, List.take_length], us_pure l⟩, trivial, trivial⟩
 have hd : ((k : Int) < (f.length : Int)) := by omega
 have hcall := hcall k hkl
 have hno := hno k hkl
 have hnd := c3 k hkl
 have hg := ndR_get f hkl
 have hux := uses_x (f.getD k nd0).op
 obtain ⟨hox, hoy⟩ := node_ops hnd
 obtain ⟨⟨x, hx, hxk⟩, ⟨y, hy, hyk⟩⟩ := node_xy hnd
 unfold okF at hcall hno
 generalize f.getD k nd0 = p at hcall hno hnd hg hux hox hoy hx hy
 obtain ⟨op, i, e, g, px, py⟩ := p
 simp only at hx hy
 subst hx hy
 have hrow : (Nd.row ⟨op, i, e, g, x, y⟩) = [.int .i64 op, .int .i64 i, .int .i64 e, .int .i64 g, .int .i64 x, .int .i64 y] := rfl
 rw [hrow] at hg hcall
 have hxl : x < f.length := by omega
 have hyl : y < f.length := by omega
 have hxl' : ((x : Int) < (f.length : Int)) := by omega
 have hyl' : ((y : Int) < (f.length : Int)) := by omega
 have hSx := mixF_get sv (fun _ => 0#64) k hxl 0#64
 have hSy := mixF_get sv (fun _ => 0#64) k hyl 0#64
 have hBx := mixF_get fv (fun _ => false) k hxl false
 have hBy := mixF_get fv (fun _ => false) k hyl false
 have hSl := mixF_len f.length sv (fun _ => 0#64) k
 have hBl := mixF_len f.length fv (fun _ => false) k
 have hSs := mixF_set f.length sv (fun _ => 0#64) k
 have hBs := mixF_set f.length fv (fun _ => false) k
 have hSk : sv k = 0#64 → mixF f.length sv (fun _ => 0#64) k = mixF f.length sv (fun _ => 0#64) (k + 1) := fun h => mixF_skip h
 have hBk : fv k = false → mixF f.length fv (fun _ => false) k = mixF f.length fv (fun _ => false) (k + 1) := fun h => mixF_skip h
 generalize mixF f.length sv (fun _ => 0#64) k = S at hSx hSy hSl hSs hSk ⊢
 generalize mixF f.length fv (fun _ => false) k = B at hBx hBy hBl hBs hBk ⊢
 simp only [Int.toNat_natCast] at hcall hno hux hox hoy
 have gSx := us_get S (show x < S.length by omega)
 have gSy := us_get S (show y < S.length by omega)
 have gBx := rb_get B (show x < B.length by omega)
 have gBy := rb_get B (show y < B.length by omega)
 have hop : 1 ≤ op ∧ op ≤ 21 := by
  have h2 := (nodeE_iff.1 hnd).1
  simp only at h2
  refine Decidable.byContradiction fun hh => ?_
  rw [uses_out (by omega)] at h2
  cases h2
 have hxu : (usesA op).1.x = true → S.getD x 0#64 = sv x := fun h => by rw [hSx, if_pos (by have := hox h; omega)]
 have hyu : (usesA op).1.y = true → S.getD y 0#64 = sv y := fun h => by rw [hSy, if_pos (by have := hoy h; omega)]
 have hfx : 4 ≤ op → B.getD x false = fv x := fun h => by
  have hu : (usesA op).1.x = true := by rw [hux, decide_eq_true h, decide_eq_true hop.2]; rfl
  rw [hBx, if_pos (by have := hox hu; omega)]
 have hby : binB op = true → (usesA op).1.y = true := fun h => by
  unfold binB at h
  simp only [Bool.or_eq_true, Bool.and_eq_true, decide_eq_true_eq] at h
  have : op = 5 ∨ op = 6 ∨ op = 7 ∨ op = 8 ∨ op = 13 := by omega
  rcases this with rfl | rfl | rfl | rfl | rfl <;> rfl
 have hfy : binB op = true → B.getD y false = fv y := fun h => by rw [hBy, if_pos (by have := hoy (hby h); omega)]
 have hc' := fun h => hcall h (S.getD x 0#64) (S.getD y 0#64) hxu hyu
 clear hcall hxu hyu hSx hSy hBx hBy
 generalize S.getD x 0#64 = sx at gSx hc'
 generalize S.getD y 0#64 = sy at gSy hc'
 generalize B.getD x false = bx at gBx hfx
 generalize B.getD y false = by' at gBy hfy
 have hwu : IntKind.i64.wrap ((k : Int) + 1) = ((k + 1 : Nat) : Int) := wrap_i64 (by omega)
 have gSk := us_get S (show k < S.length by omega)
 have gBk := rb_get B (show k < B.length by omega)
 by_cases h4 : 4 ≤ op
 case neg =>
  have h5 : ¬ (5 : Int) ≤ op := by omega
  have h13 : (op == 13) = false := by rw [beq_eq_false_iff_ne]; omega
  have hb : binB op = false := by unfold binB; rw [decide_eq_false h5, decide_eq_false (show ¬ op = 13 by omega)]; rfl
  simp only [ZA, ZB, ZC, ZD, ZE, ↓reduceIte, reduceIte, ZF, ZG, ZH, ZI, ZJ, ne_eq, forall_const, reduceCtorEq, implies_true, forall_eq, ZK, ↓zU, ↓zD, zV, zT, hd, hwu, ndR_len, hg, us_len, rb_len, hSl, hBl, hxl', hyl', gSx, gSy, gBx, gBy, gSk, gBk, set1, h4, h5, h13]
  (repeat refine sd ?_)
  refine .go (CallT.of_runs (hc' (by rw [if_neg h4, hb]; rfl)) (by simp [D.isPureL, D.isPure])) ?_
  simp only [ZA, ZB, ZC, ZD, ZE, ↓reduceIte, reduceIte, ZF, ZG, ZH, ZI, ZJ, ne_eq, forall_const, reduceCtorEq, implies_true, forall_eq, ZK, ↓zU, ↓zD, zV, zT, hd, hwu, ndR_len, hg, us_len, rb_len, hSl, hBl, hxl', hyl', gSx, gSy, gBx, gBy, gSk, gBk, set1, h4, h5, h13, us_set, rb_set, hSs, hBs]
  (repeat refine sd ?_)
  refine ⟨k + 1, by omega, ?_, by omega⟩
  (refine Weak.ren [] [2, 1, 0] (by simp) (by simp) (by decide) ?_; simp only [stay1, vwL, vw, vwF, sw, St.get, St.look, Fr.get, ↓reduceIte, reduceIte, Nat.reduceEqDiff, Nat.reduceAdd, Nat.reduceBEq, Nat.reduceLT, Nat.reduceLeDiff, exists_eq_left', ne_eq, reduceCtorEq, zR, pureE_us, pureE_rb])
 have hfx := hfx h4
 subst hfx
 rw [if_pos h4] at hc' hno
 cases hb : binB op with
 | false =>
  rw [hb, if_neg (by decide), Bool.and_true] at hc' hno
  have h13 : (op == 13) = false := by
   rw [beq_eq_false_iff_ne]; rintro rfl; cases hb
  have h58 : ¬ (5 ≤ op ∧ op ≤ 8) := by
   rintro ⟨z1, z2⟩; unfold binB at hb; rw [decide_eq_true z1, decide_eq_true z2] at hb; cases hb
  by_cases h5 : 5 ≤ op
  ·have h8 : ¬ op ≤ 8 := by omega
   cases hf : fv x with
   | true =>
    simp only [ZA, ZB, ZC, ZD, ZE, ↓reduceIte, reduceIte, ZF, ZG, ZH, ZI, ZJ, ne_eq, forall_const, reduceCtorEq, implies_true, forall_eq, ZK, ↓zU, ↓zD, zV, zT, hd, hwu, ndR_len, hg, us_len, rb_len, hSl, hBl, hxl', hyl', gSx, gSy, gBx, gBy, gSk, gBk, set1, h4, h5, h8, h13, hf]
    (repeat refine sd ?_)
    refine .go (CallT.of_runs (hc' hf) (by simp [D.isPureL, D.isPure])) ?_
    simp only [ZA, ZB, ZC, ZD, ZE, ↓reduceIte, reduceIte, ZF, ZG, ZH, ZI, ZJ, ne_eq, forall_const, reduceCtorEq, implies_true, forall_eq, ZK, ↓zU, ↓zD, zV, zT, hd, hwu, ndR_len, hg, us_len, rb_len, hSl, hBl, hxl', hyl', gSx, gSy, gBx, gBy, gSk, gBk, set1, h4, h5, h8, h13, hf, us_set, rb_set, hSs, hBs]
    (repeat refine sd ?_)
    refine ⟨k + 1, by omega, ?_, by omega⟩
    (refine Weak.ren [] [2, 1, 0] (by simp) (by simp) (by decide) ?_; simp only [stay1, vwL, vw, vwF, sw, St.get, St.look, Fr.get, ↓reduceIte, reduceIte, Nat.reduceEqDiff, Nat.reduceAdd, Nat.reduceBEq, Nat.reduceLT, Nat.reduceLeDiff, exists_eq_left', ne_eq, reduceCtorEq, zR, pureE_us, pureE_rb])
   | false =>
    simp only [ZA, ZB, ZC, ZD, ZE, ↓reduceIte, reduceIte, ZF, ZG, ZH, ZI, ZJ, ne_eq, forall_const, reduceCtorEq, implies_true, forall_eq, ZK, ↓zU, ↓zD, zV, zT, hd, hwu, ndR_len, hg, us_len, rb_len, hSl, hBl, hxl', hyl', gSx, gSy, gBx, gBy, gSk, gBk, set1, h4, h5, h8, h13, hf]
    (repeat refine sd ?_)
    obtain ⟨q1, q2⟩ := hno hf
    rw [hSk q1, hBk q2]
    refine ⟨k + 1, by omega, ?_, by omega⟩
    (refine Weak.ren [] [2, 1, 0] (by simp) (by simp) (by decide) ?_; simp only [stay1, vwL, vw, vwF, sw, St.get, St.look, Fr.get, ↓reduceIte, reduceIte, Nat.reduceEqDiff, Nat.reduceAdd, Nat.reduceBEq, Nat.reduceLT, Nat.reduceLeDiff, exists_eq_left', ne_eq, reduceCtorEq, zR, pureE_us, pureE_rb])
  ·cases hf : fv x with
   | true =>
    simp only [ZA, ZB, ZC, ZD, ZE, ↓reduceIte, reduceIte, ZF, ZG, ZH, ZI, ZJ, ne_eq, forall_const, reduceCtorEq, implies_true, forall_eq, ZK, ↓zU, ↓zD, zV, zT, hd, hwu, ndR_len, hg, us_len, rb_len, hSl, hBl, hxl', hyl', gSx, gSy, gBx, gBy, gSk, gBk, set1, h4, h5, h13, hf]
    (repeat refine sd ?_)
    refine .go (CallT.of_runs (hc' hf) (by simp [D.isPureL, D.isPure])) ?_
    simp only [ZA, ZB, ZC, ZD, ZE, ↓reduceIte, reduceIte, ZF, ZG, ZH, ZI, ZJ, ne_eq, forall_const, reduceCtorEq, implies_true, forall_eq, ZK, ↓zU, ↓zD, zV, zT, hd, hwu, ndR_len, hg, us_len, rb_len, hSl, hBl, hxl', hyl', gSx, gSy, gBx, gBy, gSk, gBk, set1, h4, h5, h13, hf, us_set, rb_set, hSs, hBs]
    (repeat refine sd ?_)
    refine ⟨k + 1, by omega, ?_, by omega⟩
    (refine Weak.ren [] [2, 1, 0] (by simp) (by simp) (by decide) ?_; simp only [stay1, vwL, vw, vwF, sw, St.get, St.look, Fr.get, ↓reduceIte, reduceIte, Nat.reduceEqDiff, Nat.reduceAdd, Nat.reduceBEq, Nat.reduceLT, Nat.reduceLeDiff, exists_eq_left', ne_eq, reduceCtorEq, zR, pureE_us, pureE_rb])
   | false =>
    simp only [ZA, ZB, ZC, ZD, ZE, ↓reduceIte, reduceIte, ZF, ZG, ZH, ZI, ZJ, ne_eq, forall_const, reduceCtorEq, implies_true, forall_eq, ZK, ↓zU, ↓zD, zV, zT, hd, hwu, ndR_len, hg, us_len, rb_len, hSl, hBl, hxl', hyl', gSx, gSy, gBx, gBy, gSk, gBk, set1, h4, h5, h13, hf]
    (repeat refine sd ?_)
    obtain ⟨q1, q2⟩ := hno hf
    rw [hSk q1, hBk q2]
    refine ⟨k + 1, by omega, ?_, by omega⟩
    (refine Weak.ren [] [2, 1, 0] (by simp) (by simp) (by decide) ?_; simp only [stay1, vwL, vw, vwF, sw, St.get, St.look, Fr.get, ↓reduceIte, reduceIte, Nat.reduceEqDiff, Nat.reduceAdd, Nat.reduceBEq, Nat.reduceLT, Nat.reduceLeDiff, exists_eq_left', ne_eq, reduceCtorEq, zR, pureE_us, pureE_rb])
 | true =>
  have hfy := hfy hb
  subst hfy
  rw [hb, if_pos rfl] at hc' hno
  by_cases h13 : op = 13
  ·subst h13
   cases hf : fv x with
   | false =>
    simp only [ZA, ZB, ZC, ZD, ZE, ↓reduceIte, reduceIte, ZF, ZG, ZH, ZI, ZJ, ne_eq, forall_const, reduceCtorEq, implies_true, forall_eq, ZK, ↓zU, ↓zD, zV, zT, hd, hwu, ndR_len, hg, us_len, rb_len, hSl, hBl, hxl', hyl', gSx, gSy, gBx, gBy, gSk, gBk, set1, hf]
    (repeat refine sd ?_)
    obtain ⟨q1, q2⟩ := hno (by rw [hf]; rfl)
    rw [hSk q1, hBk q2]
    refine ⟨k + 1, by omega, ?_, by omega⟩
    (refine Weak.ren [] [2, 1, 0] (by simp) (by simp) (by decide) ?_; simp only [stay1, vwL, vw, vwF, sw, St.get, St.look, Fr.get, ↓reduceIte, reduceIte, Nat.reduceEqDiff, Nat.reduceAdd, Nat.reduceBEq, Nat.reduceLT, Nat.reduceLeDiff, exists_eq_left', ne_eq, reduceCtorEq, zR, pureE_us, pureE_rb])
   | true =>
    cases hf2 : fv y with
    | true =>
     simp only [ZA, ZB, ZC, ZD, ZE, ↓reduceIte, reduceIte, ZF, ZG, ZH, ZI, ZJ, ne_eq, forall_const, reduceCtorEq, implies_true, forall_eq, ZK, ↓zU, ↓zD, zV, zT, hd, hwu, ndR_len, hg, us_len, rb_len, hSl, hBl, hxl', hyl', gSx, gSy, gBx, gBy, gSk, gBk, set1, hf, hf2]
     (repeat refine sd ?_)
     refine .go (CallT.of_runs (hc' (by rw [hf, hf2]; rfl)) (by simp [D.isPureL, D.isPure])) ?_
     simp only [ZA, ZB, ZC, ZD, ZE, ↓reduceIte, reduceIte, ZF, ZG, ZH, ZI, ZJ, ne_eq, forall_const, reduceCtorEq, implies_true, forall_eq, ZK, ↓zU, ↓zD, zV, zT, hd, hwu, ndR_len, hg, us_len, rb_len, hSl, hBl, hxl', hyl', gSx, gSy, gBx, gBy, gSk, gBk, set1, hf, hf2, us_set, rb_set, hSs, hBs]
     (repeat refine sd ?_)
     refine ⟨k + 1, by omega, ?_, by omega⟩
     (refine Weak.ren [] [2, 1, 0] (by simp) (by simp) (by decide) ?_; simp only [stay1, vwL, vw, vwF, sw, St.get, St.look, Fr.get, ↓reduceIte, reduceIte, Nat.reduceEqDiff, Nat.reduceAdd, Nat.reduceBEq, Nat.reduceLT, Nat.reduceLeDiff, exists_eq_left', ne_eq, reduceCtorEq, zR, pureE_us, pureE_rb])
    | false =>
     simp only [ZA, ZB, ZC, ZD, ZE, ↓reduceIte, reduceIte, ZF, ZG, ZH, ZI, ZJ, ne_eq, forall_const, reduceCtorEq, implies_true, forall_eq, ZK, ↓zU, ↓zD, zV, zT, hd, hwu, ndR_len, hg, us_len, rb_len, hSl, hBl, hxl', hyl', gSx, gSy, gBx, gBy, gSk, gBk, set1, hf, hf2]
     (repeat refine sd ?_)
     obtain ⟨q1, q2⟩ := hno (by rw [hf, hf2]; rfl)
     rw [hSk q1, hBk q2]
     refine ⟨k + 1, by omega, ?_, by omega⟩
     (refine Weak.ren [] [2, 1, 0] (by simp) (by simp) (by decide) ?_; simp only [stay1, vwL, vw, vwF, sw, St.get, St.look, Fr.get, ↓reduceIte, reduceIte, Nat.reduceEqDiff, Nat.reduceAdd, Nat.reduceBEq, Nat.reduceLT, Nat.reduceLeDiff, exists_eq_left', ne_eq, reduceCtorEq, zR, pureE_us, pureE_rb])
  ·have h58 : 5 ≤ op ∧ op ≤ 8 := by
    unfold binB at hb; rw [decide_eq_false h13, Bool.or_false, Bool.and_eq_true] at hb; exact ⟨of_decide_eq_true hb.1, of_decide_eq_true hb.2⟩
   have h5 := h58.1
   have h8 := h58.2
   cases hf : fv x with
   | false =>
    simp only [ZA, ZB, ZC, ZD, ZE, ↓reduceIte, reduceIte, ZF, ZG, ZH, ZI, ZJ, ne_eq, forall_const, reduceCtorEq, implies_true, forall_eq, ZK, ↓zU, ↓zD, zV, zT, hd, hwu, ndR_len, hg, us_len, rb_len, hSl, hBl, hxl', hyl', gSx, gSy, gBx, gBy, gSk, gBk, set1, h4, h5, h8, hf]
    (repeat refine sd ?_)
    obtain ⟨q1, q2⟩ := hno (by rw [hf]; rfl)
    rw [hSk q1, hBk q2]
    refine ⟨k + 1, by omega, ?_, by omega⟩
    (refine Weak.ren [] [2, 1, 0] (by simp) (by simp) (by decide) ?_; simp only [stay1, vwL, vw, vwF, sw, St.get, St.look, Fr.get, ↓reduceIte, reduceIte, Nat.reduceEqDiff, Nat.reduceAdd, Nat.reduceBEq, Nat.reduceLT, Nat.reduceLeDiff, exists_eq_left', ne_eq, reduceCtorEq, zR, pureE_us, pureE_rb])
   | true =>
    cases hf2 : fv y with
    | true =>
     simp only [ZA, ZB, ZC, ZD, ZE, ↓reduceIte, reduceIte, ZF, ZG, ZH, ZI, ZJ, ne_eq, forall_const, reduceCtorEq, implies_true, forall_eq, ZK, ↓zU, ↓zD, zV, zT, hd, hwu, ndR_len, hg, us_len, rb_len, hSl, hBl, hxl', hyl', gSx, gSy, gBx, gBy, gSk, gBk, set1, h4, h5, h8, hf, hf2]
     (repeat refine sd ?_)
     refine .go (CallT.of_runs (hc' (by rw [hf, hf2]; rfl)) (by simp [D.isPureL, D.isPure])) ?_
     simp only [ZA, ZB, ZC, ZD, ZE, ↓reduceIte, reduceIte, ZF, ZG, ZH, ZI, ZJ, ne_eq, forall_const, reduceCtorEq, implies_true, forall_eq, ZK, ↓zU, ↓zD, zV, zT, hd, hwu, ndR_len, hg, us_len, rb_len, hSl, hBl, hxl', hyl', gSx, gSy, gBx, gBy, gSk, gBk, set1, h4, h5, h8, hf, hf2, us_set, rb_set, hSs, hBs]
     (repeat refine sd ?_)
     refine ⟨k + 1, by omega, ?_, by omega⟩
     (refine Weak.ren [] [2, 1, 0] (by simp) (by simp) (by decide) ?_; simp only [stay1, vwL, vw, vwF, sw, St.get, St.look, Fr.get, ↓reduceIte, reduceIte, Nat.reduceEqDiff, Nat.reduceAdd, Nat.reduceBEq, Nat.reduceLT, Nat.reduceLeDiff, exists_eq_left', ne_eq, reduceCtorEq, zR, pureE_us, pureE_rb])
    | false =>
     simp only [ZA, ZB, ZC, ZD, ZE, ↓reduceIte, reduceIte, ZF, ZG, ZH, ZI, ZJ, ne_eq, forall_const, reduceCtorEq, implies_true, forall_eq, ZK, ↓zU, ↓zD, zV, zT, hd, hwu, ndR_len, hg, us_len, rb_len, hSl, hBl, hxl', hyl', gSx, gSy, gBx, gBy, gSk, gBk, set1, h4, h5, h8, hf, hf2]
     (repeat refine sd ?_)
     obtain ⟨q1, q2⟩ := hno (by rw [hf, hf2]; rfl)
     rw [hSk q1, hBk q2]
     refine ⟨k + 1, by omega, ?_, by omega⟩
     (refine Weak.ren [] [2, 1, 0] (by simp) (by simp) (by decide) ?_; simp only [stay1, vwL, vw, vwF, sw, St.get, St.look, Fr.get, ↓reduceIte, reduceIte, Nat.reduceEqDiff, Nat.reduceAdd, Nat.reduceBEq, Nat.reduceLT, Nat.reduceLeDiff, exists_eq_left', ne_eq, reduceCtorEq, zR, pureE_us, pureE_rb])
end Go.Pd
