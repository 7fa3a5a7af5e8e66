/- Part C2. -/
import Derived.Test.YtjklmijiccabfaaKC1
import Derived.Test.YtjklmijiccabfaaKJB
set_option linter.unusedSectionVars false
set_option linter.unusedVariables false
set_option linter.unusedSimpArgs false
set_option linter.defProp false
set_option maxRecDepth 20000
set_option maxHeartbeats 1000000
namespace Go.Pd
open Go Go.Proofs
open Int renaming reduceToNat → ZA, reduceLT → ZB, reduceLE → ZC, reduceBEq → ZD, reduceBNe → ZE
open Nat renaming reduceEqDiff → ZF, reduceAdd → ZG, reduceBEq → ZH, reduceLT → ZI, reduceLeDiff → ZJ, reduceMul → ZK
open Rs Fm Ru Te
theorem clone136 (s : BitVec 64) (l : List (BitVec 64)) (hl : l.length ≤ 1000) : CallT Try.prog 136 [.sl 1 (us (s :: l))] St0 (.osl 0 1 (l.length + 1)) ⟨1, [(0, ⟨1, us (s :: l)⟩)]⟩ := by
 refine CallT.go_fn mixed Try.func136 k136 (by simp) fun hf => ?_
 have hln : (us (s :: l)).length = l.length + 1 := by simp [us]
 have h1 := us_one (s :: l)
 have e : us (s :: l) = [.int .u64 (ui s)] :: us l := rfl
 rw [e] at hln h1 ⊢
 simp only [ZA, ZB, ZC, ZD, ZE, ↓reduceIte, reduceIte, ZF, ZG, ZH, ZI, ZJ, ne_eq, forall_const, reduceCtorEq, implies_true, forall_eq, ZK, ↓zU, ↓zD, zV, zT]
 have hp := us_pure (s :: l)
 rw [e] at hp
 exact ⟨by simp, h1, by omega, by omega, RetV.name (n := 0) (by simp) hp (by simp [vw])⟩
theorem growD_lenU {k sz : Nat} {a b : List (List D)} (h : a.length = b.length) : growD k sz a = growD k sz b := by
 cases a with
 | nil => cases b with
  | nil => rfl
  | cons e r => simp at h
 | cons e r => cases b with
  | nil => simp at h
  | cons e' r' => simp only [List.length_cons] at h; simp [growD, h]
theorem shift_usU (c : Nat) (l : List (BitVec 64)) : (us l).map (D.shiftL c) = us l := shiftE_pure c (us_pure l)
theorem clone_growU {n : Nat} {objs : List (Nat × Ob)} (l : List (BitVec 64)) (h : l ≠ []) (hl : l.length ≤ 1000) : CallT Try.prog 136 [.sl 1 (us l)] ⟨n, objs⟩ (growD n 1 (us l)) ⟨n + 1, growO n 1 (us l) ++ objs⟩ := by
 cases l with
 | nil => exact absurd rfl h
 | cons s l =>
  have := CallT.own (σ := ⟨n, objs⟩) (clone136 s l (by simp at hl; omega)) (by simp [D.isPureL, D.isPure])
  simp only [D.shift, shiftObjs, Ob.shift, shift_usU, List.cons_append, List.nil_append, Nat.add_zero] at this
  simp only [us_cons, growD_cons, growO_cons, us_len, List.cons_append, List.nil_append]
  exact this
namespace Ru
def op2 (meet : Bool) (a b : BitVec 64) : BitVec 64 := if meet = true then a &&& b else a ||| b
def zipG (meet : Bool) (acc r : List (BitVec 64)) : List (BitVec 64) := (List.range acc.length).map fun i => op2 meet (acc.getD i 0) (r.getD i 0)
def accG (R : List (List (BitVec 64))) (G : Nat) (meet : Bool) : Nat → List (BitVec 64)
 | 0 => []
 | k + 1 => if G.testBit k then (if (accG R G meet k).isEmpty then R.getD k [] else zipG meet (accG R G meet k) (R.getD k [])) else accG R G meet k
def groupW (m : ModA) (G : Nat) (meet : Bool) : List (BitVec 64) := accG m.R G meet m.R.length
def mixG (meet : Bool) (acc r : List (BitVec 64)) (w : Nat) : List (BitVec 64) := (List.range acc.length).map fun i => if i < w then op2 meet (acc.getD i 0) (r.getD i 0) else acc.getD i 0
theorem mixG_zero (meet : Bool) (acc r : List (BitVec 64)) : mixG meet acc r 0 = acc := by
 refine List.ext_getElem (by simp [mixG]) fun i h1 h2 => ?_
 simp [mixG, List.getD, h2]
theorem mixG_all (meet : Bool) (acc r : List (BitVec 64)) : mixG meet acc r acc.length = zipG meet acc r := by
 unfold mixG zipG
 refine List.map_congr_left fun i hi => ?_
 rw [List.mem_range] at hi
 rw [if_pos hi]
theorem mixG_len (meet : Bool) (acc r : List (BitVec 64)) (w : Nat) : (mixG meet acc r w).length = acc.length := by simp [mixG]
theorem mixG_at {meet : Bool} {acc r : List (BitVec 64)} {w : Nat} (h : w < acc.length) : (mixG meet acc r w).getD w 0 = acc.getD w 0 := by
 simp [mixG, List.getD, h]
theorem mixG_set {meet : Bool} {acc r : List (BitVec 64)} {w : Nat} (h : w < acc.length) : (mixG meet acc r w).set w (op2 meet (acc.getD w 0) (r.getD w 0)) = mixG meet acc r (w + 1) := by
 refine List.ext_getElem (by simp [mixG]) fun i h1 h2 => ?_
 simp only [List.getElem_set, mixG, List.getElem_map, List.getElem_range]
 by_cases e : w = i
 ·subst e; simp
 ·rw [if_neg e]
  by_cases e2 : i < w
  ·rw [if_pos e2, if_pos (by omega)]
  ·rw [if_neg e2, if_neg (by omega)]
theorem accG_len {m : ModA} {W : Nat} (ok : ModOk m W) (G : Nat) (meet : Bool) : ∀ k, k ≤ m.R.length → accG m.R G meet k = [] ∨ (accG m.R G meet k).length = W
 | 0, _ => .inl rfl
 | k + 1, hk => by
  have hr := ok.row _ (getD_mem (d := []) (show k < m.R.length by omega))
  rw [accG]
  split
  ·split
   ·exact .inr hr
   ·rcases accG_len ok G meet k (by omega) with h | h
    ·rename_i hn; rw [h] at hn; exact absurd rfl hn
    ·exact .inr (by simp [zipG, h])
  ·exact accG_len ok G meet k (by omega)
theorem accG_succ (R : List (List (BitVec 64))) (G : Nat) (meet : Bool) (k : Nat) : accG R G meet (k + 1) = if G.testBit k then (if (accG R G meet k).isEmpty then R.getD k [] else zipG meet (accG R G meet k) (R.getD k [])) else accG R G meet k := rfl
end Ru
theorem gather130 {m : ModA} {W : Nat} (ok : ModOk m W) {g : Nat} (hg : 1 ≤ g ∧ g < 2 ^ m.R.length) (meet : Bool) (f : FuncId) (hop : ∀ a b, Runs Try.prog f [.int .u64 (ui a), .int .u64 (ui b)] (.int .u64 (ui (op2 meet a b)))) : Runs Try.prog 130 [m.d, .int .i64 (g : Int), .fn f []] (.sl 1 (us (groupW m g meet))) := by
 have hc := modCheck24 ok
 have h4 := ok.hR
 obtain ⟨W1, W64⟩ := ok.hW
 have hsh := shl_one (k := m.R.length) (by omega)
 have h2 : ¬ (g : Int) < 1 := by omega
 have h3 : ¬ ((2 ^ m.R.length : Nat) : Int) ≤ (g : Int) := by omega
 have hg60 : g < 2 ^ 60 := Nat.lt_of_lt_of_le hg.2 (Nat.pow_le_pow_right (by decide) (by omega))
 have hall : accG m.R g meet m.R.length = groupW m g meet := rfl
 unfold ModA.d at hc ⊢
 refine CallT.go_fn mixed Try.func130 k130 (by simp) fun hf => ?_
 simp only [ZA, ZB, ZC, ZD, ZE, ↓reduceIte, reduceIte, ZF, ZG, ZH, ZI, ZJ, ne_eq, forall_const, reduceCtorEq, implies_true, forall_eq, ZK, ↓zU, ↓zD, zV, zT]
 (repeat refine sd ?_)
 refine .go (CallT.of_runs hc (by simp [D.isPureL, D.isPure])) ?_
 simp only [ZA, ZB, ZC, ZD, ZE, ↓reduceIte, reduceIte, ZF, ZG, ZH, ZI, ZJ, ne_eq, forall_const, reduceCtorEq, implies_true, forall_eq, ZK, ↓zU, ↓zD, zV, zT, h2, h3, hsh, rr_len]
 (repeat refine sd ?_)
 refine wpS_loop (fun k : Nat => [(29, .int .i64 k), (28, .int .i64 m.R.length), (27, .sl 1 (rr m.R)), (7, growD 1 1 (us (accG m.R g meet k))), (2, .fn f []), (1, .int .i64 g)])
  (fun k => ⟨2, growO 1 1 (us (accG m.R g meet k))⟩) (fun k => k ≤ m.R.length) (fun k => m.R.length - k) 0 (Nat.zero_le _) ?_ ?_
 ·(refine Weak.ren [] [1, 0] (by simp) (by simp) (by decide) ?_; simp only [stay1, vwL, vw, vwF, sw, St.get, St.look, Fr.get, ↓reduceIte, reduceIte, Nat.reduceEqDiff, Nat.reduceAdd, Nat.reduceBEq, Nat.reduceLT, Nat.reduceLeDiff, exists_eq_left', ne_eq, reduceCtorEq, zR, accG, growO_nil, growD_nil, List.nil_append, vwL])
 intro k hk
 refine wpS_go mixed ?_
 by_cases h : k < m.R.length
 ·have hd : ((k : Int) < (m.R.length : Int)) := by omega
  have hu := wrap_up (k := k) (by omega)
  have hrl := ok.row _ (getD_mem (d := []) h)
  have hbr := grpBit hg60 (show k ≤ 60 by omega)
  have hs := accG_succ m.R g meet k
  have hL := accG_len ok g meet k hk
  have hrg := rr_get m.R h
  generalize accG m.R g meet k = acc at hs hL ⊢
  generalize m.R.getD k [] = r at hrl hs hrg
  cases hb : g.testBit k with
  | false =>
   rw [hb] at hbr hs
   simp only [ZA, ZB, ZC, ZD, ZE, ↓reduceIte, reduceIte, ZF, ZG, ZH, ZI, ZJ, ne_eq, forall_const, reduceCtorEq, implies_true, forall_eq, ZK, ↓zU, ↓zD, zV, zT, hd, hbr, hu, hrg, rr_len]
   (repeat refine sd ?_)
   refine ⟨k + 1, by omega, ?_, by omega⟩
   rw [hs, if_neg (by simp)]
   (refine Weak.same ?_; simp only [sameF, Fr.get, ↓reduceIte, reduceIte, Nat.reduceEqDiff, reduceCtorEq, D.int.injEq, D.bool.injEq, D.sl.injEq, and_true, true_and, and_self])
  | true =>
   rw [hb] at hbr hs
   rw [if_pos rfl] at hs hbr
   by_cases he : acc = []
   ·subst he
    rw [List.isEmpty_nil, if_pos rfl] at hs
    simp only [ZA, ZB, ZC, ZD, ZE, ↓reduceIte, reduceIte, ZF, ZG, ZH, ZI, ZJ, ne_eq, forall_const, reduceCtorEq, implies_true, forall_eq, ZK, ↓zU, ↓zD, zV, zT, hd, hbr, hu, hrg, rr_len, List.isEmpty_nil]
    (repeat refine sd ?_)
    have hrne : r ≠ [] := by rintro rfl; simp at hrl; omega
    refine .go (clone_growU r hrne (by omega)) ?_
    simp only [ZA, ZB, ZC, ZD, ZE, ↓reduceIte, reduceIte, ZF, ZG, ZH, ZI, ZJ, ne_eq, forall_const, reduceCtorEq, implies_true, forall_eq, ZK, ↓zU, ↓zD, zV, zT, hu]
    refine ⟨k + 1, by omega, ?_, by omega⟩
    rw [hs]
    (refine Weak.ren [(1, 2)] [1] (by simp) (by simp) (by decide) ?_; simp only [stay1, vwL, vw, vwF, sw, St.get, St.look, Fr.get, ↓reduceIte, reduceIte, Nat.reduceEqDiff, Nat.reduceAdd, Nat.reduceBEq, Nat.reduceLT, Nat.reduceLeDiff, exists_eq_left', ne_eq, reduceCtorEq, zR])
   ·have hie : acc.isEmpty = false := by simpa using he
    have hiu : (us acc).isEmpty = false := by cases acc with | nil => exact absurd rfl he | cons a l => rfl
    rw [hie, if_neg (by simp)] at hs
    have hL1 : acc.length = W := hL.resolve_left he
    simp only [ZA, ZB, ZC, ZD, ZE, ↓reduceIte, reduceIte, ZF, ZG, ZH, ZI, ZJ, ne_eq, forall_const, reduceCtorEq, implies_true, forall_eq, ZK, ↓zU, ↓zD, zV, zT, hd, hbr, hu, hrg, rr_len, hiu]
    (repeat refine sd ?_)
    refine wpS_loop (fun w : Nat => [(45, .int .i64 w), (44, .int .i64 acc.length), (29, .int .i64 k), (28, .int .i64 m.R.length), (27, .sl 1 (rr m.R)), (9, .sl 1 (us r)), (7, growD 1 1 (us acc)), (2, .fn f []), (1, .int .i64 g)])
     (fun w => ⟨2, growO 1 1 (us (mixG meet acc r w))⟩) (fun w => w ≤ acc.length) (fun w => acc.length - w) 0 (Nat.zero_le _) ?_ ?_
    ·rw [mixG_zero]
     (refine Weak.same ?_; simp [sameF, Fr.get])
    intro w hw
    refine wpS_go mixed ?_
    by_cases h4 : w < acc.length
    ·have hd4 : ((w : Int) < (acc.length : Int)) := by omega
     have hw4 := wrap_up (k := w) (by omega)
     have hx : w < r.length := by omega
     have hx' : (w : Int) < (r.length : Int) := by omega
     have hma := mixG_at (meet := meet) (r := r) h4
     have hms := mixG_set (meet := meet) (r := r) h4
     have hml := mixG_len meet acc r w
     have hmw : w < (mixG meet acc r w).length := by omega
     generalize mixG meet acc r w = z at *
     simp only [ZA, ZB, ZC, ZD, ZE, ↓reduceIte, reduceIte, ZF, ZG, ZH, ZI, ZJ, ne_eq, forall_const, reduceCtorEq, implies_true, forall_eq, ZK, ↓zU, ↓zD, zV, zT, hd4, hw4, us_get _ hmw, us_get _ hx, hma, hml, us_len]
     (repeat refine sd ?_)
     refine .go (CallT.of_runs (hop (acc.getD w 0) (r.getD w 0)) rfl) ?_
     simp only [ZA, ZB, ZC, ZD, ZE, ↓reduceIte, reduceIte, ZF, ZG, ZH, ZI, ZJ, ne_eq, forall_const, reduceCtorEq, implies_true, forall_eq, ZK, ↓zU, ↓zD, zV, zT, hd4, hw4, us_get _ hmw, us_set, hma, hml, hms, us_len]
     (repeat refine sd ?_)
     refine ⟨w + 1, by omega, ?_, by omega⟩
     rw [set_growO1 (by rw [us_len, us_len, mixG_len, hml])]
     (refine Weak.same ?_; simp only [sameF, Fr.get, ↓reduceIte, reduceIte, Nat.reduceEqDiff, reduceCtorEq, D.int.injEq, D.bool.injEq, D.sl.injEq, and_true, true_and, and_self])
    ·have hd4 : ¬ ((w : Int) < (acc.length : Int)) := by omega
     have hw' : w = acc.length := by omega
     subst hw'
     rw [mixG_all]
     simp only [ZA, ZB, ZC, ZD, ZE, ↓reduceIte, reduceIte, ZF, ZG, ZH, ZI, ZJ, ne_eq, forall_const, reduceCtorEq, implies_true, forall_eq, ZK, ↓zU, ↓zD, zV, zT, hd4, hu]
     refine ⟨k + 1, by omega, ?_, by omega⟩
     rw [hs, growD_lenU (show (us acc).length = (us (zipG meet acc r)).length by simp [us, zipG])]
     (refine Weak.same ?_; simp only [sameF, Fr.get, ↓reduceIte, reduceIte, Nat.reduceEqDiff, reduceCtorEq, D.int.injEq, D.bool.injEq, D.sl.injEq, and_true, true_and, and_self])
 ·have hd : ¬ ((k : Int) < (m.R.length : Int)) := by omega
  have hk' : k = m.R.length := by omega
  subst hk'
  rw [hall]
  simp only [ZA, ZB, ZC, ZD, ZE, ↓reduceIte, reduceIte, ZF, ZG, ZH, ZI, ZJ, ne_eq, forall_const, reduceCtorEq, implies_true, forall_eq, ZK, ↓zU, ↓zD, zV, zT, hd]
  (repeat refine sd ?_)
  refine .drop (by simp) ?_
  simp only [stay1, vwL, vw, vwF, sw, St.get, St.look, Fr.get, ↓reduceIte, reduceIte, Nat.reduceEqDiff, Nat.reduceAdd, Nat.reduceBEq, Nat.reduceLT, Nat.reduceLeDiff, exists_eq_left', ne_eq, reduceCtorEq, zR]
theorem join132 (a b : BitVec 64) : Runs Try.prog 132 [.int .u64 (ui a), .int .u64 (ui b)] (.int .u64 (ui (op2 false a b))) := by
 refine CallT.go_fn mixed Try.func132 k132 (by simp) fun hf => ?_
 simp only [ZA, ZB, ZC, ZD, ZE, ↓reduceIte, reduceIte, ZF, ZG, ZH, ZI, ZJ, ne_eq, forall_const, reduceCtorEq, implies_true, forall_eq, ZK, ↓zU, ↓zD, zV, zT]
 exact .same
theorem join131 (a b : BitVec 64) : Runs Try.prog 131 [.int .u64 (ui a), .int .u64 (ui b)] (.int .u64 (ui (op2 true a b))) := by
 refine CallT.go_fn mixed Try.func131 k131 (by simp) fun hf => ?_
 simp only [ZA, ZB, ZC, ZD, ZE, ↓reduceIte, reduceIte, ZF, ZG, ZH, ZI, ZJ, ne_eq, forall_const, reduceCtorEq, implies_true, forall_eq, ZK, ↓zU, ↓zD, zV, zT]
 exact .same
theorem Group120 {m : ModA} {W : Nat} (ok : ModOk m W) {g : Nat} (hg : 1 ≤ g ∧ g < 2 ^ m.R.length) : Runs Try.prog 120 [m.d, .int .i64 (g : Int)] (.sl 1 (us (groupW m g false))) := by
 have h := gather130 ok hg false 132 join132
 unfold ModA.d at h ⊢
 refine CallT.go_fn mixed Try.func120 k120 (by simp) fun hf => ?_
 simp only [ZA, ZB, ZC, ZD, ZE, ↓reduceIte, reduceIte, ZF, ZG, ZH, ZI, ZJ, ne_eq, forall_const, reduceCtorEq, implies_true, forall_eq, ZK, ↓zU, ↓zD, zV, zT]
 (repeat refine sd ?_)
 refine .go (CallT.of_runs h (by simp [D.isPureL, D.isPure])) ?_
 simp only [ZA, ZB, ZC, ZD, ZE, ↓reduceIte, reduceIte, ZF, ZG, ZH, ZI, ZJ, ne_eq, forall_const, reduceCtorEq, implies_true, forall_eq, ZK, ↓zU, ↓zD, zV, zT]
 exact .drop (by simp) (by simp [vw])
theorem Meet119 {m : ModA} {W : Nat} (ok : ModOk m W) {g : Nat} (hg : 1 ≤ g ∧ g < 2 ^ m.R.length) : Runs Try.prog 119 [m.d, .int .i64 (g : Int)] (.sl 1 (us (groupW m g true))) := by
 have h := gather130 ok hg true 131 join131
 unfold ModA.d at h ⊢
 refine CallT.go_fn mixed Try.func119 k119 (by simp) fun hf => ?_
 simp only [ZA, ZB, ZC, ZD, ZE, ↓reduceIte, reduceIte, ZF, ZG, ZH, ZI, ZJ, ne_eq, forall_const, reduceCtorEq, implies_true, forall_eq, ZK, ↓zU, ↓zD, zV, zT]
 (repeat refine sd ?_)
 refine .go (CallT.of_runs h (by simp [D.isPureL, D.isPure])) ?_
 simp only [ZA, ZB, ZC, ZD, ZE, ↓reduceIte, reduceIte, ZF, ZG, ZH, ZI, ZJ, ne_eq, forall_const, reduceCtorEq, implies_true, forall_eq, ZK, ↓zU, ↓zD, zV, zT]
 exact .drop (by simp) (by simp [vw])
end Go.Pd
