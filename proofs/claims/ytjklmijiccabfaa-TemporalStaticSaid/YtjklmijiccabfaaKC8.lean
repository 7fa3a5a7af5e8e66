/- Part C8. -/
import Derived.Test.YtjklmijiccabfaaKC6
import Derived.Test.YtjklmijiccabfaaKC7
set_option linter.unusedSectionVars false
set_option linter.unusedVariables false
set_option linter.unusedSimpArgs false
set_option linter.defProp false
set_option maxRecDepth 20000
set_option maxHeartbeats 1000000
namespace Go.Pd
open Go Go.Proofs
open Int renaming reduceToNat → ZA, reduceLT → ZB, reduceLE → ZC, reduceBEq → ZD, reduceBNe → ZE
open Nat renaming reduceEqDiff → ZF, reduceAdd → ZG, reduceBEq → ZH, reduceLT → ZI, reduceLeDiff → ZJ, reduceMul → ZK
open Rs Fm Ru Te
theorem request92 {m : ModA} {W : Nat} (ok : ModOk m W) {f : List Nd} (hc : checkF f = 0) (hfr : (bitI .andNot .i64 (fragsA f : Int) 15 != 0) = false) (hft : fitsB f m.R.length m.V.length = true) : Runs Try.prog 92 [m.d, .sl 6 (ndR f)] (.int .i64 0) := by
 have h1 := modCheck24 ok
 have h2 := checkF56 f
 have h3 := Frags57 f
 have h4 := Fits58 f m.R.length m.V.length
 rw [hc] at h2
 rw [hft] at h4
 unfold ModA.d at h1 ⊢
 refine CallT.go_fn mixed Try.func92 k92 (by simp) fun hf => ?_
 simp only [ZA, ZB, ZC, ZD, ZE, ↓reduceIte, reduceIte, ZF, ZG, ZH, ZI, ZJ, ne_eq, forall_const, reduceCtorEq, implies_true, forall_eq, ZK, ↓zU, ↓zD, zV, zT]
 (repeat refine sd ?_)
 refine .go (CallT.of_runs h1 (by simp [D.isPureL, D.isPure])) ?_
 simp only [ZA, ZB, ZC, ZD, ZE, ↓reduceIte, reduceIte, ZF, ZG, ZH, ZI, ZJ, ne_eq, forall_const, reduceCtorEq, implies_true, forall_eq, ZK, ↓zU, ↓zD, zV, zT]
 refine .go (CallT.of_runs h2 (by simp [D.isPureL, D.isPure])) ?_
 simp only [ZA, ZB, ZC, ZD, ZE, ↓reduceIte, reduceIte, ZF, ZG, ZH, ZI, ZJ, ne_eq, forall_const, reduceCtorEq, implies_true, forall_eq, ZK, ↓zU, ↓zD, zV, zT]
 refine .go (CallT.of_runs h3 (by simp [D.isPureL, D.isPure])) ?_
 simp only [ZA, ZB, ZC, ZD, ZE, ↓reduceIte, reduceIte, ZF, ZG, ZH, ZI, ZJ, ne_eq, forall_const, reduceCtorEq, implies_true, forall_eq, ZK, ↓zU, ↓zD, zV, zT, hfr, rr_len, us_len]
 (repeat refine sd ?_)
 refine .go (CallT.of_runs h4 (by simp [D.isPureL, D.isPure])) ?_
 simp only [ZA, ZB, ZC, ZD, ZE, ↓reduceIte, reduceIte, ZF, ZG, ZH, ZI, ZJ, ne_eq, forall_const, reduceCtorEq, implies_true, forall_eq, ZK, ↓zU, ↓zD, zV, zT]
 exact .drop (by simp) (by simp [vw])
namespace Te
def fineT (A F : Nat) : Tr → Bool
 | .nil => true
 | .nd op i e g x y => statN A F ⟨op, i, e, g, 0, 0⟩ && (fineT A F x && fineT A F y)
def setF (rs : List RunA) (A F T : Nat) (t : Tr) : BitVec 64 := if fineT A F t = true then mskT T (rs.length * T) (evT rs A T t) else 0#64
def tabF (rs : List RunA) (A F T : Nat) (t : Tr) : Tab := if fineT A F t = true then evT rs A T t else fun _ => false
theorem setF_tab (rs : List RunA) (A F T : Nat) (hW : rs.length * T ≤ 64) (t : Tr) : setF rs A F T t = mskT T (rs.length * T) (tabF rs A F T t) := by
 unfold setF tabF
 split
 ·rfl
 ·refine bits_eq fun i _ => ?_
  rw [mskT_bit hW, Bool.and_false, BitVec.getLsbD_zero]
theorem stat_ops {A F : Nat} {op i e g : Int} (h : statN A F ⟨op, i, e, g, 0, 0⟩ = true) : 1 ≤ op ∧ op ≤ 13 := by
 unfold statN at h
 simp only at h
 refine ⟨Decidable.byContradiction fun hh => ?_, Decidable.byContradiction fun hh => ?_⟩
 ·rw [if_pos (by omega)] at h; cases h
 ·rw [if_neg (by omega), if_neg (by omega), if_neg (by omega), if_neg (by omega), if_neg (by omega)] at h; cases h
theorem bin_uses {op : Int} (h1 : 1 ≤ op) (h2 : op ≤ 13) : (usesA op).1.y = binB op ∧ (usesA op).1.x = decide (4 ≤ op) := by
 have : op = 1 ∨ op = 2 ∨ op = 3 ∨ op = 4 ∨ op = 5 ∨ op = 6 ∨ op = 7 ∨ op = 8 ∨ op = 9 ∨ op = 10 ∨ op = 11 ∨ op = 12 ∨ op = 13 := by omega
 rcases this with rfl | rfl | rfl | rfl | rfl | rfl | rfl | rfl | rfl | rfl | rfl | rfl | rfl <;> exact ⟨rfl, rfl⟩
end Te
theorem cHolds20 {rs : List RunA} {A F T : Nat} (ok : OkR rs A F T) (hW : rs.length * T ≤ 64) {f : List Nd} (hc : checkF f = 0) (hfr : (bitI .andNot .i64 (fragsA f : Int) 15 != 0) = false) (hft : fitsB f A F = true) :
  Runs Try.prog 20 [(modM rs (ptl rs T) A F).d, .sl 6 (ndR f)] (.tup [.int .u64 (ui (setF rs A F T (treeF f))), .int .i64 0]) := by
 have hl : (ptl rs T).length = rs.length * T := ptN_len T _
 have h1 : 1 ≤ rs.length * T := Nat.mul_pos ok.hR.1 ok.hT.1
 have hm := modM_ok (F := F) ok (l := ptl rs T) (by omega) (by omega)
 rw [hl] at hm
 have hRl : (modM rs (ptl rs T) A F).R.length = A := by show (relL rs (ptl rs T) A).length = A; simp [relL]
 have hVl : (modM rs (ptl rs T) A F).V.length = F := by show (valL rs (ptl rs T) F).length = F; simp [valL]
 obtain ⟨c1, c2, c3⟩ := checkF_zero hc
 have hn : 0 < f.length := List.length_pos_iff.2 c1
 have hreq := request92 hm hc hfr (by rw [hRl, hVl]; exact hft)
 have hS := Sets49 (sv := fun k => setF rs A F T (tree f k)) (fv := fun k => fineT A F (tree f k)) hc hreq (fun k hk hok x y hx hy => ?_) fun k hk hno => ?_
 rotate_left
 ·have hnd := c3 k hk
  have ht := tree_eq c3 hk
  unfold okF at hok
  dsimp only at hok
  generalize f.getD k nd0 = n at hnd ht hok hx hy ⊢
  rw [setF_tab rs A F T hW] at hx hy
  have hcom : n.op = 13 → n.g < (2 ^ (modM rs (ptl rs T) A F).R.length : Nat) → comW (groupW (modM rs (ptl rs T) A F) n.g.toNat false) (allW (rs.length * T)) x y (rs.length * T + 1) = comW (groupW (modM rs (ptl rs T) A F) n.g.toNat false) (allW (rs.length * T)) x y (rs.length * T) := fun h13 hg => by
   have hu : (usesA n.op).1.x = true ∧ (usesA n.op).1.y = true ∧ (usesA n.op).1.gr = true := by rw [h13]; exact ⟨rfl, rfl, rfl⟩
   have h1 := (nodeE_iff.1 hnd).2.2.2.2
   simp only [Bool.or_eq_false_iff, hu.2.2, outsideB, Bool.true_and, decide_eq_false_iff_not] at h1
   rw [hRl] at hg
   rw [hx hu.1, hy hu.2.1]
   exact com_fix ok hW (by omega) _ _
  have hv := value93 hm hnd (x := x) (y := y) hcom
  have hs := val_step ok hW (F := F) hnd hx hy
  have key : (valW (modM rs (ptl rs T) A F) (rs.length * T) n x y) = (setF rs A F T (tree f k), fineT A F (tree f k)) := by
   rw [hs, ht]
   unfold setF
   show _ = (if (statN A F ⟨n.op, n.i, n.e, n.g, 0, 0⟩ && (fineT A F (if (usesA n.op).1.x = true then tree f n.x.toNat else .nil) && fineT A F (if (usesA n.op).1.y = true then tree f n.y.toNat else .nil))) = true then _ else _, statN A F ⟨n.op, n.i, n.e, n.g, 0, 0⟩ && (fineT A F (if (usesA n.op).1.x = true then tree f n.x.toNat else .nil) && fineT A F (if (usesA n.op).1.y = true then tree f n.y.toNat else .nil)))
   have hst : statN A F ⟨n.op, n.i, n.e, n.g, 0, 0⟩ = statN A F n := rfl
   rw [hst]
   cases hst2 : statN A F n with
   | false => rfl
   | true =>
    obtain ⟨o1, o2⟩ := stat_ops (hst.trans hst2)
    obtain ⟨uy, ux⟩ := bin_uses o1 o2
    rw [← uy] at hok
    have fx : (usesA n.op).1.x = true → fineT A F (tree f n.x.toNat) = true := fun h => by
     rw [ux, decide_eq_true_iff] at h
     rw [if_pos h, Bool.and_eq_true] at hok
     exact hok.1
    have fy : (usesA n.op).1.y = true → fineT A F (tree f n.y.toNat) = true := fun h => by
     rw [if_pos h, Bool.and_eq_true] at hok
     exact hok.2
    have fx' : fineT A F (if (usesA n.op).1.x = true then tree f n.x.toNat else .nil) = true := by
     split
     ·rename_i h; exact fx h
     ·rfl
    have fy' : fineT A F (if (usesA n.op).1.y = true then tree f n.y.toNat else .nil) = true := by
     split
     ·rename_i h; exact fy h
     ·rfl
    rw [fx', fy', if_pos rfl, if_pos (show (true && (true && true)) = true from rfl)]
    refine Prod.ext ?_ rfl
    refine congrArg (mskT T (rs.length * T)) ?_
    show _ = nodeP rs A T ⟨n.op, n.i, n.e, n.g, 0, 0⟩ _ _
    refine nodeP_ops rfl rfl rfl (fun h => ?_) fun h => ?_
    ·rw [if_pos h, tabF, if_pos (fx h)]
    ·rw [if_pos h, tabF, if_pos (fy h)]
  rw [key] at hv
  exact hv
 ·have ht := tree_eq c3 hk
  unfold okF at hno
  dsimp only at hno
  generalize f.getD k nd0 = n at ht hno
  have hf : fineT A F (tree f k) = false := by
   rw [ht]
   show (statN A F ⟨n.op, n.i, n.e, n.g, 0, 0⟩ && (fineT A F (if (usesA n.op).1.x = true then tree f n.x.toNat else .nil) && fineT A F (if (usesA n.op).1.y = true then tree f n.y.toNat else .nil))) = false
   cases hst : statN A F ⟨n.op, n.i, n.e, n.g, 0, 0⟩ with
   | false => rfl
   | true =>
    obtain ⟨o1, o2⟩ := stat_ops hst
    obtain ⟨uy, ux⟩ := bin_uses o1 o2
    rw [← uy] at hno
    rw [Bool.true_and]
    by_cases h4 : 4 ≤ n.op
    ·rw [if_pos h4] at hno
     rw [if_pos (by rw [ux, decide_eq_true h4])]
     cases hy : (usesA n.op).1.y with
     | true => rw [hy, if_pos rfl] at hno; rw [if_pos rfl]; exact hno
     | false => rw [hy, if_neg (by decide), Bool.and_true] at hno; rw [hno]; rfl
    ·rw [if_neg h4] at hno
     cases hy : (usesA n.op).1.y with
     | true => rw [hy, if_pos rfl, Bool.true_and] at hno; rw [if_pos rfl, hno, Bool.and_false]
     | false => rw [hy] at hno; cases hno
  exact ⟨by unfold setF; rw [hf, if_neg (by decide)], hf⟩
 have hlast : ((List.range f.length).map fun k => setF rs A F T (tree f k)).getD (f.length - 1) 0 = setF rs A F T (treeF f) := by
  have : f.length - 1 < f.length := by omega
  simp [List.getD, this, treeF]
 have hlen : ((List.range f.length).map fun k => setF rs A F T (tree f k)).length = f.length := by simp
 generalize ((List.range f.length).map fun k => setF rs A F T (tree f k)) = l at hS hlast hlen
 have hg := us_get l (show f.length - 1 < l.length by omega)
 rw [hlast] at hg
 have hw : IntKind.i64.wrap ((l.length : Int) - 1) = ((f.length - 1 : Nat) : Int) := by rw [hlen, wrap_i64 (by omega)]; omega
 have hlt : ((f.length - 1 : Nat) : Int) < (l.length : Int) := by omega
 unfold ModA.d at hS ⊢
 refine CallT.go_fn mixed Try.func20 k20 (by simp) fun hf => ?_
 simp only [ZA, ZB, ZC, ZD, ZE, ↓reduceIte, reduceIte, ZF, ZG, ZH, ZI, ZJ, ne_eq, forall_const, reduceCtorEq, implies_true, forall_eq, ZK, ↓zU, ↓zD, zV, zT]
 (repeat refine sd ?_)
 refine .go (CallT.of_runs hS (by simp [D.isPureL, D.isPure])) ?_
 simp only [ZA, ZB, ZC, ZD, ZE, ↓reduceIte, reduceIte, ZF, ZG, ZH, ZI, ZJ, ne_eq, forall_const, reduceCtorEq, implies_true, forall_eq, ZK, ↓zU, ↓zD, zV, zT, us_len, hw, hg, hlt]
 (repeat refine sd ?_)
 exact .drop (by simp) (by simp [vw, vwL])
end Go.Pd
