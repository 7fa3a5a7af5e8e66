/- Lines for the claim RowTemporalForms: part GQ. -/
import Derived.Test.YtjklmijiccabfaaAG4
import Derived.Test.YtjklmijiccabfaaAPQ
import Derived.Test.YtjklmijiccabfaaAP8
set_option linter.unusedSectionVars false
set_option linter.unusedVariables false
set_option linter.unusedSimpArgs false
set_option linter.defProp false
set_option maxRecDepth 20000
namespace Go.Pd
open Go Go.Proofs
open Int renaming reduceToNat → ZA, reduceLT → ZB, reduceLE → ZC, reduceBEq → ZD, reduceBNe → ZE
open Go.Pd renaming St0 → ZF, argFr → ZG, callZ → ZH, midZ → ZI, unZ → ZJ, thenW → ZK, blockW → ZL, opX → ZM, opV → ZN, pX → ZO, pW → ZP, putK → ZQ, putP → ZR, atK → ZS, normK → ZT, postZ → ZU, binW → YB, bodyQ → YC, ressW → YD, resW → YE, sets → YG, oneAll → YH, setD → YI, rels → YJ, fillE → YK, fillD → YL, rowsOf → YN
open Nat renaming reduceEqDiff → ZW, reduceAdd → ZX, reduceBEq → ZY, reduceLT → ZZ, reduceLeDiff → YA, reduceMul → YO
open List renaming replicate → YM
section
open Rs Fm
namespace Fm
def shortA (f : List Nd) : List Nd := if 401 < f.length then [] else if 200 < (compactS f (f.length - 1)).length then [] else compactS f (f.length - 1)
end Fm
theorem short54 {f : List Nd} (c3 : validL f) (h0 : 0 < f.length) : Runs Try.prog 54 [.sl 6 (ndR f)] (.sl 6 (ndR (shortA f))) := by
  refine CallT.go_fn mixed Try.func54 k54 (by simp) fun hf => ?_
  by_cases hl : 401 < f.length
  · have hl' : (401 : Int) < (f.length : Int) := by omega
    rw [show shortA f = [] from if_pos hl]
    simp only [ZA, ZB, ZC, ZD, ZE, ZF, ZG, ↓ZH, ↓ZI, ↓ZJ, ↓ZK, ↓ZL, ↓ZM, ↓ZN, ↓ZO, ↓ZP, ↓ZQ, ↓ZR, ↓ZS, ↓ZT, ↓ZU, ↓reduceIte, reduceIte, ZW, ZX, ZY, ZZ, YA, YB, YC, YD, YE, ne_eq, forall_const, reduceCtorEq, implies_true, YG, YH, YI, YJ, YK, YL, YM, YN, forall_eq, YO, ↓zD, zT, ndR_len, hl']
    exact .drop (by simp) (by simp [vw, ndR])
  have hl' : ¬ (401 : Int) < (f.length : Int) := by omega
  rw [show shortA f = if 200 < (compactS f (f.length - 1)).length then [] else compactS f (f.length - 1) from if_neg hl]
  simp only [ZA, ZB, ZC, ZD, ZE, ZF, ZG, ↓ZH, ↓ZI, ↓ZJ, ↓ZK, ↓ZL, ↓ZM, ↓ZN, ↓ZO, ↓ZP, ↓ZQ, ↓ZR, ↓ZS, ↓ZT, ↓ZU, ↓reduceIte, reduceIte, ZW, ZX, ZY, ZZ, YA, YB, YC, YD, YE, ne_eq, forall_const, reduceCtorEq, implies_true, YG, YH, YI, YJ, YK, YL, YM, YN, forall_eq, YO, ↓zD, zT, ndR_len, hl']
  refine wpS_loop (fun k : Nat => [(4, .int .i64 k), (3, .ref 0 2 0 0), (0, .sl 6 (ndR f))]) (fun k => ⟨2, growO 1 1 (rows .i64 (List.replicate k (-1))) ++ [(0, ⟨2, [[.nils, growD 1 1 (rows .i64 (List.replicate k (-1)))]]⟩)]⟩) (fun k => k ≤ f.length) (fun k => f.length - k) 0 (Nat.zero_le _) ?_ ?_
  · (refine Weak.ren [] [0] (by simp) (by simp) (by decide) ?_; simp only [stay1, vwL, vw, vwF, sw, St.get, St.look, Fr.get, ↓reduceIte, reduceIte, Nat.reduceEqDiff, Nat.reduceAdd, Nat.reduceBEq, Nat.reduceLT, Nat.reduceLeDiff, exists_eq_left', ne_eq, reduceCtorEq, zR, List.replicate_zero, rows_nil, growD_nil, growO_nil, List.nil_append])
  intro k hk
  refine wpS_go mixed ?_
  by_cases h : k < f.length
  · have hd : ((k : Int) < (f.length : Int)) := by omega
    have hw : IntKind.i64.wrap ((k : Int) + 1) = ((k + 1 : Nat) : Int) := wrap_i64 (by omega)
    have hrl : (rows IntKind.i64 (List.replicate k (-1))).length = k := by simp [rows]
    have hsn : rows IntKind.i64 (List.replicate (k + 1) (-1)) = rows .i64 (List.replicate k (-1)) ++ [[.int .i64 (-1)]] := by
      rw [List.replicate_succ']; simp [rows]
    simp only [ZA, ZB, ZC, ZD, ZE, ZF, ZG, ↓ZH, ↓ZI, ↓ZJ, ↓ZK, ↓ZL, ↓ZM, ↓ZN, ↓ZO, ↓ZP, ↓ZQ, ↓ZR, ↓ZS, ↓ZT, ↓ZU, ↓reduceIte, reduceIte, ZW, ZX, ZY, ZZ, YA, YB, YC, YD, YE, ne_eq, forall_const, reduceCtorEq, implies_true, YG, YH, YI, YJ, YK, YL, YM, YN, forall_eq, YO, ↓zD, zT, hd, ndR_len, hrl]
    (repeat refine And.intro (by first | omega | exact ui_nonneg _ | exact Int.natCast_nonneg _ | rfl | exact rows_one' _ _ | exact us_one _ | (intro _ h; cases h; done)) ?_)
    refine ⟨k + 1, by omega, ?_, by omega⟩
    rw [hsn]
    (refine Weak.ren [(1, 2)] [1, 0] (by simp) (by simp) (by decide) ?_; simp only [stay1, vwL, vw, vwF, sw, St.get, St.look, Fr.get, ↓reduceIte, reduceIte, Nat.reduceEqDiff, Nat.reduceAdd, Nat.reduceBEq, Nat.reduceLT, Nat.reduceLeDiff, exists_eq_left', ne_eq, reduceCtorEq, zR, hw])
  have hd : ¬ ((k : Int) < (f.length : Int)) := by omega
  obtain rfl : k = f.length := by omega
  have hw : IntKind.i64.wrap ((f.length : Int) - 1) = ((f.length - 1 : Nat) : Int) := by rw [wrap_i64 (by omega)]; omega
  simp only [ZA, ZB, ZC, ZD, ZE, ZF, ZG, ↓ZH, ↓ZI, ↓ZJ, ↓ZK, ↓ZL, ↓ZM, ↓ZN, ↓ZO, ↓ZP, ↓ZQ, ↓ZR, ↓ZS, ↓ZT, ↓ZU, ↓reduceIte, reduceIte, ZW, ZX, ZY, ZZ, YA, YB, YC, YD, YE, ne_eq, forall_const, reduceCtorEq, implies_true, YG, YH, YI, YJ, YK, YL, YM, YN, forall_eq, YO, ↓zD, zT, hd, ndR_len, hw]
  have hI0 : InvW f 2 (growO 1 1 (rows .i64 (List.replicate f.length (-1))) ++ [(0, ⟨2, [[.nils, growD 1 1 (rows .i64 (List.replicate f.length (-1)))]]⟩)]) 11 1 ⟨[], []⟩ (List.replicate f.length (-1)) := by
    have hcons : ∃ a b, rows IntKind.i64 (List.replicate f.length (-1)) = a :: b := by
      cases hl : f.length with
      | zero => omega
      | succ m => exact ⟨_, _, rfl⟩
    refine ⟨by omega, by rw [look_growO, if_neg (by omega)]; rfl, .inl rfl, ⟨by omega, by omega, ?_⟩, by simp, fun i hi => ?_, fun z k h => (by cases h), fun k hk => ?_⟩
    · obtain ⟨a, b, hab⟩ := hcons
      rw [hab]; rfl
    · simp [List.getD, hi, ulook]
    · rw [look_growO, if_neg (by omega), look_cons, if_neg (by omega)]; rfl
  obtain ⟨nx', objs', kO', dl', I1, _, _, _, cc⟩ := finish70 c3 (by omega) (f.length - 1 + 1) (i := f.length - 1) (by omega) (show f.length - 1 < f.length by omega) ⟨Nat.le_refl _, by simp, fun p hp => by cases hp⟩ hI0
  have ee : (finishS f (f.length - 1 + 1) (f.length - 1) ⟨[], []⟩).2.out = compactS f (f.length - 1) := rfl
  have g0 := I1.h0
  have gO := I1.hO
  rw [ee] at g0 gO
  refine .go cc ?_
  generalize compactS f (f.length - 1) = c at g0 gO
  by_cases hc : 200 < c.length
  · have hc' : (200 : Int) < (c.length : Int) := by omega
    rw [if_pos hc]
    simp only [ZA, ZB, ZC, ZD, ZE, ZF, ZG, ↓ZH, ↓ZI, ↓ZJ, ↓ZK, ↓ZL, ↓ZM, ↓ZN, ↓ZO, ↓ZP, ↓ZQ, ↓ZR, ↓ZS, ↓ZT, ↓ZU, ↓reduceIte, reduceIte, ZW, ZX, ZY, ZZ, YA, YB, YC, YD, YE, ne_eq, forall_const, reduceCtorEq, implies_true, YG, YH, YI, YJ, YK, YL, YM, YN, forall_eq, YO, ↓zD, zT, g0, wOb, ndR_len, hc']
    (repeat refine And.intro (by first | omega | exact ui_nonneg _ | exact Int.natCast_nonneg _ | rfl | exact rows_one' _ _ | exact us_one _ | (intro _ h; cases h; done)) ?_)
    exact .drop (by simp) (by simp [vw, ndR])
  · have hc' : ¬ (200 : Int) < (c.length : Int) := by omega
    rw [if_neg hc]
    simp only [ZA, ZB, ZC, ZD, ZE, ZF, ZG, ↓ZH, ↓ZI, ↓ZJ, ↓ZK, ↓ZL, ↓ZM, ↓ZN, ↓ZO, ↓ZP, ↓ZQ, ↓ZR, ↓ZS, ↓ZT, ↓ZU, ↓reduceIte, reduceIte, ZW, ZX, ZY, ZZ, YA, YB, YC, YD, YE, ne_eq, forall_const, reduceCtorEq, implies_true, YG, YH, YI, YJ, YK, YL, YM, YN, forall_eq, YO, ↓zD, zT, g0, wOb, ndR_len, hc']
    (repeat refine And.intro (by first | omega | exact ui_nonneg _ | exact Int.natCast_nonneg _ | rfl | exact rows_one' _ _ | exact us_one _ | (intro _ h; cases h; done)) ?_)
    rcases gO with hO | ⟨a1, a2, a3, a4⟩
    · rw [hO]
      exact .drop (by simp) (by simp [vw, ndR, growD])
    · exact .drop (by simp) (grow_viewL (by simp) (ndR_pure _) a4)
end
section
open Rs Fm
namespace Fm
def treeF (f : List Nd) : Tr := tree f (f.length - 1)
theorem treeF_wf {f : List Nd} (h : checkF f = 0) : wfT (treeF f) := by
  obtain ⟨h1, h2, h3⟩ := checkF_zero h
  have hl : 0 < f.length := by cases f with | nil => exact absurd rfl h1 | cons a b => simp
  exact tree_wf h3 _ (by omega)
theorem compact_tree {f : List Nd} (h : checkF f = 0) : tree (compactA f) ((compactA f).length - 1) = treeF f ∧ (compactA f).Nodup := by
  rw [compactA_eq h]
  obtain ⟨_, b, _, d⟩ := canon_spec (treeF_wf h)
  exact ⟨d, b⟩
theorem shiftN_zero (p : Nd) : shiftN 0 p = p := by
  obtain ⟨op, i, e, g, x, y⟩ := p
  simp [shiftN]
theorem map_shift0 (c : List Nd) : c.map (shiftN 0) = c := by
  rw [show shiftN 0 = id from funext shiftN_zero, List.map_id]
theorem build_one {x : Nd} {f : List Nd} (hc : checkF f = 0) (hx : (usesA x.op).1.x = true) (hy : (usesA x.op).1.y = false) (hw : nodeE ⟨x.op, x.i, x.e, x.g, 0, 0⟩ 1 = 0) (hx0 : x.y = 0) :
    buildA x [f] = if 200 < (canon (.nd x.op x.i x.e x.g (treeF f) .nil)).length then [] else canon (.nd x.op x.i x.e x.g (treeF f) .nil) := by
  have hv := validC f
  have hn := compact_ne hc
  have ht := (compact_tree hc).1
  generalize hcd : compactA f = c at hv hn ht
  have hq : nodeE ⟨x.op, x.i, x.e, x.g, (c.length : Int) - 1, x.y⟩ c.length = 0 := by
    refine nodeE_ops (p := ⟨x.op, x.i, x.e, x.g, 0, 0⟩) hw ?_ ?_
    · simp only [hx, ↓reduceIte]; omega
    · simp only [hy, Bool.false_eq_true, ↓reduceIte]; exact hx0
  have hva : validL (c ++ [⟨x.op, x.i, x.e, x.g, (c.length : Int) - 1, x.y⟩]) := validL_snoc hv hq
  have hb : buildL 0 [f] [] x = some (c, ⟨x.op, x.i, x.e, x.g, (c.length : Int) - 1, x.y⟩) := by
    unfold buildL
    rw [if_neg (by simpa using hc), hcd]
    simp only [List.nil_append, List.length_nil, map_shift0]
    unfold buildL setOp
    rw [if_pos rfl]
  have htr : tree (c ++ [⟨x.op, x.i, x.e, x.g, (c.length : Int) - 1, x.y⟩]) c.length = .nd x.op x.i x.e x.g (treeF f) .nil := by
    rw [tree_eq hva (by simp)]
    have hgl : (c ++ [(⟨x.op, x.i, x.e, x.g, (c.length : Int) - 1, x.y⟩ : Nd)]).getD c.length nd0 = ⟨x.op, x.i, x.e, x.g, (c.length : Int) - 1, x.y⟩ := by simp [List.getD]
    rw [hgl]
    simp only [hx, hy, Bool.false_eq_true, ↓reduceIte]
    rw [tree_app hva _ (by omega), show ((c.length : Int) - 1).toNat = c.length - 1 by omega, ht]
  unfold buildA
  rw [hb]
  simp only
  rw [if_neg (by simpa using hq), compactS_canon hva (by simp), htr]
theorem tree_shift {l c : List Nd} (hl : validL l) (hc : validL c) : ∀ k, k < c.length → tree (l ++ c.map (shiftN l.length)) (l.length + k) = tree c k := by
  have hv := validL_app hl hc
  intro k
  induction k using Nat.strongRecOn with
  | _ k ih =>
    intro hk
    obtain ⟨ox, oy, _, _⟩ := node_ops' (hc k hk)
    have hg : (l ++ c.map (shiftN l.length)).getD (l.length + k) nd0 = shiftN l.length (c.getD k nd0) := by
      simp [List.getD, hk]
    rw [tree_eq hv (by simp; omega), tree_eq hc hk, hg]
    generalize c.getD k nd0 = p at ox oy
    unfold shiftN
    simp only
    congr 1
    · by_cases hx : (usesA p.op).1.x = true
      · have := ox hx
        rw [if_pos hx, if_pos hx, if_pos hx, show (p.x + (l.length : Int)).toNat = l.length + p.x.toNat by omega]
        exact ih _ (by omega) (by omega)
      · rw [if_neg hx, if_neg hx]
    · by_cases hy : (usesA p.op).1.y = true
      · have := oy hy
        rw [if_pos hy, if_pos hy, if_pos hy, show (p.y + (l.length : Int)).toNat = l.length + p.y.toNat by omega]
        exact ih _ (by omega) (by omega)
      · rw [if_neg hy, if_neg hy]
theorem build_two {x : Nd} {f g : List Nd} (hf : checkF f = 0) (hg : checkF g = 0) (hx : (usesA x.op).1.x = true) (hy : (usesA x.op).1.y = true) (hw : nodeE ⟨x.op, x.i, x.e, x.g, 0, 0⟩ 1 = 0) :
    buildA x [f, g] = if 200 < (canon (.nd x.op x.i x.e x.g (treeF f) (treeF g))).length then [] else canon (.nd x.op x.i x.e x.g (treeF f) (treeF g)) := by
  have hv := validC f
  have hn := compact_ne hf
  have ht := (compact_tree hf).1
  have hv2 := validC g
  have hn2 := compact_ne hg
  have ht2 := (compact_tree hg).1
  generalize hcd : compactA f = c at hv hn ht
  generalize hce : compactA g = d at hv2 hn2 ht2
  have hva := validL_app hv hv2
  have hsh := tree_shift hv hv2 (d.length - 1) (by omega)
  have hlen : (c ++ d.map (shiftN c.length)).length = c.length + d.length := by simp
  have hb : buildL 0 [f, g] [] x = some (c ++ d.map (shiftN c.length), ⟨x.op, x.i, x.e, x.g, (c.length : Int) - 1, ((c.length + d.length : Nat) : Int) - 1⟩) := by
    unfold buildL
    rw [if_neg (by simpa using hf), hcd]
    simp only [List.nil_append, List.length_nil, map_shift0]
    unfold buildL
    rw [if_neg (by simpa using hg), hce]
    unfold buildL setOp
    rw [if_pos rfl, if_neg (by omega), hlen]
  have htl : tree (c ++ d.map (shiftN c.length)) (c.length - 1) = treeF f := by rw [tree_app hva _ (by omega), ht]
  generalize hcd2 : c ++ d.map (shiftN c.length) = cc at hva hsh hlen hb htl
  have hq : nodeE ⟨x.op, x.i, x.e, x.g, (c.length : Int) - 1, ((c.length + d.length : Nat) : Int) - 1⟩ cc.length = 0 := by
    refine nodeE_ops (p := ⟨x.op, x.i, x.e, x.g, 0, 0⟩) hw ?_ ?_
    · simp only [hx, ↓reduceIte]; omega
    · simp only [hy, ↓reduceIte]; omega
  have hvs : validL (cc ++ [⟨x.op, x.i, x.e, x.g, (c.length : Int) - 1, ((c.length + d.length : Nat) : Int) - 1⟩]) := validL_snoc hva hq
  have htr : tree (cc ++ [⟨x.op, x.i, x.e, x.g, (c.length : Int) - 1, ((c.length + d.length : Nat) : Int) - 1⟩]) cc.length = .nd x.op x.i x.e x.g (treeF f) (treeF g) := by
    rw [tree_eq hvs (by simp)]
    have hgl : (cc ++ [(⟨x.op, x.i, x.e, x.g, (c.length : Int) - 1, ((c.length + d.length : Nat) : Int) - 1⟩ : Nd)]).getD cc.length nd0 = ⟨x.op, x.i, x.e, x.g, (c.length : Int) - 1, ((c.length + d.length : Nat) : Int) - 1⟩ := by simp [List.getD]
    rw [hgl]
    simp only [hx, hy, ↓reduceIte]
    rw [tree_app hvs _ (by omega), tree_app hvs _ (by omega), show ((c.length : Int) - 1).toNat = c.length - 1 by omega, show (((c.length + d.length : Nat) : Int) - 1).toNat = c.length + (d.length - 1) by omega, htl, hsh, ht2]
  unfold buildA
  rw [hb]
  simp only
  rw [if_neg (by simpa using hq), compactS_canon hvs (by simp), htr]
end Fm
end
section
open Rs Fm
namespace Fm
def unX (x : Nd) (f : List Nd) : Nd := ⟨x.op, x.i, x.e, x.g, (f.length : Int) - 1, x.y⟩
def unA (x : Nd) (f : List Nd) : List Nd := if checkF f ≠ 0 then [] else if nodeE (unX x f) f.length ≠ 0 then [] else shortA (f ++ [unX x f])
theorem un_build {x : Nd} {f : List Nd} (hx : (usesA x.op).1.x = true) (hy : (usesA x.op).1.y = false) (hw : nodeE ⟨x.op, x.i, x.e, x.g, 0, 0⟩ 1 = 0) (hx0 : x.y = 0) : unA x f = buildA x [f] := by
  unfold unA
  by_cases hc : checkF f = 0
  · rw [if_neg (by simpa using hc), build_one hc hx hy hw hx0]
    obtain ⟨c1, c2, c3⟩ := checkF_zero hc
    have hn : 0 < f.length := List.length_pos_iff.2 c1
    have hq : nodeE (unX x f) f.length = 0 := by
      refine nodeE_ops (p := ⟨x.op, x.i, x.e, x.g, 0, 0⟩) hw ?_ ?_
      · simp only [hx, ↓reduceIte]; show 0 ≤ (f.length : Int) - 1 ∧ (f.length : Int) - 1 < f.length; omega
      · simp only [hy, Bool.false_eq_true, ↓reduceIte]; exact hx0
    rw [if_neg (by simpa using hq)]
    have hvs : validL (f ++ [unX x f]) := validL_snoc c3 hq
    have htr : tree (f ++ [unX x f]) f.length = .nd x.op x.i x.e x.g (treeF f) .nil := by
      rw [tree_eq hvs (by simp)]
      have hgl : (f ++ [unX x f]).getD f.length nd0 = unX x f := by simp [List.getD]
      rw [hgl]
      simp only [unX, hx, hy, ↓reduceIte, Bool.false_eq_true]
      rw [show ((f.length : Int) - 1).toNat = f.length - 1 by omega]
      have := tree_app hvs (f.length - 1) (by omega)
      simp only [unX] at this
      rw [this]; rfl
    unfold shortA
    have hl : (f ++ [unX x f]).length - 1 = f.length := by simp
    rw [hl, if_neg (by rw [List.length_append, List.length_singleton]; omega), compactS_canon hvs (by simp), htr]
  · rw [if_pos hc]
    unfold buildA buildL
    rw [if_pos hc]
end Fm
theorem Unary31 (x : Nd) (f : List Nd) : Runs Try.prog 31 [.agg x.row, .sl 6 (ndR f)] (.sl 6 (ndR (unA x f))) := by
  refine CallT.go_fn mixed Try.func31 k31 (by simp) fun hf => ?_
  simp only [ZA, ZB, ZC, ZD, ZE, ZF, ZG, ↓ZH, ↓ZI, ↓ZJ, ↓ZK, ↓ZL, ↓ZM, ↓ZN, ↓ZO, ↓ZP, ↓ZQ, ↓ZR, ↓ZS, ↓ZT, ↓ZU, ↓reduceIte, reduceIte, ZW, ZX, ZY, ZZ, YA, YB, YC, YD, YE, ne_eq, forall_const, reduceCtorEq, implies_true, YG, YH, YI, YJ, YK, YL, YM, YN, forall_eq, YO, ↓zD, zT, Nd.row]
  (repeat refine And.intro (by first | omega | exact ui_nonneg _ | exact Int.natCast_nonneg _ | rfl | exact rows_one' _ _ | exact us_one _ | (intro _ h; cases h; done)) ?_)
  refine .go (CallT.of_runs (Check39 f) (by simp [D.isPureL, D.isPure])) ?_
  unfold unA
  by_cases hc : checkF f = 0
  case neg =>
    have e : (checkF f != 0) = true := by simpa using hc
    rw [if_pos hc]
    simp only [ZA, ZB, ZC, ZD, ZE, ZF, ZG, ↓ZH, ↓ZI, ↓ZJ, ↓ZK, ↓ZL, ↓ZM, ↓ZN, ↓ZO, ↓ZP, ↓ZQ, ↓ZR, ↓ZS, ↓ZT, ↓ZU, ↓reduceIte, reduceIte, ZW, ZX, ZY, ZZ, YA, YB, YC, YD, YE, ne_eq, forall_const, reduceCtorEq, implies_true, YG, YH, YI, YJ, YK, YL, YM, YN, forall_eq, YO, ↓zD, zT, e]
    exact .drop (by simp) (by simp [vw, ndR])
  have e : (checkF f != 0) = false := by simpa using hc
  rw [if_neg (by simpa using hc)]
  obtain ⟨c1, c2, c3⟩ := checkF_zero hc
  have hn : 0 < f.length := List.length_pos_iff.2 c1
  have hw : IntKind.i64.wrap ((f.length : Int) - 1) = (f.length : Int) - 1 := wrap_i64 (by omega)
  have hnode := node68 (unX x f) f.length
  unfold unX Nd.row at hnode
  simp only at hnode
  simp only [ZA, ZB, ZC, ZD, ZE, ZF, ZG, ↓ZH, ↓ZI, ↓ZJ, ↓ZK, ↓ZL, ↓ZM, ↓ZN, ↓ZO, ↓ZP, ↓ZQ, ↓ZR, ↓ZS, ↓ZT, ↓ZU, ↓reduceIte, reduceIte, ZW, ZX, ZY, ZZ, YA, YB, YC, YD, YE, ne_eq, forall_const, reduceCtorEq, implies_true, YG, YH, YI, YJ, YK, YL, YM, YN, forall_eq, YO, ↓zD, zT, e, ndR_len, hw]
  (repeat refine And.intro (by first | omega | exact ui_nonneg _ | exact Int.natCast_nonneg _ | rfl | exact rows_one' _ _ | exact us_one _ | (intro _ h; cases h; done)) ?_)
  refine .go (CallT.of_runs hnode (by simp [D.isPureL, D.isPure])) ?_
  by_cases hq : nodeE (unX x f) f.length = 0
  case neg =>
    have e2 : (nodeE (unX x f) f.length != 0) = true := by simpa using hq
    rw [if_pos hq]
    unfold unX at e2
    simp only [ZA, ZB, ZC, ZD, ZE, ZF, ZG, ↓ZH, ↓ZI, ↓ZJ, ↓ZK, ↓ZL, ↓ZM, ↓ZN, ↓ZO, ↓ZP, ↓ZQ, ↓ZR, ↓ZS, ↓ZT, ↓ZU, ↓reduceIte, reduceIte, ZW, ZX, ZY, ZZ, YA, YB, YC, YD, YE, ne_eq, forall_const, reduceCtorEq, implies_true, YG, YH, YI, YJ, YK, YL, YM, YN, forall_eq, YO, ↓zD, zT, e2]
    exact .drop (by simp) (by simp [vw, ndR])
  have e2 : (nodeE (unX x f) f.length != 0) = false := by simpa using hq
  rw [if_neg (by simpa using hq)]
  have hvs : validL (f ++ [unX x f]) := validL_snoc c3 hq
  have hsh := short54 hvs (by simp)
  generalize shortA (f ++ [unX x f]) = r at hsh ⊢
  unfold unX at e2 hsh
  simp only [ZA, ZB, ZC, ZD, ZE, ZF, ZG, ↓ZH, ↓ZI, ↓ZJ, ↓ZK, ↓ZL, ↓ZM, ↓ZN, ↓ZO, ↓ZP, ↓ZQ, ↓ZR, ↓ZS, ↓ZT, ↓ZU, ↓reduceIte, reduceIte, ZW, ZX, ZY, ZZ, YA, YB, YC, YD, YE, ne_eq, forall_const, reduceCtorEq, implies_true, YG, YH, YI, YJ, YK, YL, YM, YN, forall_eq, YO, ↓zD, zT, e2]
  refine wpS_loop (fun k : Nat => [(6, .int .i64 k), (5, growD 1 6 (ndR (f.take k))), (2, .ref 0 6 0 0), (1, .sl 6 (ndR f))]) (fun k => ⟨2, growO 1 6 (ndR (f.take k)) ++ [(0, ⟨6, [[.int .i64 x.op, .int .i64 x.i, .int .i64 x.e, .int .i64 x.g, .int .i64 ((f.length : Int) - 1), .int .i64 x.y]]⟩)]⟩) (fun k => k ≤ f.length) (fun k => f.length - k) 0 (Nat.zero_le _) ?_ ?_
  · (refine Weak.ren [] [0] (by simp) (by simp) (by decide) ?_; simp only [stay1, vwL, vw, vwF, sw, St.get, St.look, Fr.get, ↓reduceIte, reduceIte, Nat.reduceEqDiff, Nat.reduceAdd, Nat.reduceBEq, Nat.reduceLT, Nat.reduceLeDiff, exists_eq_left', ne_eq, reduceCtorEq, zR, List.take_zero, ndR_nil, growD_nil, growO_nil, List.nil_append])
  intro k hk
  refine wpS_go mixed ?_
  by_cases h : k < f.length
  · have hd : ((k : Int) < (f.length : Int)) := by omega
    have hg := ndR_get f h
    have hS := take_snoc (d := nd0) h
    have htl : (f.take k).length = k := by rw [List.length_take]; omega
    generalize f.getD k nd0 = p at hg hS
    generalize f.take k = u at hS htl
    obtain ⟨p1, p2, p3, p4, p5, p6⟩ := p
    simp only [Nd.row] at hg
    simp only [ZA, ZB, ZC, ZD, ZE, ZF, ZG, ↓ZH, ↓ZI, ↓ZJ, ↓ZK, ↓ZL, ↓ZM, ↓ZN, ↓ZO, ↓ZP, ↓ZQ, ↓ZR, ↓ZS, ↓ZT, ↓ZU, ↓reduceIte, reduceIte, ZW, ZX, ZY, ZZ, YA, YB, YC, YD, YE, ne_eq, forall_const, reduceCtorEq, implies_true, YG, YH, YI, YJ, YK, YL, YM, YN, forall_eq, YO, ↓zD, zT, hd, ndR_len, hg, htl]
    (repeat refine And.intro (by first | omega | exact ui_nonneg _ | exact Int.natCast_nonneg _ | rfl | exact rows_one' _ _ | exact us_one _ | (intro _ h; cases h; done)) ?_)
    refine ⟨k + 1, by omega, ?_, by omega⟩
    rw [hS]
    (refine Weak.ren [(1, 2)] [1, 0] (by simp) (by simp) (by decide) ?_; simp only [stay1, vwL, vw, vwF, sw, St.get, St.look, Fr.get, ↓reduceIte, reduceIte, Nat.reduceEqDiff, Nat.reduceAdd, Nat.reduceBEq, Nat.reduceLT, Nat.reduceLeDiff, exists_eq_left', ne_eq, reduceCtorEq, zR, ndR_snoc, pureE_ndR])
    exact wrap_i64 (by omega)
  have hd : ¬ ((k : Int) < (f.length : Int)) := by omega
  obtain rfl : k = f.length := by omega
  rw [List.take_length]
  simp only [ZA, ZB, ZC, ZD, ZE, ZF, ZG, ↓ZH, ↓ZI, ↓ZJ, ↓ZK, ↓ZL, ↓ZM, ↓ZN, ↓ZO, ↓ZP, ↓ZQ, ↓ZR, ↓ZS, ↓ZT, ↓ZU, ↓reduceIte, reduceIte, ZW, ZX, ZY, ZZ, YA, YB, YC, YD, YE, ne_eq, forall_const, reduceCtorEq, implies_true, YG, YH, YI, YJ, YK, YL, YM, YN, forall_eq, YO, ↓zD, zT, hd, ndR_len]
  (repeat refine And.intro (by first | omega | exact ui_nonneg _ | exact Int.natCast_nonneg _ | rfl | exact rows_one' _ _ | exact us_one _ | (intro _ h; cases h; done)) ?_)
  have hcall := CallT.give (σ := ⟨3, growO 2 6 (ndR (f ++ [⟨x.op, x.i, x.e, x.g, (f.length : Int) - 1, x.y⟩])) ++ [(0, ⟨6, [[.int .i64 x.op, .int .i64 x.i, .int .i64 x.e, .int .i64 x.g, .int .i64 ((f.length : Int) - 1), .int .i64 x.y]]⟩)]⟩) (args := [growD 2 6 (ndR (f ++ [⟨x.op, x.i, x.e, x.g, (f.length : Int) - 1, x.y⟩]))]) (objs' := []) (fun _ => False) hsh
    ⟨Seen.grow (by rw [St.get, look_growO, if_pos rfl]; cases growG 6 (ndR (f ++ [⟨x.op, x.i, x.e, x.g, (f.length : Int) - 1, x.y⟩])) <;> rfl) id (by omega) (ndR_six _) (ndR_pure _), trivial⟩ (fun k o hk => by cases hk)
  rw [ndR_snoc]
  refine .go hcall ?_
  simp only [ZA, ZB, ZC, ZD, ZE, ZF, ZG, ↓ZH, ↓ZI, ↓ZJ, ↓ZK, ↓ZL, ↓ZM, ↓ZN, ↓ZO, ↓ZP, ↓ZQ, ↓ZR, ↓ZS, ↓ZT, ↓ZU, ↓reduceIte, reduceIte, ZW, ZX, ZY, ZZ, YA, YB, YC, YD, YE, ne_eq, forall_const, reduceCtorEq, implies_true, YG, YH, YI, YJ, YK, YL, YM, YN, forall_eq, YO, ↓zD, zT]
  exact .drop (by simp) (by simp [vw])
end
section
open Rs Fm
namespace Fm
def binL (a b : List Nd) : List Nd := a ++ b.map (shiftN a.length)
def binX (x : Nd) (a b : List Nd) : Nd := ⟨x.op, x.i, x.e, x.g, (a.length : Int) - 1, ((a.length + b.length : Nat) : Int) - 1⟩
def binA (x : Nd) (a b : List Nd) : List Nd := if checkF a ≠ 0 then [] else if checkF b ≠ 0 then [] else if nodeE (binX x a b) (a.length + b.length : Nat) ≠ 0 then [] else shortA (binL a b ++ [binX x a b])
theorem binL_len (a b : List Nd) : (binL a b).length = a.length + b.length := by simp [binL]
theorem bin_build {x : Nd} {a b : List Nd} (hx : (usesA x.op).1.x = true) (hy : (usesA x.op).1.y = true) (hw : nodeE ⟨x.op, x.i, x.e, x.g, 0, 0⟩ 1 = 0) : binA x a b = buildA x [a, b] := by
  unfold binA
  by_cases hc : checkF a = 0
  case neg =>
    rw [if_pos hc]
    unfold buildA buildL
    rw [if_pos hc]
  rw [if_neg (by simpa using hc)]
  by_cases hc2 : checkF b = 0
  case neg =>
    rw [if_pos hc2]
    unfold buildA buildL
    rw [if_neg (by simpa using hc)]
    unfold buildL
    rw [if_pos hc2]
  rw [if_neg (by simpa using hc2), build_two hc hc2 hx hy hw]
  obtain ⟨c1, c2, c3⟩ := checkF_zero hc
  obtain ⟨d1, d2, d3⟩ := checkF_zero hc2
  have hn : 0 < a.length := List.length_pos_iff.2 c1
  have hm : 0 < b.length := List.length_pos_iff.2 d1
  have hva : validL (binL a b) := validL_app c3 d3
  have hsh := tree_shift c3 d3 (b.length - 1) (by omega)
  have hta := tree_app hva (a.length - 1) (by omega)
  have hll := binL_len a b
  have hsh' : tree (binL a b) (a.length + (b.length - 1)) = treeF b := hsh
  have hta' : tree (binL a b) (a.length - 1) = treeF a := hta
  generalize binL a b = l at hva hll hsh' hta'
  have hq : nodeE (binX x a b) l.length = 0 := by
    refine nodeE_ops (p := ⟨x.op, x.i, x.e, x.g, 0, 0⟩) hw ?_ ?_
    · simp only [hx, ↓reduceIte]; show 0 ≤ (a.length : Int) - 1 ∧ (a.length : Int) - 1 < l.length; omega
    · simp only [hy, ↓reduceIte]; show 0 ≤ ((a.length + b.length : Nat) : Int) - 1 ∧ ((a.length + b.length : Nat) : Int) - 1 < l.length; omega
  rw [← hll, if_neg (by simpa using hq)]
  have hvs : validL (l ++ [binX x a b]) := validL_snoc hva hq
  have htr : tree (l ++ [binX x a b]) l.length = .nd x.op x.i x.e x.g (treeF a) (treeF b) := by
    rw [tree_eq hvs (by simp)]
    have hgl : (l ++ [binX x a b]).getD l.length nd0 = binX x a b := by simp [List.getD]
    rw [hgl]
    have t1 := tree_app hvs (a.length - 1) (by omega)
    have t2 := tree_app hvs (a.length + (b.length - 1)) (by omega)
    simp only [binX, hx, hy, ↓reduceIte]
    rw [show ((a.length : Int) - 1).toNat = a.length - 1 by omega, show (((a.length + b.length : Nat) : Int) - 1).toNat = a.length + (b.length - 1) by omega]
    simp only [binX] at t1 t2
    rw [t1, t2, hta', hsh']
  unfold shortA
  have hl : (l ++ [binX x a b]).length - 1 = l.length := by simp
  rw [hl, if_neg (by rw [List.length_append, List.length_singleton]; omega), compactS_canon hvs (by simp), htr]
end Fm
theorem Binary30 (x : Nd) (a b : List Nd) : Runs Try.prog 30 [.agg x.row, .sl 6 (ndR a), .sl 6 (ndR b)] (.sl 6 (ndR (binA x a b))) := by
  refine CallT.go_fn mixed Try.func30 k30 (by simp) fun hf => ?_
  simp only [ZA, ZB, ZC, ZD, ZE, ZF, ZG, ↓ZH, ↓ZI, ↓ZJ, ↓ZK, ↓ZL, ↓ZM, ↓ZN, ↓ZO, ↓ZP, ↓ZQ, ↓ZR, ↓ZS, ↓ZT, ↓ZU, ↓reduceIte, reduceIte, ZW, ZX, ZY, ZZ, YA, YB, YC, YD, YE, ne_eq, forall_const, reduceCtorEq, implies_true, YG, YH, YI, YJ, YK, YL, YM, YN, forall_eq, YO, ↓zD, zT, Nd.row]
  (repeat refine And.intro (by first | omega | exact ui_nonneg _ | exact Int.natCast_nonneg _ | rfl | exact rows_one' _ _ | exact us_one _ | (intro _ h; cases h; done)) ?_)
  refine .go (CallT.of_runs (Check39 a) (by simp [D.isPureL, D.isPure])) ?_
  unfold binA
  by_cases hc : checkF a = 0
  case neg =>
    have e : (checkF a != 0) = true := by simpa using hc
    rw [if_pos hc]
    simp only [ZA, ZB, ZC, ZD, ZE, ZF, ZG, ↓ZH, ↓ZI, ↓ZJ, ↓ZK, ↓ZL, ↓ZM, ↓ZN, ↓ZO, ↓ZP, ↓ZQ, ↓ZR, ↓ZS, ↓ZT, ↓ZU, ↓reduceIte, reduceIte, ZW, ZX, ZY, ZZ, YA, YB, YC, YD, YE, ne_eq, forall_const, reduceCtorEq, implies_true, YG, YH, YI, YJ, YK, YL, YM, YN, forall_eq, YO, ↓zD, zT, e]
    exact .drop (by simp) (by simp [vw, ndR])
  have e : (checkF a != 0) = false := by simpa using hc
  rw [if_neg (by simpa using hc)]
  simp only [ZA, ZB, ZC, ZD, ZE, ZF, ZG, ↓ZH, ↓ZI, ↓ZJ, ↓ZK, ↓ZL, ↓ZM, ↓ZN, ↓ZO, ↓ZP, ↓ZQ, ↓ZR, ↓ZS, ↓ZT, ↓ZU, ↓reduceIte, reduceIte, ZW, ZX, ZY, ZZ, YA, YB, YC, YD, YE, ne_eq, forall_const, reduceCtorEq, implies_true, YG, YH, YI, YJ, YK, YL, YM, YN, forall_eq, YO, ↓zD, zT, e]
  refine .go (CallT.of_runs (Check39 b) (by simp [D.isPureL, D.isPure])) ?_
  by_cases hc2 : checkF b = 0
  case neg =>
    have e2 : (checkF b != 0) = true := by simpa using hc2
    rw [if_pos hc2]
    simp only [ZA, ZB, ZC, ZD, ZE, ZF, ZG, ↓ZH, ↓ZI, ↓ZJ, ↓ZK, ↓ZL, ↓ZM, ↓ZN, ↓ZO, ↓ZP, ↓ZQ, ↓ZR, ↓ZS, ↓ZT, ↓ZU, ↓reduceIte, reduceIte, ZW, ZX, ZY, ZZ, YA, YB, YC, YD, YE, ne_eq, forall_const, reduceCtorEq, implies_true, YG, YH, YI, YJ, YK, YL, YM, YN, forall_eq, YO, ↓zD, zT, e2]
    exact .drop (by simp) (by simp [vw, ndR])
  have e2 : (checkF b != 0) = false := by simpa using hc2
  rw [if_neg (by simpa using hc2)]
  obtain ⟨c1, c2, c3⟩ := checkF_zero hc
  obtain ⟨d1, d2, d3⟩ := checkF_zero hc2
  have hn : 0 < a.length := List.length_pos_iff.2 c1
  have hm : 0 < b.length := List.length_pos_iff.2 d1
  simp only [ZA, ZB, ZC, ZD, ZE, ZF, ZG, ↓ZH, ↓ZI, ↓ZJ, ↓ZK, ↓ZL, ↓ZM, ↓ZN, ↓ZO, ↓ZP, ↓ZQ, ↓ZR, ↓ZS, ↓ZT, ↓ZU, ↓reduceIte, reduceIte, ZW, ZX, ZY, ZZ, YA, YB, YC, YD, YE, ne_eq, forall_const, reduceCtorEq, implies_true, YG, YH, YI, YJ, YK, YL, YM, YN, forall_eq, YO, ↓zD, zT, e2]
  refine wpS_loop (fun k : Nat => [(8, .int .i64 k), (7, growD 1 6 (ndR (a.take k))), (3, .ref 0 6 0 0), (2, .sl 6 (ndR b)), (1, .sl 6 (ndR a))]) (fun k => ⟨2, growO 1 6 (ndR (a.take k)) ++ [(0, ⟨6, [[.int .i64 x.op, .int .i64 x.i, .int .i64 x.e, .int .i64 x.g, .int .i64 x.x, .int .i64 x.y]]⟩)]⟩) (fun k => k ≤ a.length) (fun k => a.length - k) 0 (Nat.zero_le _) ?_ ?_
  · (refine Weak.ren [] [0] (by simp) (by simp) (by decide) ?_; simp only [stay1, vwL, vw, vwF, sw, St.get, St.look, Fr.get, ↓reduceIte, reduceIte, Nat.reduceEqDiff, Nat.reduceAdd, Nat.reduceBEq, Nat.reduceLT, Nat.reduceLeDiff, exists_eq_left', ne_eq, reduceCtorEq, zR, List.take_zero, ndR_nil, growD_nil, growO_nil, List.nil_append])
  intro k hk
  refine wpS_go mixed ?_
  by_cases h : k < a.length
  · have hd : ((k : Int) < (a.length : Int)) := by omega
    have hg := ndR_get a h
    have hS := take_snoc (d := nd0) h
    have htl : (a.take k).length = k := by rw [List.length_take]; omega
    generalize a.getD k nd0 = p at hg hS
    generalize a.take k = u at hS htl
    obtain ⟨p1, p2, p3, p4, p5, p6⟩ := p
    simp only [Nd.row] at hg
    simp only [ZA, ZB, ZC, ZD, ZE, ZF, ZG, ↓ZH, ↓ZI, ↓ZJ, ↓ZK, ↓ZL, ↓ZM, ↓ZN, ↓ZO, ↓ZP, ↓ZQ, ↓ZR, ↓ZS, ↓ZT, ↓ZU, ↓reduceIte, reduceIte, ZW, ZX, ZY, ZZ, YA, YB, YC, YD, YE, ne_eq, forall_const, reduceCtorEq, implies_true, YG, YH, YI, YJ, YK, YL, YM, YN, forall_eq, YO, ↓zD, zT, hd, ndR_len, hg, htl]
    (repeat refine And.intro (by first | omega | exact ui_nonneg _ | exact Int.natCast_nonneg _ | rfl | exact rows_one' _ _ | exact us_one _ | (intro _ h; cases h; done)) ?_)
    refine ⟨k + 1, by omega, ?_, by omega⟩
    rw [hS]
    (refine Weak.ren [(1, 2)] [1, 0] (by simp) (by simp) (by decide) ?_; simp only [stay1, vwL, vw, vwF, sw, St.get, St.look, Fr.get, ↓reduceIte, reduceIte, Nat.reduceEqDiff, Nat.reduceAdd, Nat.reduceBEq, Nat.reduceLT, Nat.reduceLeDiff, exists_eq_left', ne_eq, reduceCtorEq, zR, ndR_snoc, pureE_ndR])
    exact wrap_i64 (by omega)
  have hd : ¬ ((k : Int) < (a.length : Int)) := by omega
  obtain rfl : k = a.length := by omega
  rw [List.take_length]
  simp only [ZA, ZB, ZC, ZD, ZE, ZF, ZG, ↓ZH, ↓ZI, ↓ZJ, ↓ZK, ↓ZL, ↓ZM, ↓ZN, ↓ZO, ↓ZP, ↓ZQ, ↓ZR, ↓ZS, ↓ZT, ↓ZU, ↓reduceIte, reduceIte, ZW, ZX, ZY, ZZ, YA, YB, YC, YD, YE, ne_eq, forall_const, reduceCtorEq, implies_true, YG, YH, YI, YJ, YK, YL, YM, YN, forall_eq, YO, ↓zD, zT, hd, ndR_len]
  refine wpS_loop (fun k : Nat => [(9, .int .i64 k), (7, growD 1 6 (ndR (a ++ (b.take k).map (shiftN a.length)))), (3, .ref 0 6 0 0), (2, .sl 6 (ndR b)), (1, .sl 6 (ndR a))]) (fun k => ⟨2, growO 1 6 (ndR (a ++ (b.take k).map (shiftN a.length))) ++ [(0, ⟨6, [[.int .i64 x.op, .int .i64 x.i, .int .i64 x.e, .int .i64 x.g, .int .i64 x.x, .int .i64 x.y]]⟩)]⟩) (fun k => k ≤ b.length) (fun k => b.length - k) 0 (Nat.zero_le _) ?_ ?_
  · rw [List.take_zero, List.map_nil, List.append_nil]
    (refine Weak.same ?_; simp [sameF, Fr.get])
  intro k hk
  refine wpS_go mixed ?_
  by_cases h : k < b.length
  · have hd2 : ((k : Int) < (b.length : Int)) := by omega
    have hg := ndR_get b h
    have hS : a ++ (b.take (k + 1)).map (shiftN a.length) = (a ++ (b.take k).map (shiftN a.length)) ++ [shiftN a.length (b.getD k nd0)] := by
      rw [take_snoc (d := nd0) h, List.map_append, List.append_assoc]; rfl
    have htl : (a ++ (b.take k).map (shiftN a.length)).length = a.length + k := by rw [List.length_append, List.length_map, List.length_take]; omega
    have hno := node_ops' (d3 k h)
    generalize b.getD k nd0 = p at hg hS hno
    generalize a ++ (b.take k).map (shiftN a.length) = u at hS htl
    obtain ⟨p1, p2, p3, p4, p5, p6⟩ := p
    simp only [Nd.row] at hg
    simp only at hno
    have hux := UsesX26 p1
    have huy := UsesY27 p1
    have hq : shiftN a.length ⟨p1, p2, p3, p4, p5, p6⟩ = ⟨p1, p2, p3, p4, if (usesA p1).1.x = true then p5 + a.length else p5, if (usesA p1).1.y = true then p6 + a.length else p6⟩ := rfl
    simp only [ZA, ZB, ZC, ZD, ZE, ZF, ZG, ↓ZH, ↓ZI, ↓ZJ, ↓ZK, ↓ZL, ↓ZM, ↓ZN, ↓ZO, ↓ZP, ↓ZQ, ↓ZR, ↓ZS, ↓ZT, ↓ZU, ↓reduceIte, reduceIte, ZW, ZX, ZY, ZZ, YA, YB, YC, YD, YE, ne_eq, forall_const, reduceCtorEq, implies_true, YG, YH, YI, YJ, YK, YL, YM, YN, forall_eq, YO, ↓zD, zT, hd2, ndR_len, hg]
    (repeat refine And.intro (by first | omega | exact ui_nonneg _ | exact Int.natCast_nonneg _ | rfl | exact rows_one' _ _ | exact us_one _ | (intro _ h; cases h; done)) ?_)
    refine .go (CallT.of_runs hux (by simp [D.isPureL, D.isPure])) ?_
    by_cases ux : (usesA p1).1.x = true
    · have w1 : IntKind.i64.wrap (p5 + (a.length : Int)) = p5 + (a.length : Int) := by have := hno.1 ux; exact wrap_i64 (by omega)
      rw [if_pos ux] at hq
      by_cases uy : (usesA p1).1.y = true
      · have w2 : IntKind.i64.wrap (p6 + (a.length : Int)) = p6 + (a.length : Int) := by have := hno.2.1 uy; exact wrap_i64 (by omega)
        rw [if_pos uy] at hq
        simp only [ZA, ZB, ZC, ZD, ZE, ZF, ZG, ↓ZH, ↓ZI, ↓ZJ, ↓ZK, ↓ZL, ↓ZM, ↓ZN, ↓ZO, ↓ZP, ↓ZQ, ↓ZR, ↓ZS, ↓ZT, ↓ZU, ↓reduceIte, reduceIte, ZW, ZX, ZY, ZZ, YA, YB, YC, YD, YE, ne_eq, forall_const, reduceCtorEq, implies_true, YG, YH, YI, YJ, YK, YL, YM, YN, forall_eq, YO, ↓zD, zT, ux, ndR_len, w1]
        (repeat refine And.intro (by first | omega | exact ui_nonneg _ | exact Int.natCast_nonneg _ | rfl | exact rows_one' _ _ | exact us_one _ | (intro _ h; cases h; done)) ?_)
        refine .go (CallT.of_runs huy (by simp [D.isPureL, D.isPure])) ?_
        simp only [ZA, ZB, ZC, ZD, ZE, ZF, ZG, ↓ZH, ↓ZI, ↓ZJ, ↓ZK, ↓ZL, ↓ZM, ↓ZN, ↓ZO, ↓ZP, ↓ZQ, ↓ZR, ↓ZS, ↓ZT, ↓ZU, ↓reduceIte, reduceIte, ZW, ZX, ZY, ZZ, YA, YB, YC, YD, YE, ne_eq, forall_const, reduceCtorEq, implies_true, YG, YH, YI, YJ, YK, YL, YM, YN, forall_eq, YO, ↓zD, zT, uy, ndR_len, w2, htl]
        (repeat refine And.intro (by first | omega | exact ui_nonneg _ | exact Int.natCast_nonneg _ | rfl | exact rows_one' _ _ | exact us_one _ | (intro _ h; cases h; done)) ?_)
        refine ⟨k + 1, by omega, ?_, by omega⟩
        rw [hS, hq]
        (refine Weak.ren [(1, 3)] [1, 0] (by simp) (by simp) (by decide) ?_; simp only [stay1, vwL, vw, vwF, sw, St.get, St.look, Fr.get, ↓reduceIte, reduceIte, Nat.reduceEqDiff, Nat.reduceAdd, Nat.reduceBEq, Nat.reduceLT, Nat.reduceLeDiff, exists_eq_left', ne_eq, reduceCtorEq, zR, ndR_snoc, pureE_ndR])
        exact wrap_i64 (by omega)
      · rw [if_neg uy] at hq
        rw [Bool.not_eq_true] at uy
        simp only [ZA, ZB, ZC, ZD, ZE, ZF, ZG, ↓ZH, ↓ZI, ↓ZJ, ↓ZK, ↓ZL, ↓ZM, ↓ZN, ↓ZO, ↓ZP, ↓ZQ, ↓ZR, ↓ZS, ↓ZT, ↓ZU, ↓reduceIte, reduceIte, ZW, ZX, ZY, ZZ, YA, YB, YC, YD, YE, ne_eq, forall_const, reduceCtorEq, implies_true, YG, YH, YI, YJ, YK, YL, YM, YN, forall_eq, YO, ↓zD, zT, ux, ndR_len, w1]
        (repeat refine And.intro (by first | omega | exact ui_nonneg _ | exact Int.natCast_nonneg _ | rfl | exact rows_one' _ _ | exact us_one _ | (intro _ h; cases h; done)) ?_)
        refine .go (CallT.of_runs huy (by simp [D.isPureL, D.isPure])) ?_
        simp only [ZA, ZB, ZC, ZD, ZE, ZF, ZG, ↓ZH, ↓ZI, ↓ZJ, ↓ZK, ↓ZL, ↓ZM, ↓ZN, ↓ZO, ↓ZP, ↓ZQ, ↓ZR, ↓ZS, ↓ZT, ↓ZU, ↓reduceIte, reduceIte, ZW, ZX, ZY, ZZ, YA, YB, YC, YD, YE, ne_eq, forall_const, reduceCtorEq, implies_true, YG, YH, YI, YJ, YK, YL, YM, YN, forall_eq, YO, ↓zD, zT, uy, ndR_len, htl]
        (repeat refine And.intro (by first | omega | exact ui_nonneg _ | exact Int.natCast_nonneg _ | rfl | exact rows_one' _ _ | exact us_one _ | (intro _ h; cases h; done)) ?_)
        refine ⟨k + 1, by omega, ?_, by omega⟩
        rw [hS, hq]
        (refine Weak.ren [(1, 3)] [1, 0] (by simp) (by simp) (by decide) ?_; simp only [stay1, vwL, vw, vwF, sw, St.get, St.look, Fr.get, ↓reduceIte, reduceIte, Nat.reduceEqDiff, Nat.reduceAdd, Nat.reduceBEq, Nat.reduceLT, Nat.reduceLeDiff, exists_eq_left', ne_eq, reduceCtorEq, zR, ndR_snoc, pureE_ndR])
        exact wrap_i64 (by omega)
    · rw [if_neg ux] at hq
      rw [Bool.not_eq_true] at ux
      by_cases uy : (usesA p1).1.y = true
      · have w2 : IntKind.i64.wrap (p6 + (a.length : Int)) = p6 + (a.length : Int) := by have := hno.2.1 uy; exact wrap_i64 (by omega)
        rw [if_pos uy] at hq
        simp only [ZA, ZB, ZC, ZD, ZE, ZF, ZG, ↓ZH, ↓ZI, ↓ZJ, ↓ZK, ↓ZL, ↓ZM, ↓ZN, ↓ZO, ↓ZP, ↓ZQ, ↓ZR, ↓ZS, ↓ZT, ↓ZU, ↓reduceIte, reduceIte, ZW, ZX, ZY, ZZ, YA, YB, YC, YD, YE, ne_eq, forall_const, reduceCtorEq, implies_true, YG, YH, YI, YJ, YK, YL, YM, YN, forall_eq, YO, ↓zD, zT, ux, ndR_len]
        refine .go (CallT.of_runs huy (by simp [D.isPureL, D.isPure])) ?_
        simp only [ZA, ZB, ZC, ZD, ZE, ZF, ZG, ↓ZH, ↓ZI, ↓ZJ, ↓ZK, ↓ZL, ↓ZM, ↓ZN, ↓ZO, ↓ZP, ↓ZQ, ↓ZR, ↓ZS, ↓ZT, ↓ZU, ↓reduceIte, reduceIte, ZW, ZX, ZY, ZZ, YA, YB, YC, YD, YE, ne_eq, forall_const, reduceCtorEq, implies_true, YG, YH, YI, YJ, YK, YL, YM, YN, forall_eq, YO, ↓zD, zT, uy, ndR_len, w2, htl]
        (repeat refine And.intro (by first | omega | exact ui_nonneg _ | exact Int.natCast_nonneg _ | rfl | exact rows_one' _ _ | exact us_one _ | (intro _ h; cases h; done)) ?_)
        refine ⟨k + 1, by omega, ?_, by omega⟩
        rw [hS, hq]
        (refine Weak.ren [(1, 3)] [1, 0] (by simp) (by simp) (by decide) ?_; simp only [stay1, vwL, vw, vwF, sw, St.get, St.look, Fr.get, ↓reduceIte, reduceIte, Nat.reduceEqDiff, Nat.reduceAdd, Nat.reduceBEq, Nat.reduceLT, Nat.reduceLeDiff, exists_eq_left', ne_eq, reduceCtorEq, zR, ndR_snoc, pureE_ndR])
        exact wrap_i64 (by omega)
      · rw [if_neg uy] at hq
        rw [Bool.not_eq_true] at uy
        simp only [ZA, ZB, ZC, ZD, ZE, ZF, ZG, ↓ZH, ↓ZI, ↓ZJ, ↓ZK, ↓ZL, ↓ZM, ↓ZN, ↓ZO, ↓ZP, ↓ZQ, ↓ZR, ↓ZS, ↓ZT, ↓ZU, ↓reduceIte, reduceIte, ZW, ZX, ZY, ZZ, YA, YB, YC, YD, YE, ne_eq, forall_const, reduceCtorEq, implies_true, YG, YH, YI, YJ, YK, YL, YM, YN, forall_eq, YO, ↓zD, zT, ux, ndR_len]
        refine .go (CallT.of_runs huy (by simp [D.isPureL, D.isPure])) ?_
        simp only [ZA, ZB, ZC, ZD, ZE, ZF, ZG, ↓ZH, ↓ZI, ↓ZJ, ↓ZK, ↓ZL, ↓ZM, ↓ZN, ↓ZO, ↓ZP, ↓ZQ, ↓ZR, ↓ZS, ↓ZT, ↓ZU, ↓reduceIte, reduceIte, ZW, ZX, ZY, ZZ, YA, YB, YC, YD, YE, ne_eq, forall_const, reduceCtorEq, implies_true, YG, YH, YI, YJ, YK, YL, YM, YN, forall_eq, YO, ↓zD, zT, uy, ndR_len, htl]
        (repeat refine And.intro (by first | omega | exact ui_nonneg _ | exact Int.natCast_nonneg _ | rfl | exact rows_one' _ _ | exact us_one _ | (intro _ h; cases h; done)) ?_)
        refine ⟨k + 1, by omega, ?_, by omega⟩
        rw [hS, hq]
        (refine Weak.ren [(1, 3)] [1, 0] (by simp) (by simp) (by decide) ?_; simp only [stay1, vwL, vw, vwF, sw, St.get, St.look, Fr.get, ↓reduceIte, reduceIte, Nat.reduceEqDiff, Nat.reduceAdd, Nat.reduceBEq, Nat.reduceLT, Nat.reduceLeDiff, exists_eq_left', ne_eq, reduceCtorEq, zR, ndR_snoc, pureE_ndR])
        exact wrap_i64 (by omega)
  have hd2 : ¬ ((k : Int) < (b.length : Int)) := by omega
  obtain rfl : k = b.length := by omega
  rw [List.take_length]
  have hll := binL_len a b
  have hva : validL (binL a b) := validL_app c3 d3
  have hvs := fun (hq : nodeE (binX x a b) (a.length + b.length : Nat) = 0) => short54 (f := binL a b ++ [binX x a b]) (validL_snoc hva (by rw [hll]; exact hq)) (by simp)
  rw [show a ++ b.map (shiftN a.length) = binL a b from rfl]
  generalize binL a b = l at hll hva hvs ⊢
  have hw1 : IntKind.i64.wrap ((a.length : Int) - 1) = (a.length : Int) - 1 := wrap_i64 (by omega)
  have hw2 : IntKind.i64.wrap ((l.length : Int) - 1) = (l.length : Int) - 1 := wrap_i64 (by omega)
  have hnode := node68 (binX x a b) (a.length + b.length : Nat)
  have ell : ((a.length + b.length : Nat) : Int) = (l.length : Int) := by omega
  unfold binX Nd.row at hnode
  simp only [ell] at hnode
  simp only [ZA, ZB, ZC, ZD, ZE, ZF, ZG, ↓ZH, ↓ZI, ↓ZJ, ↓ZK, ↓ZL, ↓ZM, ↓ZN, ↓ZO, ↓ZP, ↓ZQ, ↓ZR, ↓ZS, ↓ZT, ↓ZU, ↓reduceIte, reduceIte, ZW, ZX, ZY, ZZ, YA, YB, YC, YD, YE, ne_eq, forall_const, reduceCtorEq, implies_true, YG, YH, YI, YJ, YK, YL, YM, YN, forall_eq, YO, ↓zD, zT, hd2, ndR_len, hw1, hw2]
  (repeat refine And.intro (by first | omega | exact ui_nonneg _ | exact Int.natCast_nonneg _ | rfl | exact rows_one' _ _ | exact us_one _ | (intro _ h; cases h; done)) ?_)
  refine .go (CallT.of_runs hnode (by simp [D.isPureL, D.isPure])) ?_
  by_cases hq : nodeE (binX x a b) (a.length + b.length : Nat) = 0
  case neg =>
    have e3 : (nodeE (binX x a b) (a.length + b.length : Nat) != 0) = true := by simpa using hq
    rw [if_pos hq]
    unfold binX at e3
    simp only [ell] at e3
    simp only [ZA, ZB, ZC, ZD, ZE, ZF, ZG, ↓ZH, ↓ZI, ↓ZJ, ↓ZK, ↓ZL, ↓ZM, ↓ZN, ↓ZO, ↓ZP, ↓ZQ, ↓ZR, ↓ZS, ↓ZT, ↓ZU, ↓reduceIte, reduceIte, ZW, ZX, ZY, ZZ, YA, YB, YC, YD, YE, ne_eq, forall_const, reduceCtorEq, implies_true, YG, YH, YI, YJ, YK, YL, YM, YN, forall_eq, YO, ↓zD, zT, e3]
    exact .drop (by simp) (by simp [vw, ndR])
  have e3 : (nodeE (binX x a b) (a.length + b.length : Nat) != 0) = false := by simpa using hq
  rw [if_neg (by simpa using hq)]
  have hsh := hvs hq
  generalize shortA (l ++ [binX x a b]) = r at hsh ⊢
  unfold binX at e3 hsh
  simp only [ell] at e3 hsh
  have hcall := CallT.give (σ := ⟨3, growO 2 6 (ndR (l ++ [⟨x.op, x.i, x.e, x.g, (a.length : Int) - 1, (l.length : Int) - 1⟩])) ++ [(0, ⟨6, [[.int .i64 x.op, .int .i64 x.i, .int .i64 x.e, .int .i64 x.g, .int .i64 ((a.length : Int) - 1), .int .i64 ((l.length : Int) - 1)]]⟩)]⟩) (args := [growD 2 6 (ndR (l ++ [⟨x.op, x.i, x.e, x.g, (a.length : Int) - 1, (l.length : Int) - 1⟩]))]) (objs' := []) (fun _ => False) hsh
    ⟨Seen.grow (by rw [St.get, look_growO, if_pos rfl]; cases growG 6 (ndR (l ++ [⟨x.op, x.i, x.e, x.g, (a.length : Int) - 1, (l.length : Int) - 1⟩])) <;> rfl) id (by omega) (ndR_six _) (ndR_pure _), trivial⟩ (fun k o hk => by cases hk)
  simp only [ZA, ZB, ZC, ZD, ZE, ZF, ZG, ↓ZH, ↓ZI, ↓ZJ, ↓ZK, ↓ZL, ↓ZM, ↓ZN, ↓ZO, ↓ZP, ↓ZQ, ↓ZR, ↓ZS, ↓ZT, ↓ZU, ↓reduceIte, reduceIte, ZW, ZX, ZY, ZZ, YA, YB, YC, YD, YE, ne_eq, forall_const, reduceCtorEq, implies_true, YG, YH, YI, YJ, YK, YL, YM, YN, forall_eq, YO, ↓zD, zT, e3, ndR_len]
  (repeat refine And.intro (by first | omega | exact ui_nonneg _ | exact Int.natCast_nonneg _ | rfl | exact rows_one' _ _ | exact us_one _ | (intro _ h; cases h; done)) ?_)
  rw [ndR_snoc]
  refine .go hcall ?_
  simp only [ZA, ZB, ZC, ZD, ZE, ZF, ZG, ↓ZH, ↓ZI, ↓ZJ, ↓ZK, ↓ZL, ↓ZM, ↓ZN, ↓ZO, ↓ZP, ↓ZQ, ↓ZR, ↓ZS, ↓ZT, ↓ZU, ↓reduceIte, reduceIte, ZW, ZX, ZY, ZZ, YA, YB, YC, YD, YE, ne_eq, forall_const, reduceCtorEq, implies_true, YG, YH, YI, YJ, YK, YL, YM, YN, forall_eq, YO, ↓zD, zT]
  exact .drop (by simp) (by simp [vw])
end
section
open Rs Fm
namespace Fm
theorem true_is : trueA = [⟨1, 0, 0, 0, 0, 0⟩] := by kernel_rfl
theorem un_not (f : List Nd) : unA ⟨4, 0, 0, 0, 0, 0⟩ f = notA f := un_build rfl rfl (by decide) rfl
theorem bin_until (f g : List Nd) : binA ⟨19, 0, 0, 0, 0, 0⟩ f g = untilA f g := bin_build rfl rfl (by decide)
theorem not_nil : notA [] = [] := rfl
end Fm
theorem refSometime8 (f : List Nd) : Runs Try.prog 8 [.sl 6 (ndR f)] (.tup [.sl 6 (ndR (someA f).1), .int .i64 (someA f).2]) := by
  have h := Binary30 ⟨19, 0, 0, 0, 0, 0⟩ [⟨1, 0, 0, 0, 0, 0⟩] f
  rw [bin_until, ← true_is] at h
  rw [true_is] at h
  unfold someA
  rw [true_is]
  generalize untilA [⟨1, 0, 0, 0, 0, 0⟩] f = u at h
  simp only [ndR, List.map_cons, List.map_nil, Nd.row] at h
  change Runs Try.prog 8 [.sl 6 (ndR f)] _
  refine CallT.go_fn mixed Try.func8 k8 (by simp) fun hf => ?_
  simp only [ZA, ZB, ZC, ZD, ZE, ZF, ZG, ↓ZH, ↓ZI, ↓ZJ, ↓ZK, ↓ZL, ↓ZM, ↓ZN, ↓ZO, ↓ZP, ↓ZQ, ↓ZR, ↓ZS, ↓ZT, ↓ZU, ↓reduceIte, reduceIte, ZW, ZX, ZY, ZZ, YA, YB, YC, YD, YE, ne_eq, forall_const, reduceCtorEq, implies_true, YG, YH, YI, YJ, YK, YL, YM, YN, forall_eq, YO, ↓zD, zT]
  (repeat refine And.intro (by first | omega | exact ui_nonneg _ | exact Int.natCast_nonneg _ | rfl | exact rows_one' _ _ | exact us_one _ | (intro _ h; cases h; done)) ?_)
  refine .go (CallT.of_runs h (by simp [D.isPureL, D.isPure])) ?_
  rw [show u.map _ = ndR u from rfl]
  by_cases e : u.length = 0
  · have e' : ((u.length : Int) == 0) = true := by rw [e]; rfl
    rw [show formE u = ([], 3) from if_pos e]
    simp only [ZA, ZB, ZC, ZD, ZE, ZF, ZG, ↓ZH, ↓ZI, ↓ZJ, ↓ZK, ↓ZL, ↓ZM, ↓ZN, ↓ZO, ↓ZP, ↓ZQ, ↓ZR, ↓ZS, ↓ZT, ↓ZU, ↓reduceIte, reduceIte, ZW, ZX, ZY, ZZ, YA, YB, YC, YD, YE, ne_eq, forall_const, reduceCtorEq, implies_true, YG, YH, YI, YJ, YK, YL, YM, YN, forall_eq, YO, ↓zD, zT, ndR_len, e']
    exact .drop (by simp) (by simp [vw, vwL, ndR])
  · have e' : ((u.length : Int) == 0) = false := by rw [beq_eq_false_iff_ne]; omega
    rw [show formE u = (u, 0) from if_neg e]
    simp only [ZA, ZB, ZC, ZD, ZE, ZF, ZG, ↓ZH, ↓ZI, ↓ZJ, ↓ZK, ↓ZL, ↓ZM, ↓ZN, ↓ZO, ↓ZP, ↓ZQ, ↓ZR, ↓ZS, ↓ZT, ↓ZU, ↓reduceIte, reduceIte, ZW, ZX, ZY, ZZ, YA, YB, YC, YD, YE, ne_eq, forall_const, reduceCtorEq, implies_true, YG, YH, YI, YJ, YK, YL, YM, YN, forall_eq, YO, ↓zD, zT, ndR_len, e']
    exact .drop (by simp) (by simp [vw, vwL])
theorem refAlways10 (f : List Nd) : Runs Try.prog 10 [.sl 6 (ndR f)] (.tup [.sl 6 (ndR (alwaysA f).1), .int .i64 (alwaysA f).2]) := by
  have h := Unary31 ⟨4, 0, 0, 0, 0, 0⟩ f
  rw [un_not] at h
  have hs := refSometime8 (notA f)
  unfold alwaysA
  unfold someA at hs
  generalize notA f = n at h hs
  generalize untilA trueA n = u at hs
  have h2 := Unary31 ⟨4, 0, 0, 0, 0, 0⟩ u
  rw [un_not] at h2
  unfold Nd.row at h h2
  simp only at h h2
  refine CallT.go_fn mixed Try.func10 k10 (by simp) fun hf => ?_
  simp only [ZA, ZB, ZC, ZD, ZE, ZF, ZG, ↓ZH, ↓ZI, ↓ZJ, ↓ZK, ↓ZL, ↓ZM, ↓ZN, ↓ZO, ↓ZP, ↓ZQ, ↓ZR, ↓ZS, ↓ZT, ↓ZU, ↓reduceIte, reduceIte, ZW, ZX, ZY, ZZ, YA, YB, YC, YD, YE, ne_eq, forall_const, reduceCtorEq, implies_true, YG, YH, YI, YJ, YK, YL, YM, YN, forall_eq, YO, ↓zD, zT]
  (repeat refine And.intro (by first | omega | exact ui_nonneg _ | exact Int.natCast_nonneg _ | rfl | exact rows_one' _ _ | exact us_one _ | (intro _ h; cases h; done)) ?_)
  refine .go (CallT.of_runs h (by simp [D.isPureL, D.isPure])) ?_
  simp only [ZA, ZB, ZC, ZD, ZE, ZF, ZG, ↓ZH, ↓ZI, ↓ZJ, ↓ZK, ↓ZL, ↓ZM, ↓ZN, ↓ZO, ↓ZP, ↓ZQ, ↓ZR, ↓ZS, ↓ZT, ↓ZU, ↓reduceIte, reduceIte, ZW, ZX, ZY, ZZ, YA, YB, YC, YD, YE, ne_eq, forall_const, reduceCtorEq, implies_true, YG, YH, YI, YJ, YK, YL, YM, YN, forall_eq, YO, ↓zD, zT]
  refine .go (CallT.of_runs hs (by simp [D.isPureL, D.isPure])) ?_
  by_cases e : u.length = 0
  · obtain rfl : u = [] := List.eq_nil_of_length_eq_zero e
    rw [not_nil]
    rw [show formE [] = ([], 3) from rfl]
    simp only [ZA, ZB, ZC, ZD, ZE, ZF, ZG, ↓ZH, ↓ZI, ↓ZJ, ↓ZK, ↓ZL, ↓ZM, ↓ZN, ↓ZO, ↓ZP, ↓ZQ, ↓ZR, ↓ZS, ↓ZT, ↓ZU, ↓reduceIte, reduceIte, ZW, ZX, ZY, ZZ, YA, YB, YC, YD, YE, ne_eq, forall_const, reduceCtorEq, implies_true, YG, YH, YI, YJ, YK, YL, YM, YN, forall_eq, YO, ↓zD, zT]
    exact .drop (by simp) (by simp [vw, vwL, ndR])
  · rw [show formE u = (u, 0) from if_neg e]
    simp only [ZA, ZB, ZC, ZD, ZE, ZF, ZG, ↓ZH, ↓ZI, ↓ZJ, ↓ZK, ↓ZL, ↓ZM, ↓ZN, ↓ZO, ↓ZP, ↓ZQ, ↓ZR, ↓ZS, ↓ZT, ↓ZU, ↓reduceIte, reduceIte, ZW, ZX, ZY, ZZ, YA, YB, YC, YD, YE, ne_eq, forall_const, reduceCtorEq, implies_true, YG, YH, YI, YJ, YK, YL, YM, YN, forall_eq, YO, ↓zD, zT]
    refine .go (CallT.of_runs h2 (by simp [D.isPureL, D.isPure])) ?_
    generalize notA u = v
    by_cases e2 : v.length = 0
    · have e' : ((v.length : Int) == 0) = true := by rw [e2]; rfl
      rw [show formE v = ([], 3) from if_pos e2]
      simp only [ZA, ZB, ZC, ZD, ZE, ZF, ZG, ↓ZH, ↓ZI, ↓ZJ, ↓ZK, ↓ZL, ↓ZM, ↓ZN, ↓ZO, ↓ZP, ↓ZQ, ↓ZR, ↓ZS, ↓ZT, ↓ZU, ↓reduceIte, reduceIte, ZW, ZX, ZY, ZZ, YA, YB, YC, YD, YE, ne_eq, forall_const, reduceCtorEq, implies_true, YG, YH, YI, YJ, YK, YL, YM, YN, forall_eq, YO, ↓zD, zT, ndR_len, e']
      exact .drop (by simp) (by simp [vw, vwL, ndR])
    · have e' : ((v.length : Int) == 0) = false := by rw [beq_eq_false_iff_ne]; omega
      rw [show formE v = (v, 0) from if_neg e2]
      simp only [ZA, ZB, ZC, ZD, ZE, ZF, ZG, ↓ZH, ↓ZI, ↓ZJ, ↓ZK, ↓ZL, ↓ZM, ↓ZN, ↓ZO, ↓ZP, ↓ZQ, ↓ZR, ↓ZS, ↓ZT, ↓ZU, ↓reduceIte, reduceIte, ZW, ZX, ZY, ZZ, YA, YB, YC, YD, YE, ne_eq, forall_const, reduceCtorEq, implies_true, YG, YH, YI, YJ, YK, YL, YM, YN, forall_eq, YO, ↓zD, zT, ndR_len, e']
      exact .drop (by simp) (by simp [vw, vwL])
end
end Go.Pd
