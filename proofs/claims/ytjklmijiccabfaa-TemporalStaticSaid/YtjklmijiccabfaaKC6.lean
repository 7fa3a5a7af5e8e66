/- Part C6. -/
import Derived.Test.YtjklmijiccabfaaKC5
set_option linter.unusedSectionVars false
set_option linter.unusedVariables false
set_option linter.unusedSimpArgs false
set_option linter.defProp false
set_option maxRecDepth 20000
set_option maxHeartbeats 1000000
namespace Go.Pd
open Go Go.Proofs
open Rs Fm Ru Te
namespace Te
def statN (A F : Nat) (n : Nd) : Bool :=
 if n.op < 1 then false else if n.op = 3 then decide (n.i < (F : Int)) else if n.op ≤ 8 then true else if n.op ≤ 10 then decide (n.i < (A : Int)) else if n.op ≤ 13 then decide (n.g < ((2 ^ A : Nat) : Int)) else false
theorem stat_out {A F : Nat} {n : Nd} (h : n.op < 1 ∨ 21 < n.op) : statN A F n = false := by
 rcases h with h | h <;> unfold statN <;> repeat (first | rw [if_pos (by omega)] | rw [if_neg (by omega)])
theorem val_out {m : ModA} {W : Nat} {n : Nd} {x y : BitVec 64} (h : n.op < 1 ∨ 21 < n.op) : valW m W n x y = (0#64, false) := by
 unfold valW; repeat rw [if_neg (by omega)]
theorem mskT_congr {T W : Nat} {x y : Tab} (h : ∀ v, v < W → x (pt T v) = y (pt T v)) (hW : W ≤ 64) : mskT T W x = mskT T W y := by
 refine bits_eq fun i _ => ?_
 rw [mskT_bit hW, mskT_bit hW]
 by_cases hi : i < W
 ·rw [h i hi]
 ·rw [decide_eq_false hi, Bool.false_and, Bool.false_and]
theorem pt_memC {rs : List RunA} {T v : Nat} (hv : v < rs.length * T) : pt T v ∈ ptl rs T := by
 unfold ptl ptN
 exact List.mem_map.2 ⟨v, List.mem_range.2 hv, rfl⟩
theorem comK_fix (rs : List RunA) (A T g : Nat) (x y : Tab) {p : Nat × Nat} (hp : p ∈ ptl rs T) : comK rs A T g x y (rs.length * T + 1) p = comK rs A T g x y (rs.length * T) p := by
 obtain ⟨n, h1, h2⟩ := comK_end (rs := rs) (A := A) (T := T) g x y
 obtain ⟨m, hm⟩ := Nat.exists_eq_add_of_le h1
 rw [hm, comK_stay h2 m p hp, show n + m + 1 = n + (m + 1) by omega, comK_stay h2 (m + 1) p hp]
section
variable {rs : List RunA} {A F T : Nat}
theorem com_fix (ok : OkR rs A F T) (hW : rs.length * T ≤ 64) {g : Nat} (hg : 1 ≤ g ∧ g < 2 ^ A) (x y : Tab) :
  comW (groupW (modM rs (ptl rs T) A F) g false) (allW (rs.length * T)) (mskT T (rs.length * T) x) (mskT T (rs.length * T) y) (rs.length * T + 1) = comW (groupW (modM rs (ptl rs T) A F) g false) (allW (rs.length * T)) (mskT T (rs.length * T) x) (mskT T (rs.length * T) y) (rs.length * T) := by
 have hl : (ptl rs T).length = rs.length * T := ptN_len T _
 have h1 : 1 ≤ rs.length * T := Nat.mul_pos ok.hR.1 ok.hT.1
 have hm := modM_ok (F := F) ok (l := ptl rs T) (by omega) (by omega)
 rw [hl] at hm
 have hRl : (modM rs (ptl rs T) A F).R.length = A := by show (relL rs (ptl rs T) A).length = A; simp [relL]
 have hk : ∀ a, a < A → RelT rs T ((modM rs (ptl rs T) A F).R.getD a []) fun p q => decide (locA rs a q = locA rs a p) := fun a ha => rel_know ha hW
 rw [common_tab hm rfl hRl (by rw [hRl]; exact hg) hk, common_tab hm rfl hRl (by rw [hRl]; exact hg) hk]
 exact mskT_congr (fun v hv => comK_fix rs A T g x y (pt_memC hv)) hW
theorem val_step (ok : OkR rs A F T) (hW : rs.length * T ≤ 64) {n : Nd} {k : Int} (hn : nodeE n k = 0) {x y : BitVec 64} {tx ty : Tab} (hx : (usesA n.op).1.x = true → x = mskT T (rs.length * T) tx) (hy : (usesA n.op).1.y = true → y = mskT T (rs.length * T) ty) :
  valW (modM rs (ptl rs T) A F) (rs.length * T) n x y = if statN A F n = true then (mskT T (rs.length * T) (nodeP rs A T n tx ty), true) else (0#64, false) := by
 have hl : (ptl rs T).length = rs.length * T := ptN_len T _
 have h1 : 1 ≤ rs.length * T := Nat.mul_pos ok.hR.1 ok.hT.1
 have hm := modM_ok (F := F) ok (l := ptl rs T) (by omega) (by omega)
 rw [hl] at hm
 have hRl : (modM rs (ptl rs T) A F).R.length = A := by show (relL rs (ptl rs T) A).length = A; simp [relL]
 have hVl : (modM rs (ptl rs T) A F).V.length = F := by show (valL rs (ptl rs T) F).length = F; simp [valL]
 have hk : ∀ a, a < A → RelT rs T ((modM rs (ptl rs T) A F).R.getD a []) fun p q => decide (locA rs a q = locA rs a p) := fun a ha => rel_know ha hW
 have hVg : ∀ f, f < F → ∀ i, ((modM rs (ptl rs T) A F).V.getD f 0).getLsbD i = (decide (i < rs.length * T) && (facA rs (pt T i)).getLsbD f) := fun f hf i => by
  have e : (modM rs (ptl rs T) A F).V.getD f 0 = valK rs (ptl rs T) f (ptl rs T).length := by
   show (valL rs (ptl rs T) F).getD f 0 = _
   simp [valL, List.getD, hf]
  rw [e, hl, valK_bit _ _ hW]
  by_cases hi : i < rs.length * T
  ·rw [ptl_at hi]
  ·rw [decide_eq_false hi, Bool.false_and, Bool.false_and]
 have hi0 : n.op = 3 ∨ n.op = 9 ∨ n.op = 10 → 0 ≤ n.i := fun h => by
  rcases h with h | h | h
  ·exact (nd_fact hn (by rw [h]; rfl)).1
  ·exact (nd_agent hn (by rw [h]; rfl)).1
  ·exact (nd_agent hn (by rw [h]; rfl)).1
 have hg0 : n.op = 11 ∨ n.op = 12 ∨ n.op = 13 → 1 ≤ n.g ∧ n.g ≤ 15 := fun h => by
  have hgr : (usesA n.op).1.gr = true := by rcases h with h | h | h <;> rw [h] <;> rfl
  have h1 := (nodeE_iff.1 hn).2.2.2.2
  simp only [Bool.or_eq_false_iff, hgr, outsideB, Bool.true_and, decide_eq_false_iff_not] at h1
  omega
 obtain ⟨op, i, e, g, a, b⟩ := n
 simp only at hi0 hg0 hx hy
 generalize hm' : modM rs (ptl rs T) A F = m at *
 generalize hWW : rs.length * T = W at *
 have fin : ∀ {p q : BitVec 64}, (∀ v, v < 64 → p.getLsbD v = q.getLsbD v) → (p, true) = (q, true) := fun h => by rw [bits_eq h]
 rcases op_cases op with rfl | rfl | rfl | rfl | rfl | rfl | rfl | rfl | rfl | rfl | rfl | rfl | rfl | rfl | rfl | rfl | rfl | rfl | rfl | rfl | rfl | h | h
 ·show (allW W, true) = (mskT T W fun _ => true, true)
  rw [allW_msk hW]
 ·show (0#64, true) = (mskT T W fun _ => false, true)
  refine fin fun v _ => ?_
  rw [mskT_bit hW, Bool.and_false, BitVec.getLsbD_zero]
 ·have h0 := hi0 (.inl rfl)
  show (if i < (m.V.length : Int) then (m.V.getD i.toNat 0, true) else (0#64, false)) = if decide (i < (F : Int)) = true then (mskT T W fun p => (facA rs p).getLsbD i.toNat, true) else (0#64, false)
  rw [hVl]
  by_cases hlt : i < (F : Int)
  ·rw [if_pos hlt, if_pos (decide_eq_true hlt)]
   refine fin fun v _ => ?_
   rw [hVg i.toNat (by omega), mskT_bit hW]
  ·rw [if_neg hlt, if_neg (by simpa using hlt)]
 ·have hx := hx rfl
  show (allW W &&& ~~~x, true) = (mskT T W fun p => !tx p, true)
  refine fin fun v hv => ?_
  rw [hx, BitVec.getLsbD_and, BitVec.getLsbD_not, allW_bit hW hv, mskT_bit hW, mskT_bit hW, decide_eq_true hv]
  cases decide (v < W) <;> simp
 ·have hx := hx rfl
  have hy := hy rfl
  show (x &&& y, true) = (mskT T W fun p => tx p && ty p, true)
  refine fin fun v hv => ?_
  rw [hx, hy, BitVec.getLsbD_and, mskT_bit hW, mskT_bit hW, mskT_bit hW]
  cases decide (v < W) <;> simp
 ·have hx := hx rfl
  have hy := hy rfl
  show (x ||| y, true) = (mskT T W fun p => tx p || ty p, true)
  refine fin fun v hv => ?_
  rw [hx, hy, BitVec.getLsbD_or, mskT_bit hW, mskT_bit hW, mskT_bit hW]
  cases decide (v < W) <;> simp
 ·have hx := hx rfl
  have hy := hy rfl
  show (allW W &&& ~~~x ||| y, true) = (mskT T W fun p => !tx p || ty p, true)
  refine fin fun v hv => ?_
  rw [hx, hy, BitVec.getLsbD_or, BitVec.getLsbD_and, BitVec.getLsbD_not, allW_bit hW hv, mskT_bit hW, mskT_bit hW, mskT_bit hW, decide_eq_true hv]
  cases decide (v < W) <;> simp
 ·have hx := hx rfl
  have hy := hy rfl
  show (allW W &&& ~~~(x ^^^ y), true) = (mskT T W fun p => tx p == ty p, true)
  refine fin fun v hv => ?_
  rw [hx, hy, BitVec.getLsbD_and, BitVec.getLsbD_not, BitVec.getLsbD_xor, allW_bit hW hv, mskT_bit hW, mskT_bit hW, mskT_bit hW, decide_eq_true hv]
  cases decide (v < W) <;> cases tx (pt T v) <;> cases ty (pt T v) <;> rfl
 ·have h0 := hi0 (.inr (.inl rfl))
  have hx := hx rfl
  show (if i < (m.R.length : Int) then (boxW (m.R.getD i.toNat []) x, true) else (0#64, false)) = if decide (i < (A : Int)) = true then (mskT T W (knowP rs T i.toNat tx), true) else (0#64, false)
  rw [hRl]
  by_cases hlt : i < (A : Int)
  ·rw [if_pos hlt, if_pos (decide_eq_true hlt)]
   have := box_tab (by omega) (hk i.toNat (by omega)) (s := x) (x := tx) fun v hv => by rw [hx, mskT_bit hW, decide_eq_true (by omega), Bool.true_and]
   rw [this, hWW]
   rfl
  ·rw [if_neg hlt, if_neg (by simpa using hlt)]
 ·have h0 := hi0 (.inr (.inr rfl))
  have hx := hx rfl
  show (if i < (m.R.length : Int) then (diaW (m.R.getD i.toNat []) x, true) else (0#64, false)) = if decide (i < (A : Int)) = true then (mskT T W fun p => !knowP rs T i.toNat (fun q => !tx q) p, true) else (0#64, false)
  rw [hRl]
  by_cases hlt : i < (A : Int)
  ·rw [if_pos hlt, if_pos (decide_eq_true hlt)]
   have hkk := hk i.toNat (by omega)
   have := box_tab (by omega) hkk (s := ~~~x) (x := fun q => !tx q) fun v hv => by rw [hx, BitVec.getLsbD_not, mskT_bit hW, decide_eq_true (show v < 64 by omega), decide_eq_true (show v < W by omega), Bool.true_and, Bool.true_and]
   unfold diaW
   rw [this, hkk.1, hWW]
   refine fin fun v hv => ?_
   rw [BitVec.getLsbD_and, BitVec.getLsbD_not, allW_bit hW hv, mskT_bit hW, mskT_bit hW, decide_eq_true hv]
   show (decide (v < W) && (true && !(decide (v < W) && knowP rs T i.toNat (fun q => !tx q) (pt T v)))) = _
   cases decide (v < W) <;> simp
  ·rw [if_neg hlt, if_neg (by simpa using hlt)]
 ·have h0 := hg0 (.inl rfl)
  have hx := hx rfl
  show (if g < ((2 ^ m.R.length : Nat) : Int) then (boxW (groupW m g.toNat false) x, true) else (0#64, false)) = if decide (g < ((2 ^ A : Nat) : Int)) = true then (mskT T W (everyP rs A T g.toNat tx), true) else (0#64, false)
  rw [hRl]
  by_cases hlt : g < ((2 ^ A : Nat) : Int)
  ·rw [if_pos hlt, if_pos (decide_eq_true hlt)]
   have hrel := group_rel hm hWW hRl (g := g.toNat) (by rw [hRl]; omega) false hk
   have := box_tab (by omega) hrel (s := x) (x := tx) fun v hv => by rw [hx, mskT_bit hW, decide_eq_true (by omega), Bool.true_and]
   rw [this, hWW]
   refine congrArg (fun z => (z, true)) (mskT_congr (fun v _ => ?_) hW)
   rw [every_all]
   rfl
  ·rw [if_neg hlt, if_neg (by simpa using hlt)]
 ·have h0 := hg0 (.inr (.inl rfl))
  have hx := hx rfl
  show (if g < ((2 ^ m.R.length : Nat) : Int) then (boxW (groupW m g.toNat true) x, true) else (0#64, false)) = if decide (g < ((2 ^ A : Nat) : Int)) = true then (mskT T W (distP rs A T g.toNat tx), true) else (0#64, false)
  rw [hRl]
  by_cases hlt : g < ((2 ^ A : Nat) : Int)
  ·rw [if_pos hlt, if_pos (decide_eq_true hlt)]
   have hrel := group_rel hm hWW hRl (g := g.toNat) (by rw [hRl]; omega) true hk
   have := box_tab (by omega) hrel (s := x) (x := tx) fun v hv => by rw [hx, mskT_bit hW, decide_eq_true (by omega), Bool.true_and]
   rw [this, hWW]
   rfl
  ·rw [if_neg hlt, if_neg (by simpa using hlt)]
 ·have h0 := hg0 (.inr (.inr rfl))
  have hx := hx rfl
  have hy := hy rfl
  show (if g < ((2 ^ m.R.length : Nat) : Int) then (comW (groupW m g.toNat false) (allW W) x y W, true) else (0#64, false)) = if decide (g < ((2 ^ A : Nat) : Int)) = true then (mskT T W (commonP rs A T g.toNat tx ty), true) else (0#64, false)
  rw [hRl]
  by_cases hlt : g < ((2 ^ A : Nat) : Int)
  ·rw [if_pos hlt, if_pos (decide_eq_true hlt), hx, hy, common_tab hm hWW hRl (by rw [hRl]; omega) hk]
   unfold commonP
   rw [hWW]
  ·rw [if_neg hlt, if_neg (by simpa using hlt)]
 all_goals first
  | rfl
  | (rw [stat_out (by first | exact .inl h | exact .inr h), if_neg (by decide)]; exact val_out (by first | exact .inl h | exact .inr h))
end
end Te
end Go.Pd
