/- Merging: contracts: the program's ranks. -/
import Derived.Test.YtjaohaomninnlaaM16
set_option linter.unusedSectionVars false
set_option linter.unusedVariables false
set_option linter.unusedSimpArgs false
set_option linter.defProp false
set_option maxRecDepth 20000
namespace Go.Pd
open Go Go.Proofs
open Mg
/-- The rank as it is before the lists are sorted. -/
def rk (way : Int) (l : List Int) : Int := if way = 1 then sumL l else if way = 2 then maxL l else 0
def rkL (way : Int) (n : Nat) (p : List (BitVec 64)) : List Int := (List.range (2 ^ n)).map fun v => rk way (distL n p v)
theorem rkL_len (way : Int) (n : Nat) (p : List (BitVec 64)) : (rkL way n p).length = 2 ^ n := by simp [rkL]
theorem rkL_at {way : Int} {n : Nat} {p : List (BitVec 64)} {v : Nat} (h : v < 2 ^ n) : (rkL way n p).getD v 0 = rk way (distL n p v) := by simp [rkL, List.getD, h]
theorem rkL_ranks {way : Int} (hw : way = 1 ∨ way = 2) (n : Nat) (p : List (BitVec 64)) : rkL way n p = ranksM way n p := by
  unfold rkL ranksM
  refine List.map_congr_left fun v _ => ?_
  rcases hw with rfl | rfl <;> simp [rk, rankV]
theorem vw_growL {σ σ' : St} {ρ : Nat → Nat} {a b sz : Nat} {els els' : List (List D)} (hl : els'.length = els.length) : vw σ σ' ρ (growD a sz els') (growD b sz els) = (els = [] ∨ (b < σ'.nx ∧ a = ρ b)) := by
  cases els' with
  | nil => cases els with
    | nil => simp [growD, vw]
    | cons e l => simp at hl
  | cons e' l' => cases els with
    | nil => simp at hl
    | cons e l => simp only [growD, vw, hl]; simp
theorem vw_osl_rows {σ σ' : St} {ρ : Nat → Nat} {k0 n : Nat} {k : IntKind} {l : List Int} (hg : σ.get k0 = some ⟨1, rows k l⟩) (ha : away σ' ρ k0) (hn : n = l.length) : vw σ σ' ρ (.osl k0 1 n) (.sl 1 (rows k l)) = True := by
  subst hn
  simp only [vw]
  exact eq_true ⟨trivial, by omega, ha, ⟨1, rows k l⟩, hg, rfl, by rw [rows_len]; exact Nat.le_refl _, by rw [← rows_len k l, List.take_length], rows_pure k l⟩
theorem CallT.own1' {P : Program} {g : FuncId} {args : List D} {σ : St} {sz len : Nat} {els : List (List D)} (hc : CallT P g args St0 (.osl 0 sz len) ⟨1, [(0, ⟨sz, els⟩)]⟩) (hp : D.isPureL args = true) (he : ∀ e ∈ els, D.isPureL e = true) :
    CallT P g args σ (.osl σ.nx sz len) ⟨σ.nx + 1, (σ.nx, ⟨sz, els⟩) :: σ.objs⟩ := by
  have h := CallT.own (σ := σ) hc hp
  simpa [shiftObjs, Ob.shift, shiftE_pure _ he, D.shift] using h
theorem clone44 {L : List (List Int)} (hne : L ≠ []) (hl : L.length ≤ 1000) : CallT Try.prog 44 [.sl 1 (rl L)] St0 (.osl 0 1 L.length) ⟨1, [(0, ⟨1, rl L⟩)]⟩ := by
  match L, hne with
  | x :: l, _ => exact Clone44_runs x l (by simp at hl; omega)
theorem compact' {σ : St} {key len : Nat} {l : List (List Int)} (hle : len = l.length) (hget : σ.get key = some ⟨1, rl l⟩) (hlen : l.length ≤ 1000) (hne : l ≠ []) :
    CallT Try.prog 47 [.osl key 1 len, .fn 48 []] σ (.osl key 1 (dedup l).length) (σ.set key ⟨1, ddE l⟩) := by
  subst hle; exact compact_runs hget hlen hne
theorem growD_ne {k s : Nat} {els : List (List D)} (h : els ≠ []) : growD k s els = .osl k s els.length := by cases els with
  | nil => exact absurd rfl h
  | cons e r => rfl
theorem growO_ne {k s : Nat} {els : List (List D)} (h : els ≠ []) : growO k s els = [(k, ⟨s, els⟩)] := by cases els with
  | nil => exact absurd rfl h
  | cons e r => rfl
theorem ne_of_len {α : Type} {l : List α} (h : 0 < l.length) : l ≠ [] := List.length_pos_iff.1 h
theorem sortA' {σ : St} {key len : Nat} {l : List Int} (hle : len = l.length) (hget : σ.get key = some ⟨1, rows .i64 l⟩) (hl : ∀ x ∈ l, 0 ≤ x ∧ x ≤ 1000) (hlen : l.length ≤ 1000) :
    CallT Try.prog 42 [.osl key 1 len, .fn 43 []] σ (.tup []) (σ.set key ⟨1, rows .i64 (descS l)⟩) := by
  subst hle; exact sortA_runs hget hl hlen
theorem ranks_runs {n : Nat} {p : List (BitVec 64)} (way : Int) (hc : checkM n p = 0) (hw : 1 ≤ way ∧ way ≤ 3) :
    CallT Try.prog 32 [.int .i64 way, .int .i64 n, .sl 1 (us p)] St0 (.osl 0 1 (2 ^ n)) ⟨1, [(0, ⟨1, rows .i64 (ranksM way n p)⟩)]⟩ := by
  refine CallT.go_fn mixed Try.func32 k32 (by simp) fun hf => ?_
  obtain ⟨c1, c2, c3, c4⟩ := checkM_zero hc
  have hn : n ≤ 4 := by omega
  have h16 := pow_le hn
  have hp0 : 0 < 2 ^ n := Nat.two_pow_pos n
  have hl := listsM_len n p
  have hr := rkL_len way n p
  simp only [Int.reduceToNat, Int.reduceLT, Int.reduceLE, Int.reduceBEq, Int.reduceBNe, St0, argFr, ↓callZ, ↓midZ, ↓unZ, ↓thenW, ↓blockW, ↓opX, ↓opV, ↓pX, ↓pW, ↓putK, ↓putP, ↓atK, ↓normK, ↓postZ, ↓reduceIte, reduceIte, Nat.reduceEqDiff, Nat.reduceAdd, Nat.reduceBEq, Nat.reduceLT, Nat.reduceLeDiff, binW, bodyQ, ressW, resW, ne_eq, forall_const, reduceCtorEq, implies_true, sets, oneAll, setD, rels, fillE, fillD, List.replicate, rowsOf, forall_eq, Nat.reduceMul, ↓zD, zT, shlN (show n ≤ 61 by omega)]
  (repeat refine And.intro (by first | omega | exact ui_nonneg _ | exact Int.natCast_nonneg _ | rfl | exact rows_one' _ _ | exact us_one _ | (intro _ h; cases h; done)) ?_)
  refine wpS_loopW (fun k : Nat => [(21, .int .i64 k), (20, .int .i64 ((2 ^ n : Nat) : Int)), (8, growD 0 1 (rl ((listsM n p).take k))), (7, growD 1 1 (rows .i64 ((rkL way n p).take k))), (2, .sl 1 (us p)), (1, .int .i64 n), (0, .int .i64 way)]) (fun k => ⟨2, growO 0 1 (rl ((listsM n p).take k)) ++ growO 1 1 (rows .i64 ((rkL way n p).take k))⟩) (fun k => k ≤ 2 ^ n) (fun k => 2 ^ n - k) 0 (Nat.zero_le _) ?_ ?_
  · exact Weak.view (fun k => k) (by simp) (by simp) (by simp [vwF, vw, Fr.get, rl, rows, growD]) (by simp [stays, rl, rows, growO]) (by simp [apartNames, rl, rows, growO])
  intro k hk
  refine wpS_go mixed ?_
  by_cases h : k < 2 ^ n
  case neg =>
    have hd : ¬ ((k : Int) < ((2 ^ n : Nat) : Int)) := by omega
    simp only [Int.reduceToNat, Int.reduceLT, Int.reduceLE, Int.reduceBEq, Int.reduceBNe, St0, argFr, ↓callZ, ↓midZ, ↓unZ, ↓thenW, ↓blockW, ↓opX, ↓opV, ↓pX, ↓pW, ↓putK, ↓putP, ↓atK, ↓normK, ↓postZ, ↓reduceIte, reduceIte, Nat.reduceEqDiff, Nat.reduceAdd, Nat.reduceBEq, Nat.reduceLT, Nat.reduceLeDiff, binW, bodyQ, ressW, resW, ne_eq, forall_const, reduceCtorEq, implies_true, sets, oneAll, setD, rels, fillE, fillD, List.replicate, rowsOf, forall_eq, Nat.reduceMul, ↓zD, zT, hd]
    rw [show (listsM n p).take k = listsM n p by rw [show k = (listsM n p).length by omega, List.take_length], show (rkL way n p).take k = rkL way n p by rw [show k = (rkL way n p).length by omega, List.take_length]]
    have hne : rows .i64 (rkL way n p) ≠ [] := ne_of_len (by rw [rows_len]; omega)
    have eD : growD 1 1 (rows .i64 (rkL way n p)) = .osl 1 1 (2 ^ n) := by rw [growD_ne hne, rows_len, hr]
    rw [eD, growO_ne hne]
    refine .go [(8, .sl 1 (rl (listsM n p))), (7, .osl 0 1 (2 ^ n)), (0, .int .i64 way)] ⟨1, [(0, ⟨1, rows .i64 (rkL way n p)⟩)]⟩ ?_ ?_
    · (refine Weak.ren [(0, 1)] [0] (by simp) (by simp) (by decide) ?_; simp only [stay1, vwL, vw, vwF, sw, St.get, St.look, Fr.get, ↓reduceIte, reduceIte, Nat.reduceEqDiff, Nat.reduceAdd, Nat.reduceBEq, Nat.reduceLT, Nat.reduceLeDiff, exists_eq_left', ne_eq, reduceCtorEq, zR, pureE_rl])
    by_cases w3 : way = 3
    case neg =>
      have b3 : (way != 3) = true := bne_iff_ne.2 w3
      simp only [Int.reduceToNat, Int.reduceLT, Int.reduceLE, Int.reduceBEq, Int.reduceBNe, St0, argFr, ↓callZ, ↓midZ, ↓unZ, ↓thenW, ↓blockW, ↓opX, ↓opV, ↓pX, ↓pW, ↓putK, ↓putP, ↓atK, ↓normK, ↓postZ, ↓reduceIte, reduceIte, Nat.reduceEqDiff, Nat.reduceAdd, Nat.reduceBEq, Nat.reduceLT, Nat.reduceLeDiff, binW, bodyQ, ressW, resW, ne_eq, forall_const, reduceCtorEq, implies_true, sets, oneAll, setD, rels, fillE, fillD, List.replicate, rowsOf, forall_eq, Nat.reduceMul, ↓zD, zT, b3]
      rw [rkL_ranks (by omega)]
      exact .same
    subst w3
    simp only [Int.reduceToNat, Int.reduceLT, Int.reduceLE, Int.reduceBEq, Int.reduceBNe, St0, argFr, ↓callZ, ↓midZ, ↓unZ, ↓thenW, ↓blockW, ↓opX, ↓opV, ↓pX, ↓pW, ↓putK, ↓putP, ↓atK, ↓normK, ↓postZ, ↓reduceIte, reduceIte, Nat.reduceEqDiff, Nat.reduceAdd, Nat.reduceBEq, Nat.reduceLT, Nat.reduceLeDiff, binW, bodyQ, ressW, resW, ne_eq, forall_const, reduceCtorEq, implies_true, sets, oneAll, setD, rels, fillE, fillD, List.replicate, rowsOf, forall_eq, Nat.reduceMul, ↓zD, zT]
    have hLne : listsM n p ≠ [] := ne_of_len (by omega)
    have haL : (ascS (listsM n p)).length = (listsM n p).length := (ascS_perm _).length_eq
    refine .go (CallT.own1' (clone44 hLne (by omega)) (by simp [D.isPureL, D.isPure]) (rl_pure _)) ?_
    simp only [Int.reduceToNat, Int.reduceLT, Int.reduceLE, Int.reduceBEq, Int.reduceBNe, St0, argFr, ↓callZ, ↓midZ, ↓unZ, ↓thenW, ↓blockW, ↓opX, ↓opV, ↓pX, ↓pW, ↓putK, ↓putP, ↓atK, ↓normK, ↓postZ, ↓reduceIte, reduceIte, Nat.reduceEqDiff, Nat.reduceAdd, Nat.reduceBEq, Nat.reduceLT, Nat.reduceLeDiff, binW, bodyQ, ressW, resW, ne_eq, forall_const, reduceCtorEq, implies_true, sets, oneAll, setD, rels, fillE, fillD, List.replicate, rowsOf, forall_eq, Nat.reduceMul, ↓zD, zT]
    refine .go (sortB_runs (by simp [St.get, St.look]) hLne (by omega)) ?_
    simp only [Int.reduceToNat, Int.reduceLT, Int.reduceLE, Int.reduceBEq, Int.reduceBNe, St0, argFr, ↓callZ, ↓midZ, ↓unZ, ↓thenW, ↓blockW, ↓opX, ↓opV, ↓pX, ↓pW, ↓putK, ↓putP, ↓atK, ↓normK, ↓postZ, ↓reduceIte, reduceIte, Nat.reduceEqDiff, Nat.reduceAdd, Nat.reduceBEq, Nat.reduceLT, Nat.reduceLeDiff, binW, bodyQ, ressW, resW, ne_eq, forall_const, reduceCtorEq, implies_true, sets, oneAll, setD, rels, fillE, fillD, List.replicate, rowsOf, forall_eq, Nat.reduceMul, ↓zD, zT]
    refine .go (compact' (l := ascS (listsM n p)) haL.symm (by simp [St.get, St.look]) (by omega) (ne_of_len (by omega))) ?_
    simp only [Int.reduceToNat, Int.reduceLT, Int.reduceLE, Int.reduceBEq, Int.reduceBNe, St0, argFr, ↓callZ, ↓midZ, ↓unZ, ↓thenW, ↓blockW, ↓opX, ↓opV, ↓pX, ↓pW, ↓putK, ↓putP, ↓atK, ↓normK, ↓postZ, ↓reduceIte, reduceIte, Nat.reduceEqDiff, Nat.reduceAdd, Nat.reduceBEq, Nat.reduceLT, Nat.reduceLeDiff, binW, bodyQ, ressW, resW, ne_eq, forall_const, reduceCtorEq, implies_true, sets, oneAll, setD, rels, fillE, fillD, List.replicate, rowsOf, forall_eq, Nat.reduceMul, ↓zD, zT, rl_len, hl]
    have hm : (dedup (ascS (listsM n p))).length ≤ 1000 := by have := dedup_len (ascS (listsM n p)); omega
    refine wpS_loop (fun k : Nat => [(75, .int .i64 k), (74, .int .i64 ((2 ^ n : Nat) : Int)), (73, .sl 1 (rl (listsM n p))), (16, .sl 1 (rl (dedup (ascS (listsM n p))))), (7, .osl 0 1 (2 ^ n))]) (fun k => ⟨1, [(0, ⟨1, rows .i64 ((ranksM 3 n p).take k ++ (rkL 3 n p).drop k)⟩)]⟩) (fun k => k ≤ 2 ^ n) (fun k => 2 ^ n - k) 0 (Nat.zero_le _) ?_ ?_
    · (refine Weak.ren [] [0] (by simp) (by simp) (by decide) ?_; simp only [stay1, vwL, vw, vwF, sw, St.get, St.look, Fr.get, ↓reduceIte, reduceIte, Nat.reduceEqDiff, Nat.reduceAdd, Nat.reduceBEq, Nat.reduceLT, Nat.reduceLeDiff, exists_eq_left', ne_eq, reduceCtorEq, zR, pureE_rl, List.take_zero, List.drop_zero, List.nil_append])
      refine ⟨?_, ?_, ?_, rl_pure _⟩
      · rintro q (rfl | c)
        · simp
        · cases c
      · unfold ddE; rw [List.length_append, rl_len]; omega
      · unfold ddE; rw [List.take_left' (rl_len _)]
    intro k hk
    refine wpS_go mixed ?_
    have hrm := ranksM_len 3 n p
    by_cases h : k < 2 ^ n
    · have hd : ((k : Int) < ((2 ^ n : Nat) : Int)) := by omega
      obtain ⟨b, hs⟩ := search_runs (m := dedup (ascS (listsM n p))) ((listsM n p).getD k []) (dedup_asc (ascS_asc _)) hm
      rw [below_lexR] at hs
      simp only [Int.reduceToNat, Int.reduceLT, Int.reduceLE, Int.reduceBEq, Int.reduceBNe, St0, argFr, ↓callZ, ↓midZ, ↓unZ, ↓thenW, ↓blockW, ↓opX, ↓opV, ↓pX, ↓pW, ↓putK, ↓putP, ↓atK, ↓normK, ↓postZ, ↓reduceIte, reduceIte, Nat.reduceEqDiff, Nat.reduceAdd, Nat.reduceBEq, Nat.reduceLT, Nat.reduceLeDiff, binW, bodyQ, ressW, resW, ne_eq, forall_const, reduceCtorEq, implies_true, sets, oneAll, setD, rels, fillE, fillD, List.replicate, rowsOf, forall_eq, Nat.reduceMul, ↓zD, zT, hd, rl_len, rl_get (listsM n p) (show k < (listsM n p).length by omega)]
      (repeat refine And.intro (by first | omega | exact ui_nonneg _ | exact Int.natCast_nonneg _ | rfl | exact rows_one' _ _ | exact us_one _ | (intro _ h; cases h; done)) ?_)
      refine .go (CallT.of_runs hs (by simp [D.isPureL, D.isPure])) ?_
      simp only [Int.reduceToNat, Int.reduceLT, Int.reduceLE, Int.reduceBEq, Int.reduceBNe, St0, argFr, ↓callZ, ↓midZ, ↓unZ, ↓thenW, ↓blockW, ↓opX, ↓opV, ↓pX, ↓pW, ↓putK, ↓putP, ↓atK, ↓normK, ↓postZ, ↓reduceIte, reduceIte, Nat.reduceEqDiff, Nat.reduceAdd, Nat.reduceBEq, Nat.reduceLT, Nat.reduceLeDiff, binW, bodyQ, ressW, resW, ne_eq, forall_const, reduceCtorEq, implies_true, sets, oneAll, setD, rels, fillE, fillD, List.replicate, rowsOf, forall_eq, Nat.reduceMul, ↓zD, zT]
      have hk2 : ((ranksM 3 n p).take k).length = k := by rw [List.length_take]; omega
      have hk3 : ((rkL 3 n p).drop k).length = 2 ^ n - k := by rw [List.length_drop]; omega
      have ht : (ranksM 3 n p).take (k + 1) = (ranksM 3 n p).take k ++ [lexR (listsM n p) k] := by
        rw [take_snoc (d := 0) (by omega), ranksM_at h]; rfl
      have hdr : (rkL 3 n p).drop k = (rkL 3 n p).getD k 0 :: (rkL 3 n p).drop (k + 1) := by simp [List.getD, show k < (rkL 3 n p).length by omega]
      have hset : (rows .i64 ((ranksM 3 n p).take k ++ (rkL 3 n p).drop k)).set k (((rows .i64 ((ranksM 3 n p).take k ++ (rkL 3 n p).drop k)).getD k []).set 0 (D.int .i64 (lexR (listsM n p) k))) = rows .i64 ((ranksM 3 n p).take (k + 1) ++ (rkL 3 n p).drop (k + 1)) := by
        rw [rows_get _ _ (by rw [List.length_append]; omega)]
        show (rows .i64 _).set k [D.int .i64 (lexR (listsM n p) k)] = _
        rw [rows_set, List.set_append_right _ _ (show ((ranksM 3 n p).take k).length ≤ k by omega), hk2, Nat.sub_self, hdr, List.set_cons_zero, ht, List.append_assoc]
        rfl
      refine ⟨by omega, by omega, by omega, k + 1, by omega, ?_, by omega⟩
      rw [hset]
      (refine Weak.same ?_; simp only [sameF, Fr.get, ↓reduceIte, reduceIte, Nat.reduceEqDiff, reduceCtorEq, D.int.injEq, D.bool.injEq, D.sl.injEq, and_true, true_and, and_self])
      exact wrap_i64 (by omega)
    · have hd : ¬ ((k : Int) < ((2 ^ n : Nat) : Int)) := by omega
      simp only [Int.reduceToNat, Int.reduceLT, Int.reduceLE, Int.reduceBEq, Int.reduceBNe, St0, argFr, ↓callZ, ↓midZ, ↓unZ, ↓thenW, ↓blockW, ↓opX, ↓opV, ↓pX, ↓pW, ↓putK, ↓putP, ↓atK, ↓normK, ↓postZ, ↓reduceIte, reduceIte, Nat.reduceEqDiff, Nat.reduceAdd, Nat.reduceBEq, Nat.reduceLT, Nat.reduceLeDiff, binW, bodyQ, ressW, resW, ne_eq, forall_const, reduceCtorEq, implies_true, sets, oneAll, setD, rels, fillE, fillD, List.replicate, rowsOf, forall_eq, Nat.reduceMul, ↓zD, zT, hd]
      rw [show (ranksM 3 n p).take k = ranksM 3 n p by rw [show k = (ranksM 3 n p).length by omega, List.take_length], List.drop_eq_nil_of_le (show (rkL 3 n p).length ≤ k by omega), List.append_nil]
      exact .same
  have hd : ((k : Int) < ((2 ^ n : Nat) : Int)) := by omega
  have ek : IntKind.i64.wrap (k : Int) = k := wrap_i64 (by omega)
  simp only [Int.reduceToNat, Int.reduceLT, Int.reduceLE, Int.reduceBEq, Int.reduceBNe, St0, argFr, ↓callZ, ↓midZ, ↓unZ, ↓thenW, ↓blockW, ↓opX, ↓opV, ↓pX, ↓pW, ↓putK, ↓putP, ↓atK, ↓normK, ↓postZ, ↓reduceIte, reduceIte, Nat.reduceEqDiff, Nat.reduceAdd, Nat.reduceBEq, Nat.reduceLT, Nat.reduceLeDiff, binW, bodyQ, ressW, resW, ne_eq, forall_const, reduceCtorEq, implies_true, sets, oneAll, setD, rels, fillE, fillD, List.replicate, rowsOf, forall_eq, Nat.reduceMul, ↓zD, zT, hd]
  have hdl : p.length = (distL n p k).length := (distL_len n p k).symm
  have hdr : ∀ x ∈ distL n p k, 0 ≤ x ∧ x ≤ 1000 := fun x hx => by have := distL_range x hx; omega
  have hk2 : ((listsM n p).take k).length = k := by rw [List.length_take]; omega
  have hk3 : ((rkL way n p).take k).length = k := by rw [List.length_take]; omega
  have e1 : (listsM n p).take (k + 1) = (listsM n p).take k ++ [descS (distL n p k)] := by rw [take_snoc (d := []) (by omega), listsM_at h]
  have e2 : (rkL way n p).take (k + 1) = (rkL way n p).take k ++ [rk way (distL n p k)] := by rw [take_snoc (d := 0) (by omega), rkL_at h]
  refine .go (CallT.own1 (distances_runs p hn h (by omega)) rfl) ?_
  have hds : p.length = (descS (distL n p k)).length := by rw [descS_len]; exact hdl
  have hgl : (rl ((listsM n p).take k) ++ [[D.osl 2 1 p.length]]).length = (rl ((listsM n p).take k ++ [descS (distL n p k)])).length := by simp [rl]
  by_cases w1 : way = 1
  · subst w1
    have er : rk 1 (distL n p k) = sumL (distL n p k) := rfl
    simp only [Int.reduceToNat, Int.reduceLT, Int.reduceLE, Int.reduceBEq, Int.reduceBNe, St0, argFr, ↓callZ, ↓midZ, ↓unZ, ↓thenW, ↓blockW, ↓opX, ↓opV, ↓pX, ↓pW, ↓putK, ↓putP, ↓atK, ↓normK, ↓postZ, ↓reduceIte, reduceIte, Nat.reduceEqDiff, Nat.reduceAdd, Nat.reduceBEq, Nat.reduceLT, Nat.reduceLeDiff, binW, bodyQ, ressW, resW, ne_eq, forall_const, reduceCtorEq, implies_true, sets, oneAll, setD, rels, fillE, fillD, List.replicate, rowsOf, forall_eq, Nat.reduceMul, ↓zD, zT]
    (repeat refine And.intro (by first | omega | exact ui_nonneg _ | exact Int.natCast_nonneg _ | rfl | exact rows_one' _ _ | exact us_one _ | (intro _ h; cases h; done)) ?_)
    refine wpS_loop (fun j : Nat => [(33, .int .i64 j), (32, .int .i64 p.length), (31, .osl 2 1 p.length), (21, .int .i64 k), (20, .int .i64 ((2 ^ n : Nat) : Int)), (11, .int .i64 (sumL ((distL n p k).take j))), (10, .osl 2 1 p.length), (8, growD 0 1 (rl ((listsM n p).take k))), (7, growD 1 1 (rows .i64 ((rkL 1 n p).take k))), (2, .sl 1 (us p)), (1, .int .i64 n), (0, .int .i64 1)])
      (fun _ => ⟨3, (2, ⟨1, rows .i64 (distL n p k)⟩) :: (growO 0 1 (rl ((listsM n p).take k)) ++ growO 1 1 (rows .i64 ((rkL 1 n p).take k)))⟩) (fun j => j ≤ p.length) (fun j => p.length - j) 0 (Nat.zero_le _) ?_ ?_
    · (refine Weak.same ?_; simp [sameF, Fr.get, sumL])
    intro j hj
    refine wpS_go mixed ?_
    by_cases h2 : j < p.length
    · have hd2 : ((j : Int) < (p.length : Int)) := by omega
      have hj2 : ((distL n p k).take j).length = j := by rw [List.length_take]; omega
      have hx := hdr ((distL n p k).getD j 0) (getD_mem (by omega))
      have hs := sumL_take hdr j
      rw [hj2] at hs
      simp only [Int.reduceToNat, Int.reduceLT, Int.reduceLE, Int.reduceBEq, Int.reduceBNe, St0, argFr, ↓callZ, ↓midZ, ↓unZ, ↓thenW, ↓blockW, ↓opX, ↓opV, ↓pX, ↓pW, ↓putK, ↓putP, ↓atK, ↓normK, ↓postZ, ↓reduceIte, reduceIte, Nat.reduceEqDiff, Nat.reduceAdd, Nat.reduceBEq, Nat.reduceLT, Nat.reduceLeDiff, binW, bodyQ, ressW, resW, ne_eq, forall_const, reduceCtorEq, implies_true, sets, oneAll, setD, rels, fillE, fillD, List.replicate, rowsOf, forall_eq, Nat.reduceMul, ↓zD, zT, hd2, rows_get .i64 (distL n p k) (show j < (distL n p k).length by omega)]
      (repeat refine And.intro (by first | omega | exact ui_nonneg _ | exact Int.natCast_nonneg _ | rfl | exact rows_one' _ _ | exact us_one _ | (intro _ h; cases h; done)) ?_)
      refine ⟨j + 1, by omega, ?_, by omega⟩
      rw [take_snoc (d := 0) (show j < (distL n p k).length by omega), sumL_snoc]
      (refine Weak.same ?_; simp only [sameF, Fr.get, ↓reduceIte, reduceIte, Nat.reduceEqDiff, reduceCtorEq, D.int.injEq, D.bool.injEq, D.sl.injEq, and_true, true_and, and_self])
      exact ⟨wrap_i64 (by omega), wrap_i64 (by omega)⟩
    · have hd2 : ¬ ((j : Int) < (p.length : Int)) := by omega
      simp only [Int.reduceToNat, Int.reduceLT, Int.reduceLE, Int.reduceBEq, Int.reduceBNe, St0, argFr, ↓callZ, ↓midZ, ↓unZ, ↓thenW, ↓blockW, ↓opX, ↓opV, ↓pX, ↓pW, ↓putK, ↓putP, ↓atK, ↓normK, ↓postZ, ↓reduceIte, reduceIte, Nat.reduceEqDiff, Nat.reduceAdd, Nat.reduceBEq, Nat.reduceLT, Nat.reduceLeDiff, binW, bodyQ, ressW, resW, ne_eq, forall_const, reduceCtorEq, implies_true, sets, oneAll, setD, rels, fillE, fillD, List.replicate, rowsOf, forall_eq, Nat.reduceMul, ↓zD, zT, hd2]
      rw [show (distL n p k).take j = distL n p k by rw [show j = (distL n p k).length by omega, List.take_length]]
      refine .go (sortA' hdl (by simp [St.get, St.look]) hdr (by omega)) ?_
      simp only [Int.reduceToNat, Int.reduceLT, Int.reduceLE, Int.reduceBEq, Int.reduceBNe, St0, argFr, ↓callZ, ↓midZ, ↓unZ, ↓thenW, ↓blockW, ↓opX, ↓opV, ↓pX, ↓pW, ↓putK, ↓putP, ↓atK, ↓normK, ↓postZ, ↓reduceIte, reduceIte, Nat.reduceEqDiff, Nat.reduceAdd, Nat.reduceBEq, Nat.reduceLT, Nat.reduceLeDiff, binW, bodyQ, ressW, resW, ne_eq, forall_const, reduceCtorEq, implies_true, sets, oneAll, setD, rels, fillE, fillD, List.replicate, rowsOf, forall_eq, Nat.reduceMul, ↓zD, zT, rl_len, hk2, hk3]
      (repeat refine And.intro (by first | omega | exact ui_nonneg _ | exact Int.natCast_nonneg _ | rfl | exact rows_one' _ _ | exact us_one _ | (intro _ h; cases h; done)) ?_)
      refine ⟨k + 1, by omega, ?_, by omega⟩
      rw [e1, e2, er]
      refine Weak.ren [(0, 4), (1, 5)] [0, 1] (by simp) (by simp) (by decide) ⟨by simp only [stay1, vwL, vw, vwF, sw, St.get, St.look, Fr.get, ↓reduceIte, reduceIte, Nat.reduceEqDiff, Nat.reduceAdd, Nat.reduceBEq, Nat.reduceLT, Nat.reduceLeDiff, exists_eq_left', ne_eq, reduceCtorEq, zR], ?_, ?_⟩
      · rw [stayL_growQ (els' := rl ((listsM n p).take k) ++ [[.osl 2 1 p.length]]) (by simp) (by simp only [stay1, vwL, vw, vwF, sw, St.get, St.look, Fr.get, ↓reduceIte, reduceIte, Nat.reduceEqDiff, Nat.reduceAdd, Nat.reduceBEq, Nat.reduceLT, Nat.reduceLeDiff, exists_eq_left', ne_eq, reduceCtorEq, zR]) ?_, stayL_grow1 (by simp) (by simp only [stay1, vwL, vw, vwF, sw, St.get, St.look, Fr.get, ↓reduceIte, reduceIte, Nat.reduceEqDiff, Nat.reduceAdd, Nat.reduceBEq, Nat.reduceLT, Nat.reduceLeDiff, exists_eq_left', ne_eq, reduceCtorEq, zR]) (rows_pure _ _)]
        · trivial
        · rw [← rl_snoc, vwQ_snoc (rl_pure _)]
          refine ⟨rfl, ?_, trivial⟩
          rw [vw_osl_rows (by simp only [stay1, vwL, vw, vwF, sw, St.get, St.look, Fr.get, ↓reduceIte, reduceIte, Nat.reduceEqDiff, Nat.reduceAdd, Nat.reduceBEq, Nat.reduceLT, Nat.reduceLeDiff, exists_eq_left', ne_eq, reduceCtorEq, zR]) (by simp only [stay1, vwL, vw, vwF, sw, St.get, St.look, Fr.get, ↓reduceIte, reduceIte, Nat.reduceEqDiff, Nat.reduceAdd, Nat.reduceBEq, Nat.reduceLT, Nat.reduceLeDiff, exists_eq_left', ne_eq, reduceCtorEq, zR]) hds]
          trivial
      · simp only [vwF, stay1, vwL, vw, vwF, sw, St.get, St.look, Fr.get, ↓reduceIte, reduceIte, Nat.reduceEqDiff, Nat.reduceAdd, Nat.reduceBEq, Nat.reduceLT, Nat.reduceLeDiff, exists_eq_left', ne_eq, reduceCtorEq, zR, vw_growL hgl]
        exact wrap_i64 (by omega)
  by_cases w2 : way = 2
  · subst w2
    have er : rk 2 (distL n p k) = maxL (distL n p k) := rfl
    simp only [Int.reduceToNat, Int.reduceLT, Int.reduceLE, Int.reduceBEq, Int.reduceBNe, St0, argFr, ↓callZ, ↓midZ, ↓unZ, ↓thenW, ↓blockW, ↓opX, ↓opV, ↓pX, ↓pW, ↓putK, ↓putP, ↓atK, ↓normK, ↓postZ, ↓reduceIte, reduceIte, Nat.reduceEqDiff, Nat.reduceAdd, Nat.reduceBEq, Nat.reduceLT, Nat.reduceLeDiff, binW, bodyQ, ressW, resW, ne_eq, forall_const, reduceCtorEq, implies_true, sets, oneAll, setD, rels, fillE, fillD, List.replicate, rowsOf, forall_eq, Nat.reduceMul, ↓zD, zT]
    (repeat refine And.intro (by first | omega | exact ui_nonneg _ | exact Int.natCast_nonneg _ | rfl | exact rows_one' _ _ | exact us_one _ | (intro _ h; cases h; done)) ?_)
    refine wpS_loop (fun j : Nat => [(45, .int .i64 j), (44, .int .i64 p.length), (43, .osl 2 1 p.length), (21, .int .i64 k), (20, .int .i64 ((2 ^ n : Nat) : Int)), (11, .int .i64 (maxL ((distL n p k).take j))), (10, .osl 2 1 p.length), (8, growD 0 1 (rl ((listsM n p).take k))), (7, growD 1 1 (rows .i64 ((rkL 2 n p).take k))), (2, .sl 1 (us p)), (1, .int .i64 n), (0, .int .i64 2)])
      (fun _ => ⟨3, (2, ⟨1, rows .i64 (distL n p k)⟩) :: (growO 0 1 (rl ((listsM n p).take k)) ++ growO 1 1 (rows .i64 ((rkL 2 n p).take k)))⟩) (fun j => j ≤ p.length) (fun j => p.length - j) 0 (Nat.zero_le _) ?_ ?_
    · (refine Weak.same ?_; simp [sameF, Fr.get, maxL])
    intro j hj
    refine wpS_go mixed ?_
    by_cases h2 : j < p.length
    · have hd2 : ((j : Int) < (p.length : Int)) := by omega
      have hj2 : ((distL n p k).take j).length = j := by rw [List.length_take]; omega
      have hx := hdr ((distL n p k).getD j 0) (getD_mem (by omega))

      simp only [Int.reduceToNat, Int.reduceLT, Int.reduceLE, Int.reduceBEq, Int.reduceBNe, St0, argFr, ↓callZ, ↓midZ, ↓unZ, ↓thenW, ↓blockW, ↓opX, ↓opV, ↓pX, ↓pW, ↓putK, ↓putP, ↓atK, ↓normK, ↓postZ, ↓reduceIte, reduceIte, Nat.reduceEqDiff, Nat.reduceAdd, Nat.reduceBEq, Nat.reduceLT, Nat.reduceLeDiff, binW, bodyQ, ressW, resW, ne_eq, forall_const, reduceCtorEq, implies_true, sets, oneAll, setD, rels, fillE, fillD, List.replicate, rowsOf, forall_eq, Nat.reduceMul, ↓zD, zT, hd2, rows_get .i64 (distL n p k) (show j < (distL n p k).length by omega)]
      (repeat refine And.intro (by first | omega | exact ui_nonneg _ | exact Int.natCast_nonneg _ | rfl | exact rows_one' _ _ | exact us_one _ | (intro _ h; cases h; done)) ?_)
      refine ⟨j + 1, by omega, ?_, by omega⟩
      rw [take_snoc (d := 0) (show j < (distL n p k).length by omega), maxL_snoc _ _ hx.1]
      (refine Weak.same ?_; simp only [sameF, Fr.get, ↓reduceIte, reduceIte, Nat.reduceEqDiff, reduceCtorEq, D.int.injEq, D.bool.injEq, D.sl.injEq, and_true, true_and, and_self])
      exact ⟨wrap_i64 (by omega), by rw [mx_max]⟩
    · have hd2 : ¬ ((j : Int) < (p.length : Int)) := by omega
      simp only [Int.reduceToNat, Int.reduceLT, Int.reduceLE, Int.reduceBEq, Int.reduceBNe, St0, argFr, ↓callZ, ↓midZ, ↓unZ, ↓thenW, ↓blockW, ↓opX, ↓opV, ↓pX, ↓pW, ↓putK, ↓putP, ↓atK, ↓normK, ↓postZ, ↓reduceIte, reduceIte, Nat.reduceEqDiff, Nat.reduceAdd, Nat.reduceBEq, Nat.reduceLT, Nat.reduceLeDiff, binW, bodyQ, ressW, resW, ne_eq, forall_const, reduceCtorEq, implies_true, sets, oneAll, setD, rels, fillE, fillD, List.replicate, rowsOf, forall_eq, Nat.reduceMul, ↓zD, zT, hd2]
      rw [show (distL n p k).take j = distL n p k by rw [show j = (distL n p k).length by omega, List.take_length]]
      refine .go (sortA' hdl (by simp [St.get, St.look]) hdr (by omega)) ?_
      simp only [Int.reduceToNat, Int.reduceLT, Int.reduceLE, Int.reduceBEq, Int.reduceBNe, St0, argFr, ↓callZ, ↓midZ, ↓unZ, ↓thenW, ↓blockW, ↓opX, ↓opV, ↓pX, ↓pW, ↓putK, ↓putP, ↓atK, ↓normK, ↓postZ, ↓reduceIte, reduceIte, Nat.reduceEqDiff, Nat.reduceAdd, Nat.reduceBEq, Nat.reduceLT, Nat.reduceLeDiff, binW, bodyQ, ressW, resW, ne_eq, forall_const, reduceCtorEq, implies_true, sets, oneAll, setD, rels, fillE, fillD, List.replicate, rowsOf, forall_eq, Nat.reduceMul, ↓zD, zT, rl_len, hk2, hk3]
      (repeat refine And.intro (by first | omega | exact ui_nonneg _ | exact Int.natCast_nonneg _ | rfl | exact rows_one' _ _ | exact us_one _ | (intro _ h; cases h; done)) ?_)
      refine ⟨k + 1, by omega, ?_, by omega⟩
      rw [e1, e2, er]
      refine Weak.ren [(0, 4), (1, 5)] [0, 1] (by simp) (by simp) (by decide) ⟨by simp only [stay1, vwL, vw, vwF, sw, St.get, St.look, Fr.get, ↓reduceIte, reduceIte, Nat.reduceEqDiff, Nat.reduceAdd, Nat.reduceBEq, Nat.reduceLT, Nat.reduceLeDiff, exists_eq_left', ne_eq, reduceCtorEq, zR], ?_, ?_⟩
      · rw [stayL_growQ (els' := rl ((listsM n p).take k) ++ [[.osl 2 1 p.length]]) (by simp) (by simp only [stay1, vwL, vw, vwF, sw, St.get, St.look, Fr.get, ↓reduceIte, reduceIte, Nat.reduceEqDiff, Nat.reduceAdd, Nat.reduceBEq, Nat.reduceLT, Nat.reduceLeDiff, exists_eq_left', ne_eq, reduceCtorEq, zR]) ?_, stayL_grow1 (by simp) (by simp only [stay1, vwL, vw, vwF, sw, St.get, St.look, Fr.get, ↓reduceIte, reduceIte, Nat.reduceEqDiff, Nat.reduceAdd, Nat.reduceBEq, Nat.reduceLT, Nat.reduceLeDiff, exists_eq_left', ne_eq, reduceCtorEq, zR]) (rows_pure _ _)]
        · trivial
        · rw [← rl_snoc, vwQ_snoc (rl_pure _)]
          refine ⟨rfl, ?_, trivial⟩
          rw [vw_osl_rows (by simp only [stay1, vwL, vw, vwF, sw, St.get, St.look, Fr.get, ↓reduceIte, reduceIte, Nat.reduceEqDiff, Nat.reduceAdd, Nat.reduceBEq, Nat.reduceLT, Nat.reduceLeDiff, exists_eq_left', ne_eq, reduceCtorEq, zR]) (by simp only [stay1, vwL, vw, vwF, sw, St.get, St.look, Fr.get, ↓reduceIte, reduceIte, Nat.reduceEqDiff, Nat.reduceAdd, Nat.reduceBEq, Nat.reduceLT, Nat.reduceLeDiff, exists_eq_left', ne_eq, reduceCtorEq, zR]) hds]
          trivial
      · simp only [vwF, stay1, vwL, vw, vwF, sw, St.get, St.look, Fr.get, ↓reduceIte, reduceIte, Nat.reduceEqDiff, Nat.reduceAdd, Nat.reduceBEq, Nat.reduceLT, Nat.reduceLeDiff, exists_eq_left', ne_eq, reduceCtorEq, zR, vw_growL hgl]
        exact wrap_i64 (by omega)
  have b1 : (way == 1) = false := beq_eq_false_iff_ne.2 w1
  have b2 : (way == 2) = false := beq_eq_false_iff_ne.2 w2
  have er : rk way (distL n p k) = 0 := by rw [rk, if_neg w1, if_neg w2]
  simp only [Int.reduceToNat, Int.reduceLT, Int.reduceLE, Int.reduceBEq, Int.reduceBNe, St0, argFr, ↓callZ, ↓midZ, ↓unZ, ↓thenW, ↓blockW, ↓opX, ↓opV, ↓pX, ↓pW, ↓putK, ↓putP, ↓atK, ↓normK, ↓postZ, ↓reduceIte, reduceIte, Nat.reduceEqDiff, Nat.reduceAdd, Nat.reduceBEq, Nat.reduceLT, Nat.reduceLeDiff, binW, bodyQ, ressW, resW, ne_eq, forall_const, reduceCtorEq, implies_true, sets, oneAll, setD, rels, fillE, fillD, List.replicate, rowsOf, forall_eq, Nat.reduceMul, ↓zD, zT, b1, b2]
  refine .go (sortA' hdl (by simp [St.get, St.look]) hdr (by omega)) ?_
  simp only [Int.reduceToNat, Int.reduceLT, Int.reduceLE, Int.reduceBEq, Int.reduceBNe, St0, argFr, ↓callZ, ↓midZ, ↓unZ, ↓thenW, ↓blockW, ↓opX, ↓opV, ↓pX, ↓pW, ↓putK, ↓putP, ↓atK, ↓normK, ↓postZ, ↓reduceIte, reduceIte, Nat.reduceEqDiff, Nat.reduceAdd, Nat.reduceBEq, Nat.reduceLT, Nat.reduceLeDiff, binW, bodyQ, ressW, resW, ne_eq, forall_const, reduceCtorEq, implies_true, sets, oneAll, setD, rels, fillE, fillD, List.replicate, rowsOf, forall_eq, Nat.reduceMul, ↓zD, zT, rl_len, hk2, hk3]
  (repeat refine And.intro (by first | omega | exact ui_nonneg _ | exact Int.natCast_nonneg _ | rfl | exact rows_one' _ _ | exact us_one _ | (intro _ h; cases h; done)) ?_)
  refine ⟨k + 1, by omega, ?_, by omega⟩
  rw [e1, e2, er]
  refine Weak.ren [(0, 4), (1, 5)] [0, 1] (by simp) (by simp) (by decide) ⟨by simp only [stay1, vwL, vw, vwF, sw, St.get, St.look, Fr.get, ↓reduceIte, reduceIte, Nat.reduceEqDiff, Nat.reduceAdd, Nat.reduceBEq, Nat.reduceLT, Nat.reduceLeDiff, exists_eq_left', ne_eq, reduceCtorEq, zR], ?_, ?_⟩
  · rw [stayL_growQ (els' := rl ((listsM n p).take k) ++ [[.osl 2 1 p.length]]) (by simp) (by simp only [stay1, vwL, vw, vwF, sw, St.get, St.look, Fr.get, ↓reduceIte, reduceIte, Nat.reduceEqDiff, Nat.reduceAdd, Nat.reduceBEq, Nat.reduceLT, Nat.reduceLeDiff, exists_eq_left', ne_eq, reduceCtorEq, zR]) ?_, stayL_grow1 (by simp) (by simp only [stay1, vwL, vw, vwF, sw, St.get, St.look, Fr.get, ↓reduceIte, reduceIte, Nat.reduceEqDiff, Nat.reduceAdd, Nat.reduceBEq, Nat.reduceLT, Nat.reduceLeDiff, exists_eq_left', ne_eq, reduceCtorEq, zR]) (rows_pure _ _)]
    · trivial
    · rw [← rl_snoc, vwQ_snoc (rl_pure _)]
      refine ⟨rfl, ?_, trivial⟩
      rw [vw_osl_rows (by simp only [stay1, vwL, vw, vwF, sw, St.get, St.look, Fr.get, ↓reduceIte, reduceIte, Nat.reduceEqDiff, Nat.reduceAdd, Nat.reduceBEq, Nat.reduceLT, Nat.reduceLeDiff, exists_eq_left', ne_eq, reduceCtorEq, zR]) (by simp only [stay1, vwL, vw, vwF, sw, St.get, St.look, Fr.get, ↓reduceIte, reduceIte, Nat.reduceEqDiff, Nat.reduceAdd, Nat.reduceBEq, Nat.reduceLT, Nat.reduceLeDiff, exists_eq_left', ne_eq, reduceCtorEq, zR]) hds]
      trivial
  · simp only [vwF, stay1, vwL, vw, vwF, sw, St.get, St.look, Fr.get, ↓reduceIte, reduceIte, Nat.reduceEqDiff, Nat.reduceAdd, Nat.reduceBEq, Nat.reduceLT, Nat.reduceLeDiff, exists_eq_left', ne_eq, reduceCtorEq, zR, vw_growL hgl]
    exact wrap_i64 (by omega)
end Go.Pd
