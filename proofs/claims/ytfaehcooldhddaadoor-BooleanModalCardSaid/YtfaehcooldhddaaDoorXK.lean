/- PURE DATA: the framework: sorting an object of one's own whose rows are pairs of integers. Over any program. -/
import Derived.Test.YtfaehcooldhddaaDoorX7
set_option linter.unusedSectionVars false
set_option linter.unusedVariables false
set_option linter.unusedSimpArgs false
set_option linter.defProp false
namespace Go.Pd
open Go Go.Proofs Go.Shelf Go.Sort
variable [Tabs]
def inR (x : Int) : Prop := IntKind.i64.min ≤ x ∧ x ≤ IntKind.i64.max
def PairI : Type := { p : Int × Int // inR p.1 ∧ inR p.2 }
def PairI.enc (a : PairI) : List Value := [.int .i64 a.1.1, .int .i64 a.1.2]
def PairI.cf (cf : Int × Int → Int × Int → Int) (a b : PairI) : Int := cf a.1 b.1
instance : Inhabited PairI := ⟨⟨(0, 0), ⟨by decide, by decide⟩, ⟨by decide, by decide⟩⟩⟩
def prR (l : List (Int × Int)) : List (List D) := l.map fun p => [.int .i64 p.1, .int .i64 p.2]
def SortedP (cf : Int × Int → Int × Int → Int) (l : List (Int × Int)) : Prop := ∀ i j, i < j → j < l.length → ¬ cf (l.getD j (0, 0)) (l.getD i (0, 0)) < 0
theorem prR_get (l : List (Int × Int)) {i : Nat} (h : i < l.length) : (prR l).getD i [] = [.int .i64 (l.getD i (0, 0)).1, .int .i64 (l.getD i (0, 0)).2] := by simp [prR, List.getD, h]
theorem enc_get (a : PairI) {j : Nat} (hj : j < 2) : (a.enc)[j]! = .int .i64 (if j = 0 then a.1.1 else a.1.2) := by
  match j, hj with
  | 0, _ => rfl
  | 1, _ => rfl
theorem pair_rp (M : Nat → Prop) (w : World) (a : PairI) : RP M w (.agg a.enc.toArray) (.agg [.int .i64 a.1.1, .int .i64 a.1.2]) := by
  refine .agg rfl fun j hj => ?_
  match j, hj with
  | 0, _ => exact .int a.2.1
  | 1, _ => exact .int a.2.2
theorem swK {α : Type} [Inhabited α] (enc : α → List Value) (k : Nat) (w : World) (b o m : Nat) (dk : Array α) (os : Array Obj) : sortWorldK enc k w b o m dk os = sortWorld id w b o m (flatK enc k dk) os := rfl
theorem pair_lays {P : Program} {g : FuncId} {cf : Int × Int → Int × Int → Int} (hcmp : ∀ x y : Int × Int, Runs P g [.agg [.int .i64 x.1, .int .i64 x.2], .agg [.int .i64 y.1, .int .i64 y.2]] (.int .i64 (cf x y))) {M0 : Nat → Prop} {w : World} {σ : St} {ι : Nat → Nat} (hS : SimS M0 w σ ι) {key : Nat} {ob : Ob} (hget : σ.get key = some ob) (size : Nat) :
    CmpLays P g #[] PairI.enc 2 (PairI.cf cf) (ι key) 0 size w := by
  intro m os dk hdk x y
  rw [swK]
  generalize flatK PairI.enc 2 dk = F
  have hne : ∀ b, ¬ Mof M0 ι σ b → b ≠ ι key := fun b hb e => hb (.inr ⟨key, ob, hget, e.symm⟩)
  have hM : ∀ b, Mof (Mof M0 ι σ) ι St0 b → Mof M0 ι σ b := by
    rintro b (h | ⟨k, o, hk, _⟩)
    · exact h
    · cases hk
  have hsz := sortWorld_size id w (ι key) 0 m F os
  have hblock : ∀ b, b < w.heap.size → ¬ Mof M0 ι σ b → (sortWorld id w (ι key) 0 m F os).heap[b]? = w.heap[b]? := fun b hb hn => sortWorld_block id w (ι key) 0 m F os hb (hne b hn)
  have S1 : SimS (Mof M0 ι σ) (sortWorld id w (ι key) 0 m F os) St0 ι :=
    ⟨fun b hb => Nat.lt_of_lt_of_le (Mof.lt hS hb) hsz, (fun k o hk => by cases hk), (fun k k' o o' hk => by cases hk), (fun k o hk => by cases hk), hS.tabs.keep hsz hblock fun b _ hb => hM b hb⟩
  obtain ⟨⟨x1, x2⟩, hx⟩ := x
  obtain ⟨⟨y1, y2⟩, hy⟩ := y
  have q := (hcmp (x1, x2) (y1, y2)).run _ _ ι (#[.agg #[.int .i64 x1, .int .i64 x2], .agg #[.int .i64 y1, .int .i64 y2]] ++ #[]) S1 rfl (fun j hj => by
    match j, hj with
    | 0, _ => exact .pure (pair_rp _ _ ⟨(x1, x2), hx⟩)
    | 1, _ => exact .pure (pair_rp _ _ ⟨(y1, y2), hy⟩))
  refine q.mono fun e w' hh => ?_
  obtain ⟨v, ι', rfl, k1, k2, k3, k4, k5, k6⟩ := hh
  have K0 : Kept (sortWorld id w (ι key) 0 m F os) w' fun _ => False := k1.mono fun b _ ⟨k, o, hk, _⟩ => by cases hk
  refine ⟨?_, kept_world K0⟩
  rw [k6.int_inv.1]
  rfl
set_option maxHeartbeats 1000000 in
/-- slices.SortFunc over an object of one's own, of pairs. -/
theorem sort_pairs {P : Program} {ρ : Ren} (L : SlLaysF0.n6 P ρ) (aE : ∀ w, (isAgg (ρ.t 24)).run P w = .ok true w) (zE : ∀ w, (Go.sizeOf (ρ.t 24)).run P w = .ok 2 w) (hord : Ordinary P (ρ.f 6)) {g : FuncId} {cf : Int × Int → Int × Int → Int}
    (hg : Ordinary P g) (hcmp : ∀ x y : Int × Int, Runs P g [.agg [.int .i64 x.1, .int .i64 x.2], .agg [.int .i64 y.1, .int .i64 y.2]] (.int .i64 (cf x y)))
    (hirr : ∀ x, ¬ cf x x < 0) (htr : ∀ x y z, cf x y < 0 → cf y z < 0 → cf x z < 0) (hntr : ∀ x y z, ¬ cf x y < 0 → ¬ cf y z < 0 → ¬ cf x z < 0)
    {σ : St} {key : Nat} {l target : List (Int × Int)} (hget : σ.get key = some ⟨2, prR l⟩) (hlen : l.length < 4611686018427387904)
    (hT : ∀ l', l'.Perm l → SortedP cf l' → l' = target) :
    CallT P (ρ.f 6) [.osl key 2 l.length, .fn g []] σ (.tup []) (σ.set key ⟨2, prR target⟩) := by
  refine ⟨hord, fun M0 w ι vals hS hl hv => ?_⟩
  have h0 := hv 0 (by simp)
  have h1 := hv 1 (by simp)
  simp only [List.getD_cons_zero, List.getD_cons_succ] at h0 h1
  obtain ⟨cap, cur0, e0, e1, kk, a1, a2, a3, a4⟩ := h0.osl_inv
  obtain ⟨cb, f1, f2, f3⟩ := h1.fn_inv
  have hcb : cb = #[] := Array.eq_empty_of_size_eq_zero (by simpa using f2)
  subst hcb
  have hvals : vals = #[.slice (some ⟨ι key, 0, none⟩) l.length cap, .func (.func g) #[] #[]] := by
    obtain ⟨r⟩ := vals
    match r, hl with
    | [x, y], _ =>
      simp at e1 f1
      rw [e1, f1]
  subst hvals
  clear h0 h1 hv e1 f1 f2 f3 hl
  have hk := (hS.holds key _ hget).1
  obtain ⟨cur, e, c1, c2, c3, c4⟩ := HoldsB.cells (hS.holds key _ hget).2 (Nat.lt_succ_of_lt (Nat.lt_succ_self 0))
  have hpl : (prR l).length = l.length := by simp [prR]
  simp only [hpl] at c3 c4
  have cell : ∀ i, i < l.length → ∃ a : PairI, a.1 = l.getD i (0, 0) ∧ cur.getD (i * 2) undef = .int .i64 a.1.1 ∧ cur.getD (i * 2 + 1) undef = .int .i64 a.1.2 := by
    intro i hi
    have h0 := (c4 i hi 0 (by omega)).2
    have h1 := (c4 i hi 1 (by omega)).2
    rw [prR_get l hi] at h0 h1
    have q0 := h0.int_inv
    have q1 := h1.int_inv
    exact ⟨⟨l.getD i (0, 0), q0.2, q1.2⟩, rfl, q0.1, q1.1⟩
  obtain ⟨d, hds, hdi⟩ := array_pick cell
  have hO : SWO (ltOf (PairI.cf cf)) :=
    ⟨fun x => decide_eq_false (hirr x.1), fun x y z h1 h2 => decide_eq_true (htr x.1 y.1 z.1 (of_decide_eq_true h1) (of_decide_eq_true h2)),
      fun x y z h1 h2 => decide_eq_false (hntr x.1 y.1 z.1 (of_decide_eq_false h1) (of_decide_eq_false h2))⟩
  have hH : HoldsK PairI.enc 2 w (ι key) 0 d := by
    intro j hj
    rw [size_flatK] at hj
    have hj' : j / 2 < l.length := by omega
    have hjc : j < cur.size := by omega
    refine ⟨?_, ?_⟩
    · rw [get_flatK _ _ _ _ hj, enc_get _ (Nat.mod_lt _ (by omega))]
      obtain ⟨_, q1, q2⟩ := hdi (j / 2) hj'
      have hcur : cur.getD j undef = .int .i64 (if j % 2 = 0 then (d[j / 2]!).1.1 else (d[j / 2]!).1.2) := by
        by_cases hm : j % 2 = 0
        · rw [if_pos hm, ← q1]; congr 1; omega
        · rw [if_neg hm, ← q2]; congr 1; omega
      simp only [id_eq]
      rw [← hcur]
      simp [World.cell?, c1, hjc]
    · simp [World.frozen?, c1]
  have hcall := AnyQ.slices_SortFunc L 2 aE zE PairI.enc (fun x => rfl) (fun x v hv => by
    simp only [PairI.enc, List.mem_cons, List.not_mem_nil, or_false] at hv
    rcases hv with rfl | rfl <;> rfl) (PairI.cf cf) hO g #[] (ι key) 0 cap d w (fun args w => run_callFunc hg args w) (pair_lays hcmp hS hget d.size) hH (Array.getElem?_eq_some_iff.1 c1).1 (by omega)
  rw [hds] at hcall
  refine hcall.mono fun e' w' hh => ?_
  obtain ⟨rfl, d', n, os, hp, hs, hw'⟩ := hh
  have hw2 : w' = sortWorld id w (ι key) 0 n (flatK PairI.enc 2 d') os := hw'
  subst hw2
  clear hw'
  rw [← hds] at hp hs
  have hsz : d'.size = d.size := hp.1
  have e1 : d.toList.map (·.1) = l := by
    refine List.ext_getElem (by simpa using hds) fun i h1 h2 => ?_
    have := (hdi i h2).1
    rw [getElem!_pos d i (by omega)] at this
    simp only [List.getElem_map, Array.getElem_toList]
    simp only [List.getD, List.getElem?_eq_getElem h2, Option.getD_some] at this
    exact this
  have hperm : (d'.toList.map (·.1)).Perm l := by
    rw [← e1]
    have := hp.2.2
    rw [← hsz] at this
    conv at this => lhs; rw [extract_all d']
    rw [hsz, extract_all d] at this
    exact this.map _
  have hgd : ∀ i, i < d'.size → (d'.toList.map (·.1)).getD i (0, 0) = (d'[i]!).1 := by
    intro i hi
    rw [getElem!_pos d' i hi]
    simp [List.getD, hi]
  have hsort : SortedP cf (d'.toList.map (·.1)) := by
    intro i j hij hj
    have hj' : j < d'.size := by simpa using hj
    rw [hgd j hj', hgd i (by omega)]
    have := hs i j (Nat.zero_le _) hij (by omega)
    exact of_decide_eq_false this
  have htarget := hT _ hperm hsort
  have htl : target.length = l.length := by rw [← htarget]; exact hperm.length_eq
  have hpt : (prR target).length = l.length := by simp [prR, htl]
  rw [sortWorld_eq _ _ _ _ _ _ _ c1]
  have hcs : (putCells id 0 (flatK PairI.enc 2 d') cur).size = cur.size := by simp [putCells]
  obtain ⟨S2, K2⟩ := hS.set (ob' := ⟨2, prR target⟩) hget c1 hcs (by simp) (by simp only [hpt]; omega) ⟨fun el he => by
      simp only [prR, List.mem_map] at he
      obtain ⟨a, _, rfl⟩ := he
      rfl, fun i hi j hj => by
      simp only [hpt] at hi
      simp only at hj ⊢
      have hi' : i < d'.size := by omega
      have hic : i * 2 + j < cur.size := by omega
      have ht : i * 2 + j < d'.size * 2 := by omega
      have ev : (putCells id 0 (flatK PairI.enc 2 d') cur).getD (i * 2 + j) undef = .int .i64 (if j = 0 then (d'[i]!).1.1 else (d'[i]!).1.2) := by
        have h1 := get_flatK PairI.enc 2 d' (i * 2 + j) ht
        rw [show (i * 2 + j) / 2 = i by omega, show (i * 2 + j) % 2 = j by omega, enc_get _ hj] at h1
        rw [← h1]
        simp [putCells, hic, hi', ht]
      have ed : ((prR target).getD i []).getD j .top = .int .i64 (if j = 0 then (d'[i]!).1.1 else (d'[i]!).1.2) := by
        rw [prR_get target (by omega), ← htarget, hgd i hi']
        match j, hj with
        | 0, _ => rfl
        | 1, _ => rfl
      rw [ev, ed]
      refine ⟨rfl, .pure (.int ?_)⟩
      split
      · exact (d'[i]!).2.1
      · exact (d'[i]!).2.2⟩
  have K3 := kept_grow (w := w.setRow (ι key) (putCells id 0 (flatK PairI.enc 2 d') cur)) n os
  refine ⟨.tuple #[], ι, rfl, K2.trans K3 (fun _ _ h => h) (fun _ _ h => h.elim), S2.ext K3, Nat.le_refl _, fun _ _ => rfl, fun k o hk => ?_, .tup rfl (fun j hj => by simp at hj)⟩
  by_cases ek : k = key
  · subst ek; exact .inr ⟨k, _, hget, rfl⟩
  · refine .inr ⟨k, o, ?_, rfl⟩
    rw [look_set, if_neg (fun e => ek e.symm)] at hk
    exact hk
end Go.Pd
