/-
  PURE DATA, part V: a law's arguments as data, what a contract gives for a law's row. Over any program.
-/
import Derived.Test.YtkinhajadppfaaaDoorPdU
import Derived.Carry
import Derived.ChangeArms
import Derived.Deep.Slices
import Derived.ProofKit
set_option linter.unusedSectionVars false
set_option linter.unusedVariables false
set_option linter.unusedSimpArgs false
set_option linter.defProp false
namespace Go.Pd
open Go Go.ChangeShapes Go.WideShapes Go.RowKit

/-! ### Types of plain data: their cells as data -/
def coverB : List (Nat × Nat) → Nat → Nat → Bool
  | [], o, n => o == n
  | (a, s) :: r, o, n => (a == o) && coverB r (o + s) n
def plainT (P : Program) : Nat → TypeId → Bool
  | 0, _ => false
  | n + 1, t => match P.underlying t with
    | some .bool => true
    | some (.int _) => true
    | some .string => true
    | some (.slice e) => plainT P n e && decide (0 < P.cellsOf e)
    | some (.struct fs) => (fs.toList.all fun f => plainT P n f.type) && coverB (fs.toList.map fun f => (f.offset, P.cellsOf f.type)) 0 (P.cellsOf t)
    | _ => false
mutual
def shapeC (P : Program) : Nat → TypeId → List D → Prop
  | 0, _, _ => False
  | n + 1, t, ds => match P.underlying t with
    | some .bool => ∃ b, ds = [.bool b]
    | some (.int k) => ∃ i, ds = [.int k i]
    | some .string => ∃ s, ds = [.str s]
    | some (.slice e) => ∃ els, ds = [.sl (P.cellsOf e) els] ∧ ∀ row ∈ els, shapeC P n e row
    | some (.struct fs) => shapeF P n (fs.toList.map fun f => f.type) ds
    | _ => False
def shapeF (P : Program) : Nat → List TypeId → List D → Prop
  | _, [], ds => ds = []
  | n, f :: fs, ds => ∃ a b, ds = a ++ b ∧ shapeC P n f a ∧ shapeF P n fs b
end
def shapeV (P : Program) (n : Nat) (t : TypeId) (d : D) : Prop :=
  match P.underlying t with
  | some (.struct _) => ∃ ds, d = .agg ds ∧ shapeC P n t ds
  | _ => shapeC P n t [d]
def shapesV (P : Program) (n : Nat) : List TypeId → List D → Prop
  | [], as => as = []
  | t :: ts, as => ∃ a r, as = a :: r ∧ shapeV P n t a ∧ shapesV P n ts r

def relC (w : World) (cs : List Value) (ds : List D) : Prop := ds.length = cs.length ∧ ∀ j, j < ds.length → RP (fun _ => False) w (cs.getD j undef) (ds.getD j .top)
theorem relC_append {w : World} {a b : List Value} {x y : List D} (h : relC w a x) (h' : relC w b y) : relC w (a ++ b) (x ++ y) := by
  refine ⟨by simp [h.1, h'.1], fun j hj => ?_⟩
  simp only [List.getD]
  by_cases hx : j < x.length
  · rw [List.getElem?_append_left hx, List.getElem?_append_left (by rw [← h.1]; exact hx)]
    exact h.2 j hx
  · have h1 := h.1
    rw [List.getElem?_append_right (by omega), List.getElem?_append_right (by omega), ← h.1]
    rw [List.length_append] at hj
    exact h'.2 (j - x.length) (by omega)

section
variable {H : Type} {enc : TypeId × Value → H} {P : Program} {w : World} {sp : Nat → Bool} {held : Bool}

theorem fields_rp {n : Nat} (key : ∀ (t : TypeId) (cs : List Value) (fuel : Nat) (x : DataW H × List MemPlace), plainT P n t = true → DataW.trod enc P w 0 sp held fuel t cs = some x → ∃ ds, relC w cs ds ∧ shapeC P n t ds) {cs : List Value} {fuel : Nat} :
    ∀ (fl : List Field) (o : Nat), (fl.all fun f => plainT P n f.type) = true → coverB (fl.map fun f => (f.offset, P.cellsOf f.type)) o cs.length = true →
      (∀ f ∈ fl, ∃ x, DataW.trod enc P w 0 sp held fuel f.type ((cs.drop f.offset).take (P.cellsOf f.type)) = some x) → ∃ ds, relC w (cs.drop o) ds ∧ shapeF P n (fl.map fun f => f.type) ds
  | [], o, _, hc, _ => by
    simp only [List.map_nil, coverB, beq_iff_eq] at hc
    subst hc
    exact ⟨[], by simp [relC], by simp [shapeF]⟩
  | f :: fl, o, hp, hc, hx => by
    simp only [List.all_cons, Bool.and_eq_true] at hp
    simp only [List.map_cons, coverB, Bool.and_eq_true, beq_iff_eq] at hc
    obtain ⟨x, h1⟩ := hx f (by simp)
    obtain ⟨a, ha, hsa⟩ := key _ _ _ _ hp.1 h1
    obtain ⟨b, hb, hsb⟩ := fields_rp key fl (o + P.cellsOf f.type) hp.2 hc.2 fun g hg => hx g (by simp [hg])
    refine ⟨a ++ b, ?_, by simp only [List.map_cons, shapeF]; exact ⟨a, b, rfl, hsa, hsb⟩⟩
    rw [hc.1] at ha
    have e : cs.drop o = (cs.drop o).take (P.cellsOf f.type) ++ cs.drop (o + P.cellsOf f.type) := by
      rw [← List.drop_drop, List.take_append_drop]
    rw [e]
    exact relC_append ha hb

theorem trod_rp : ∀ (n : Nat) (t : TypeId) (cs : List Value) (fuel : Nat) (x : DataW H × List MemPlace), plainT P n t = true → DataW.trod enc P w 0 sp held fuel t cs = some x → ∃ ds, relC w cs ds ∧ shapeC P n t ds
  | 0, t, cs, fuel, x, hp, _ => by simp [plainT] at hp
  | n + 1, t, cs, fuel, x, hp, h => by
    unfold plainT at hp
    unfold shapeC
    split at hp
    · rename_i hu
      obtain ⟨b, rfl, _⟩ := DataW.trod_bool hu h
      exact ⟨[.bool b], ⟨rfl, fun j hj => by simp at hj; subst hj; exact .bool b⟩, ⟨b, rfl⟩⟩
    · rename_i k hu
      obtain ⟨i, rfl, _, hw⟩ := DataW.trod_int hu h
      refine ⟨[.int k i], ⟨rfl, fun j hj => ?_⟩, ⟨i, rfl⟩⟩
      simp at hj; subst hj
      simp only [Lit.wf, Bool.and_eq_true, decide_eq_true_eq] at hw
      exact .int hw
    · rename_i hu
      obtain ⟨s, rfl, _, hs⟩ := DataW.trod_string hu h
      exact ⟨[.str s], ⟨rfl, fun j hj => by simp at hj; subst hj; exact .str hs⟩, ⟨s, rfl⟩⟩
    · rename_i e hu
      simp only [Bool.and_eq_true, decide_eq_true_eq] at hp
      rcases Deep.open_slice hu h with ⟨rfl, _⟩ | ⟨a, len, cap, m, fu, Dd, Pl, rfl, _, hl, hm, hmm, _, hx⟩
      · exact ⟨[.sl (P.cellsOf e) []], ⟨rfl, fun j hj => by simp at hj; subst hj; exact .sl0 none 0 _ (fun _ => rfl)⟩, ⟨[], rfl, by simp⟩⟩
      · have hle : len ≤ m := by rw [hmm]; split <;> omega
        by_cases h0 : len = 0
        · subst h0
          exact ⟨[.sl (P.cellsOf e) []], ⟨rfl, fun j hj => by simp at hj; subst hj; exact .sl0 (some a) cap _ (fun h => by cases h)⟩, ⟨[], rfl, by simp⟩⟩
        · obtain ⟨f, hf⟩ := Deep.choose_lt (α := List Value × List D) (n := len) (p := fun i y => w.cells? 0 (a.add (i * P.cellsOf e)) (P.cellsOf e) = some y.1 ∧ relC w y.1 y.2 ∧ shapeC P n e y.2) fun i hi => by
            obtain ⟨cs', h1, h2⟩ := hx i (by omega)
            obtain ⟨ds, h3, h4⟩ := trod_rp n e cs' fu _ hp.1 h2
            exact ⟨(cs', ds), h1, h3, h4⟩
          have hcells : ∀ i, i < len → ∀ j, j < P.cellsOf e → w.cell? ((a.add (i * P.cellsOf e)).add j) = some ((f i).1.getD j undef) := by
            intro i hi j hj
            obtain ⟨_, h2, h3⟩ := World.cells?_some (hf i hi).1
            rw [h3 j hj]
            simp [List.getD, show j < (f i).1.length by omega]
          have hlen : ∀ i, i < len → (f i).1.length = P.cellsOf e := fun i hi => (World.cells?_some (hf i hi).1).2.1
          have hspot : a.spot = none := by
            have := World.cell?_spot (hcells 0 (by omega) 0 hp.2)
            simpa [Addr.add] using this
          obtain ⟨b, off, spot⟩ := a
          simp only at hspot
          subst hspot
          have hadd : ∀ i j, ((⟨b, off, none⟩ : Addr).add i).add j = ⟨b, off + i + j, none⟩ := by
            intro i j
            rw [Deep.add_add]
            unfold Addr.add
            by_cases h : i + j = 0
            · have h1 : i = 0 := by omega
              have h2 : j = 0 := by omega
              subst h1; subst h2; rfl
            · rw [if_neg h]; simp [Nat.add_assoc]
          have els : ∀ i, i < len → ((List.range len).map fun i => (f i).2).getD i [] = (f i).2 := by
            intro i hi
            simp [List.getD, hi]
          refine ⟨[.sl (P.cellsOf e) ((List.range len).map fun i => (f i).2)], ⟨rfl, fun j hj => ?_⟩, ⟨_, rfl, ?_⟩⟩
          · simp at hj; subst hj
            simp only [List.getD_cons_zero]
            have := RP.sl (M := fun _ => False) (w := w) (b := b) (off := off) (cap := cap) (sz := P.cellsOf e) (els := (List.range len).map fun i => (f i).2) (fun i j => (f i).1.getD j undef) hp.2 (fun h => h) (by simpa using hl) hm ?_ ?_ ?_
            · simpa using this
            · intro x hx'
              simp only [List.mem_map, List.mem_range] at hx'
              obtain ⟨i, hi, rfl⟩ := hx'
              rw [(hf i hi).2.1.1, hlen i hi]
            · intro i hi j hj
              have hi' : i < len := by simpa using hi
              have := hcells i hi' j hj
              rw [hadd] at this
              exact this
            · intro i hi j hj
              have hi' : i < len := by simpa using hi
              rw [els i hi']
              exact (hf i hi').2.1.2 j (by rw [(hf i hi').2.1.1, hlen i hi']; exact hj)
          · intro row hrow
            simp only [List.mem_map, List.mem_range] at hrow
            obtain ⟨i, hi, rfl⟩ := hrow
            exact (hf i hi).2.2
    · rename_i fs hu
      simp only [Bool.and_eq_true] at hp
      obtain ⟨xs, n', _, _, hlen, hsz, hf⟩ := DataW.trod_struct hu h
      rw [← hlen] at hp
      obtain ⟨ds, h1, h2⟩ := fields_rp (fun t cs fuel x => trod_rp n t cs fuel x) (fuel := n') fs.toList 0 hp.1 hp.2 fun g hg => by
        obtain ⟨i, hi, rfl⟩ := List.getElem_of_mem hg
        have hi' : i < fs.size := by simpa using hi
        have := hf i fs[i] (by simp [hi'])
        refine ⟨xs[i]'(by omega), ?_⟩
        simp only [Array.getElem_toList]
        rw [this]
        simp [show i < xs.length by omega]
      exact ⟨ds, by simpa using h1, h2⟩
    · cases hp
end

section
variable {H : Type} {enc : TypeId × Value → H} {P : Program} {w : World} {sp : Nat → Bool} {held : Bool}
theorem arg_rp {n : Nat} {b : Nat} {t : TypeId} {v : Value} {d : DataW H} {ps : List MemPlace} (hp : plainT P n t = true) (hv : Value.okWide P w .any b t v) (h : DataW.Trod enc P w 0 sp held t v d ps) : ∃ a, RP (fun _ => False) w v a ∧ shapeV P n t a := by
  obtain ⟨fuel, h⟩ := h
  obtain ⟨ds, h1, h2⟩ := trod_rp n t _ fuel _ hp h
  unfold shapeV
  split
  · rename_i fs hu
    obtain ⟨cs, rfl, _⟩ := okWide_struct hu hv
    refine ⟨.agg ds, .agg (by rw [h1.1]; rfl) fun j hj => ?_, ds, rfl, h2⟩
    have := h1.2 j hj
    have e : (Value.agg cs).cells.toList.getD j undef = cs.getD j undef := by
      simp [Value.cells, List.getD, Array.getD]
      by_cases hj : j < cs.size <;> simp [hj]
    rw [e] at this
    exact this
  · rename_i hns
    have one : ∃ x, ds = [x] := by
      cases n with
      | zero => simp [plainT] at hp
      | succ n =>
        unfold shapeC at h2
        split at h2
        · obtain ⟨b, rfl⟩ := h2; exact ⟨_, rfl⟩
        · obtain ⟨b, rfl⟩ := h2; exact ⟨_, rfl⟩
        · obtain ⟨b, rfl⟩ := h2; exact ⟨_, rfl⟩
        · obtain ⟨b, rfl, _⟩ := h2; exact ⟨_, rfl⟩
        · rename_i fs hu; exact absurd hu (hns fs)
        · cases h2
    obtain ⟨x, rfl⟩ := one
    refine ⟨x, ?_, h2⟩
    have hx := h1.2 0 (by simp)
    simp only [List.getD_cons_zero] at hx
    have hlen := h1.1
    cases v with
    | agg cs =>
      exfalso
      unfold Value.okWide at hv
      split at hv
      · rename_i fs hu; exact absurd hu (hns fs)
      · rename_i k e hu
        cases n with
        | zero => simp [plainT] at hp
        | succ n => unfold plainT at hp; rw [hu] at hp; simp at hp
      · rename_i h3 h4
        cases n with
        | zero => simp [plainT] at hp
        | succ n =>
          unfold plainT at hp
          unfold Cell.okWide at hv
          split at hp <;> rename_i hu <;> simp [hu, Cell.ok] at hv
          all_goals first | exact absurd hu (hns _) | cases hp
    | _ => simpa [Value.cells] using hx

theorem args_rp {n : Nat} {b : Nat} : ∀ {ts : List TypeId} {vs : List Value} {ds : List (DataW H)} {ps : List MemPlace}, (ts.all fun t => plainT P n t) = true → (∀ (j : Nat) t v, ts[j]? = some t → vs[j]? = some v → Value.okWide P w .any b t v) →
    DataW.TrodAll enc P w 0 sp held ts vs ds ps → ∃ as, as.length = vs.length ∧ vs.length = ts.length ∧ ds.length = ts.length ∧ (∀ j, j < as.length → RP (fun _ => False) w (vs.getD j undef) (as.getD j .top)) ∧ shapesV P n ts as
  | [], vs, ds, ps, _, _, h => by
    obtain ⟨rfl, rfl, rfl⟩ := trodAll_nil h
    exact ⟨[], rfl, rfl, rfl, fun j hj => by simp at hj, rfl⟩
  | t :: ts, vs, ds, ps, hp, hv, h => by
    obtain ⟨v, vs', d, ds', p, q, rfl, rfl, rfl, h1, h2⟩ := trodAll_cons h
    simp only [List.all_cons, Bool.and_eq_true] at hp
    obtain ⟨a, r1, s1⟩ := arg_rp hp.1 (hv 0 t v rfl rfl) h1
    obtain ⟨as, l1, l2, l3, r2, s2⟩ := args_rp hp.2 (fun j t v h1 h2 => hv (j + 1) t v h1 h2) h2
    refine ⟨a :: as, by simp [l1], by simp [l2], by simp [l3], fun j hj => ?_, a, as, rfl, s1, s2⟩
    cases j with
    | zero => exact r1
    | succ j => exact r2 j (by simpa using hj)

theorem below_trodAll (hl : laidOutB P = true) {W W' : World} (hb : Below W.heap.size W W') : ∀ {ts : List TypeId} {vs : List Value} {ds : List (DataW H)} {ps : List MemPlace}, (ts.all fun t => P.readableRec t && decide (t < P.types.size)) = true →
    (∀ x ∈ ps, x.block < W.heap.size) → DataW.TrodAll enc P W 0 (fun _ => true) true ts vs ds ps → DataW.TrodAll enc P W' 0 (fun b => decide (b < W.heap.size)) true ts vs ds ps
  | [], vs, ds, ps, _, _, h => by
    obtain ⟨rfl, rfl, rfl⟩ := trodAll_nil h
    exact rfl
  | t :: ts, vs, ds, ps, hr, hlt, h => by
    obtain ⟨v, vs', d, ds', p, q, rfl, rfl, rfl, h1, h2⟩ := trodAll_cons h
    simp only [List.all_cons, Bool.and_eq_true, decide_eq_true_eq] at hr
    exact ⟨p, q, Below.trod hl hr.1.1 hr.1.2 h1 hb fun x hx => hlt x (by simp [hx]), below_trodAll hl hb hr.2 (fun x hx => hlt x (by simp [hx])) h2, rfl⟩

theorem trodAll_lt {W : World} : ∀ {ts : List TypeId} {vs : List Value} {ds : List (DataW H)} {ps : List MemPlace}, DataW.TrodAll enc P W 0 sp held ts vs ds ps → ∀ x ∈ ps, x.block < W.heap.size
  | [], vs, ds, ps, h => by
    obtain ⟨rfl, rfl, rfl⟩ := trodAll_nil h
    intro x hx; simp at hx
  | t :: ts, vs, ds, ps, h => by
    obtain ⟨v, vs', d, ds', p, q, rfl, rfl, rfl, ⟨m, hm⟩, h2⟩ := trodAll_cons h
    intro x hx
    rcases List.mem_append.1 hx with hx | hx
    · exact DataW.trod_lt m _ _ _ hm x hx
    · exact trodAll_lt h2 x hx
end

section
variable [Tabs]
/-- What a contract gives for a law. -/
theorem Runs.calls {P : Program} {g : FuncId} {args : List D} {b : Bool} (h : Runs P g args (.bool b)) {w : World} {vals : Array Value} (ht : TabOK w fun _ => False) (hl : vals.size = args.length)
    (hv : ∀ j, j < args.length → RP (fun _ => False) w (vals.getD j undef) (args.getD j .top)) : Calls P g vals w fun e w' => e = .returned (.bool b) ∧ Below w.heap.size w w' := by
  have hM : ∀ b, Mof (fun _ => False) (fun _ => 0) St0 b → False := by
    rintro b (h | ⟨k, o, hk, _⟩)
    · exact h
    · cases hk
  have hS : SimS (fun _ => False) w St0 (fun _ => 0) := ⟨fun b hb => hb.elim, (fun k o hk => by cases hk), (fun k k' o o' hk => by cases hk), (fun k o hk => by cases hk), ht.keep (Nat.le_refl _) (fun _ _ _ => rfl) fun b _ hb => hM b hb⟩
  refine (h.run _ w _ vals hS hl fun j hj => .pure ((hv j hj).keep (fun _ _ _ => rfl) fun b _ hb => hM b hb)).mono fun e w' hh => ?_
  obtain ⟨v, ι', rfl, k1, k2, k3, k4, k5, k6⟩ := hh
  have K0 : Kept w w' fun _ => False := k1.mono fun b _ ⟨k, o, hk, _⟩ => by cases hk
  rw [k6.bool_inv]
  exact ⟨rfl, K0.below⟩
end

theorem toList_getD (a : Array Value) (j : Nat) (d : Value) : a.getD j d = a.toList.getD j d := by
  simp [List.getD, Array.getD]
  by_cases h : j < a.size <;> simp [h]
/-- A law's row: it returned true, nothing that was there has turned. -/
theorem law_post {H : Type} {enc : TypeId × Value → H} {P : Program} {f : Func} {s : ChangeSpec} {W W' : World} {args : Array Value} {ds gs : List (DataW H)} {before : List MemPlace} {tb : TypeId}
    (hl : laidOutB P = true) (hr : (f.params.toList.all fun t => P.readableRec t && decide (t < P.types.size)) = true) (hb : f.resultTypes = #[tb]) (htb : P.underlying tb = some .bool) (hsv : s.vars = [])
    (hW : DataW.Whole enc P f.params.toList s.vars false W args.toList ds gs before) (hs : s.fn H (ds ++ gs) = { results := [.lit (.bool true)], args := ds }) (bel : Below W.heap.size W W') :
    s.post enc P f false true false false W args (.bool true) W' := by
  have hW' := hW
  obtain ⟨p, q, hA, hV, rfl, hfz, hnd⟩ := hW
  rw [hsv] at hV
  obtain ⟨rfl, rfl⟩ := trodVars_none hV
  have hA2 := below_trodAll hl bel hr (trodAll_lt hA) hA
  refine ⟨_, _, _, [], p, [], hW', ?_, ?_, ?_, bel.frame _, fun h => by cases h⟩
  · rw [hs, hb]
    exact trodAll_mk1 (shut_bool htb _)
  · rw [hs]
    exact hA2
  · rw [hs, hsv]
    rfl
end Go.Pd
