/-
  PURE DATA, part I: append, make, store, box in the model. Over any program.
-/
import Derived.Test.YtkinhajadppfaaaDoorPdH
namespace Go.Pd
open Go
set_option linter.unusedSectionVars false
variable [Tabs]
set_option linter.unusedSimpArgs false
set_option linter.unusedVariables false

section
variable {P : Program}

theorem append_zero {w : World} {t ty e : TypeId} {i : TypeInfo} (ht : P.underlying t = some (.slice e)) (hi : P.info? e = some i) (b ax : Option Addr) (n c cx : Nat) (hnc : n ≤ c) :
    (Builtin.append_ #[t, t] ty #[.slice b n c, .slice ax 0 cx]).run P w = .ok (.slice b n c) w := by
  cases b <;> cases ax <;> simp [Builtin.append_, run_underlying ht, sizeOf, typeInfo, hi, Builtin.lenOf, hnc, Builtin.firstCells, loadCells, loadCellsFrom, storeCells]

theorem append_room {w : World} {t ty e e' : TypeId} {i : TypeInfo} (ht : P.underlying t = some (.slice e)) (hi : P.info? e = some i)
    (g sLen sCap : Nat) (cur : Array Value) (hg : w.heap[g]? = some (Obj.cells cur e' (0, 0)))
    (a : Addr) (m c : Nat) (news : List Value) (hl : news.length = m * i.size) (hnews : ∀ j u, news[j]? = some u → w.cell? (a.add j) = some u) (h1 : ∀ u ∈ news, u.oneCell' = true)
    (hroom : sLen + m ≤ sCap) (hfit : sLen * i.size + news.length ≤ cur.size) :
    (Builtin.append_ #[t, t] ty #[.slice (some ⟨g, 0, none⟩) sLen sCap, .slice (some a) m c]).run P w =
      .ok (.slice (some ⟨g, 0, none⟩) (sLen + m) sCap) (w.setRow g (cur.toList.take (sLen * i.size) ++ news ++ cur.toList.drop (sLen * i.size + news.length)).toArray) := by
  have hf := run_firstCells_some (P := P) w i.size m a m c news hl hnews
  have hst := run_storeCells_at P g (sLen * i.size) e' news 0 cur w hg (by simpa using hfit) h1
  simp only [Nat.add_zero] at hst
  simp [Builtin.append_, run_underlying ht, sizeOf, typeInfo, hi, Builtin.lenOf, hroom, hf, Addr.add_lit, hst]
end

section
variable {M : Nat → Prop} {w : World} {ι : Nat → Nat} {n : Nat}

/-- Rows of data at the head of a block's cells. -/
structure RowsIn (M : Nat → Prop) (w : World) (ι : Nat → Nat) (n sz : Nat) (cur : Nat → Value) (els : List (List D)) : Prop where
  len : ∀ el ∈ els, el.length = sz
  cell : ∀ i, i < els.length → ∀ j, j < sz → (cur (i * sz + j)).oneCell' = true ∧ R M w ι n (cur (i * sz + j)) ((els.getD i []).getD j .top)

theorem RowsIn.congr {sz : Nat} {cur cur' : Nat → Value} {els : List (List D)} (h : RowsIn M w ι n sz cur els) (he : ∀ q, q < els.length * sz → cur' q = cur q) : RowsIn M w ι n sz cur' els :=
  ⟨h.len, fun i hi j hj => by rw [he _ (lin_lt hi hj)]; exact h.cell i hi j hj⟩

theorem RowsIn.take {sz : Nat} {cur : Nat → Value} {els : List (List D)} (h : RowsIn M w ι n sz cur els) (m : Nat) : RowsIn M w ι n sz cur (els.take m) := by
  refine ⟨fun el he => h.len el (List.mem_of_mem_take he), fun i hi j hj => ?_⟩
  simp only [List.length_take] at hi
  have e : (els.take m).getD i [] = els.getD i [] := by
    have : i < m := by omega
    simp [List.getD, List.getElem?_take, this]
  rw [e]
  exact h.cell i (by omega) j hj

theorem RowsIn.append {sz : Nat} {cur cur2 cur' : Nat → Value} {els els2 : List (List D)} (h : RowsIn M w ι n sz cur els) (h2 : RowsIn M w ι n sz cur2 els2)
    (he : ∀ q, q < els.length * sz → cur' q = cur q) (he2 : ∀ q, q < els2.length * sz → cur' (els.length * sz + q) = cur2 q) : RowsIn M w ι n sz cur' (els ++ els2) := by
  refine ⟨fun el hm => ?_, fun i hi j hj => ?_⟩
  · rcases List.mem_append.1 hm with hm | hm
    · exact h.len el hm
    · exact h2.len el hm
  · simp only [List.length_append] at hi
    by_cases hlt : i < els.length
    · have e : (els ++ els2).getD i [] = els.getD i [] := by simp only [List.getD, List.getElem?_append_left hlt]
      rw [e, he _ (lin_lt hlt hj)]
      exact h.cell i hlt j hj
    · have e : (els ++ els2).getD i [] = els2.getD (i - els.length) [] := by
        simp only [List.getD]
        rw [List.getElem?_append_right (by omega)]
      have hlt2 : i - els.length < els2.length := by omega
      have e2 : i * sz + j = els.length * sz + ((i - els.length) * sz + j) := by
        have : i = els.length + (i - els.length) := by omega
        conv => lhs; rw [this, Nat.add_mul]
        omega
      rw [e, e2, he2 _ (lin_lt hlt2 hj)]
      exact h2.cell _ hlt2 j hj

theorem RowsIn.of_holds {key : Nat} {ob : Ob} (h : HoldsO M w ι n key ob) : ∃ (cur : Array Value) (e : TypeId), w.heap[ι key]? = some (Obj.cells cur e (0, 0)) ∧ ob.els.length * ob.sz ≤ cur.size ∧ RowsIn M w ι n ob.sz (fun q => cur.getD q undef) ob.els := by
  obtain ⟨cur, e, h1, h2, h3, h4⟩ := h
  exact ⟨cur, e, h1, h3, h2, h4⟩

/-- Where the rows of a second operand lie. -/
theorem rows_src {M0 : Nat → Prop} {σ : St} {sz : Nat} {y : D} {rows : List (List D)} {v : Value} (hS : SimS M0 w σ ι) (hr : R (Mof M0 ι σ) w ι σ.nx v y) (hrows : rowsOf σ sz y = some rows) (hone : ∀ r ∈ rows, oneAll r = true) :
    ∃ ad c, v = .slice ad rows.length c ∧ (rows = [] ∨ ∃ b off, ad = some ⟨b, off, none⟩ ∧ ∃ vs : Nat → Value, (∀ q, q < rows.length * sz → w.cell? ⟨b, off + q, none⟩ = some (vs q)) ∧ RowsIn (Mof M0 ι σ) w ι σ.nx sz vs rows) := by
  have oneget : ∀ (r : List D) (j : Nat), oneAll r = true → j < r.length → (r.getD j .top).one = true := by
    intro r j h hj
    have : r.getD j .top = r[j] := by simp [List.getD, hj]
    rw [this]
    exact List.all_eq_true.1 h _ (List.getElem_mem hj)
  unfold rowsOf at hrows
  split at hrows
  · rename_i sz' els
    split at hrows
    · rename_i he
      subst he
      simp at hrows; subst hrows
      rcases hr.sl_inv with ⟨ad, cap, e1, rfl, hcap⟩ | ⟨b, off, cap, vs, e1, g1, g2, g3, g4, g5, g6, g7⟩
      · exact ⟨ad, cap, e1, .inl rfl⟩
      · refine ⟨_, cap, e1, .inr ⟨b, off, rfl, fun q => vs (q / sz) (q % sz), fun q hq => ?_, g5, fun i hi j hj => ?_⟩⟩
        · have h1 : q / sz < els.length := (Nat.div_lt_iff_lt_mul g1).2 hq
          have h2 : q % sz < sz := Nat.mod_lt _ g1
          have := g6 _ h1 _ h2
          have e : off + q / sz * sz + q % sz = off + q := by
            have := Nat.div_add_mod q sz
            rw [Nat.mul_comm] at this
            omega
          rw [e] at this
          exact this
        · have e1 : (i * sz + j) / sz = i := by rw [Nat.mul_comm, Nat.mul_add_div g1, Nat.div_eq_of_lt hj, Nat.add_zero]
          have e2 : (i * sz + j) % sz = j := by rw [Nat.mul_comm, Nat.mul_add_mod]; exact Nat.mod_eq_of_lt hj
          simp only [e1, e2]
          have hr := R.pure (ι := ι) (n := σ.nx) (g7 i hi j hj)
          have hmem : els.getD i [] ∈ els := by simp [List.getD, hi]
          exact ⟨one_rel hr (oneget _ _ (hone _ hmem) (by rw [g5 _ hmem]; exact hj)), hr⟩
    · simp at hrows
  · simp at hrows; subst hrows
    exact ⟨none, 0, hr.nils_inv, .inl rfl⟩
  · simp at hrows; subst hrows
    obtain ⟨ad, cap, e1⟩ := hr.emp_inv
    exact ⟨_, cap, e1, .inl rfl⟩
  · rename_i key sz' m
    split at hrows
    · rename_i he
      subst he
      split at hrows
      · rename_i ob hob
        split at hrows
        · rename_i hc
          obtain ⟨hc1, hc2⟩ := hc
          simp at hrows; subst hrows
          obtain ⟨cap, cur, e, e1, k1, k2, k3, k4, k5⟩ := hr.osl_inv
          obtain ⟨_, cur', e', h1, h2, h3, h4⟩ := hS.holds key ob hob
          rw [k4] at h1
          simp at h1
          obtain ⟨rfl, rfl⟩ := h1
          have hlen : (ob.els.take m).length = m := by simp; omega
          rw [hlen]
          refine ⟨_, _, e1, .inr ⟨ι key, 0, rfl, fun q => cur.getD q undef, fun q hq => ?_, ?_⟩⟩
          · have : m * sz ≤ cap * sz := Nat.mul_le_mul_right _ k2
            have hq' : q < cur.size := by omega
            rw [cell_of_row _ _ _ _ _ _ k4, Nat.zero_add]
            simp [hq']
          · have := RowsIn.take (M := Mof M0 ι σ) (w := w) (ι := ι) (n := σ.nx) (sz := ob.sz) (cur := fun q => cur.getD q undef) ⟨h2, h4⟩ m
            rw [hc1] at this
            exact this
        · simp at hrows
      · simp at hrows
    · simp at hrows
  · simp at hrows
end

theorem oneAll_get {r : List D} (h : oneAll r = true) {j : Nat} (hj : j < r.length) : (r.getD j .top).one = true := by
  have : r.getD j .top = r[j] := by simp [List.getD, hj]
  rw [this]
  exact List.all_eq_true.1 h _ (List.getElem_mem hj)

theorem rows_one {M : Nat → Prop} {w : World} {ι : Nat → Nat} {n : Nat} {cs : Array Value} {ds : List D} (h : CRel M w ι n cs ds) (hone : oneAll ds = true) : RowsIn M w ι n ds.length (fun q => cs.getD q undef) [ds] := by
  refine ⟨by simp, fun i hi j hj => ?_⟩
  have : i = 0 := by simp at hi; exact hi
  subst this
  have hr := h.2 j hj
  have e : 0 * ds.length + j = j := by simp
  simp only [e]
  exact ⟨one_rel hr (oneAll_get hone hj), hr⟩

/-- The state with an object set anew, in its own block. -/
theorem SimS.set {M0 : Nat → Prop} {w : World} {σ : St} {ι : Nat → Nat} {key : Nat} {ob ob' : Ob} {cur cur' : Array Value} {e : TypeId} (h : SimS M0 w σ ι) (hob : σ.get key = some ob) (hc : w.heap[ι key]? = some (Obj.cells cur e (0, 0))) (hsz : cur'.size = cur.size)
    (hfit : ob'.els.length * ob'.sz ≤ cur.size) (hrows : RowsIn (Mof M0 ι σ) w ι σ.nx ob'.sz (fun q => cur'.getD q undef) ob'.els) :
    SimS M0 (w.setRow (ι key) cur') (σ.set key ob') ι ∧ Kept w (w.setRow (ι key) cur') (Own ι σ) := by
  have hk : Kept w (w.setRow (ι key) cur') (Own ι σ) := by
    refine ⟨rfl, rfl, rfl, by simp, fun b hb hn => setRow_other _ _ _ _ fun e => hn ⟨key, ob, hob, e.symm⟩, fun b c t hbc => ?_⟩
    by_cases hbk : b = ι key
    · subst hbk
      rw [hc] at hbc
      simp at hbc
      obtain ⟨rfl, rfl⟩ := hbc
      exact ⟨cur', setRow_heap _ _ _ _ _ _ hc, hsz⟩
    · exact ⟨c, by rw [setRow_other _ _ _ _ hbk]; exact hbc, rfl⟩
  refine ⟨(h.renew (ob := ob') (σ2 := σ.set key ob') (ι' := ι) key hk (Nat.le_refl _) (h.holds key ob hob).1 (fun _ _ => rfl) (fun k o hko => ?_) (fun _ _ => rfl) (.inr ⟨key, ob, hob, rfl⟩) (h.notM key ob hob) (fun k o hko hne => ?_) (fun k o hko hne => ?_) ?_).1, hk⟩
  · rw [look_set] at hko
    split at hko
    · rename_i he
      subst he
      rw [hob] at hko
      simp at hko
      exact .inl ⟨rfl, hko.symm⟩
    · rename_i he
      exact .inr ⟨fun e => he e.symm, hko⟩
  · rw [look_set, if_neg (fun e => hne e.symm)] at hko
    exact fun e => hne (h.inj k key o ob hko hob e)
  · rw [look_set, if_neg (fun e => hne e.symm)] at hko
    exact setRow_other _ _ _ _ fun e => hne (h.inj k key o ob hko hob e)
  · exact ⟨cur', e, setRow_heap _ _ _ _ _ _ hc, hrows.len, by rw [hsz]; exact hfit, hrows.cell⟩
end Go.Pd
