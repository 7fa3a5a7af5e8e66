/-
  PURE DATA, part G: a still operation over data is sound in the model. Over any program.
-/
import Derived.Test.YtkinhajadppfaaaDoorPdF
namespace Go.Pd
open Go
set_option linter.unusedSectionVars false
variable [Tabs]
set_option linter.unusedSimpArgs false
set_option linter.unusedVariables false

theorem Own.lt {M0 : Nat → Prop} {w : World} {σ : St} {ι : Nat → Nat} (h : SimS M0 w σ ι) {b : Nat} (hb : Own ι σ b) : b < w.heap.size := by
  obtain ⟨k, o, hk, rfl⟩ := hb
  obtain ⟨_, cur, e, hc, _⟩ := h.holds k o hk
  exact (Array.getElem?_eq_some_iff.1 hc).1

theorem Mof.lt {M0 : Nat → Prop} {w : World} {σ : St} {ι : Nat → Nat} (h : SimS M0 w σ ι) {b : Nat} (hb : Mof M0 ι σ b) : b < w.heap.size := by
  rcases hb with hb | hb
  · exact h.old b hb
  · exact Own.lt h hb

theorem HoldsO.keep {M M' : Nat → Prop} {w w' : World} {ι ι' : Nat → Nat} {n n' key : Nat} {o : Ob} (h : HoldsO M w ι n key o) (hsame : w'.heap[ι key]? = w.heap[ι key]?) (hi0 : ι' key = ι key)
    (hb : ∀ b, b < w.heap.size → ¬ M b → w'.heap[b]? = w.heap[b]?) (hM : ∀ b, b < w.heap.size → M' b → M b)
    (hs : ∀ (b : Nat) (cur : Array Value) (e : TypeId), w.heap[b]? = some (Obj.cells cur e (0, 0)) → ∃ cur' : Array Value, w'.heap[b]? = some (Obj.cells cur' e (0, 0)) ∧ cur'.size = cur.size)
    (hi : ∀ k, k < n → ι' k = ι k) (hn : n ≤ n') : HoldsO M' w' ι' n' key o := by
  obtain ⟨cur, e, h1, h2, h3, h4⟩ := h
  exact ⟨cur, e, by rw [hi0, hsame]; exact h1, h2, h3, fun i hi' j hj => ⟨(h4 i hi' j hj).1, (h4 i hi' j hj).2.keep hb hM hs hi hn⟩⟩

/-- Nothing that was there has turned: the state holds. -/
theorem SimS.ext {M0 : Nat → Prop} {w w' : World} {σ : St} {ι : Nat → Nat} (h : SimS M0 w σ ι) (hk : Kept w w' fun _ => False) : SimS M0 w' σ ι :=
  ⟨fun b hb => Nat.lt_of_lt_of_le (h.old b hb) hk.size,
   fun k o hko => ⟨(h.holds k o hko).1, (h.holds k o hko).2.keep (hk.block _ (Own.lt h ⟨k, o, hko, rfl⟩) id) rfl (fun b hb _ => hk.block b hb id) (fun _ _ h => h) hk.shape (fun _ _ => rfl) (Nat.le_refl _)⟩,
   h.inj, h.notM, h.tabs.keep hk.size (fun b hb _ => hk.block b hb id) (fun _ _ h => h)⟩

theorem Kept.none {w w' : World} (hk : Kept w w' fun _ => False) (K : Nat → Prop) : Kept w w' K := hk.mono fun _ _ h => h.elim

/-- The world behind a call that left the state: the state holds where it did. -/
theorem SimS.back {M0 : Nat → Prop} {w' : World} {σ : St} {ι ι' : Nat → Nat} (h : SimS M0 w' σ ι') (hi : ∀ k, k < σ.nx → ι' k = ι k) : SimS M0 w' σ ι := by
  have hown : ∀ b, Mof M0 ι σ b → Mof M0 ι' σ b := by
    intro b hb
    rcases hb with hb | ⟨k, o, hk, rfl⟩
    · exact .inl hb
    · exact .inr ⟨k, o, hk, hi k (h.holds k o hk).1⟩
  refine ⟨h.old, fun k o hk => ⟨(h.holds k o hk).1, ?_⟩, fun k k' o o' hk hk' e => ?_, fun k o hk => ?_, h.tabs.keep (Nat.le_refl _) (fun _ _ _ => rfl) fun b _ hb => hown b hb⟩
  · exact (h.holds k o hk).2.keep rfl (hi k (h.holds k o hk).1).symm (fun _ _ _ => rfl) (fun b _ hb => hown b hb) (fun b cur e hc => ⟨cur, hc, rfl⟩) (fun k hk => (hi k hk).symm) (Nat.le_refl _)
  · exact h.inj k k' o o' hk hk' (by rw [hi k (h.holds k o hk).1, hi k' (h.holds k' o' hk').1]; exact e)
  · rw [← hi k (h.holds k o hk).1]; exact h.notM k o hk

theorem mkOpds_sound {M : Nat → Prop} {w : World} {ι : Nat → Nat} {n N : Nat} {a : Act} {ev : Opd → D} (hR : ∀ x y, mkOpd N x = some y → R M w ι n (a.eval x) (ev y)) {xs : Array Operand} {ys : List Opd} (h : mapO (mkOpd N) xs.toList = some ys) :
    (xs.map a.eval).size = (ys.map ev).length ∧ ∀ j, j < (ys.map ev).length → R M w ι n ((xs.map a.eval).getD j undef) ((ys.map ev).getD j .top) := by
  obtain ⟨hl, hg⟩ := mapO_spec h
  have hl' : ys.length = xs.size := by simpa using hl
  refine ⟨by simp [hl'], fun j hj => ?_⟩
  simp only [List.length_map] at hj
  have hj' : j < xs.size := by omega
  obtain ⟨b, hb, hf⟩ := hg j xs[j] (by simp [hj'])
  have e1 : (ys.map ev).getD j .top = ev b := by simp [List.getD, hb]
  have e2 : (xs.map a.eval).getD j undef = a.eval xs[j] := by simp [hj']
  rw [e1, e2]
  exact hR _ _ hf

theorem run_callFunc {P : Program} {g : FuncId} (hg : Ordinary P g) (vals : Array Value) (w : World) : (callFunc g vals).run P w = .ok (.enter g vals) w := by
  obtain ⟨fn, h1, h2, h3⟩ := hg
  have h2' : ¬ fn.name = "runtime.NumGoroutine" := by simpa using h2
  have h3' : ¬ fn.body = none := by intro e; simp [e] at h3
  simp [callFunc, Sem.run, program, h1, h2', h3']

section
variable {C : Cx} {M0 : Nat → Prop} {w : World} {σ : St} {ι : Nat → Nat} {a : Act} {o : Oper} {ev : Opd → D} {K : D → Prop} {next : Act → World → Prop} {Q : Exit → Act → World → Prop}

theorem call_sound {g : FuncId} {vals : Array Value} {args : List D} {d : D} {σ' : St} (ho : (execOp a.eval o).run C.P w = .ok (.enter g vals) w) (hc : CallT C.P g args σ d σ') (hS : SimS M0 w σ ι)
    (hl : vals.size = args.length) (hv : ∀ j, j < args.length → R (Mof M0 ι σ) w ι σ.nx (vals.getD j undef) (args.getD j .top))
    (hn : ∀ v w' ι', Kept w w' (Own ι σ) → SimS M0 w' σ' ι' → σ.nx ≤ σ'.nx → (∀ k, k < σ.nx → ι' k = ι k) → (∀ k o, σ'.get k = some o → w.heap.size ≤ ι' k ∨ Own ι σ (ι' k)) → R (Mof M0 ι' σ') w' ι' σ'.nx v d → next (a.put o.dst v) w') : o.wp C.P a w next Q := by
  unfold Oper.wp
  rw [ho]
  simp only [Oper.upon]
  refine (hc.run M0 w ι vals hS hl hv).mono fun e w' hh => ?_
  obtain ⟨v, ι', rfl, h1, h2, h3, h4, h5, h6⟩ := hh
  exact hn v w' ι' h1 h2 h3 h4 h5 h6

/-- THE STILL OPERATIONS ARE SOUND. -/
theorem pW_sound {k : DK} (hk : mkK C.P C.N C.own o = some k) (h : pW C σ ev k K) (hS : SimS M0 w σ ι) (hR : ∀ x y, mkOpd C.N x = some y → R (Mof M0 ι σ) w ι σ.nx (a.eval x) (ev y))
    (hn : ∀ v d w', K d → Kept w w' (Own ι σ) → SimS M0 w' σ ι → R (Mof M0 ι σ) w' ι σ.nx v d → next (a.put o.dst v) w') : o.wp C.P a w next Q := by
  have fin : ∀ v d, Yields C.P o a w v → K d → R (Mof M0 ι σ) w ι σ.nx v d → o.wp C.P a w next Q := fun v d hy hK hr => wp_val hy (hn v d w hK (Kept.refl _ _) hS hr)
  cases hop : o.op <;> simp only [mkK, hop] at hk <;> try (simp at hk; done)
  case move x =>
    simp only [Option.map_eq_some_iff] at hk
    obtain ⟨x', hx, rfl⟩ := hk
    exact fin _ _ (y_move (.inl hop)) h (hR _ _ hx)
  case assign x =>
    simp only [Option.map_eq_some_iff] at hk
    obtain ⟨x', hx, rfl⟩ := hk
    exact fin _ _ (y_move (.inr hop)) h (hR _ _ hx)
  case pick c x y =>
    simp only [Option.bind_eq_bind, Option.bind_eq_some_iff, Option.pure_def, Option.some.injEq] at hk
    obtain ⟨c', hc, x', hx, y', hy, rfl⟩ := hk
    simp only [pW] at h
    split at h
    · rename_i t ht
      have h1 := (ht ▸ hR _ _ hc).bool_inv
      cases t
      · exact fin _ _ (y_pick hop h1) ((iteb h).2 rfl) (by simpa using hR _ _ hy)
      · exact fin _ _ (y_pick hop h1) ((iteb h).1 rfl) (by simpa using hR _ _ hx)
    · exact h.elim
  case alloc e =>
    simp only [Option.bind_eq_bind, Option.bind_eq_some_iff, Option.pure_def, Option.some.injEq] at hk
    obtain ⟨z, _, rfl⟩ := hk
    simp [pW] at h
  case box t x =>
    simp only [Option.bind_eq_bind, Option.bind_eq_some_iff, Option.pure_def, Option.some.injEq] at hk
    obtain ⟨z, _, rfl⟩ := hk
    simp [pW] at h
  case store t x y =>
    simp only [Option.bind_eq_bind, Option.bind_eq_some_iff, Option.pure_def, Option.some.injEq] at hk
    obtain ⟨z, _, x', _, y', _, rfl⟩ := hk
    simp [pW] at h
  case makeSlice t l c =>
    simp only [Option.bind_eq_bind, Option.bind_eq_some_iff, Option.pure_def, Option.some.injEq] at hk
    obtain ⟨_, _, _, _, _, _, _, _, _, _, _, _, hk⟩ := hk
    split at hk
    · simp at hk; subst hk; simp [pW] at h
    · simp at hk
  case unOp op t x =>
    simp only [Option.bind_eq_bind, Option.bind_eq_some_iff, Option.pure_def, Option.some.injEq] at hk
    obtain ⟨x', hx, hk⟩ := hk
    cases op <;> simp [mkUn] at hk <;> subst hk
    · simp only [pW] at h
      split at h
      · rename_i k b hb
        exact fin _ _ (y_neg hop (hb ▸ hR _ _ hx).int_inv.1) h (.pure (.wrap _ _))
      · exact h.elim
    · simp only [pW] at h
      split at h
      · rename_i b hb
        exact fin _ _ (y_not hop (hb ▸ hR _ _ hx).bool_inv) h (.pure (.bool _))
      · exact h.elim
  case binOp op t x y u =>
    simp only [Option.bind_eq_bind, Option.bind_eq_some_iff, Option.pure_def, Option.some.injEq] at hk
    obtain ⟨x', hx, y', hy, hk⟩ := hk
    have hX := hR _ _ hx
    have hY := hR _ _ hy
    unfold mkBin at hk
    split at hk
    · rename_i ht
      have key : ∀ neg : Bool, (op = .eql ∨ op = .neq) → (neg = true ↔ op = .neq) → pW C σ ev (.beq neg x' y') K → o.wp C.P a w next Q := by
        intro neg hop' hneg h
        simp only [pW] at h
        split at h
        · rename_i b c hb hc
          rw [hb] at hX
          rw [hc] at hY
          have := y_beq (w := w) hop hop' ht hX.bool_inv hY.bool_inv
          refine fin _ _ this ?_ (.pure (.bool _))
          cases neg
          · have hne : ¬ op = .neq := fun e => by have := hneg.2 e; simp at this
            simpa [hne] using h
          · have he := hneg.1 rfl
            simpa [he] using h
        · exact h.elim
      split at hk
      · rename_i he
        simp at hk; subst hk
        exact key false (.inl he) (by simp [he]) h
      · split at hk
        · rename_i he
          simp at hk; subst hk
          exact key true (.inr he) (by simp [he]) h
        · simp at hk
    · rename_i e ht
      have key : ∀ neg : Bool, (op = .eql ∨ op = .neq) → (neg = true ↔ op = .neq) → pW C σ ev (.nileq neg x' y') K → o.wp C.P a w next Q := by
        intro neg hop' hneg h
        have fix : ∀ b : Bool, (if op = .neq then !b else b) = (if neg then !b else b) := by
          intro b
          cases neg
          · have hne : ¬ op = .neq := fun e => by have := hneg.2 e; simp at this
            simp [hne]
          · simp [hneg.1 rfl]
        simp only [pW] at h
        split at h
        · rename_i hb hc
          rw [hb] at hX
          rw [hc] at hY
          have := y_nileq (w := w) hop hop' ht hX.nils_inv hY.nils_inv (.inl rfl)
          rw [fix] at this
          refine fin _ _ this ?_ (.pure (.bool _))
          cases neg <;> simpa using h
        · rename_i k sz l hb hc
          rw [hb] at hX
          rw [hc] at hY
          obtain ⟨cap, cur, e, h1, _⟩ := hX.osl_inv
          have := y_nileq (w := w) hop hop' ht h1 hY.nils_inv (.inr rfl)
          rw [fix] at this
          refine fin _ _ this ?_ (.pure (.bool _))
          cases neg <;> simpa using h
        · rename_i k sz l hb hc
          rw [hb] at hX
          rw [hc] at hY
          obtain ⟨cap, cur, e, h1, _⟩ := hY.osl_inv
          have := y_nileq (w := w) hop hop' ht hX.nils_inv h1 (.inl rfl)
          rw [fix] at this
          refine fin _ _ this ?_ (.pure (.bool _))
          cases neg <;> simpa using h
        · rename_i hb hc
          rw [hb] at hX
          rw [hc] at hY
          obtain ⟨ad, cap, h1⟩ := hX.emp_inv
          have := y_nileq (w := w) hop hop' ht h1 hY.nils_inv (.inr rfl)
          rw [fix] at this
          refine fin _ _ this ?_ (.pure (.bool _))
          cases neg <;> simpa using h
        · rename_i hb hc
          rw [hb] at hX
          rw [hc] at hY
          obtain ⟨ad, cap, h1⟩ := hY.emp_inv
          have := y_nileq (w := w) hop hop' ht hX.nils_inv h1 (.inl rfl)
          rw [fix] at this
          refine fin _ _ this ?_ (.pure (.bool _))
          cases neg <;> simpa using h
        · rename_i sz e r hb hc
          rw [hb] at hX
          rw [hc] at hY
          rcases hX.sl_inv with ⟨_, _, _, e0, _⟩ | ⟨b, off, cap, vs, h1, _⟩
          · cases e0
          have := y_nileq (w := w) hop hop' ht h1 hY.nils_inv (.inr rfl)
          rw [fix] at this
          refine fin _ _ this ?_ (.pure (.bool _))
          cases neg <;> simpa using h
        · exact h.elim
      split at hk
      · rename_i he
        simp at hk; subst hk
        exact key false (.inl he) (by simp [he]) h
      · split at hk
        · rename_i he
          simp at hk; subst hk
          exact key true (.inr he) (by simp [he]) h
        · simp at hk
    · simp at hk; subst hk
      simp only [pW] at h
      split at h
      · rename_i k p k' q hb hc
        rw [hb] at hX
        rw [hc] at hY
        obtain ⟨v, d, h1, h2, h3⟩ := y_bin (P := C.P) (w := w) hop hX.int_inv.1 hY.int_inv.1 hX.int_inv.2 h
        exact fin v d h1 h2 (.pure (h3 _))
      · exact h.elim
    · simp at hk
  case convert s t x =>
    split at hk
    · rename_i ks k hs ht
      simp only [Option.bind_eq_bind, Option.bind_eq_some_iff, Option.pure_def, Option.some.injEq] at hk
      obtain ⟨x', hx, rfl⟩ := hk
      simp only [pW] at h
      split at h
      · rename_i k' m hb
        exact fin _ _ (y_conv hop hs ht (hb ▸ hR _ _ hx).int_inv.1) h (.pure (.wrap _ _))
      · exact h.elim
    · simp at hk
  case makeFunc fn first caps =>
    split at hk
    · rename_i f
      simp only [Option.bind_eq_bind, Option.bind_eq_some_iff, Option.pure_def, Option.some.injEq] at hk
      obtain ⟨cs, hc, hk⟩ := hk
      split at hk
      · rename_i hf
        simp at hk; subst hk
        subst hf
        obtain ⟨h1, h2⟩ := mkOpds_sound hR hc
        exact fin _ _ (y_mkf hop) h (.fn h1 h2)
      · simp at hk
    · simp at hk
  case extract x i =>
    simp only [Option.bind_eq_bind, Option.bind_eq_some_iff, Option.pure_def, Option.some.injEq] at hk
    obtain ⟨x', hx, rfl⟩ := hk
    simp only [pW] at h
    split at h
    · rename_i vs hb
      obtain ⟨us, h1, h2, h3⟩ := (hb ▸ hR _ _ hx).tup_inv
      exact fin _ _ (y_extr hop h1 (by rw [h2]; exact h.1)) h.2 (h3 i h.1)
    · exact h.elim
  case fieldAddr t x i =>
    simp only [Option.bind_eq_bind, Option.bind_eq_some_iff, Option.pure_def, Option.some.injEq] at hk
    obtain ⟨q, hq, z', hz, z, hz', x', hx, rfl⟩ := hk
    unfold fieldB at hq
    split at hq
    · rename_i fs ht
      simp only [Option.map_eq_some_iff] at hq
      obtain ⟨f, hf, rfl⟩ := hq
      simp only [sizeB, Option.map_eq_some_iff] at hz
      obtain ⟨inf, hi, rfl⟩ := hz
      have hs : 0 < inf.size := by unfold posB at hz'; split at hz' <;> simp_all
      simp only [pW] at h
      split at h
      · rename_i key sz j off hb
        obtain ⟨h1, h2⟩ := (hb ▸ hR _ _ hx).ref_inv
        have := y_fld (w := w) hop ht hf hi hs h1
        rw [Nat.add_assoc] at this
        exact fin _ _ this h (.ref h2)
      · rename_i cs hb
        obtain ⟨b, off, vs, h1, h2, h3, h4, h5⟩ := (hb ▸ hR _ _ hx).ptr_inv
        refine fin _ _ (y_fld (w := w) hop ht hf hi hs h1) h.2 (.pure (.ptr (fun j => vs (f.offset + j)) (by simp; omega) h3 (fun j hj => ?_) (fun j hj => ?_)))
        · simp at hj
          have := h4 (f.offset + j) (by omega)
          rw [← Nat.add_assoc] at this
          exact this
        · simp at hj
          have := h5 (f.offset + j) (by omega)
          simpa [List.getD] using this
      · exact h.elim
    · simp at hq
  case indexAddr t x y =>
    simp only [Option.bind_eq_bind, Option.bind_eq_some_iff, Option.pure_def, Option.some.injEq] at hk
    obtain ⟨e, he, z', hz, sz, hz', x', hx, y', hy, rfl⟩ := hk
    unfold sliceB at he
    split at he
    · rename_i e' ht
      simp at he; subst he
      simp only [sizeB, Option.map_eq_some_iff] at hz
      obtain ⟨inf, hi, rfl⟩ := hz
      have hs : 0 < inf.size ∧ sz = inf.size := by unfold posB at hz'; split at hz' <;> simp_all
      obtain ⟨hs, rfl⟩ := hs
      have hX := hR _ _ hx
      have hY := hR _ _ hy
      simp only [pW] at h
      split at h
      · rename_i sz' els k p hb hc
        rw [hb] at hX
        rw [hc] at hY
        obtain ⟨h1, h2, h3, h4⟩ := h
        subst h1
        rcases hX.sl_inv with ⟨ad, cap, e1, rfl, hcap⟩ | ⟨b, off, cap, vs, e1, g1, g2, g3, g4, g5, g6, g7⟩
        · simp at h3; omega
        · have hp : p.toNat < els.length := by omega
          have hl : (els.getD p.toNat []).length = inf.size := by
            have : els.getD p.toNat [] = els[p.toNat] := by simp [List.getD, hp]
            rw [this]
            exact g5 _ (List.getElem_mem hp)
          refine fin _ _ (y_idx_sl hop ht hi e1 hY.int_inv.1 h2 h3) h4 (.pure (.ptr (fun j => vs p.toNat j) (by omega) g2 (fun j hj => ?_) (fun j hj => ?_)))
          · exact g6 _ hp j (by omega)
          · exact g7 _ hp j (by omega)
      · rename_i key sz' len k p hb hc
        rw [hb] at hX
        rw [hc] at hY
        obtain ⟨h1, h2, h3, h4⟩ := h
        subst h1
        obtain ⟨cap, cur, e, e1, e2, _⟩ := hX.osl_inv
        have := y_idx_sl (w := w) hop ht hi e1 hY.int_inv.1 h2 h3
        rw [Nat.zero_add] at this
        exact fin _ _ this h4 (R.ref (sz := inf.size) (i := p.toNat) (off := 0) e2)
      · exact h.elim
    · simp at he
  case load t x =>
    simp only [Option.bind_eq_bind, Option.bind_eq_some_iff, Option.pure_def, Option.some.injEq] at hk
    obtain ⟨ag, hag, n, hn', x', hx, hk⟩ := hk
    split at hk
    · rename_i hagn
      simp at hk; subst hk
      simp only [sizeB, Option.map_eq_some_iff] at hn'
      obtain ⟨inf, hi, rfl⟩ := hn'
      have htd : ∃ td, C.P.underlying t = some td := by
        unfold isAggB at hag
        cases hu : C.P.underlying t with
        | none => simp [hu] at hag
        | some td => exact ⟨td, rfl⟩
      obtain ⟨td, htd⟩ := htd
      -- cells that are read
      have go : ∀ (ad : Addr) (vs : List Value) (ds : List D), a.eval x = .pointer (some ad) → vs.length = inf.size → ds.length = inf.size → (∀ j v, vs[j]? = some v → w.cell? (ad.add j) = some v) →
          (∀ j, j < inf.size → R (Mof M0 ι σ) w ι σ.nx (vs.getD j undef) (ds.getD j .top)) → (ag = true ∨ inf.size = 1) → K (packD ag ds) → o.wp C.P a w next Q := by
        intro ad vs ds hX hl hl' hc hr hone hK
        cases ag with
        | true =>
          refine fin _ _ (y_loadN hop htd hag hi hl hX hc) hK ?_
          refine .agg (by simp [hl, hl']) fun j hj => ?_
          rw [hl'] at hj
          have := hr j hj
          simpa using this
        | false =>
          have h1 : inf.size = 1 := by simpa using hone
          match vs, hl with
          | [], hl => simp at hl; omega
          | v :: r, hl =>
            have hc0 := hc 0 v rfl
            have e0 : ad.add 0 = ad := by simp [Addr.add]
            rw [e0] at hc0
            have hr0 := hr 0 (by omega)
            match ds, hl' with
            | [], hl' => simp at hl'; omega
            | d :: r', hl' => exact fin _ _ (y_load1 hop htd hag hX hc0) hK (by simpa [packD] using hr0)
      simp only [pW] at h
      split at h
      · rename_i key sz i off hb
        obtain ⟨h1, h2⟩ := (hb ▸ hR _ _ hx).ref_inv
        split at h
        · rename_i ob hob
          obtain ⟨g1, g2, g3, g4, g5⟩ := h
          subst g1
          obtain ⟨_, cur, e, c1, c2, c3, c4⟩ := hS.holds key ob hob
          have hlen : (ob.els.getD i []).length = ob.sz := by
            have : ob.els.getD i [] = ob.els[i] := by simp [List.getD, g2]
            rw [this]; exact c2 _ (List.getElem_mem g2)
          refine go ⟨ι key, i * ob.sz + off, none⟩ ((List.range inf.size).map fun j => cur.getD (i * ob.sz + off + j) undef) _ h1 (by simp) (by rw [List.length_take, List.length_drop, hlen]; omega) (fun j v hj => ?_) (fun j hj => ?_) g4 g5
          · simp only [List.getElem?_map, Option.map_eq_some_iff, List.getElem?_range'] at hj
            obtain ⟨j', hj', rfl⟩ := hj
            have hj2 : j < inf.size := by
              rcases Nat.lt_or_ge j inf.size with h | h
              · exact h
              · simp [List.getElem?_eq_none (by simpa using h : (List.range inf.size).length ≤ j)] at hj'
            have e1 : j' = j := by simpa [hj2] using hj'.symm
            subst e1
            rw [Addr.add_lit]
            have hlt : i * ob.sz + off + j' < cur.size := by
              have := lin_lt (sz := ob.sz) (j := off + j') g2 (by omega)
              omega
            simp [World.cell?, c1, hlt]
          · have hq := (c4 i g2 (off + j) (by omega)).2
            have e1 : (List.map (fun j => cur.getD (i * ob.sz + off + j) undef) (List.range inf.size)).getD j undef = cur.getD (i * ob.sz + (off + j)) undef := by
              simp [List.getD, hj, Nat.add_assoc]
            have e2 : (((ob.els.getD i []).drop off).take inf.size).getD j .top = (ob.els.getD i []).getD (off + j) .top := by
              simp [List.getD, hj, List.getElem?_take]
            rw [e1, e2]
            exact hq
        · exact h.elim
      · rename_i cs hb
        obtain ⟨b, off, vs, h1, h2, h3, h4, h5⟩ := (hb ▸ hR _ _ hx).ptr_inv
        obtain ⟨g1, g2, g3⟩ := h
        refine go ⟨b, off, none⟩ ((List.range inf.size).map vs) _ h1 (by simp) (by simp; omega) (fun j v hj => ?_) (fun j hj => ?_) g2 g3
        · simp only [List.getElem?_map, Option.map_eq_some_iff] at hj
          obtain ⟨j', hj', rfl⟩ := hj
          have hj2 : j < inf.size := by
            rcases Nat.lt_or_ge j inf.size with h | h
            · exact h
            · simp [List.getElem?_eq_none (by simpa using h : (List.range inf.size).length ≤ j)] at hj'
          have e1 : j' = j := by simpa [hj2] using hj'.symm
          subst e1
          rw [Addr.add_lit]
          exact h4 j' (by omega)
        · have e1 : (List.map vs (List.range inf.size)).getD j undef = vs j := by simp [List.getD, hj]
          have e2 : (cs.take inf.size).getD j .top = cs.getD j .top := by simp [List.getD, hj, List.getElem?_take]
          rw [e1, e2]
          exact .pure (h5 j (by omega))
      · exact h.elim
    · simp at hk
  case call c =>
    unfold mkCall at hk
    split at hk
    · rename_i f hcal
      simp only [Option.bind_eq_bind, Option.bind_eq_some_iff, Option.pure_def, Option.some.injEq] at hk
      obtain ⟨f', hf, xs, hxs, rfl⟩ := hk
      simp only [pW] at h
      split at h
      · rename_i g caps hfn
        obtain ⟨d, hc, hK⟩ := h
        obtain ⟨us, h1, h2, h3⟩ := (hfn ▸ hR _ _ hf).fn_inv
        obtain ⟨g1, g2⟩ := mkOpds_sound hR hxs
        have hrun : (execOp a.eval o).run C.P w = .ok (.enter g (c.args.map a.eval ++ us)) w := by
          have := run_callFunc hc.ord (c.args.map a.eval ++ us) w
          simp [execOp, hop, resolve, hcal, h1, Deferred.ofValue, invoke, this]
        refine call_sound hrun hc hS (by simp [g1, h2]) (fun j hj => ?_) (fun v w' ι' k1 k2 k3 k4 k5 k6 => ?_)
        · simp only [List.length_append] at hj
          by_cases hlt : j < (xs.map ev).length
          · have := g2 j hlt
            have hlt' : j < (c.args.map a.eval).size := by omega
            have e1 : (c.args.map a.eval ++ us).getD j undef = (c.args.map a.eval).getD j undef := by
              simp only [Array.getD_eq_getD_getElem?, Array.getElem?_append_left hlt']
            have e2 : (xs.map ev ++ caps).getD j .top = (xs.map ev).getD j .top := by
              simp only [List.getD, List.getElem?_append_left hlt]
            rw [e1, e2]; exact this
          · have := h3 (j - (xs.map ev).length) (by omega)
            have e1 : (c.args.map a.eval ++ us).getD j undef = us.getD (j - (xs.map ev).length) undef := by
              simp only [Array.getD_eq_getD_getElem?]
              rw [Array.getElem?_append_right (by omega), g1]
            have e2 : (xs.map ev ++ caps).getD j .top = caps.getD (j - (xs.map ev).length) .top := by
              simp only [List.getD]
              rw [List.getElem?_append_right (by omega)]
            rw [e1, e2]; exact this
        · have hown : ∀ b, b < w'.heap.size → Mof M0 ι σ b → Mof M0 ι' σ b := fun b _ hb => by
            rcases hb with hb | ⟨k, ob, hko, rfl⟩
            · exact .inl hb
            · exact .inr ⟨k, ob, hko, k4 k (hS.holds k ob hko).1⟩
          exact hn v d w' hK k1 (k2.back k4) (k6.keep (fun _ _ _ => rfl) hown (fun b cur e hc => ⟨cur, hc, rfl⟩) (fun k hk => (k4 k hk).symm) (Nat.le_refl _))
      · exact h.elim
    · rename_i b hcal
      simp only [Option.bind_eq_bind, Option.bind_eq_some_iff, Option.pure_def, Option.some.injEq] at hk
      obtain ⟨xs, hxs, hk⟩ := hk
      obtain ⟨hl, hg⟩ := mapO_spec hxs
      obtain ⟨callee, args, ts⟩ := c
      simp only at hcal hxs hk hl hg
      subst hcal
      obtain ⟨args⟩ := args
      obtain ⟨ts⟩ := ts
      simp only at hxs hk hl hg
      unfold mkBuiltin at hk
      split at hk
      · -- len
        split at hk
        · rename_i x t
          simp only [Option.map_eq_some_iff] at hk
          obtain ⟨e, he, rfl⟩ := hk
          unfold sliceB at he
          split at he
          · rename_i e' ht
            match args, hl with
            | [x0], _ =>
              obtain ⟨y, hy, hf⟩ := hg 0 x0 rfl
              simp at hy; subst hy
              have hX := hR _ _ hf
              simp only [pW] at h
              split at h
              · rename_i sz els hb
                rw [hb] at hX
                rcases hX.sl_inv with ⟨ad, cap, e1, rfl, hcap⟩ | ⟨b, off, cap, vs, e1, g1, g2, g3, g4, _⟩
                · refine fin _ _ (y_len (ty := 0) (ts := #[]) hop ht e1) h (.pure (.int ?_))
                  decide
                · refine fin _ _ (y_len (ty := 0) (ts := #[]) hop ht e1) h (.pure (.int ?_))
                  simp only [maxLen] at g4
                  simp [IntKind.min, IntKind.max, IntKind.signed, IntKind.bits]; omega
              · rename_i key sz len hb
                rw [hb] at hX
                obtain ⟨cap, cur, e, e1, _, g3, g4, _⟩ := hX.osl_inv
                refine fin _ _ (y_len (ty := 0) (ts := #[]) hop ht e1) h (.pure (.int ?_))
                simp only [maxLen] at g4
                simp [IntKind.min, IntKind.max, IntKind.signed, IntKind.bits]; omega
              · rename_i hb
                rw [hb] at hX
                refine fin _ _ (y_len (ty := 0) (ts := #[]) hop ht hX.nils_inv) h (.pure (.int ?_))
                decide
              · rename_i hb
                rw [hb] at hX
                obtain ⟨ad, cap, e1⟩ := hX.emp_inv
                refine fin _ _ (y_len (ty := 0) (ts := #[]) hop ht e1) h (.pure (.int ?_))
                decide
              · exact h.elim
          · simp at he
        · simp at hk
      · -- min
        split at hk
        · rename_i x y
          simp at hk; subst hk
          match args, hl with
          | [x0, y0], _ =>
            obtain ⟨x1, hx1, hf⟩ := hg 0 x0 rfl
            obtain ⟨y1, hy1, hf'⟩ := hg 1 y0 rfl
            simp at hx1 hy1; subst hx1; subst hy1
            have hX := hR _ _ hf
            have hY := hR _ _ hf'
            simp only [pW] at h
            split at h
            · rename_i k p k' q hb hc
              rw [hb] at hX
              rw [hc] at hY
              obtain ⟨rfl, hK⟩ := h
              refine fin _ _ (y_min hop hX.int_inv.1 hY.int_inv.1) hK (.pure (.int ?_))
              have := hX.int_inv.2
              have := hY.int_inv.2
              split <;> assumption
            · exact h.elim
        · simp at hk
      · -- max
        split at hk
        · rename_i x y
          simp at hk; subst hk
          match args, hl with
          | [x0, y0], _ =>
            obtain ⟨x1, hx1, hf⟩ := hg 0 x0 rfl
            obtain ⟨y1, hy1, hf'⟩ := hg 1 y0 rfl
            simp at hx1 hy1; subst hx1; subst hy1
            have hX := hR _ _ hf
            have hY := hR _ _ hf'
            simp only [pW] at h
            split at h
            · rename_i k p k' q hb hc
              rw [hb] at hX
              rw [hc] at hY
              obtain ⟨rfl, hK⟩ := h
              refine fin _ _ (y_max hop hX.int_inv.1 hY.int_inv.1) hK (.pure (.int ?_))
              have := hX.int_inv.2
              have := hY.int_inv.2
              split <;> assumption
            · exact h.elim
        · simp at hk
      · -- append
        split at hk
        · rename_i x y t u
          simp only [Option.bind_eq_bind, Option.bind_eq_some_iff, Option.pure_def, Option.some.injEq] at hk
          obtain ⟨_, _, _, _, _, _, _, _, hk⟩ := hk
          split at hk
          · simp at hk; subst hk; simp [pW] at h
          · simp at hk
        · simp at hk
      · simp at hk
    · simp at hk
  case field t x i =>
    simp only [Option.bind_eq_bind, Option.bind_eq_some_iff, Option.pure_def, Option.some.injEq] at hk
    obtain ⟨q, hq, m, hm, ag, hag, x', hx, rfl⟩ := hk
    unfold fieldB at hq
    split at hq
    · rename_i fs ht
      simp only [Option.map_eq_some_iff] at hq
      obtain ⟨f, hf, rfl⟩ := hq
      simp only [sizeB, Option.map_eq_some_iff] at hm
      obtain ⟨inf, hi, rfl⟩ := hm
      simp only [pW] at h
      split at h
      · rename_i cs hb
        obtain ⟨us, h1, h2, h3⟩ := (hb ▸ hR _ _ hx).agg_inv
        obtain ⟨g1, g2, g3⟩ := h
        have htd : ∃ td, C.P.underlying f.type = some td := by
          unfold isAggB at hag
          cases hu : C.P.underlying f.type with
          | none => simp [hu] at hag
          | some td => exact ⟨td, rfl⟩
        obtain ⟨td, htd⟩ := htd
        cases ag with
        | true =>
          have hy : Yields C.P o a w (.agg (us.extract f.offset (f.offset + inf.size))) := by
            cases td <;> simp [isAggB, htd] at hag <;> simp [Yields, execOp, hop, h1, Instr.field, run_underlying ht, hf, asAgg, part, isAgg, run_underlying htd, sizeOf, typeInfo, hi]
          refine fin _ _ hy g3 (.agg (by simp; omega) fun j hj => ?_)
          simp only [List.length_take, List.length_drop] at hj
          have hj' : f.offset + j < us.size := by omega
          have e1 : (us.extract f.offset (f.offset + inf.size)).getD j undef = us.getD (f.offset + j) undef := by
            simp only [Array.getD_eq_getD_getElem?, Array.getElem?_extract]
            rw [if_pos (by omega)]
          have e2 : ((cs.drop f.offset).take inf.size).getD j .top = cs.getD (f.offset + j) .top := by
            have : j < inf.size := by omega
            simp [List.getD, List.getElem?_take, this]
          rw [e1, e2]
          exact h3 _ (by omega)
        | false =>
          have hone : inf.size = 1 := by simpa using g2
          have hlt : f.offset < us.size := by omega
          have hy : Yields C.P o a w (us.getD f.offset undef) := by
            cases td <;> simp [isAggB, htd] at hag <;> simp [Yields, execOp, hop, h1, Instr.field, run_underlying ht, hf, asAgg, part, isAgg, run_underlying htd, hlt]
          refine fin _ _ hy g3 ?_
          have e2 : packD false ((cs.drop f.offset).take inf.size) = cs.getD f.offset .top := by
            rw [hone]
            have : f.offset < cs.length := by omega
            simp [packD, List.getD, this, List.headD, List.take_one, List.head?_drop]
          rw [e2]
          exact h3 _ (by omega)
      · exact h.elim
    · simp at hq
  case slice t x lo hi mx =>
    simp only [Option.bind_eq_bind, Option.bind_eq_some_iff, Option.pure_def, Option.some.injEq] at hk
    obtain ⟨e, he, m, hm, sz, hm', lo', hlo, hi', hhi, x', hx, hk⟩ := hk
    split at hk
    · rename_i hmx
      simp at hk; subst hk
      unfold sliceB at he
      split at he
      · rename_i e' ht
        simp at he; subst he
        simp only [sizeB, Option.map_eq_some_iff] at hm
        obtain ⟨inf, hinf, rfl⟩ := hm
        have hs : 0 < inf.size ∧ sz = inf.size := by unfold posB at hm'; split at hm' <;> simp_all
        obtain ⟨hs, rfl⟩ := hs
        have hX := hR _ _ hx
        -- the run, at whatever address
        have run : ∀ (ad : Option Addr) (len cap l h : Nat), a.eval x = .slice ad len cap → l ≤ h → h ≤ cap → len ≤ cap → loW (lo'.map ev) = some (l : Int) →
            (match hi'.map ev with | none => (h : Int) = len | some (.int _ n) => (h : Int) = n | some _ => False) →
            Yields C.P o a w (.slice (if cap = l then ad else ad.map (·.add (l * inf.size))) (h - l) (cap - l)) := by
          intro ad len cap l h e1 hlh hhc hlc hL hH
          have hhi' : (match hi.map a.eval with | none => h = len | some v => ∃ k, v = .int k (h : Int)) := by
            cases hi with
            | none => simp [optOpd] at hhi; subst hhi; simp at hH ⊢; omega
            | some y =>
              simp [optOpd] at hhi
              obtain ⟨y', hy, rfl⟩ := hhi
              have hY := hR _ _ hy
              simp at hH ⊢
              split at hH
              · rename_i heq; simp at heq
              · rename_i k n heq
                simp at heq
                rw [heq] at hY
                rw [hH]
                exact ⟨k, hY.int_inv.1⟩
              · exact hH.elim
          have hlo' : (match lo.map a.eval with | none => l = 0 | some v => ∃ k, v = .int k (l : Int)) := by
            cases lo with
            | none => simp [optOpd] at hlo; subst hlo; simp [loW] at hL ⊢; omega
            | some y =>
              simp [optOpd] at hlo
              obtain ⟨y', hy, rfl⟩ := hlo
              have hY := hR _ _ hy
              simp [loW] at hL ⊢
              split at hL
              · rename_i heq; simp at heq
              · rename_i k n heq
                simp at heq hL
                rw [heq] at hY
                rw [← hL]
                exact ⟨k, hY.int_inv.1⟩
              · simp at hL
          cases lo with
          | none =>
            simp at hlo'
            cases hi with
            | none =>
              simp at hhi'
              simp [Yields, execOp, hop, e1, Instr.sliceAt, run_underlying ht, Instr.slice, Instr.sliceBounds, sizeOf, typeInfo, hinf, hlo', hhi']
            | some y =>
              simp at hhi'
              obtain ⟨k, hk⟩ := hhi'
              simp [Yields, execOp, hop, e1, Instr.sliceAt, run_underlying ht, Instr.slice, Instr.sliceBounds, Instr.sliceBound, asIntOf, sizeOf, typeInfo, hinf, hlo', hk, hhc]
          | some z =>
            simp at hlo'
            obtain ⟨kz, hz⟩ := hlo'
            cases hi with
            | none =>
              simp at hhi'
              subst hhi'
              simp [Yields, execOp, hop, e1, Instr.sliceAt, run_underlying ht, Instr.slice, Instr.sliceBounds, Instr.sliceBound, asIntOf, sizeOf, typeInfo, hinf, hz, hlh]
            | some y =>
              simp at hhi'
              obtain ⟨k, hk⟩ := hhi'
              simp [Yields, execOp, hop, e1, Instr.sliceAt, run_underlying ht, Instr.slice, Instr.sliceBounds, Instr.sliceBound, asIntOf, sizeOf, typeInfo, hinf, hz, hk, hhc, hlh]
        simp only [pW] at h
        split at h
        · rename_i sz' els hb
          rw [hb] at hX
          obtain ⟨rfl, l, hh, g1, g2, g3, g4, g5, g6⟩ := h
          have hlen : ((els.take hh.toNat).drop l.toNat).length = hh.toNat - l.toNat := by simp; omega
          rcases hX.sl_inv with ⟨ad, cap, e1, rfl, hcap⟩ | ⟨b, off, cap, vs, e1, k1, k2, k3, k4, k5, k6, k7⟩
          · simp at g5
            have eh : (hh.toNat : Int) = hh := by omega
            have el : (l.toNat : Int) = l := by omega
            have := run ad 0 cap l.toNat hh.toNat e1 (by omega) (by omega) (Nat.zero_le _) (by rw [g1, el]) (by rw [eh]; exact g2)
            have e3 : (([] : List (List D)).take hh.toNat).drop l.toNat = [] := by simp
            rw [e3] at g6
            have e4 : hh.toNat - l.toNat = 0 := by omega
            rw [e4] at this
            refine fin _ _ this g6 (.pure (.sl0 _ _ _ (fun hn => ?_)))
            cases ad with
            | none => have := hcap rfl; omega
            | some x => split at hn <;> simp at hn
          · have := run (some ⟨b, off, none⟩) els.length cap l.toNat hh.toNat e1 (by omega) (by omega) k3 (by rw [g1]; congr 1; omega) (by rw [show (hh.toNat : Int) = hh from (by omega)]; exact g2)
            refine fin _ _ this g6 (.pure ?_)
            by_cases hc : cap = l.toNat
            · have e3 : (els.take hh.toNat).drop l.toNat = [] := List.eq_nil_of_length_eq_zero (by rw [hlen]; omega)
              have e4 : hh.toNat - l.toNat = 0 := by omega
              rw [e3, e4]
              exact .sl0 _ _ _ (fun hn => by omega)
            · rw [if_neg hc]
              have hget : ∀ i, i < hh.toNat - l.toNat → ((els.take hh.toNat).drop l.toNat).getD i [] = els.getD (l.toNat + i) [] := by
                intro i hi0
                simp [List.getD, List.getElem?_take]
                rw [if_pos (by omega)]
              have e5 : (Option.map (fun x => x.add (l.toNat * inf.size)) (some (⟨b, off, none⟩ : Addr))) = some ⟨b, off + l.toNat * inf.size, none⟩ := by simp [Addr.add_lit]
              rw [e5, ← hlen]
              refine .sl (fun i j => vs (l.toNat + i) j) hs k2 (by rw [hlen]; omega) (by simp only [maxLen] at k4 ⊢; omega) (fun e he => k5 e ?_) (fun i hi0 j hj => ?_) (fun i hi0 j hj => ?_)
              · exact List.mem_of_mem_take (List.mem_of_mem_drop he)
              · have := k6 (l.toNat + i) (by omega) j hj
                have e6 : off + (l.toNat + i) * inf.size + j = off + l.toNat * inf.size + i * inf.size + j := by rw [Nat.add_mul]; omega
                rw [← e6]; exact this
              · rw [hget i (by omega)]
                exact k7 (l.toNat + i) (by omega) j hj
        · rename_i key sz' len hb
          rw [hb] at hX
          obtain ⟨rfl, g1, hh, g2, g3, g4, g5⟩ := h
          obtain ⟨cap, cur, e, e1, k1, k2, k3, k4, k5⟩ := hX.osl_inv
          have := run (some ⟨ι key, 0, none⟩) len cap 0 hh.toNat e1 (Nat.zero_le _) (by omega) k2 (by rw [g1]; rfl) (by rw [show (hh.toNat : Int) = hh from (by omega)]; exact g2)
          refine fin _ _ this g5 ?_
          have e5 : (if cap = 0 then some (⟨ι key, 0, none⟩ : Addr) else Option.map (fun x => x.add (0 * inf.size)) (some (⟨ι key, 0, none⟩ : Addr))) = some ⟨ι key, 0, none⟩ := by split <;> simp [Addr.add]
          rw [e5]
          exact .osl k1 (by omega) k3 k4 k5
        · exact h.elim
      · simp at he
    · simp at hk
  case build t ps =>
    split at hk
    · rename_i fs ht
      simp only [Option.bind_eq_bind, Option.bind_eq_some_iff, Option.pure_def, Option.some.injEq] at hk
      obtain ⟨zero, hz, places, hpl, parts, hps, rfl⟩ := hk
      unfold zeroB at hz
      simp only [Option.bind_eq_bind, Option.bind_eq_some_iff, Option.pure_def, Option.some.injEq] at hz
      obtain ⟨inf, hi, z, hz1, hz2⟩ := hz
      simp only [pW] at h
      split at h
      · rename_i cs hfill
        have hz' : CRel (Mof M0 ι σ) w ι σ.nx z.cells zero := by
          obtain ⟨hl, hg⟩ := mapO_spec hz2
          refine ⟨by simpa using hl.symm, fun j hj => ?_⟩
          have hj' : j < z.cells.size := by have := hl; simp at this; omega
          obtain ⟨b, hb, hf⟩ := hg j z.cells[j] (by simp [hj'])
          have e1 : zero.getD j .top = b := by simp [List.getD, hb]
          have e2 : z.cells.getD j undef = z.cells[j] := by simp [hj']
          rw [e1, e2]
          exact .pure (RP_leaf hf)
        have hpar : Par (Mof M0 ι σ) w ι σ.nx (places.toArray[·]?) (ps.toList.map fun p => (p.1, a.eval p.2)) (parts.map fun p => (p.1, p.2.1, ev p.2.2)) := by
          clear hfill
          generalize ps.toList = l at hps
          induction l generalizing parts with
          | nil => simp [mapO] at hps; subst hps; trivial
          | cons p l ih =>
            unfold mapO at hps
            split at hps
            · rename_i q qs hq hqs
              simp at hps; subst hps
              simp only [Option.bind_eq_bind, Option.bind_eq_some_iff, Option.pure_def, Option.some.injEq] at hq
              obtain ⟨pl, hpl', y, hy, rfl⟩ := hq
              refine ⟨by simpa using hpl', hR _ _ hy, ih qs hqs⟩
            · simp at hps
        obtain ⟨cs', hf, hr⟩ := fill_rel _ _ _ _ _ _ hz' hpar hfill
        have hb : C.P.built t (ps.map fun p => (p.1, a.eval p.2)).toList = some cs' := by
          unfold Program.built
          simp only [hi, ht, hz1, hpl]
          simpa using hf
        have hrun := run_build w t (ps.map fun p => (p.1, a.eval p.2)) cs' hb
        refine fin (.agg cs') _ ?_ h (.agg hr.1 hr.2)
        simp only [Yields, execOp, hop, Sem.run_bind, hrun, Result.andThen_ok]
        rfl
      · exact h.elim
    · simp at hk
  case buildSlice t len ps =>
    simp only [Option.bind_eq_bind, Option.bind_eq_some_iff, Option.pure_def, Option.some.injEq] at hk
    obtain ⟨e, he, m, hm, sz, hm', zero, hz, parts, hps, hk⟩ := hk
    split at hk
    · rename_i hzl
      obtain ⟨hzl, hsmall⟩ := hzl
      unfold sliceB at he
      split at he
      · rename_i e' ht
        simp at he; subst he
        simp only [sizeB, Option.map_eq_some_iff] at hm
        obtain ⟨inf, hinf, rfl⟩ := hm
        have hs : 0 < inf.size ∧ sz = inf.size := by unfold posB at hm'; split at hm' <;> simp_all
        obtain ⟨hs, rfl⟩ := hs
        unfold zeroB at hz
        simp only [Option.bind_eq_bind, Option.bind_eq_some_iff, Option.pure_def, Option.some.injEq] at hz
        obtain ⟨inf', hi', z, hz1, hz2⟩ := hz
        have e1 : inf' = inf := by rw [hinf] at hi'; exact (Option.some.inj hi').symm
        subst e1
        unfold mkLit at hk
        split at hk
        · split at hk
          · simp at hk; subst hk; simp [pW] at h
          · simp at hk; subst hk
            simp only [pW] at h
            split at h
            · rename_i es hfill
              obtain ⟨hpure, hK⟩ := h
              have hpar : ParE (Mof M0 ι σ) w ι σ.nx (ps.toList.map fun p => (p.1, a.eval p.2)) (parts.map fun p => (p.1, ev p.2)) := by
                clear hfill
                generalize ps.toList = l at hps
                induction l generalizing parts with
                | nil => simp [mapO] at hps; subst hps; trivial
                | cons p l ih =>
                  unfold mapO at hps
                  split at hps
                  · rename_i q qs hq hqs
                    simp at hps; subst hps
                    simp only [Option.bind_eq_bind, Option.bind_eq_some_iff, Option.pure_def, Option.some.injEq] at hq
                    obtain ⟨y, hy, rfl⟩ := hq
                    exact ⟨rfl, hR _ _ hy, ih qs hqs⟩
                  · simp at hps
              obtain ⟨cs', hf, hr, hl⟩ := fillE_rel _ _ _ _ _ _ (zero_rel (M := Mof M0 ι σ) (w := w) (ι := ι) (n := σ.nx) hz2 hzl len) hpar hfill
              simp only [List.length_replicate] at hl
              by_cases hlen : len = 0
              · subst hlen
                have he0 : es = [] := List.eq_nil_of_length_eq_zero hl
                subst he0
                have hr0 : Array.range 0 = #[] := rfl
                have hf0 : Instr.fill (fun i => some (i * inf'.size, inf'.size)) #[] (ps.map fun p => (p.1, a.eval p.2)).toList = some cs' := by simpa [hr0] using hf
                have hrun : (execOp a.eval o).run C.P w = .ok (.value (.slice (some ⟨w.heap.size, 0, none⟩) 0 0)) (w.alloc (.cells cs' e')) := by
                  simp at hf0
                  simp [execOp, hop, Instr.buildSlice, run_underlying ht, sizeOf, typeInfo, zeroValue, hinf, newRow, hf0, hr0]
                have hk0 := Kept.alloc w (.cells cs' e') fun _ => False
                exact wp_val hrun (hn _ _ _ hK (hk0.none _) (hS.ext hk0) (.pure (.sl0 _ _ _ (by simp))))
              · have hpos : ¬ len * inf'.size = 0 := by rw [Nat.mul_eq_zero]; omega
                have hrun := run_buildSlice w t e' len (ps.map fun p => (p.1, a.eval p.2)) cs' inf' z ht hinf hz1 (by omega) hpos (by simpa using hf)
                have hk0 := Kept.alloc w (.cells cs' e') fun _ => False
                have hx : (execOp a.eval o).run C.P w = .ok (.value (.slice (some ⟨w.heap.size, 0, none⟩) len len)) (w.alloc (.cells cs' e')) := by
                  simp only [execOp, hop, Sem.run_bind, hrun, Result.andThen_ok]
                  rfl
                refine wp_val hx (hn _ _ _ hK (hk0.none _) (hS.ext hk0) (.pure ?_))
                have hnew : ∀ q (u : Value), cs'[q]? = some u → (w.alloc (.cells cs' e')).cell? ⟨w.heap.size, 0 + q, none⟩ = some u := by
                  intro q u hq
                  have : (w.alloc (.cells cs' e')).heap[w.heap.size]? = some (Obj.cells cs' e' (0, 0)) := heap_alloc_new w _
                  rw [cell_of_row _ _ _ _ _ _ this, Nat.zero_add]; exact hq
                rw [← hl]
                refine .sl (fun i j => cs'.getD (i * inf'.size + j) undef) hs (fun hm => Nat.lt_irrefl _ (Mof.lt hS hm)) (Nat.le_refl _) ?_ hr.2.1 (fun i hi j hj => ?_) (fun i hi j hj => ?_)
                · simp only [maxLen]
                  have : len ≤ len * inf'.size := Nat.le_mul_of_pos_right _ hs
                  omega
                · have hlt : i * inf'.size + j < cs'.size := by rw [hr.1]; exact lin_lt hi hj
                  rw [Nat.zero_add]
                  have := hnew (i * inf'.size + j) cs'[i * inf'.size + j] (by simp [hlt])
                  rw [Nat.zero_add] at this
                  rw [this]; simp [hlt]
                · refine (RP.keep (M := Mof M0 ι σ) (w := w) (fun b hb _ => hk0.block b hb id) (fun _ _ h => h) ((hr.2.2 i hi j hj).toRP ?_))
                  have hmem : es.getD i [] ∈ es := by simp [List.getD, hi]
                  exact isPureL_get (List.all_eq_true.1 hpure _ hmem) j
            · exact h.elim
        · simp at hk
      · simp at he
    · simp at hk
end
end Go.Pd
