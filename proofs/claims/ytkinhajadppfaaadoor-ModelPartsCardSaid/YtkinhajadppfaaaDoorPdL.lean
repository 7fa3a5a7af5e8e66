/-
  PURE DATA, part L: a region in whatever order. Over any program.
-/
import Derived.Test.YtkinhajadppfaaaDoorPdK
import Derived.Still
import Derived.StillTail
namespace Go.Pd
open Go
set_option linter.unusedSectionVars false
variable [Tabs]
set_option linter.unusedSimpArgs false
set_option linter.unusedVariables false

/-! ### What an operation yields, singled out -/
theorem binW_ex {op : BinOp} {k k' : IntKind} {a b : Int} {K : D → Prop} (h : binW op k a k' b K) : ∃ d, binW op k a k' b (fun x => x = d) ∧ K d := by
  cases op <;> simp only [binW] at h ⊢
  all_goals first
    | exact ⟨_, ⟨h.1, h.2.1, rfl⟩, h.2.2⟩
    | exact ⟨_, ⟨h.1, rfl⟩, h.2⟩

theorem pW_ex {C : Cx} {σ : St} {ev : Opd → D} {k : DK} {K : D → Prop} (h : pW C σ ev k K) : ∃ d, pW C σ ev k (fun x => x = d) ∧ K d := by
  cases k <;> simp only [pW] at h ⊢
  case mv x => exact ⟨_, rfl, h⟩
  case mkf => exact ⟨_, rfl, h⟩
  case pick c x y =>
    split at h
    · rename_i t ht
      cases t
      · exact ⟨_, ite_mk (by simp) (fun _ => rfl), (iteb h).2 rfl⟩
      · exact ⟨_, ite_mk (fun _ => rfl) (by simp), (iteb h).1 rfl⟩
    · exact h.elim
  case bin op x y =>
    split at h
    · exact binW_ex h
    · exact h.elim
  case slc sz x lo hi =>
    split at h
    · obtain ⟨h1, l, hh, h2, h3, h4, h5, h6, h7⟩ := h
      exact ⟨_, ⟨h1, l, hh, h2, h3, h4, h5, h6, rfl⟩, h7⟩
    · obtain ⟨h1, h2, hh, h3, h4, h5, h6⟩ := h
      exact ⟨_, ⟨h1, h2, hh, h3, h4, h5, rfl⟩, h6⟩
    · exact h.elim
  case call fn args =>
    split at h
    · obtain ⟨d, h1, h2⟩ := h
      exact ⟨d, ⟨d, h1, rfl⟩, h2⟩
    · exact h.elim
  case load n ag x =>
    split at h
    · split at h
      · exact ⟨_, ⟨h.1, h.2.1, h.2.2.1, h.2.2.2.1, rfl⟩, h.2.2.2.2⟩
      · exact h.elim
    · exact ⟨_, ⟨h.1, h.2.1, rfl⟩, h.2.2⟩
    · exact h.elim
  all_goals first
    | exact h.elim
    | (split at h <;> first | exact h.elim | exact ⟨_, rfl, h⟩ | exact ⟨_, ⟨h.1, rfl⟩, h.2⟩ | exact ⟨_, ⟨h.1, h.2.1, rfl⟩, h.2.2⟩ | exact ⟨_, ⟨h.1, h.2.1, h.2.2.1, rfl⟩, h.2.2.2⟩)

theorem opV_ex {C : Cx} {σ : St} {ev : Opd → D} {k : DK} {K : D → St → Prop} (h : opV C σ ev k K) : ∃ d σ', opV C σ ev k (fun x y => x = d ∧ y = σ') ∧ K d σ' := by
  by_cases hp : k.impure = true
  · cases k <;> simp only [DK.impure] at hp <;> (try (simp at hp; done)) <;> simp only [opV] at h ⊢
    case box x =>
      split at h
      · exact ⟨_, _, ⟨h.1, h.2.1, rfl, rfl⟩, h.2.2⟩
      · exact h.elim
    case alloc z => exact ⟨_, _, ⟨h.1, h.2.1, rfl, rfl⟩, h.2.2⟩
    case store n a x =>
      split at h
      · split at h
        · obtain ⟨h1, h2, h3, h4, h5, h6⟩ := h
          exact ⟨_, _, ⟨h1, h2, h3, h4, h5, rfl, rfl⟩, h6⟩
        · exact h.elim
      · exact h.elim
    case app sz bytes x y =>
      split at h
      · exact h.elim
      · rename_i rows hr
        obtain ⟨h0, h⟩ := h
        split at h
        · obtain ⟨h1, h2, h3, h4⟩ := h
          by_cases hne : rows = []
          · exact ⟨_, _, ⟨h0, h1, h2, fun _ => ⟨rfl, rfl⟩, fun hn => absurd hne hn⟩, h3 hne⟩
          · exact ⟨_, _, ⟨h0, h1, h2, fun hn => absurd hn hne, fun _ => ⟨rfl, rfl⟩⟩, h4 hne⟩
        · split at h
          · obtain ⟨h1, h2, h3, h4, h5, h6⟩ := h
            exact ⟨_, _, ⟨h0, h1, h2, h3, h4, h5, rfl, rfl⟩, h6⟩
          · exact h.elim
        · exact h.elim
    case mksl =>
      split at h
      · obtain ⟨h1, h2, h3, h4, h5⟩ := h
        exact ⟨_, _, ⟨h1, h2, h3, h4, rfl, rfl⟩, h5⟩
      · exact h.elim
    case olit =>
      split at h
      · exact ⟨_, _, ⟨h.1, rfl, rfl⟩, h.2⟩
      · exact h.elim
    case call fn args =>
      split at h
      · obtain ⟨d, σ', h1, h2⟩ := h
        exact ⟨d, σ', ⟨d, σ', h1, rfl, rfl⟩, h2⟩
      · exact h.elim
  · have hp' : k.impure = false := by simpa using hp
    obtain ⟨d, h1, h2⟩ := pW_ex (opV_pure hp' h)
    refine ⟨d, σ, ?_, h2⟩
    have : opV C σ ev k (fun x y => x = d ∧ y = σ) = pW C σ ev k (fun x => x = d ∧ σ = σ) := by
      cases k <;> first | rfl | simp [DK.impure] at hp'
    rw [this]
    simpa using h1

theorem pW_mono {C : Cx} {σ : St} {ev : Opd → D} {k : DK} {K K' : D → Prop} (h : pW C σ ev k K) (hk : ∀ d, K d → K' d) : pW C σ ev k K' := by
  have bm : ∀ {op : BinOp} {k k' : IntKind} {a b : Int}, binW op k a k' b K → binW op k a k' b K' := by
    intro op k k' a b h
    cases op <;> simp only [binW] at h ⊢
    all_goals first
      | exact ⟨h.1, h.2.1, hk _ h.2.2⟩
      | exact ⟨h.1, hk _ h.2⟩
  cases k <;> simp only [pW] at h ⊢
  case mv x => exact hk _ h
  case mkf => exact hk _ h
  case pick c x y =>
    split at h
    · exact ite_mk (fun e => hk _ ((ite_and h).1 e)) (fun e => hk _ ((ite_and h).2 e))
    · exact h.elim
  case bin op x y =>
    split at h
    · exact bm h
    · exact h.elim
  case slc sz x lo hi =>
    split at h
    · obtain ⟨h1, l, hh, h2, h3, h4, h5, h6, h7⟩ := h
      exact ⟨h1, l, hh, h2, h3, h4, h5, h6, hk _ h7⟩
    · obtain ⟨h1, h2, hh, h3, h4, h5, h6⟩ := h
      exact ⟨h1, h2, hh, h3, h4, h5, hk _ h6⟩
    · exact h.elim
  case call fn args =>
    split at h
    · obtain ⟨d, h1, h2⟩ := h
      exact ⟨d, h1, hk _ h2⟩
    · exact h.elim
  case load n ag x =>
    split at h
    · split at h
      · exact ⟨h.1, h.2.1, h.2.2.1, h.2.2.2.1, hk _ h.2.2.2.2⟩
      · exact h.elim
    · exact ⟨h.1, h.2.1, hk _ h.2.2⟩
    · exact h.elim
  all_goals first
    | exact h.elim
    | (split at h <;> first | exact h.elim | exact hk _ h | exact ⟨h.1, hk _ h.2⟩ | exact ⟨h.1, h.2.1, hk _ h.2.2⟩ | exact ⟨h.1, h.2.1, h.2.2.1, hk _ h.2.2.2⟩)

/-- A still operation leaves the state. -/
theorem opV_of_pW {C : Cx} {σ : St} {ev : Opd → D} {k : DK} {d : D} (h : pW C σ ev k (fun x => x = d)) : opV C σ ev k (fun x y => x = d ∧ y = σ) := by
  by_cases hp : k.impure = true
  · cases k <;> simp only [DK.impure] at hp <;> (try (simp at hp; done)) <;> simp only [pW] at h <;> try exact h.elim
    rename_i fn args
    simp only [opV]
    split at h
    · obtain ⟨d', h1, h2⟩ := h
      exact ⟨d', σ, h1, h2, rfl⟩
    · exact h.elim
  · have hp' : k.impure = false := by simpa using hp
    have : opV C σ ev k (fun x y => x = d ∧ y = σ) = pW C σ ev k (fun x => x = d ∧ σ = σ) := by
      cases k <;> first | rfl | simp [DK.impure] at hp'
    rw [this]
    simpa using h

/-- Only the operands are looked at. -/
theorem opV_congr {C : Cx} {σ : St} {ev ev' : Opd → D} {k : DK} {K : D → St → Prop} (he : ∀ x ∈ k.opds, ev x = ev' x) (h : opV C σ ev k K) : opV C σ ev' k K := by
  cases k <;> simp only [DK.opds] at he <;> simp only [opV, pW] at h ⊢
  case build z ps =>
    have : (ps.map fun p => (p.1, p.2.1, ev p.2.2)) = ps.map fun p => (p.1, p.2.1, ev' p.2.2) := List.map_congr_left fun p hp => by rw [he _ (List.mem_map.2 ⟨p, hp, rfl⟩)]
    rw [← this]; exact h
  case blit sz len z ps =>
    have : (ps.map fun p => (p.1, ev p.2)) = ps.map fun p => (p.1, ev' p.2) := List.map_congr_left fun p hp => by rw [he _ (List.mem_map.2 ⟨p, hp, rfl⟩)]
    rw [← this]; exact h
  case olit sz len z ps =>
    have : (ps.map fun p => (p.1, ev p.2)) = ps.map fun p => (p.1, ev' p.2) := List.map_congr_left fun p hp => by rw [he _ (List.mem_map.2 ⟨p, hp, rfl⟩)]
    rw [← this]; exact h
  case mkf f cs =>
    have : cs.map ev = cs.map ev' := List.map_congr_left fun p hp => he _ hp
    rw [← this]; exact h
  case slc sz x lo hi =>
    have h1 := he x (by simp)
    have h2 : lo.map ev = lo.map ev' := by cases lo with | none => rfl | some y => simp [he y (by simp)]
    have h3 : hi.map ev = hi.map ev' := by cases hi with | none => rfl | some y => simp [he y (by simp)]
    rw [← h1, ← h2, ← h3]; exact h
  case call f xs =>
    have h1 := he f (by simp)
    have : xs.map ev = xs.map ev' := List.map_congr_left fun p hp => he _ (by simp [hp])
    rw [← h1, ← this]; exact h
  case alloc z => exact h
  case pick c a b => rw [← he c (by simp), ← he a (by simp), ← he b (by simp)]; exact h
  all_goals first
    | (rename_i x; rw [← he x (by simp)]; exact h)
    | (rename_i x y; rw [← he x (by simp), ← he y (by simp)]; exact h)
    | (rename_i x _; rw [← he x (by simp)]; exact h)

theorem opV_silent {C : Cx} {σ : St} {ev : Opd → D} {k : DK} {d : D} {σ' : St} (hs : k.silent = true) (h : opV C σ ev k (fun x y => x = d ∧ y = σ')) : σ' = σ ∧ ∀ σ2, opV C σ2 ev k (fun x y => x = d ∧ y = σ2) := by
  have key : pW C σ ev k (fun x => x = d ∧ σ = σ') := by
    cases k <;> first | exact h | simp [DK.silent] at hs
  have e1 : σ' = σ := by
    obtain ⟨_, _, _, e⟩ := pW_ex key
    exact e.symm
  subst e1
  refine ⟨rfl, fun σ2 => opV_of_pW ?_⟩
  have := pW_mono key fun d h => h.1
  cases k <;> first | exact this | simp [DK.silent] at hs

/-! ### The text's order, written down -/
inductive Trace (C : Cx) : List DOp → Fr → St → List (D × St) → Prop
  | nil {f σ} : Trace C [] f σ []
  | cons {o ds f σ d σ' tr} (h : guardW o f (opV C σ (evO f) o.k fun x y => x = d ∧ y = σ') (d = .und ∧ σ' = σ)) (t : Trace C ds (f.put o.dst d) σ' tr) : Trace C (o :: ds) f σ ((d, σ') :: tr)

def FAt : List DOp → List (D × St) → Fr → Fr
  | o :: ds, p :: tr, f => FAt ds tr (f.put o.dst p.1)
  | _, _, f => f
def SAt : List (D × St) → St → St
  | p :: tr, _ => SAt tr p.2
  | [], σ => σ

theorem opsW_trace {C : Cx} {K : Fr → St → Prop} : ∀ (ds : List DOp) (f : Fr) (σ : St), opsW C ds f σ K → ∃ tr, Trace C ds f σ tr ∧ K (FAt ds tr f) (SAt tr σ) ∧ tr.length = ds.length
  | [], f, σ, h => ⟨[], .nil, h, rfl⟩
  | o :: ds, f, σ, h => by
    simp only [opsW, opW] at h
    have go : ∀ (d : D) (σ' : St), guardW o f (opV C σ (evO f) o.k fun x y => x = d ∧ y = σ') (d = .und ∧ σ' = σ) → opsW C ds (f.put o.dst d) σ' K → ∃ tr, Trace C (o :: ds) f σ tr ∧ K (FAt (o :: ds) tr f) (SAt tr σ) ∧ tr.length = (o :: ds).length := by
      intro d σ' hg hk
      obtain ⟨tr, h1, h2, h3⟩ := opsW_trace ds _ _ hk
      exact ⟨(d, σ') :: tr, .cons hg h1, h2, by simp [h3]⟩
    unfold guardW at h
    split at h
    · rename_i hg
      obtain ⟨d, σ', h1, h2⟩ := opV_ex h
      exact go d σ' (by simp only [guardW, hg]; exact h1) h2
    · rename_i j want hg
      split at h
      · rename_i b hb
        by_cases hbw : b = want
        · obtain ⟨d, σ', h1, h2⟩ := opV_ex ((ite_and h).1 hbw)
          exact go d σ' (by simp only [guardW, hg, hb]; exact ite_mk (fun _ => h1) (fun hn => absurd hbw hn)) h2
        · exact go .und σ (by simp [guardW, hg, hb, hbw]) ((ite_and h).2 hbw)
      · rename_i hu
        exact go .und σ (by simp [guardW, hg, hu]) h
      · exact h.elim

theorem preW_trace {C : Cx} {σ : St} {K : Fr → Prop} : ∀ (ds : List DOp) (f : Fr), preW C σ ds f K → ∃ tr, Trace C ds f σ tr ∧ K (FAt ds tr f) ∧ tr.length = ds.length ∧ ∀ p ∈ tr, p.2 = σ
  | [], f, h => ⟨[], .nil, h, rfl, by simp⟩
  | o :: ds, f, h => by
    simp only [preW] at h
    have go : ∀ (d : D), guardW o f (opV C σ (evO f) o.k fun x y => x = d ∧ y = σ) (d = .und ∧ σ = σ) → preW C σ ds (f.put o.dst d) K → ∃ tr, Trace C (o :: ds) f σ tr ∧ K (FAt (o :: ds) tr f) ∧ tr.length = (o :: ds).length ∧ ∀ p ∈ tr, p.2 = σ := by
      intro d hg hk
      obtain ⟨tr, h1, h2, h3, h4⟩ := preW_trace ds _ hk
      exact ⟨(d, σ) :: tr, .cons hg h1, h2, by simp [h3], by
        intro p hp
        rcases List.mem_cons.1 hp with rfl | hp
        · rfl
        · exact h4 p hp⟩
    unfold guardW at h
    split at h
    · rename_i hg
      obtain ⟨d, h1, h2⟩ := pW_ex h
      exact go d (by simp only [guardW, hg]; exact opV_of_pW h1) h2
    · rename_i j want hg
      split at h
      · rename_i b hb
        by_cases hbw : b = want
        · obtain ⟨d, h1, h2⟩ := pW_ex ((ite_and h).1 hbw)
          exact go d (by simp only [guardW, hg, hb]; exact ite_mk (fun _ => opV_of_pW h1) (fun hn => absurd hbw hn)) h2
        · exact go .und (by simp [guardW, hg, hb, hbw]) ((ite_and h).2 hbw)
      · rename_i hu
        exact go .und (by simp [guardW, hg, hu]) h
      · exact h.elim

theorem Trace.append {C : Cx} : ∀ {ds1 ds2 : List DOp} {f : Fr} {σ : St} {t1 t2 : List (D × St)}, Trace C ds1 f σ t1 → t1.length = ds1.length → Trace C ds2 (FAt ds1 t1 f) (SAt t1 σ) t2 → Trace C (ds1 ++ ds2) f σ (t1 ++ t2) ∧ FAt (ds1 ++ ds2) (t1 ++ t2) f = FAt ds2 t2 (FAt ds1 t1 f) ∧ SAt (t1 ++ t2) σ = SAt t2 (SAt t1 σ)
  | _, _, _, _, _, _, .nil, _, h => ⟨h, rfl, rfl⟩
  | _, _, _, _, _, _, .cons hg ht, hl, h => by
    obtain ⟨h1, h2, h3⟩ := Trace.append ht (by simpa using hl) h
    exact ⟨.cons hg h1, h2, h3⟩

/-- Step number i of the text's order. -/
theorem Trace.at {C : Cx} : ∀ {ds : List DOp} {f : Fr} {σ : St} {tr : List (D × St)}, Trace C ds f σ tr → ∀ (i : Nat) (o : DOp), ds[i]? = some o →
    ∃ d σ', tr[i]? = some (d, σ') ∧ guardW o (FAt (ds.take i) (tr.take i) f) (opV C (SAt (tr.take i) σ) (evO (FAt (ds.take i) (tr.take i) f)) o.k fun x y => x = d ∧ y = σ') (d = .und ∧ σ' = SAt (tr.take i) σ)
  | _, _, _, _, .nil, i, o, h => by simp at h
  | _, _, _, _, .cons hg ht, i, o', h => by
    cases i with
    | zero =>
      simp at h; subst h
      exact ⟨_, _, rfl, by simpa [FAt, SAt] using hg⟩
    | succ i =>
      simp at h
      obtain ⟨d, σ', h1, h2⟩ := ht.at i o' h
      exact ⟨d, σ', by simpa using h1, by simpa [FAt, SAt] using h2⟩

theorem FAt_succ : ∀ (ds : List DOp) (tr : List (D × St)) (f : Fr) (i : Nat) (o : DOp) (p : D × St), ds[i]? = some o → tr[i]? = some p → FAt (ds.take (i + 1)) (tr.take (i + 1)) f = (FAt (ds.take i) (tr.take i) f).put o.dst p.1
  | [], _, _, i, o, p, h, _ => by simp at h
  | _ :: _, [], _, i, o, p, _, h => by simp at h
  | o' :: ds, p' :: tr, f, 0, o, p, h, h' => by
    simp at h h'; subst h; subst h'
    simp [FAt]
  | o' :: ds, p' :: tr, f, i + 1, o, p, h, h' => by
    simp at h h'
    have := FAt_succ ds tr (f.put o'.dst p'.1) i o p h h'
    simpa [FAt] using this
theorem SAt_succ : ∀ (tr : List (D × St)) (σ : St) (i : Nat) (p : D × St), tr[i]? = some p → SAt (tr.take (i + 1)) σ = p.2
  | [], _, i, p, h => by simp at h
  | p' :: tr, σ, 0, p, h => by simp at h; subst h; simp [SAt]
  | p' :: tr, σ, i + 1, p, h => by
    simp at h
    have := SAt_succ tr p'.2 i p h
    simpa [SAt] using this

/-! ### Who waits for whom -/
theorem masks_spec : ∀ (l : List Oper) (acc : List Nat), (masks l acc).length = acc.length + l.length ∧ (∀ j, j < acc.length → (masks l acc).getD j 0 = acc.getD j 0) ∧
    ∀ (k : Nat) (o : Oper), l[k]? = some o → (masks l acc).getD (acc.length + k) 0 = o.after.foldl (fun s e => if Region.binds .any e then s ||| 2 ^ e.on ||| ((masks l acc).take (acc.length + k)).getD e.on 0 else s) 0
  | [], acc => ⟨by simp [masks], fun j hj => rfl, fun k o h => by simp at h⟩
  | o :: l, acc => by
    unfold masks
    generalize hm : o.after.foldl (fun s e => if Region.binds .any e then s ||| 2 ^ e.on ||| acc.getD e.on 0 else s) 0 = m
    obtain ⟨h1, h2, h3⟩ := masks_spec l (acc ++ [m])
    refine ⟨by rw [h1]; simp; omega, fun j hj => ?_, fun k o' hk => ?_⟩
    · rw [h2 j (by simp; omega)]
      simp only [List.getD, List.getElem?_append_left hj]
    · cases k with
      | zero =>
        simp at hk; subst hk
        have e0 : (masks l (acc ++ [m])).getD (acc.length + 0) 0 = m := by
          rw [h2 _ (by simp)]
          simp [List.getD]
        have e1 : (masks l (acc ++ [m])).take (acc.length + 0) = acc := by
          apply List.ext_getElem?
          intro j
          rw [List.getElem?_take]
          simp only [Nat.add_zero]
          by_cases hj : j < acc.length
          · rw [if_pos hj]
            have hj2 : j < (masks l (acc ++ [m])).length := by rw [h1]; simp; omega
            have := h2 j (by simp; omega)
            simp only [List.getD, List.getElem?_append_left hj, List.getElem?_eq_getElem hj2, List.getElem?_eq_getElem hj, Option.getD_some] at this
            rw [List.getElem?_eq_getElem hj2, List.getElem?_eq_getElem hj, this]
          · rw [if_neg hj, List.getElem?_eq_none (by omega)]
        rw [e0, e1, hm]
      | succ k =>
        simp at hk
        have := h3 k o' hk
        simp only [List.length_append, List.length_cons, List.length_nil] at this
        have e : acc.length + (0 + 1) + k = acc.length + (k + 1) := by omega
        rw [e] at this
        exact this

theorem foldl_bit (A : List Nat) (i : Nat) : ∀ (es : List Edge) (s : Nat), (es.foldl (fun s e => if Region.binds .any e then s ||| 2 ^ e.on ||| A.getD e.on 0 else s) s).testBit i = true → s.testBit i = true ∨ ∃ e ∈ es, Region.binds .any e = true ∧ (e.on = i ∨ (A.getD e.on 0).testBit i = true)
  | [], s, h => .inl h
  | e :: es, s, h => by
    simp only [List.foldl_cons] at h
    rcases foldl_bit A i es _ h with h | ⟨e', he', hb, hc⟩
    · split at h
      · rename_i hb
        simp only [Nat.testBit_or, Bool.or_eq_true] at h
        rcases h with (h | h) | h
        · exact .inl h
        · refine .inr ⟨e, by simp, hb, .inl ?_⟩
          rw [Nat.testBit_two_pow] at h
          simpa using h
        · exact .inr ⟨e, by simp, hb, .inr h⟩
      · exact .inl h
    · exact .inr ⟨e', by simp [he'], hb, hc⟩

/-- If j waits for i, j has an edge to i, or to one (ahead of j) that waits for i. -/
theorem ordered_edge {l : List Oper} {i j : Nat} {o : Oper} (ho : l[j]? = some o) (h : ordered (masks l []) i j = true) :
    ∃ e ∈ o.after, Region.binds .any e = true ∧ (e.on = i ∨ (e.on < j ∧ ordered (masks l []) i e.on = true)) := by
  obtain ⟨h1, _, h3⟩ := masks_spec l []
  have := h3 j o ho
  simp only [List.length_nil, Nat.zero_add] at this
  unfold ordered at h
  rw [this, ← Array.foldl_toList] at h
  rcases foldl_bit _ i _ _ h with h | ⟨e, he, hb, hc⟩
  · simp at h
  · refine ⟨e, by simpa using he, hb, ?_⟩
    rcases hc with hc | hc
    · exact .inl hc
    · right
      by_cases hlt : e.on < j
      · refine ⟨hlt, ?_⟩
        unfold ordered
        have : ((masks l []).take j).getD e.on 0 = (masks l []).getD e.on 0 := by
          simp [List.getD, List.getElem?_take, hlt]
        rw [this] at hc
        exact hc
      · have : ((masks l []).take j).getD e.on 0 = 0 := by
          simp [List.getD, List.getElem?_take, hlt]
        rw [this] at hc
        simp at hc

/-- What is listed is closed under waiting. -/
theorem ordered_closed {l : List Oper} {T : Nat → Bool} (hc : ∀ (j : Nat) (o : Oper), l[j]? = some o → T j = true → ∀ e ∈ o.after, Region.binds .any e = true → T e.on = true) (hl : ∀ j, T j = true → j < l.length) :
    ∀ (j : Nat), T j = true → ∀ i, ordered (masks l []) i j = true → T i = true := by
  intro j
  induction j using Nat.strongRecOn with
  | _ j ih =>
    intro hj i ho
    have hlt := hl j hj
    obtain ⟨e, he, hb, h⟩ := ordered_edge (List.getElem?_eq_getElem hlt) ho
    have hT := hc j _ (List.getElem?_eq_getElem hlt) hj e he hb
    rcases h with rfl | ⟨h1, h2⟩
    · exact hT
    · exact ih e.on h1 hT i h2

theorem ordered_ready {l : List Oper} {T : Nat → Bool} (hc : ∀ (j : Nat) (o : Oper), l[j]? = some o → T j = true → ∀ e ∈ o.after, Region.binds .any e = true → T e.on = true) (hl : ∀ j, T j = true → j < l.length) {j : Nat} {o : Oper} (ho : l[j]? = some o)
    (hr : ∀ e ∈ o.after, Region.binds .any e = true → T e.on = true) : ∀ i, ordered (masks l []) i j = true → T i = true := by
  intro i h
  obtain ⟨e, he, hb, h⟩ := ordered_edge ho h
  have hT := hr e he hb
  rcases h with rfl | ⟨h1, h2⟩
  · exact hT
  · exact ordered_closed hc hl e.on hT i h2
end Go.Pd
