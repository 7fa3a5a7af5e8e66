/-
  PURE DATA, part O: views of data, the function's rule, calls by contract. Over any program.
-/
import Derived.Test.YtkinhajadppfaaaDoorPdN
namespace Go.Pd
open Go
set_option linter.unusedSectionVars false
variable [Tabs]
set_option linter.unusedSimpArgs false
set_option linter.unusedVariables false

/-! ### Views: what is known of a value, said otherwise. 'ρ': the new names of the objects that stay; an object that goes may be read as a slice that is never written. -/
mutual
def vw (σ σ' : St) (ρ : Nat → Nat) : D → D → Prop
  | _, .top => True
  | d, .ref k sz i off => k < σ'.nx ∧ d = .ref (ρ k) sz i off
  | d, .osl k sz n => k < σ'.nx ∧ d = .osl (ρ k) sz n
  | d, .mref k => k < σ'.nx ∧ d = .mref (ρ k)
  | d, .agg cs => match d with
    | .agg ds => ds.length = cs.length ∧ vwL σ σ' ρ ds cs
    | _ => False
  | d, .tup cs => match d with
    | .tup ds => ds.length = cs.length ∧ vwL σ σ' ρ ds cs
    | _ => False
  | d, .fn f cs => match d with
    | .fn f' ds => f' = f ∧ ds.length = cs.length ∧ vwL σ σ' ρ ds cs
    | _ => False
  | d, .sl sz els => match d with
    | .sl sz' els' => sz' = sz ∧ els' = els
    | .nils => els = []
    | .emp => els = []
    | .osl k0 sz' n => sz' = sz ∧ 0 < sz ∧ (∀ p ∈ σ'.objs, ρ p.1 ≠ k0) ∧ ∃ ob, σ.get k0 = some ob ∧ ob.sz = sz ∧ n ≤ ob.els.length ∧ els = ob.els.take n ∧ ∀ e ∈ els, D.isPureL e = true
    | _ => False
  | d, d' => d = d'
def vwL (σ σ' : St) (ρ : Nat → Nat) : List D → List D → Prop
  | _, [] => True
  | d :: ds, c :: cs => vw σ σ' ρ d c ∧ vwL σ σ' ρ ds cs
  | [], _ :: _ => False
end

inductive vwE (σ σ' : St) (ρ : Nat → Nat) : List (List D) → List (List D) → Prop
  | same {els} (h : ∀ e ∈ els, D.isPureL e = true) : vwE σ σ' ρ els els
  | nil : vwE σ σ' ρ [] []
  | cons {a b as bs} (hl : a.length = b.length) (h : vwL σ σ' ρ a b) (t : vwE σ σ' ρ as bs) : vwE σ σ' ρ (a :: as) (b :: bs)

theorem look_mem {l : List (Nat × Ob)} {k : Nat} {o : Ob} (h : St.look l k = some o) : (k, o) ∈ l := by
  induction l with
  | nil => simp [St.look] at h
  | cons p l ih =>
    obtain ⟨j, ob⟩ := p
    simp only [St.look] at h
    split at h
    · rename_i e; simp at h; subst e; subst h; simp
    · exact List.mem_cons_of_mem _ (ih h)

section
variable {M0 : Nat → Prop} {w : World} {σ σ' : St} {ι : Nat → Nat} {ρ : Nat → Nat}

theorem vw_sound (hS : SimS M0 w σ ι) (hlive : ∀ p ∈ σ'.objs, ∃ ob, σ.get (ρ p.1) = some ob) {d' : D} :
    (∀ (v : Value) (d : D), R (Mof M0 ι σ) w ι σ.nx v d → vw σ σ' ρ d d' → R (Mof M0 (fun k => ι (ρ k)) σ') w (fun k => ι (ρ k)) σ'.nx v d') := by
  have hM : ∀ b, Mof M0 (fun k => ι (ρ k)) σ' b → Mof M0 ι σ b := by
    intro b hb
    rcases hb with hb | ⟨k, o, hk, rfl⟩
    · exact .inl hb
    · obtain ⟨ob, hob⟩ := hlive _ (look_mem hk)
      exact .inr ⟨ρ k, ob, hob, rfl⟩
  have hRP : ∀ {v : Value} {d : D}, RP (Mof M0 ι σ) w v d → RP (Mof M0 (fun k => ι (ρ k)) σ') w v d := fun h => h.keep (fun _ _ _ => rfl) fun b _ hb => hM b hb
  have leaf : ∀ (v : Value) (d : D), R (Mof M0 ι σ) w ι σ.nx v d → d.isPure = true → R (Mof M0 (fun k => ι (ρ k)) σ') w (fun k => ι (ρ k)) σ'.nx v d := fun v d h hp => .pure (hRP (h.toRP hp))
  refine D.rec (motive_1 := fun d' => ∀ (v : Value) (d : D), R (Mof M0 ι σ) w ι σ.nx v d → vw σ σ' ρ d d' → R (Mof M0 (fun k => ι (ρ k)) σ') w (fun k => ι (ρ k)) σ'.nx v d')
    (motive_2 := fun _ => True)
    (motive_3 := fun cs => ∀ (ds : List D) (vs : Nat → Value), ds.length = cs.length → (∀ j, j < ds.length → R (Mof M0 ι σ) w ι σ.nx (vs j) (ds.getD j .top)) → vwL σ σ' ρ ds cs → ∀ j, j < cs.length → R (Mof M0 (fun k => ι (ρ k)) σ') w (fun k => ι (ρ k)) σ'.nx (vs j) (cs.getD j .top))
    ?top ?und ?int ?bool ?str ?sl ?nils ?emp ?agg ?tup ?fn ?ref ?osl ?ptr ?mref ?nilp ?nilm ?nilf trivial (fun _ _ _ _ => trivial) ?nil ?cons d'
  case top => intro v d _ _; exact R.top v
  case und => intro v d h hv; simp only [vw] at hv; subst hv; exact leaf v _ h rfl
  case int => intro k n v d h hv; simp only [vw] at hv; subst hv; exact leaf v _ h rfl
  case bool => intro b v d h hv; simp only [vw] at hv; subst hv; exact leaf v _ h rfl
  case str => intro s v d h hv; simp only [vw] at hv; subst hv; exact leaf v _ h rfl
  case nils => intro v d h hv; simp only [vw] at hv; subst hv; exact leaf v _ h rfl
  case emp => intro v d h hv; simp only [vw] at hv; subst hv; exact leaf v _ h rfl
  case ptr => intro cs _ v d h hv; simp only [vw] at hv; subst hv; exact leaf v _ h rfl
  case nilp => intro v d h hv; simp only [vw] at hv; subst hv; exact leaf v _ h rfl
  case nilm => intro v d h hv; simp only [vw] at hv; subst hv; exact leaf v _ h rfl
  case nilf => intro v d h hv; simp only [vw] at hv; subst hv; exact leaf v _ h rfl
  case ref =>
    intro k sz i off v d h hv
    simp only [vw] at hv
    obtain ⟨h1, rfl⟩ := hv
    obtain ⟨rfl, _⟩ := h.ref_inv
    exact R.ref (ι := fun k => ι (ρ k)) h1
  case osl =>
    intro k sz n v d h hv
    simp only [vw] at hv
    obtain ⟨h1, rfl⟩ := hv
    obtain ⟨cap, cur, e, rfl, k1, k2, k3, k4, k5⟩ := h.osl_inv
    exact R.osl (ι := fun k => ι (ρ k)) h1 k2 k3 k4 k5
  case mref =>
    intro k v d h hv
    simp only [vw] at hv
    obtain ⟨h1, rfl⟩ := hv
    cases h with
    | pure h => cases h
    | mref _ => exact R.mref (ι := fun k => ι (ρ k)) h1
  case agg =>
    intro cs ih v d h hv
    cases d <;> (try (simp [vw] at hv; done))
    rename_i ds
    simp only [vw] at hv
    obtain ⟨vs, rfl, h1, h2⟩ := h.agg_inv
    refine .agg (by omega) fun j hj => ?_
    exact ih ds (fun j => vs.getD j undef) hv.1 (fun j hj => h2 j hj) hv.2 j hj
  case tup =>
    intro cs ih v d h hv
    cases d <;> (try (simp [vw] at hv; done))
    rename_i ds
    simp only [vw] at hv
    obtain ⟨vs, rfl, h1, h2⟩ := h.tup_inv
    refine .tup (by omega) fun j hj => ?_
    exact ih ds (fun j => vs.getD j undef) hv.1 (fun j hj => h2 j hj) hv.2 j hj
  case fn =>
    intro f cs ih v d h hv
    cases d <;> (try (simp [vw] at hv; done))
    rename_i f' ds
    simp only [vw] at hv
    obtain ⟨rfl, h3, h4⟩ := hv
    obtain ⟨vs, rfl, h1, h2⟩ := h.fn_inv
    refine .fn (by omega) fun j hj => ?_
    exact ih ds (fun j => vs.getD j undef) h3 (fun j hj => h2 j hj) h4 j hj
  case sl =>
    intro sz els _ v d h hv
    cases d <;> (try (simp [vw] at hv; done))
    · simp only [vw] at hv
      obtain ⟨rfl, rfl⟩ := hv
      exact leaf v _ h rfl
    · simp only [vw] at hv
      subst hv
      have := h.nils_inv
      subst this
      exact .pure (.sl0 _ _ _ (by simp))
    · simp only [vw] at hv
      subst hv
      obtain ⟨ad, cap, rfl⟩ := h.emp_inv
      exact .pure (.sl0 _ _ _ (by simp))
    · rename_i k0 sz' n
      simp only [vw] at hv
      obtain ⟨rfl, h0, h1, ob, h2, h3, h4, h5, h6⟩ := hv
      obtain ⟨cap, cur, e, rfl, k1, k2, k3, k4, k5⟩ := h.osl_inv
      obtain ⟨_, cur', e', c1, c2, c3, c4⟩ := hS.holds k0 ob h2
      rw [k4] at c1
      simp at c1
      obtain ⟨rfl, rfl⟩ := c1
      have hlen : els.length = n := by rw [h5]; simp; omega
      rw [← hlen]
      have hget : ∀ i, i < n → els.getD i [] = ob.els.getD i [] := by
        intro i hi
        rw [h5]
        simp [List.getD, List.getElem?_take, hi]
      refine .pure (.sl (fun i j => cur.getD (i * sz' + j) undef) h0 (fun hm => ?_) (by omega) k3 (fun el he => ?_) (fun i hi j hj => ?_) (fun i hi j hj => ?_))
      · rcases hm with hm | ⟨k, o, hk, he⟩
        · exact hS.notM k0 ob h2 hm
        · obtain ⟨ob', hob'⟩ := hlive _ (look_mem hk)
          exact h1 _ (look_mem hk) (hS.inj _ _ _ _ hob' h2 he)
      · rw [h5] at he
        rw [← h3]
        exact c2 el (List.mem_of_mem_take he)
      · have : i * sz' + j < cur.size := by
          have := lin_lt (m := ob.els.length) (i := i) (j := j) (sz := sz') (by omega) hj
          rw [h3] at c3
          omega
        rw [Nat.zero_add, cell_of_row _ _ _ _ _ _ k4]
        simp [this]
      · have := (c4 i (by omega) j (by rw [h3]; exact hj)).2
        rw [h3] at this
        rw [hget i (by omega)]
        refine hRP (this.toRP ?_)
        rw [← hget i (by omega)]
        have hmem : els.getD i [] ∈ els := by
          have : i < els.length := by omega
          simp [List.getD, this]
        exact isPureL_get (h6 _ hmem) j
  case nil => intro ds vs _ _ _ j hj; simp at hj
  case cons =>
    intro c cs ih1 ih2 ds vs hl hr hv j hj
    cases ds with
    | nil => simp at hl
    | cons d ds =>
      simp only [vwL] at hv
      cases j with
      | zero => exact ih1 _ _ (by simpa using hr 0 (by simp)) hv.1
      | succ j =>
        have := ih2 ds (fun j => vs (j + 1)) (by simpa using hl) (fun j hj => by simpa using hr (j + 1) (by simpa using hj)) hv.2 j (by simpa using hj)
        simpa using this

/-- The objects that stay. -/
def stays (σ σ' : St) (ρ : Nat → Nat) : Prop := ∀ p ∈ σ'.objs, p.1 < σ'.nx ∧ ∃ ob, σ.get (ρ p.1) = some ob ∧ ob.sz = p.2.sz ∧ vwE σ σ' ρ ob.els p.2.els
def apartNames (σ' : St) (ρ : Nat → Nat) : Prop := ∀ p ∈ σ'.objs, ∀ q ∈ σ'.objs, ρ p.1 = ρ q.1 → p.1 = q.1

theorem vwE_row : ∀ {as bs : List (List D)}, vwE σ σ' ρ as bs → as.length = bs.length ∧ ∀ i, i < bs.length → ((as.getD i []).length = (bs.getD i []).length ∧ (vwL σ σ' ρ (as.getD i []) (bs.getD i []) ∨ (as.getD i [] = bs.getD i [] ∧ D.isPureL (bs.getD i []) = true)))
  | _, _, .same h => ⟨rfl, fun i hi => ⟨rfl, .inr ⟨rfl, h _ (by simp [List.getD, hi])⟩⟩⟩
  | _, _, .nil => ⟨rfl, fun i hi => by simp at hi⟩
  | _, _, .cons hl h t => by
    obtain ⟨h1, h2⟩ := vwE_row t
    refine ⟨by simp [h1], fun i hi => ?_⟩
    cases i with
    | zero => exact ⟨by simpa using hl, .inl (by simpa using h)⟩
    | succ i => simpa using h2 i (by simpa using hi)

theorem SimS.view (hS : SimS M0 w σ ι) (hst : stays σ σ' ρ) (hap : apartNames σ' ρ) : SimS M0 w σ' (fun k => ι (ρ k)) := by
  have hlive : ∀ p ∈ σ'.objs, ∃ ob, σ.get (ρ p.1) = some ob := fun p hp => by
    obtain ⟨_, ob, h, _⟩ := hst p hp
    exact ⟨ob, h⟩
  have hM0 : ∀ b, Mof M0 (fun k => ι (ρ k)) σ' b → Mof M0 ι σ b := by
    intro b hb
    rcases hb with hb | ⟨k, o, hk, rfl⟩
    · exact .inl hb
    · obtain ⟨ob, hob⟩ := hlive _ (look_mem hk)
      exact .inr ⟨ρ k, ob, hob, rfl⟩
  refine ⟨hS.old, fun k o hk => ?_, fun k k' o o' hk hk' e => ?_, fun k o hk => ?_, hS.tabs.keep (Nat.le_refl _) (fun _ _ _ => rfl) fun b _ hb => hM0 b hb⟩
  · obtain ⟨h1, ob, h2, h3, h4⟩ := hst _ (look_mem hk)
    refine ⟨h1, ?_⟩
    obtain ⟨_, cur, e, c1, c2, c3, c4⟩ := hS.holds _ _ h2
    obtain ⟨g1, g2⟩ := vwE_row h4
    simp only at h3 g1 g2
    refine ⟨cur, e, c1, fun el he => ?_, by rw [← g1, ← h3]; exact c3, fun i hi j hj => ?_⟩
    · obtain ⟨i, hi, rfl⟩ := List.getElem_of_mem he
      have e1 := (g2 i hi).1
      have e2 : o.els.getD i [] = o.els[i] := by simp [List.getD, hi]
      have hi' : i < ob.els.length := by omega
      have e3 : ob.els.getD i [] = ob.els[i] := by simp [List.getD, hi']
      rw [e2, e3] at e1
      rw [← e1, ← h3]
      exact c2 _ (List.getElem_mem hi')
    · rw [← h3] at hj ⊢
      have hc := c4 i (by omega) j hj
      refine ⟨hc.1, ?_⟩
      have hi' : i < ob.els.length := by omega
      have hlen : (ob.els.getD i []).length = ob.sz := by
        have e3 : ob.els.getD i [] = ob.els[i] := by simp [List.getD, hi']
        rw [e3]; exact c2 _ (List.getElem_mem hi')
      obtain ⟨e1, e2⟩ := g2 i hi
      rcases e2 with e2 | ⟨e2, e3⟩
      · have : ∀ (cs ds : List D), ds.length = cs.length → vwL σ σ' ρ ds cs → ∀ j, j < cs.length → vw σ σ' ρ (ds.getD j .top) (cs.getD j .top) := by
          intro cs
          induction cs with
          | nil => intro ds _ _ j hj; simp at hj
          | cons c cs ih =>
            intro ds hl hv j hj
            cases ds with
            | nil => simp at hl
            | cons d ds =>
              simp only [vwL] at hv
              cases j with
              | zero => simpa using hv.1
              | succ j => simpa using ih ds (by simpa using hl) hv.2 j (by simpa using hj)
        exact vw_sound hS hlive _ _ hc.2 (this _ _ e1 e2 j (by omega))
      · rw [e2] at hc
        have hM : ∀ b, Mof M0 (fun k => ι (ρ k)) σ' b → Mof M0 ι σ b := by
          intro b hb
          rcases hb with hb | ⟨k, o, hk, rfl⟩
          · exact .inl hb
          · obtain ⟨ob, hob⟩ := hlive _ (look_mem hk)
            exact .inr ⟨ρ k, ob, hob, rfl⟩
        exact .pure ((hc.2.toRP (isPureL_get e3 j)).keep (fun _ _ _ => rfl) fun b _ hb => hM b hb)
  · obtain ⟨ob, h1⟩ := hlive _ (look_mem hk)
    obtain ⟨ob', h2⟩ := hlive _ (look_mem hk')
    exact hap _ (look_mem hk) _ (look_mem hk') (hS.inj _ _ _ _ h1 h2 e)
  · obtain ⟨ob, h1⟩ := hlive _ (look_mem hk)
    exact hS.notM _ _ h1
end

/-- Every listed slot is viewed. -/
def vwF (σ σ' : St) (ρ : Nat → Nat) (f : Fr) : Fr → Prop
  | [] => True
  | (t, d') :: r => vw σ σ' ρ (f.get t) d' ∧ vwF σ σ' ρ f r

theorem Weak.view {C : Cx} {f f' : Fr} {σ σ' : St} (ρ : Nat → Nat) (hn : C.n0 ≤ σ'.nx) (hρ : ∀ k, k < C.n0 → ρ k = k) (hf : vwF σ σ' ρ f f') (hst : stays σ σ' ρ) (hap : apartNames σ' ρ) : Weak C f σ f' σ' := by
  rintro E a w ⟨ι, G⟩
  have hlive : ∀ p ∈ σ'.objs, ∃ ob, σ.get (ρ p.1) = some ob := fun p hp => by
    obtain ⟨_, ob, h, _⟩ := hst p hp
    exact ⟨ob, h⟩
  refine ⟨fun k => ι (ρ k), G.size, G.defers, hn, G.kept, G.sim.view hst hap, G.old, fun k o hk => ?_, fun k hk => by simp only [hρ k hk]; exact G.stay k hk, fun t => ?_⟩
  · obtain ⟨ob, h⟩ := hlive _ (look_mem hk)
    exact G.mine _ _ h
  · induction f' with
    | nil => exact R.top _
    | cons p r ih =>
      obtain ⟨s, d'⟩ := p
      simp only [vwF] at hf
      simp only [Fr.get]
      split
      · rename_i e
        subst e
        exact vw_sound G.sim hlive _ _ (G.fr s) hf.1
      · exact ih hf.2

/-- Slots forgotten, the state as it is. -/
theorem Weak.frame {C : Cx} {f f' : Fr} {σ : St} (hf : ∀ t, f'.get t = .top ∨ f'.get t = f.get t) : Weak C f σ f' σ := by
  rintro E a w ⟨ι, G⟩
  refine ⟨ι, G.size, G.defers, G.nx, G.kept, G.sim, G.old, G.mine, G.stay, fun t => ?_⟩
  rcases hf t with h | h
  · rw [h]; exact R.top _
  · rw [h]; exact G.fr t
end Go.Pd
