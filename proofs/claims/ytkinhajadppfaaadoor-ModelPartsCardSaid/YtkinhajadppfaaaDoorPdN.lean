/-
  PURE DATA, part N: code; the function; the loop; views. Over any program.
-/
import Derived.Test.YtkinhajadppfaaaDoorPdM
namespace Go.Pd
open Go
set_option linter.unusedSectionVars false
variable [Tabs]
set_option linter.unusedSimpArgs false
set_option linter.unusedVariables false

/-- A post over data, in the model. -/
def LQ (C : Cx) (E : Env) (Q : Exit → Fr → St → Prop) (e : Exit) (a : Act) (w : World) : Prop := ∃ f σ, Good C E a w f σ ∧ Q e f σ

theorem wpD_code {C : Cx} (hm : C.P.follows .mixedOrders = true) : ∀ (code : Code) (dc : DC) (f : Fr) (σ : St) (Q : Exit → Fr → St → Prop), mkC C.P C.N C.own code = some dc → wpD C dc f σ Q →
    ∀ E a w, Good C E a w f σ → code.wp C.P (LQ C E Q) a w
  | .skip, dc, f, σ, Q, hc, h, E, a, w, G => by
    simp [mkC] at hc; subst hc
    exact wp_skip ⟨f, σ, G, h⟩
  | .exit id, dc, f, σ, Q, hc, h, E, a, w, G => by
    simp [mkC] at hc; subst hc
    exact wp_exit ⟨f, σ, G, h⟩
  | .ret, dc, f, σ, Q, hc, h, E, a, w, G => by
    simp [mkC] at hc; subst hc
    exact wp_ret ⟨f, σ, G, h⟩
  | .region id ops draw, dc, f, σ, Q, hc, h, E, a, w, G => by
    simp only [mkC, Option.bind_eq_bind, Option.bind_eq_some_iff] at hc
    obtain ⟨l, hl, hc⟩ := hc
    cases draw with
    | false =>
      simp at hc; subst hc
      simp only [wpD, preW] at h
      exact wp_region_list (opsW_sound (E := E) (Q := LQ C E Q) (fun a w f σ G h => ⟨f, σ, G, h⟩) ops.toList l a w f σ hl G h)
    | true =>
      simp only [if_true] at hc
      split at hc
      · rename_i hok
        simp at hc; subst hc
        simp only [wpD] at h
        obtain ⟨t1, h1, h2, h3, h4⟩ := preW_trace _ _ h
        obtain ⟨t2, g1, g2, g3⟩ := opsW_trace _ _ _ h2
        have e0 : SAt t1 σ = σ := by
          cases t1 with
          | nil => rfl
          | cons p t =>
            have : ∀ (t : List (D × St)) (σ0 : St), (∀ p ∈ t, p.2 = σ0) → SAt t σ0 = σ0 := by
              intro t
              induction t with
              | nil => intro σ0 _; rfl
              | cons p t ih =>
                intro σ0 hp
                have hp0 := hp p (by simp)
                simp only [SAt]
                rw [hp0]
                exact ih σ0 fun q hq => hp q (by simp [hq])
            exact this _ _ h4
        have g1' : Trace C (l.drop (headLen (l.map (·.k)))) (FAt (l.take (headLen (l.map (·.k)))) t1 f) (SAt t1 σ) t2 := by rw [e0]; exact g1
        obtain ⟨k1, k2, k3⟩ := Trace.append h1 h3 g1'
        rw [List.take_append_drop] at k1 k2
        have hlen : (t1 ++ t2).length = l.length := by
          rw [List.length_append, h3, g3, ← List.length_append, List.take_append_drop]
        have hsl : headLen (l.map (·.k)) ≤ l.length := by
          have : ∀ ks : List DK, headLen ks ≤ ks.length := by
            intro ks
            induction ks with
            | nil => simp [headLen]
            | cons k ks ih => simp only [headLen]; split <;> simp <;> omega
          simpa using this (l.map (·.k))
        refine draw_sound (E := E) (Q := LQ C E Q) hm hl hok k1 hlen (fun i hi => ?_) (fun a w G' => ⟨_, _, G', ?_⟩) G
        · have hit : i < t1.length := by rw [h3]; simp; omega
          have hp : (t1 ++ t2)[i]? = some t1[i] := by rw [List.getElem?_append_left hit, List.getElem?_eq_getElem hit]
          rw [SAt_succ _ _ _ _ hp]
          exact h4 _ (List.getElem_mem hit)
        · rw [k2, k3, e0]
          exact g2
      · simp at hc
  | .seq x y, dc, f, σ, Q, hc, h, E, a, w, G => by
    simp only [mkC, Option.bind_eq_bind, Option.bind_eq_some_iff, Option.pure_def, Option.some.injEq] at hc
    obtain ⟨dx, hx, dy, hy, rfl⟩ := hc
    refine wp_seq (wp_mono (wpD_code hm x dx f σ _ hx h E a w G) fun e a w ⟨f', σ', G', hQ⟩ => ?_)
    cases e with
    | normal => exact wpD_code hm y dy f' σ' Q hy hQ E a w G'
    | exit id => exact ⟨f', σ', G', hQ⟩
    | goto l => exact ⟨f', σ', G', hQ⟩
    | ret => exact ⟨f', σ', G', hQ⟩
    | panic ch => exact ⟨f', σ', G', hQ⟩
    | outgrown => exact ⟨f', σ', G', hQ⟩
  | .cond c x y, dc, f, σ, Q, hc, h, E, a, w, G => by
    simp only [mkC, Option.bind_eq_bind, Option.bind_eq_some_iff, Option.pure_def, Option.some.injEq] at hc
    obtain ⟨c', hc', dx, hx, dy, hy, rfl⟩ := hc
    simp only [wpD] at h
    split at h
    · rename_i t ht
      have G0 := G
      obtain ⟨ι, G0⟩ := G0
      have := (ht ▸ evO_sound G0.fr hc').bool_inv
      exact wp_cond_split this (fun e => wpD_code hm x dx f σ Q hx ((iteb h).1 e) E a w G) (fun e => wpD_code hm y dy f σ Q hy ((iteb h).2 e) E a w G)
    · exact h.elim
  | .block id c, dc, f, σ, Q, hc, h, E, a, w, G => by
    simp only [mkC, Option.bind_eq_bind, Option.bind_eq_some_iff, Option.pure_def, Option.some.injEq] at hc
    obtain ⟨dx, hx, rfl⟩ := hc
    refine wp_block (wp_mono (wpD_code hm c dx f σ _ hx h E a w G) fun e a w ⟨f', σ', G', hQ⟩ => ?_)
    cases e with
    | exit i =>
      simp only [Exit.inBlock]
      simp only [blockW] at hQ
      split
      · rename_i he; rw [if_pos he] at hQ; exact ⟨f', σ', G', hQ⟩
      · rename_i he; rw [if_neg he] at hQ; exact ⟨f', σ', G', hQ⟩
    | normal => exact ⟨f', σ', G', hQ⟩
    | goto l => exact ⟨f', σ', G', hQ⟩
    | ret => exact ⟨f', σ', G', hQ⟩
    | panic ch => exact ⟨f', σ', G', hQ⟩
    | outgrown => exact ⟨f', σ', G', hQ⟩
  | .loop c, dc, f, σ, Q, hc, h, E, a, w, G => by
    have hc0 := hc
    simp only [mkC, Option.bind_eq_bind, Option.bind_eq_some_iff, Option.pure_def, Option.some.injEq] at hc
    obtain ⟨dx, hx, rfl⟩ := hc
    exact h _ hc0 E a w G
  | .rangeFunc .., dc, f, σ, Q, hc, h, E, a, w, G => by simp [mkC] at hc
  | .scope _, dc, f, σ, Q, hc, h, E, a, w, G => by simp [mkC] at hc
  | .label _, dc, f, σ, Q, hc, h, E, a, w, G => by simp [mkC] at hc
  | .goto _, dc, f, σ, Q, hc, h, E, a, w, G => by simp [mkC] at hc
  | .refuse _, dc, f, σ, Q, hc, h, E, a, w, G => by simp [mkC] at hc

theorem wpS_of {C : Cx} (hm : C.P.follows .mixedOrders = true) {dc : DC} {f : Fr} {σ : St} {Q : Exit → Fr → St → Prop} (h : wpD C dc f σ Q) : wpS C dc f σ Q :=
  fun code hc E a w G => wpD_code hm code dc f σ Q hc h E a w G

theorem wpS_mono {C : Cx} {dc : DC} {f : Fr} {σ : St} {Q Q' : Exit → Fr → St → Prop} (h : wpS C dc f σ Q) (hq : ∀ e f σ, Q e f σ → Q' e f σ) : wpS C dc f σ Q' :=
  fun code hc E a w G => wp_mono (h code hc E a w G) fun e a w ⟨f, σ, G, hQ⟩ => ⟨f, σ, G, hq _ _ _ hQ⟩

/-- What is known of a frame and a state may be forgotten, viewed otherwise. -/
def Weak (C : Cx) (f : Fr) (σ : St) (f' : Fr) (σ' : St) : Prop := ∀ E a w, Good C E a w f σ → Good C E a w f' σ'

theorem Weak.refl {C : Cx} {f : Fr} {σ : St} : Weak C f σ f σ := fun _ _ _ G => G

theorem wpS_weak {C : Cx} {dc : DC} {f f' : Fr} {σ σ' : St} {Q : Exit → Fr → St → Prop} (hw : Weak C f σ f' σ') (h : wpS C dc f' σ' Q) : wpS C dc f σ Q :=
  fun code hc E a w G => h code hc E a w (hw E a w G)

theorem mkC_region {P : Program} {N : Nat} {own : List Nat} {id : Nat} {ops : Array Oper} {draw : Bool} {dc : DC} (h : mkC P N own (.region id ops draw) = some dc) : ∃ x y, dc = .reg x y := by
  simp only [mkC, Option.bind_eq_bind, Option.bind_eq_some_iff] at h
  obtain ⟨l, hl, h⟩ := h
  split at h
  · split at h
    · simp at h; exact ⟨_, _, h.symm⟩
    · simp at h
  · simp at h; exact ⟨_, _, h.symm⟩
theorem mkC_seq {P : Program} {N : Nat} {own : List Nat} {code : Code} {x y : DC} (h : mkC P N own code = some (.seq x y)) : ∃ a b, code = .seq a b ∧ mkC P N own a = some x ∧ mkC P N own b = some y := by
  cases code with
  | region id ops draw => obtain ⟨_, _, e⟩ := mkC_region h; cases e
  | seq a b =>
    simp only [mkC, Option.bind_eq_bind, Option.bind_eq_some_iff, Option.pure_def, Option.some.injEq, DC.seq.injEq] at h
    obtain ⟨dx, hx, dy, hy, rfl, rfl⟩ := h
    exact ⟨a, b, rfl, hx, hy⟩
  | _ => simp [mkC, Option.bind_eq_some_iff] at h
theorem mkC_block {P : Program} {N : Nat} {own : List Nat} {code : Code} {id : Nat} {x : DC} (h : mkC P N own code = some (.block id x)) : ∃ c, code = .block id c ∧ mkC P N own c = some x := by
  cases code with
  | region id ops draw => obtain ⟨_, _, e⟩ := mkC_region h; cases e
  | block i c =>
    simp only [mkC, Option.bind_eq_bind, Option.bind_eq_some_iff, Option.pure_def, Option.some.injEq, DC.block.injEq] at h
    obtain ⟨dx, hx, rfl, rfl⟩ := h
    exact ⟨c, rfl, hx⟩
  | _ => simp [mkC, Option.bind_eq_some_iff] at h
theorem mkC_loop {P : Program} {N : Nat} {own : List Nat} {code : Code} {x : DC} (h : mkC P N own code = some (.loop x)) : ∃ c, code = .loop c ∧ mkC P N own c = some x := by
  cases code with
  | region id ops draw => obtain ⟨_, _, e⟩ := mkC_region h; cases e
  | loop c =>
    simp only [mkC, Option.bind_eq_bind, Option.bind_eq_some_iff, Option.pure_def, Option.some.injEq, DC.loop.injEq] at h
    obtain ⟨dx, hx, rfl⟩ := h
    exact ⟨c, rfl, hx⟩
  | _ => simp [mkC, Option.bind_eq_some_iff] at h

theorem wpS_seq {C : Cx} {x y : DC} {f : Fr} {σ : St} {Q : Exit → Fr → St → Prop} (h : wpS C x f σ (thenW (fun f σ => wpS C y f σ Q) Q)) : wpS C (.seq x y) f σ Q := by
  intro code hc E a w G
  obtain ⟨a', b', rfl, hx, hy⟩ := mkC_seq hc
  refine wp_seq (wp_mono (h a' hx E a w G) fun e a w ⟨f', σ', G', hQ⟩ => ?_)
  cases e with
  | normal => exact hQ b' hy E a w G'
  | exit id => exact ⟨f', σ', G', hQ⟩
  | goto l => exact ⟨f', σ', G', hQ⟩
  | ret => exact ⟨f', σ', G', hQ⟩
  | panic ch => exact ⟨f', σ', G', hQ⟩
  | outgrown => exact ⟨f', σ', G', hQ⟩

theorem wpS_block {C : Cx} {id : Nat} {x : DC} {f : Fr} {σ : St} {Q : Exit → Fr → St → Prop} (h : wpS C x f σ (blockW id Q)) : wpS C (.block id x) f σ Q := by
  intro code hc E a w G
  obtain ⟨c, rfl, hx⟩ := mkC_block hc
  refine wp_block (wp_mono (h c hx E a w G) fun e a w ⟨f', σ', G', hQ⟩ => ?_)
  cases e with
  | exit j =>
    simp only [Exit.inBlock]
    simp only [blockW] at hQ
    split
    · rename_i he; rw [if_pos he] at hQ; exact ⟨f', σ', G', hQ⟩
    · rename_i he; rw [if_neg he] at hQ; exact ⟨f', σ', G', hQ⟩
  | normal => exact ⟨f', σ', G', hQ⟩
  | goto l => exact ⟨f', σ', G', hQ⟩
  | ret => exact ⟨f', σ', G', hQ⟩
  | panic ch => exact ⟨f', σ', G', hQ⟩
  | outgrown => exact ⟨f', σ', G', hQ⟩

/-- THE LOOP. 'g', 's': the frame and the state at the head of a round, by a parameter; 'I': what holds of the parameter; 'm': what every round lowers. -/
theorem wpS_loop {C : Cx} {dc : DC} {f : Fr} {σ : St} {Q : Exit → Fr → St → Prop} {α : Type} (g : α → Fr) (s : α → St) (I : α → Prop) (m : α → Nat) (a0 : α) (h0 : I a0) (hw : Weak C f σ (g a0) (s a0))
    (round : ∀ a, I a → wpS C dc (g a) (s a) (thenW (fun f' σ' => ∃ a', I a' ∧ Weak C f' σ' (g a') (s a') ∧ m a' < m a) Q)) : wpS C (.loop dc) f σ Q := by
  intro code hc E a w G b k cs
  obtain ⟨c, rfl, hx⟩ := mkC_loop hc
  have key : ∀ n p, m p = n → I p → ∀ a w, Good C E a w (g p) (s p) →
      ∃ e a' w', LQ C E Q e a' w' ∧ Arrives C.P (lone (b.at a (.code c :: .inLoop c :: k)) cs w) b k cs e a' w' := by
    intro n
    induction n using Nat.strongRecOn with
    | _ n ih =>
      intro p hp hI a w G
      obtain ⟨e, a₁, w₁, ⟨f₁, σ₁, G₁, hq⟩, harr⟩ := round p hI c hx E a w G b (.inLoop c :: k) cs
      cases e with
      | normal =>
        obtain ⟨p', hI', hwk, hlt⟩ := hq
        obtain ⟨e₂, a₂, w₂, hq₂, harr₂⟩ := ih (m p') (hp ▸ hlt) p' rfl hI' a₁ w₁ (hwk E a₁ w₁ G₁)
        exact ⟨e₂, a₂, w₂, hq₂, .of_steps (Steps.trans harr (.one step_inLoop)) harr₂⟩
      | exit id => exact ⟨_, a₁, w₁, ⟨f₁, σ₁, G₁, hq⟩, .pass (x := .inLoop c) rfl (fun _ _ => .inl (by simp)) harr⟩
      | goto l => exact ⟨_, a₁, w₁, ⟨f₁, σ₁, G₁, hq⟩, .pass (x := .inLoop c) rfl (fun _ _ => .inl (by simp)) harr⟩
      | ret => exact ⟨_, a₁, w₁, ⟨f₁, σ₁, G₁, hq⟩, .pass (x := .inLoop c) rfl (fun _ _ => .inl (by simp)) harr⟩
      | panic ch => exact ⟨_, a₁, w₁, ⟨f₁, σ₁, G₁, hq⟩, .pass (x := .inLoop c) rfl (fun _ _ => .inl (by simp)) harr⟩
      | outgrown => exact ⟨_, a₁, w₁, ⟨f₁, σ₁, G₁, hq⟩, .pass (x := .inLoop c) rfl (fun _ _ => .inl (by simp)) harr⟩
  obtain ⟨e, a', w', hq, harr⟩ := key _ a0 rfl h0 a w (hw E a w G)
  exact ⟨e, a', w', hq, .of_steps (.one step_loop) harr⟩
end Go.Pd
