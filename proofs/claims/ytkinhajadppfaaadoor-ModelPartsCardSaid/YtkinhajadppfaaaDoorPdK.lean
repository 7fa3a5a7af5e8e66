/-
  PURE DATA, part K: regions, in the text's order and in any order. Over any program.
-/
import Derived.Test.YtkinhajadppfaaaDoorPdJ
namespace Go.Pd
open Go
set_option linter.unusedSectionVars false
variable [Tabs]
set_option linter.unusedSimpArgs false
set_option linter.unusedVariables false

def GuardRel (N : Nat) (ops : Array Oper) (o : Oper) (dop : DOp) : Prop :=
  (o.guard = none ∧ dop.guard = none) ∨ ∃ j b oj d, o.guard = some (j, b) ∧ ops[j]? = some oj ∧ oj.dst = some d ∧ d < N ∧ dop.guard = some (d, b)

theorem mkOp_inv {P : Program} {N : Nat} {own : List Nat} {ops : Array Oper} {o : Oper} {dop : DOp} (h : mkOp P N own ops o = some dop) :
    mkK P N own o = some dop.k ∧ o.dst = dop.dst ∧ (∀ t, dop.dst = some t → t < N) ∧ GuardRel N ops o dop := by
  unfold mkOp at h
  simp only [Option.bind_eq_bind, Option.bind_eq_some_iff, Option.pure_def, Option.some.injEq] at h
  obtain ⟨k, hk, dst, hdst, g, hg, rfl⟩ := h
  refine ⟨hk, ?_, ?_, ?_⟩
  · split at hdst
    · split at hdst
      · rename_i d hd hlt; simp at hdst; subst hdst; exact hd
      · simp at hdst
    · rename_i hd; simp at hdst; subst hdst; exact hd
  · intro t ht
    simp only at ht
    split at hdst
    · split at hdst
      · rename_i d hd hlt; simp at hdst; subst hdst; simp at ht; subst ht; exact hlt
      · simp at hdst
    · simp at hdst; subst hdst; simp at ht
  · split at hg
    · rename_i hgd
      simp at hg; subst hg
      exact .inl ⟨hgd, rfl⟩
    · rename_i j b hgd
      simp only [Option.bind_eq_some_iff] at hg
      obtain ⟨oj, hoj, d, hd, hg⟩ := hg
      split at hg
      · rename_i hlt
        simp at hg; subst hg
        exact .inr ⟨j, b, oj, d, hgd, hoj, hd, hlt, rfl⟩
      · simp at hg

section
variable {C : Cx} {E : Env} {a : Act} {w : World} {f : Fr} {σ : St} {ι : Nat → Nat} {ops : Array Oper} {o : Oper} {dop : DOp} {next : Act → World → Prop} {Q : Exit → Act → World → Prop}

theorem wanted_none (h : GuardRel C.N ops o dop) (hg : dop.guard = none) (y : Nat → Option Bool) : Region.wanted o y = true := by
  rcases h with ⟨h1, _⟩ | ⟨j, b, oj, d, _, _, _, _, h2⟩
  · simp [Region.wanted, h1]
  · rw [h2] at hg; cases hg

theorem wanted_some {M : Nat → Prop} {n : Nat} (h : GuardRel C.N ops o dop) {d : Nat} {b : Bool} (hg : dop.guard = some (d, b)) (hf : FrR M w ι n a.tmps f) (hs : a.tmps.size = C.N) :
    (∀ c, f.get d = .bool c → Region.wanted o (yielded ops a.tmps) = (c == b)) ∧ (f.get d = .und → Region.wanted o (yielded ops a.tmps) = false) := by
  rcases h with ⟨_, h1⟩ | ⟨j, b', oj, d', h1, h2, h3, h4, h5⟩
  · rw [h1] at hg; cases hg
  · rw [h5] at hg
    simp at hg
    obtain ⟨rfl, rfl⟩ := hg
    have hd : d' < a.tmps.size := by rw [hs]; exact h4
    have hr := hf d'
    have e0 : a.tmps.getD d' undef = a.tmps[d'] := by simp [hd]
    have hy : yielded ops a.tmps j = match a.tmps[d'] with | .bool b => some b | _ => none := by
      unfold yielded
      simp [h2, h3, hd]
      generalize a.tmps[d'] = v
      cases v <;> rfl
    refine ⟨fun c hc => ?_, fun hu => ?_⟩
    · rw [hc] at hr
      have := hr.bool_inv
      rw [e0] at this
      rw [this] at hy
      simp only [Region.wanted, h1, hy]
      rfl
    · rw [hu] at hr
      have := hr.und_inv
      rw [e0] at this
      rw [this] at hy
      simp only [Region.wanted, h1, hy, undef]
      rfl

/-- One operation of a region, wanted or not. -/
theorem op_step {K : D → St → Prop} (hop : mkOp C.P C.N C.own ops o = some dop) (hG : Good C E a w f σ) (h : guardW dop f (opV C σ (evO f) dop.k K) (K .und σ))
    (hn : ∀ a' w' d σ', Good C E a' w' (f.put dop.dst d) σ' → K d σ' → next a' w') :
    if Region.wanted o (yielded ops a.tmps) then o.wp C.P a w next Q else next (a.put o.dst undef) w := by
  obtain ⟨hk, hdst, hN, hgr⟩ := mkOp_inv hop
  obtain ⟨ι, G⟩ := hG
  have yes : opV C σ (evO f) dop.k K → o.wp C.P a w next Q := fun h => opV_sound hk hdst hN G h hn
  have no : K .und σ → next (a.put o.dst undef) w := fun h => by
    rw [hdst]
    exact hn _ _ _ _ ⟨ι, G.step (Kept.refl _ _) G.sim (Nat.le_refl _) (fun _ _ => rfl) (fun k ob hko => .inr ⟨k, ob, hko, rfl⟩) (.pure .und) hN⟩ h
  unfold guardW at h
  split at h
  · rename_i hg
    rw [wanted_none hgr hg, if_pos rfl]
    exact yes h
  · rename_i d want hg
    obtain ⟨h1, h2⟩ := wanted_some hgr hg G.fr G.size
    split at h
    · rename_i b hb
      rw [h1 b hb]
      by_cases hbw : b = want
      · subst hbw
        simp
        exact yes ((ite_and h).1 rfl)
      · have : (b == want) = false := by simpa using hbw
        rw [this]
        simp
        exact no ((ite_and h).2 hbw)
    · rename_i hu
      rw [h2 hu]
      simp
      exact no h
    · exact h.elim

theorem guardW_mono {o : DOp} {f : Fr} {p q p' q' : Prop} (h : guardW o f p q) (hp : p → p') (hq : q → q') : guardW o f p' q' := by
  unfold guardW at *
  split at h
  · exact hp h
  · split at h
    · exact ite_mk (fun e => hp ((ite_and h).1 e)) (fun e => hq ((ite_and h).2 e))
    · exact hq h
    · exact h.elim

/-- The text's order. -/
theorem opsW_sound {K : Fr → St → Prop} (hQ : ∀ a w f σ, Good C E a w f σ → K f σ → Q .normal a w) : ∀ (l : List Oper) (ds : List DOp) (a : Act) (w : World) (f : Fr) (σ : St), mapO (mkOp C.P C.N C.own ops) l = some ds → Good C E a w f σ → opsW C ds f σ K →
    wpList C.P ops Q l a w
  | [], ds, a, w, f, σ, hm, G, h => by
    simp [mapO] at hm; subst hm
    exact hQ _ _ _ _ G h
  | o :: l, ds, a, w, f, σ, hm, G, h => by
    unfold mapO at hm
    split at hm
    · rename_i dop ds' hd hds
      simp at hm; subst hm
      simp only [opsW, opW] at h
      have := op_step (next := wpList C.P ops Q l) (Q := Q) (K := fun d σ' => opsW C ds' (f.put dop.dst d) σ' K) hd G h (fun a' w' d σ' G' h' => opsW_sound hQ l ds' a' w' _ _ hds G' h')
      unfold wpList
      split
      · rename_i hw; rw [if_pos hw] at this; exact .inl this
      · rename_i hw; rw [if_neg hw] at this; exact this
    · simp at hm
end
end Go.Pd
