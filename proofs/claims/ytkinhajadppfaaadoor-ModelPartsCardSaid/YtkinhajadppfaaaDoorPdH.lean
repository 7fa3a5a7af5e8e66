/-
  PURE DATA, part H: the operations that make or write objects of one's own. Over any program.
-/
import Derived.Test.YtkinhajadppfaaaDoorPdG
namespace Go.Pd
open Go
set_option linter.unusedSectionVars false
variable [Tabs]
set_option linter.unusedSimpArgs false
set_option linter.unusedVariables false

theorem Fr.get_put (f : Fr) (t : Nat) (d : D) (s : Nat) : (f.put (some t) d).get s = if t = s then d else f.get s := rfl

theorem FrR.keep {M M' : Nat → Prop} {w w' : World} {ι ι' : Nat → Nat} {n n' : Nat} {tmps : Array Value} {f : Fr} (h : FrR M w ι n tmps f) (hb : ∀ b, b < w.heap.size → ¬ M b → w'.heap[b]? = w.heap[b]?) (hM : ∀ b, b < w.heap.size → M' b → M b)
    (hs : ∀ (b : Nat) (cur : Array Value) (e : TypeId), w.heap[b]? = some (Obj.cells cur e (0, 0)) → ∃ cur' : Array Value, w'.heap[b]? = some (Obj.cells cur' e (0, 0)) ∧ cur'.size = cur.size)
    (hi : ∀ k, k < n → ι' k = ι k) (hn : n ≤ n') : FrR M' w' ι' n' tmps f := fun t => (h t).keep hb hM hs hi hn

theorem FrR.put {M : Nat → Prop} {w : World} {ι : Nat → Nat} {n : Nat} {a : Act} {f : Fr} (h : FrR M w ι n a.tmps f) {dst : Option Nat} {v : Value} {d : D} (hd : ∀ t, dst = some t → t < a.tmps.size) (hr : R M w ι n v d) : FrR M w ι n (a.put dst v).tmps (f.put dst d) := by
  cases dst with
  | none => exact h
  | some t =>
    intro s
    have ht := hd t rfl
    rw [Fr.get_put]
    by_cases hts : t = s
    · subst hts
      simp [Act.put, ht]
      exact hr
    · rw [if_neg hts]
      have := h s
      simp only [Act.put, Array.getD_eq_getD_getElem?, Array.getElem?_setIfInBounds_ne hts]
      simpa using this

theorem put_size (a : Act) (dst : Option Nat) (v : Value) : (a.put dst v).tmps.size = a.tmps.size := by cases dst <;> simp [Act.put]
theorem put_defers' (a : Act) (dst : Option Nat) (v : Value) : (a.put dst v).defers = a.defers := by cases dst <;> rfl

/-- A step: from the state σ to σ', a value into a slot. -/
theorem GoodI.step {C : Cx} {E : Env} {a : Act} {w w' : World} {f : Fr} {σ σ' : St} {ι ι' : Nat → Nat} {dst : Option Nat} {v : Value} {d : D} (G : GoodI C E a w f σ ι) (hk : Kept w w' (Own ι σ)) (hS : SimS E.M0 w' σ' ι') (hnx : σ.nx ≤ σ'.nx)
    (hi : ∀ k, k < σ.nx → ι' k = ι k) (hnew : ∀ k o, σ'.get k = some o → w.heap.size ≤ ι' k ∨ Own ι σ (ι' k)) (hr : R (Mof E.M0 ι' σ') w' ι' σ'.nx v d) (hd : ∀ t, dst = some t → t < C.N) :
    GoodI C E (a.put dst v) w' (f.put dst d) σ' ι' := by
  have hmine : ∀ b, Own ι σ b → E.w0.heap.size ≤ b ∨ E.K0 b := by
    rintro b ⟨k, o, hk, rfl⟩
    exact G.mine k o hk
  refine ⟨by rw [put_size]; exact G.size, by rw [put_defers']; exact G.defers, Nat.le_trans G.nx hnx, ?_, hS, G.old, fun k o hko => ?_, fun k hk0 => ?_, ?_⟩
  · refine G.kept.trans hk (fun _ _ h => h) fun b hb ho => ?_
    rcases hmine b ho with h | h
    · omega
    · exact h
  · rcases hnew k o hko with h | h
    · exact .inl (Nat.le_trans G.kept.size h)
    · exact hmine _ h
  · rw [hi k (Nat.lt_of_lt_of_le hk0 G.nx)]; exact G.stay k hk0
  · refine FrR.put (G.fr.keep (fun b hb hM => hk.block b hb fun ho => hM (.inr ho)) (fun b hb hM => ?_) hk.shape hi hnx) (fun t ht => by rw [G.size]; exact hd t ht) hr
    rcases hM with hM | ⟨k, o, hko, rfl⟩
    · exact .inl hM
    · rcases hnew k o hko with h | h
      · omega
      · exact .inr h

theorem look_new (σ : St) (o : Ob) (k : Nat) : (σ.new o).get k = if σ.nx = k then some o else σ.get k := rfl

theorem look_eraseL : ∀ (l : List (Nat × Ob)) (key k : Nat), St.look (eraseL l key) k = if key = k then none else St.look l k
  | [], key, k => by simp [eraseL, St.look]
  | (j, o) :: r, key, k => by
    simp only [eraseL]
    split
    · rename_i h
      subst h
      rw [look_eraseL r]
      split
      · rfl
      · rename_i hne; simp [St.look, hne]
    · rename_i h
      simp only [St.look]
      rw [look_eraseL r]
      split
      · rename_i h2
        subst h2
        rw [if_neg (fun e => h e.symm)]
      · rfl
theorem look_erase (σ : St) (key k : Nat) : (σ.erase key).get k = if key = k then none else σ.get k := look_eraseL _ _ _

theorem look_setL : ∀ (l : List (Nat × Ob)) (key k : Nat) (o' : Ob), St.look (setL l key o') k = if key = k then (St.look l k).map (fun _ => o') else St.look l k
  | [], key, k, o' => by simp [setL, St.look]
  | (j, o) :: r, key, k, o' => by
    simp only [setL]
    split
    · rename_i h
      subst h
      simp only [St.look]
      split
      · rfl
      · rfl
    · rename_i h
      simp only [St.look]
      rw [look_setL r]
      split
      · rename_i h2
        subst h2
        rw [if_neg (fun e => h (by first | exact e | exact e.symm))]
      · rfl
theorem look_set (σ : St) (key k : Nat) (o' : Ob) : (σ.set key o').get k = if key = k then (σ.get k).map (fun _ => o') else σ.get k := look_setL _ _ _ _

/-- The state with one object more (in a new block, or in the block of one that is gone). -/
theorem SimS.renew {M0 : Nat → Prop} {w w' : World} {σ σ2 : St} {ι ι' : Nat → Nat} {ob : Ob} (kk : Nat) (h : SimS M0 w σ ι) (hk : Kept w w' (Own ι σ)) (hnx : σ.nx ≤ σ2.nx) (hkk : kk < σ2.nx) (hi' : ∀ k, k < σ.nx → ι' k = ι k)
    (hsub : ∀ k o, σ2.get k = some o → (k = kk ∧ o = ob) ∨ (k ≠ kk ∧ σ.get k = some o)) (hi : ∀ k, k ≠ kk → ι' k = ι k) (hb : w.heap.size ≤ ι' kk ∨ Own ι σ (ι' kk)) (hM : ¬ M0 (ι' kk))
    (hdisj : ∀ k o, σ2.get k = some o → k ≠ kk → ι k ≠ ι' kk) (hsame : ∀ k o, σ2.get k = some o → k ≠ kk → w'.heap[ι k]? = w.heap[ι k]?)
    (hob : ∃ (cur : Array Value) (e : TypeId), w'.heap[ι' kk]? = some (Obj.cells cur e (0, 0)) ∧ (∀ el ∈ ob.els, el.length = ob.sz) ∧ ob.els.length * ob.sz ≤ cur.size ∧
      ∀ i, i < ob.els.length → ∀ j, j < ob.sz → (cur.getD (i * ob.sz + j) undef).oneCell' = true ∧ R (Mof M0 ι σ) w ι σ.nx (cur.getD (i * ob.sz + j) undef) ((ob.els.getD i []).getD j .top)) :
    SimS M0 w' σ2 ι' ∧ (∀ k, k < σ.nx → ι' k = ι k) ∧ (∀ k o, σ2.get k = some o → w.heap.size ≤ ι' k ∨ Own ι σ (ι' k)) := by
  have hsubM : ∀ b, b < w.heap.size → Mof M0 ι' σ2 b → Mof M0 ι σ b := by
    intro b hblt hm
    rcases hm with hm | ⟨k, o, hko, rfl⟩
    · exact .inl hm
    · rcases hsub k o hko with ⟨rfl, _⟩ | ⟨hne, hko'⟩
      · rcases hb with h1 | h1
        · omega
        · exact .inr h1
      · exact .inr ⟨k, o, hko', (hi k hne).symm⟩
  have hkeep : ∀ {v : Value} {d : D}, R (Mof M0 ι σ) w ι σ.nx v d → R (Mof M0 ι' σ2) w' ι' σ2.nx v d := fun hr =>
    hr.keep (fun b hb hM => hk.block b hb fun ho => hM (.inr ho)) hsubM hk.shape hi' (by omega)
  refine ⟨⟨fun b hb => Nat.lt_of_lt_of_le (h.old b hb) hk.size, fun k o hko => ?_, fun k k' o o' hko hko' e => ?_, fun k o hko => ?_, h.tabs.keep hk.size (fun b hb hM => hk.block b hb fun ho => hM (.inr ho)) hsubM⟩, hi', fun k o hko => ?_⟩
  · rcases hsub k o hko with ⟨rfl, rfl⟩ | ⟨hne, hko'⟩
    · obtain ⟨cur, e, h1, h2, h3, h4⟩ := hob
      exact ⟨by omega, cur, e, h1, h2, h3, fun i hi0 j hj => ⟨(h4 i hi0 j hj).1, hkeep (h4 i hi0 j hj).2⟩⟩
    · obtain ⟨hlt, cur, e, h1, h2, h3, h4⟩ := h.holds k o hko'
      refine ⟨by omega, cur, e, ?_, h2, h3, fun i hi0 j hj => ⟨(h4 i hi0 j hj).1, hkeep (h4 i hi0 j hj).2⟩⟩
      rw [hi k hne, hsame k o hko hne]; exact h1
  · by_cases h1 : k = kk <;> by_cases h2 : k' = kk
    · rw [h1, h2]
    · subst h1
      rw [hi k' h2] at e
      exact absurd e.symm (hdisj k' o' hko' h2)
    · subst h2
      rw [hi k h1] at e
      exact absurd e (hdisj k o hko h1)
    · rw [hi k h1, hi k' h2] at e
      rcases hsub k o hko with ⟨h3, _⟩ | ⟨_, h3⟩
      · exact absurd h3 h1
      · rcases hsub k' o' hko' with ⟨h4, _⟩ | ⟨_, h4⟩
        · exact absurd h4 h2
        · exact h.inj k k' o o' h3 h4 e
  · rcases hsub k o hko with ⟨rfl, _⟩ | ⟨hne, hko'⟩
    · exact hM
    · rw [hi k hne]; exact h.notM k o hko'
  · rcases hsub k o hko with ⟨rfl, _⟩ | ⟨hne, hko'⟩
    · exact hb
    · exact .inr ⟨k, o, hko', (hi k hne).symm⟩

def newι (σ : St) (ι : Nat → Nat) (b : Nat) (k : Nat) : Nat := if k = σ.nx then b else ι k
theorem newι_nx (σ : St) (ι : Nat → Nat) (b : Nat) : newι σ ι b σ.nx = b := by simp [newι]
theorem newι_ne (σ : St) (ι : Nat → Nat) (b : Nat) {k : Nat} (h : k ≠ σ.nx) : newι σ ι b k = ι k := by simp [newι, h]

/-- A new object in a new block. -/
theorem SimS.new {M0 : Nat → Prop} {w w' : World} {σ : St} {ι : Nat → Nat} {ob : Ob} (h : SimS M0 w σ ι) (hk : Kept w w' fun _ => False)
    (hob : ∃ (cur : Array Value) (e : TypeId), w'.heap[w.heap.size]? = some (Obj.cells cur e (0, 0)) ∧ (∀ el ∈ ob.els, el.length = ob.sz) ∧ ob.els.length * ob.sz ≤ cur.size ∧
      ∀ i, i < ob.els.length → ∀ j, j < ob.sz → (cur.getD (i * ob.sz + j) undef).oneCell' = true ∧ R (Mof M0 ι σ) w ι σ.nx (cur.getD (i * ob.sz + j) undef) ((ob.els.getD i []).getD j .top)) :
    SimS M0 w' (σ.new ob) (newι σ ι w.heap.size) ∧ (∀ k, k < σ.nx → newι σ ι w.heap.size k = ι k) ∧ (∀ k o, (σ.new ob).get k = some o → w.heap.size ≤ newι σ ι w.heap.size k ∨ Own ι σ (newι σ ι w.heap.size k)) := by
  refine h.renew σ.nx (hk.none _) (Nat.le_succ _) (Nat.lt_succ_self _) (fun k hk => newι_ne _ _ _ (by omega)) (fun k o hko => ?_) (fun k hne => newι_ne _ _ _ hne) (.inl (by rw [newι_nx]; exact Nat.le_refl _)) (fun hm => ?_) (fun k o hko hne => ?_) (fun k o hko hne => ?_) (by rw [newι_nx]; exact hob)
  · rw [look_new] at hko
    split at hko
    · rename_i he; exact .inl ⟨he.symm, (Option.some.inj hko).symm⟩
    · rename_i he; exact .inr ⟨fun e => he e.symm, hko⟩
  · rw [newι_nx] at hm
    exact Nat.lt_irrefl _ (h.old _ hm)
  · rw [newι_nx]
    rw [look_new, if_neg (fun e => hne e.symm)] at hko
    have := Own.lt h ⟨k, o, hko, rfl⟩
    omega
  · rw [look_new, if_neg (fun e => hne e.symm)] at hko
    exact hk.block _ (Own.lt h ⟨k, o, hko, rfl⟩) id
end Go.Pd
