/- PURE DATA: the framework, part X8: objects lent to a function that leaves fresh objects. Over any program. -/
import Derived.Test.YtigkaakdjibakaaX7
set_option linter.unusedSectionVars false
set_option linter.unusedVariables false
set_option linter.unusedSimpArgs false
set_option linter.defProp false
namespace Go.Pd
open Go
variable [Tabs]
/-- Data that lead to nothing but one's own objects. -/
def D.fl : D → Bool
  | .int _ _ | .bool _ | .str _ | .und | .nils | .emp | .nilp | .nilm | .nilf | .top | .ref .. | .osl .. | .sub .. | .mref _ => true
  | .agg cs | .tup cs => cs.attach.all fun ⟨d, _⟩ => D.fl d
  | _ => false
def D.flL (cs : List D) : Bool := cs.all D.fl
theorem fl_agg (cs : List D) : (D.agg cs).fl = D.flL cs := by
  rw [D.fl]; simp [D.flL]
theorem fl_tup (cs : List D) : (D.tup cs).fl = D.flL cs := by
  rw [D.fl]; simp [D.flL]
theorem flL_at {cs : List D} (h : D.flL cs = true) (j : Nat) : (cs.getD j .top).fl = true := by
  by_cases hj : j < cs.length
  · have : cs.getD j .top = cs[j] := by simp [List.getD, hj]
    rw [this]
    exact List.all_eq_true.1 h _ (List.getElem_mem hj)
  · simp [List.getD, List.getElem?_eq_none (Nat.le_of_not_lt hj), D.fl]
theorem RP.fl {M M' : Nat → Prop} {w : World} {v : Value} {d : D} (h : RP M w v d) (hf : d.fl = true) : RP M' w v d := by
  induction h with
  | top v => exact .top v
  | und => exact .und
  | int h => exact .int h
  | bool b => exact .bool b
  | str h => exact .str h
  | sl0 => simp [D.fl] at hf
  | emp a c => exact .emp a c
  | sl => simp [D.fl] at hf
  | nils => exact .nils
  | ptr => simp [D.fl] at hf
  | agg hl hr ih => rw [fl_agg] at hf; exact .agg hl fun j hj => ih j hj (flL_at hf j)
  | tup hl hr ih => rw [fl_tup] at hf; exact .tup hl fun j hj => ih j hj (flL_at hf j)
  | fn => simp [D.fl] at hf
  | nilp => exact .nilp
  | nilm => exact .nilm
  | nilf => exact .nilf
theorem R.fl {M M' : Nat → Prop} {w : World} {ι : Nat → Nat} {n : Nat} {v : Value} {d : D} (h : R M w ι n v d) (hf : d.fl = true) : R M' w ι n v d := by
  induction h with
  | pure h => exact .pure (h.fl hf)
  | ref hk h0 => exact .ref hk h0
  | osl hk h1 h2 h3 h4 => exact .osl hk h1 h2 h3 h4
  | sub hk h1 h2 h3 h4 => exact .sub hk h1 h2 h3 h4
  | mref hk => exact .mref hk
  | agg hl hr ih => rw [fl_agg] at hf; exact .agg hl fun j hj => ih j hj (flL_at hf j)
  | tup hl hr ih => rw [fl_tup] at hf; exact .tup hl fun j hj => ih j hj (flL_at hf j)
  | fn => simp [D.fl] at hf
theorem HoldsB.fl {M M' : Nat → Prop} {w : World} {ι : Nat → Nat} {n : Nat} {blk : Option Obj} {o : Ob} (h : HoldsB M w ι n blk o) (hf : ∀ e ∈ o.els, D.flL e = true) : HoldsB M' w ι n blk o := by
  have at_ : ∀ i j, ((o.els.getD i []).getD j .top).fl = true := by
    intro i j
    by_cases hi : i < o.els.length
    · have : o.els.getD i [] = o.els[i] := by simp [List.getD, hi]
      rw [this]
      exact flL_at (hf _ (List.getElem_mem hi)) j
    · have : o.els.getD i [] = [] := by simp [List.getD, List.getElem?_eq_none (Nat.le_of_not_lt hi)]
      rw [this]; simp [D.fl]
  rcases h with ⟨h0, cur, e, h1, h2, h3, h4⟩ | ⟨h0, es, h1, h2, h3⟩
  · exact .inl ⟨h0, cur, e, h1, h2, h3, fun i hi j hj => ⟨(h4 i hi j hj).1, (h4 i hi j hj).2.fl (at_ i j)⟩⟩
  · refine .inr ⟨h0, es, h1, h2, fun i hi => ?_⟩
    obtain ⟨kk, m, v, x, d, g1, g2, g3, g4⟩ := h3 i hi
    have a0 := at_ i 0
    have a1 := at_ i 1
    rw [g1] at a0 a1
    exact ⟨kk, m, v, x, d, g1, g2, g3.fl a0, g4.fl a1⟩
/-- A function that needs no object and leaves fresh ones, called with objects lent: what it leaves leads to nothing but what is fresh. -/
theorem CallT.lentO {P : Program} {g : FuncId} {args args' : List D} {d : D} {σ : St} {m : Nat} {objs : List (Nat × Ob)} (hc : CallT P g args' St0 d ⟨m, objs⟩) (hl' : lendL σ args args') (hf : d.fl = true) (ho : ∀ p ∈ objs, ∀ e ∈ p.2.els, D.flL e = true) :
    CallT P g args σ (d.shift σ.nx) ⟨σ.nx + m, shiftObjs σ.nx objs ++ σ.objs⟩ := by
  refine ⟨hc.ord, fun M0 w ι vals hS hl hv => ?_⟩
  have S1 : SimS (fun _ => False) w St0 ι := ⟨fun b hb => hb.elim, (fun k o hk => by cases hk), (fun k k' o o' hk => by cases hk), (fun k o hk => by cases hk), hS.tabs.keep (Nat.le_refl _) (fun _ _ _ => rfl) fun b _ hb => hb.elim False.elim fun ⟨k, o, hk, _⟩ => by cases hk⟩
  have e1 : ∀ (ι' : Nat → Nat) b, Mof (fun _ => False) ι' St0 b → False := by
    intro ι' b hb
    rcases hb with hb | ⟨k, o, hk, _⟩
    · exact hb
    · cases hk
  have lens : ∀ (xs bs : List D), lendL σ xs bs → xs.length = bs.length := by
    intro xs
    induction xs with
    | nil => intro bs h; cases bs with | nil => rfl | cons => simp [lendL] at h
    | cons a xs ih => intro bs h; cases bs with | nil => simp [lendL] at h | cons b bs => simp only [lendL] at h; simp [ih bs h.2]
  have ats : ∀ (xs bs : List D), lendL σ xs bs → ∀ j, j < bs.length → lend σ (xs.getD j .top) (bs.getD j .top) := by
    intro xs
    induction xs with
    | nil => intro bs h j hj; cases bs with | nil => simp at hj | cons => simp [lendL] at h
    | cons a xs ih =>
      intro bs h j hj
      cases bs with
      | nil => simp at hj
      | cons b bs =>
        simp only [lendL] at h
        cases j with
        | zero => simpa using h.1
        | succ j => simpa using ih bs h.2 j (by simpa using hj)
  have hlen := lens _ _ hl'
  refine (hc.run _ w ι vals S1 (by omega) fun j hj => .pure ((lend_sound hS _ _ (hv j (by omega)) (ats _ _ hl' j hj)).keep (fun _ _ _ => rfl) fun b _ hb => e1 ι b hb)).mono fun e w' hh => ?_
  obtain ⟨v, ι', rfl, k1, k2, k3, k4, k5, k6⟩ := hh
  have K0 : Kept w w' fun _ => False := k1.mono fun b _ ⟨k, o, hk, _⟩ => by cases hk
  let ιn : Nat → Nat := fun k => if k < σ.nx then ι k else ι' (k - σ.nx)
  have n1 : ∀ k, k < σ.nx → ιn k = ι k := fun k hk => by simp only [ιn, if_pos hk]
  have n2 : ∀ k, ιn (σ.nx + k) = ι' k := fun k => by
    simp only [ιn, if_neg (show ¬ (σ.nx + k < σ.nx) by omega)]
    congr 1; omega
  have lk : ∀ k o, St.get ⟨σ.nx + m, shiftObjs σ.nx objs ++ σ.objs⟩ k = some o → (∃ k0 o0, k = σ.nx + k0 ∧ St.get ⟨m, objs⟩ k0 = some o0 ∧ o = o0.shift σ.nx) ∨ (k < σ.nx ∧ σ.get k = some o) := by
    intro k o hk
    unfold St.get at hk
    simp only at hk
    rw [look_append] at hk
    cases h1 : St.look (shiftObjs σ.nx objs) k with
    | some o1 =>
      rw [h1] at hk
      simp at hk; subst hk
      exact .inl (look_shift _ _ _ _ h1)
    | none =>
      rw [h1] at hk
      simp at hk
      exact .inr ⟨(hS.holds k o hk).1, hk⟩
  have fresh : ∀ k o, St.get ⟨m, objs⟩ k = some o → w.heap.size ≤ ι' k := by
    intro k o hk
    rcases k5 _ _ hk with h | ⟨k0, o0, hk0, _⟩
    · exact h
    · cases hk0
  have mm : ∀ b, b < w.heap.size → Mof M0 ιn ⟨σ.nx + m, shiftObjs σ.nx objs ++ σ.objs⟩ b → Mof M0 ι σ b := by
    intro b hb hm
    rcases hm with hm | ⟨k, o, hk, rfl⟩
    · exact .inl hm
    · rcases lk k o hk with ⟨k0, o0, rfl, h2, _⟩ | ⟨h1, h2⟩
      · have := fresh k0 o0 h2
        rw [n2] at hb
        omega
      · exact .inr ⟨k, o, h2, (n1 k h1).symm⟩
  have mv : ∀ b, Mof M0 ιn ⟨σ.nx + m, shiftObjs σ.nx objs ++ σ.objs⟩ b → Mof (Mof M0 ι σ) ι' ⟨m, objs⟩ b := by
    intro b hm
    rcases hm with hm | ⟨k, o, hk, rfl⟩
    · exact .inl (.inl hm)
    · rcases lk k o hk with ⟨k0, o0, rfl, h2, _⟩ | ⟨h1, h2⟩
      · exact .inr ⟨k0, o0, h2, (n2 k0).symm⟩
      · exact .inl (.inr ⟨k, o, h2, (n1 k h1).symm⟩)
  refine ⟨v, ιn, rfl, K0.none _, ⟨fun b hb => Nat.lt_of_lt_of_le (hS.old b hb) K0.size, fun k o hk => ?_, fun k k' o o' hk hk' e => ?_, fun k o hk hm => ?_, hS.tabs.keep K0.size (fun b hb hM => K0.block b hb id) fun b hb hm => mm b hb hm⟩, Nat.le_add_right _ _, n1, fun k o hk => ?_, R.shift mv (fun k _ => n2 k) (k6.fl hf)⟩
  · rcases lk k o hk with ⟨k0, o0, rfl, h2, rfl⟩ | ⟨h1, h2⟩
    · obtain ⟨g1, g20⟩ := k2.holds k0 o0 h2
      have g2 : HoldsB (Mof (Mof M0 ι σ) ι' ⟨m, objs⟩) w' ι' m w'.heap[ι' k0]? o0 := g20.fl (ho (k0, o0) (look_mem h2))
      have glt : k0 < m := g1
      rcases g2 with ⟨s0, cur, e, c1, c2, c3, c4⟩ | ⟨s0, es, c1, c2, c3⟩
      case inr =>
        refine ⟨by show σ.nx + k0 < σ.nx + m; omega, .inr ⟨s0, es, by rw [n2]; exact c1, by simpa [Ob.shift] using c2, fun i hi => ?_⟩⟩
        simp only [Ob.shift, List.length_map] at hi ⊢
        obtain ⟨kk, y, v, x, d, r1, r2, r3, r4⟩ := c3 i hi
        refine ⟨kk, y, v, x.shift σ.nx, d.shift σ.nx, ?_, r2, R.shift mv (fun k _ => n2 k) r3, R.shift mv (fun k _ => n2 k) r4⟩
        have : (o0.els.map (D.shiftL σ.nx)).getD i [] = D.shiftL σ.nx (o0.els.getD i []) := by simp [List.getD, hi]
        rw [this, r1]; rfl
      refine ⟨by show σ.nx + k0 < σ.nx + m; omega, .inl ⟨s0, cur, e, by rw [n2]; exact c1, fun el he => ?_, by simpa [Ob.shift] using c3, fun i hi j hj => ?_⟩⟩
      · simp only [Ob.shift, List.mem_map] at he ⊢
        obtain ⟨el', h3, rfl⟩ := he
        rw [shiftL_len]; exact c2 _ h3
      · simp only [Ob.shift, List.length_map] at hi hj ⊢
        have h3 := c4 i hi j hj
        have e2 : ((o0.els.map (D.shiftL σ.nx)).getD i []).getD j .top = ((o0.els.getD i []).getD j .top).shift σ.nx := by
          have : (o0.els.map (D.shiftL σ.nx)).getD i [] = D.shiftL σ.nx (o0.els.getD i []) := by simp [List.getD, hi]
          rw [this, shiftL_get]
        rw [e2]
        exact ⟨h3.1, R.shift mv (fun k _ => n2 k) h3.2⟩
    · obtain ⟨g1, g2⟩ := hS.holds k o h2
      exact ⟨by show k < σ.nx + m; omega, g2.keep (K0.block _ (Own.lt hS ⟨k, o, h2, rfl⟩) id) (n1 k h1) (fun b hb _ => K0.block b hb id) (fun b hb hm => mm b hb hm) K0.shape n1 (Nat.le_add_right _ _)⟩
  · rcases lk k o hk with ⟨k0, o0, rfl, h2, rfl⟩ | ⟨h1, h2⟩ <;> rcases lk k' o' hk' with ⟨k0', o0', rfl, h2', rfl⟩ | ⟨h1', h2'⟩
    · rw [n2, n2] at e
      rw [k2.inj _ _ _ _ h2 h2' e]
    · rw [n2, n1 k' h1'] at e
      have := fresh _ _ h2
      have := Own.lt hS ⟨k', o', h2', rfl⟩
      omega
    · rw [n1 k h1, n2] at e
      have := fresh _ _ h2'
      have := Own.lt hS ⟨k, o, h2, rfl⟩
      omega
    · rw [n1 k h1, n1 k' h1'] at e
      exact hS.inj _ _ _ _ h2 h2' e
  · rcases lk k o hk with ⟨k0, o0, rfl, h2, rfl⟩ | ⟨h1, h2⟩
    · rw [n2] at hm
      have := fresh _ _ h2
      have := hS.old _ hm
      omega
    · rw [n1 k h1] at hm
      exact hS.notM k o h2 hm
  · rcases lk k o hk with ⟨k0, o0, rfl, h2, rfl⟩ | ⟨h1, h2⟩
    · rw [n2]; exact .inl (fresh _ _ h2)
    · rw [n1 k h1]; exact .inr ⟨k, o, h2, rfl⟩

theorem CallT.lent1 {P : Program} {g : FuncId} {args args' : List D} {d : D} {σ : St} {m : Nat} {objs : List (Nat × Ob)} (hc : CallT P g args' St0 d ⟨m, objs⟩) (hl' : lendL σ args args') (hf : d.fl = true) (ho : ∀ p ∈ objs, ∀ e ∈ p.2.els, D.flL e = true)
    {d' : D} {objs' : List (Nat × Ob)} (hd : d.shift σ.nx = d') (hob : shiftObjs σ.nx objs ++ σ.objs = objs') : CallT P g args σ d' ⟨σ.nx + m, objs'⟩ := by
  subst hd; subst hob
  exact CallT.lentO hc hl' hf ho
end Go.Pd
