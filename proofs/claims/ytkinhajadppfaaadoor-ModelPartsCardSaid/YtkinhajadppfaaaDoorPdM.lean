/-
  PURE DATA, part M: a region that draws its order is as good as in the text's order. Over any program.
-/
import Derived.Test.YtkinhajadppfaaaDoorPdL
namespace Go.Pd
open Go
set_option linter.unusedSectionVars false
variable [Tabs]
set_option linter.unusedSimpArgs false
set_option linter.unusedVariables false

def dstAt (ds : List DOp) (i : Nat) : Option Nat := (ds[i]?).bind (·.dst)
def silentAt (ds : List DOp) (i : Nat) : Bool := ((ds[i]?).map (·.k.silent)).getD true
def dvAt (tr : List (D × St)) (i : Nat) : D := ((tr[i]?).map (·.1)).getD .top

def LV (ds : List DOp) (tr : List (D × St)) (f : Fr) (T : Nat → Bool) : Nat → Nat → D
  | 0, t => f.get t
  | i + 1, t => if T i = true ∧ dstAt ds i = some t then dvAt tr i else LV ds tr f T i t
def SV (ds : List DOp) (tr : List (D × St)) (σ : St) (T : Nat → Bool) : Nat → St
  | 0 => σ
  | i + 1 => if T i = true ∧ silentAt ds i = false then SAt (tr.take (i + 1)) σ else SV ds tr σ T i

section
variable {ds : List DOp} {tr : List (D × St)} {f : Fr} {σ : St}

theorem LV_true (hl : tr.length = ds.length) : ∀ (i : Nat), i ≤ ds.length → ∀ t, (FAt (ds.take i) (tr.take i) f).get t = LV ds tr f (fun _ => true) i t
  | 0, _, t => by simp [FAt, LV]
  | i + 1, h, t => by
    have hi : i < ds.length := h
    have ho : ds[i]? = some ds[i] := List.getElem?_eq_getElem hi
    have hp : tr[i]? = some (tr[i]'(by omega)) := List.getElem?_eq_getElem (by omega)
    rw [FAt_succ ds tr f i _ _ ho hp]
    simp only [LV, dstAt, dvAt, ho, hp, Option.bind_some, Option.map_some, Option.getD_some, true_and]
    cases hd : (ds[i]).dst with
    | none =>
      simp only [Fr.put]
      rw [if_neg (by simp)]
      exact LV_true hl i (by omega) t
    | some d =>
      rw [Fr.get_put]
      by_cases hdt : d = t
      · subst hdt; simp
      · rw [if_neg hdt, if_neg (by simpa using hdt)]
        exact LV_true hl i (by omega) t

theorem LV_cut {T : Nat → Bool} {i t : Nat} : ∀ (m : Nat), (∀ j, j < m → dstAt ds j = some t → (T j = true ↔ j < i)) → LV ds tr f T m t = LV ds tr f (fun _ => true) (min m i) t
  | 0, _ => by simp [LV]
  | m + 1, h => by
    have ih := LV_cut (T := T) (i := i) (t := t) m fun j hj => h j (by omega)
    simp only [LV]
    by_cases hd : dstAt ds m = some t
    · have hm := h m (by omega) hd
      by_cases hlt : m < i
      · rw [if_pos ⟨hm.2 hlt, hd⟩]
        have : min (m + 1) i = m + 1 := by omega
        rw [this]
        simp [LV, hd]
      · have hT : ¬ (T m = true) := fun h => hlt (hm.1 h)
        rw [if_neg (fun h => hT h.1), ih]
        have : min (m + 1) i = min m i := by omega
        rw [this]
    · rw [if_neg (fun h => hd h.2), ih]
      by_cases hlt : m < i
      · have e1 : min (m + 1) i = m + 1 := by omega
        have e2 : min m i = m := by omega
        rw [e1, e2]
        simp [LV, hd]
      · have : min (m + 1) i = min m i := by omega
        rw [this]

theorem LV_last {T : Nat → Bool} {i t : Nat} (hT : T i = true) (hd : dstAt ds i = some t) : ∀ (m : Nat), i < m → (∀ j, i < j → j < m → dstAt ds j = some t → T j = false) → LV ds tr f T m t = dvAt tr i
  | 0, h, _ => by omega
  | m + 1, h, hn => by
    simp only [LV]
    by_cases hm : m = i
    · subst hm
      rw [if_pos ⟨hT, hd⟩]
    · by_cases hdm : dstAt ds m = some t
      · rw [if_neg (fun h => by rw [hn m (by omega) (by omega) hdm] at h; simp at h)]
        exact LV_last hT hd m (by omega) fun j h1 h2 => hn j h1 (by omega)
      · rw [if_neg (fun h => hdm h.2)]
        exact LV_last hT hd m (by omega) fun j h1 h2 => hn j h1 (by omega)

theorem LV_same {T T' : Nat → Bool} {t : Nat} : ∀ (m : Nat), (∀ j, j < m → dstAt ds j = some t → T' j = T j) → LV ds tr f T' m t = LV ds tr f T m t
  | 0, _ => rfl
  | m + 1, h => by
    simp only [LV]
    rw [LV_same m fun j hj => h j (by omega)]
    by_cases hd : dstAt ds m = some t
    · rw [h m (by omega) hd]
    · rw [if_neg (fun h => hd h.2), if_neg (fun h => hd h.2)]

theorem SV_same {T T' : Nat → Bool} : ∀ (m : Nat), (∀ j, j < m → silentAt ds j = false → T' j = T j) → SV ds tr σ T' m = SV ds tr σ T m
  | 0, _ => rfl
  | m + 1, h => by
    simp only [SV]
    rw [SV_same m fun j hj => h j (by omega)]
    by_cases hd : silentAt ds m = false
    · rw [h m (by omega) hd]
    · rw [if_neg (fun h => hd h.2), if_neg (fun h => hd h.2)]

theorem SV_cut {T : Nat → Bool} {i : Nat} (hs : ∀ j, j < ds.length → silentAt ds j = true → SAt (tr.take (j + 1)) σ = SAt (tr.take j) σ) :
    ∀ (m : Nat), m ≤ ds.length → (∀ j, j < m → silentAt ds j = false → (T j = true ↔ j < i)) → SV ds tr σ T m = SAt (tr.take (min m i)) σ
  | 0, _, _ => by simp [SV, SAt]
  | m + 1, hm, h => by
    have ih := SV_cut (T := T) (i := i) hs m (by omega) fun j hj => h j (by omega)
    simp only [SV]
    by_cases hd : silentAt ds m = false
    · have hh := h m (by omega) hd
      by_cases hlt : m < i
      · rw [if_pos ⟨hh.2 hlt, hd⟩]
        have : min (m + 1) i = m + 1 := by omega
        rw [this]
      · rw [if_neg (fun h => hlt (hh.1 h.1)), ih]
        have : min (m + 1) i = min m i := by omega
        rw [this]
    · rw [if_neg (fun h => hd h.2), ih]
      by_cases hlt : m < i
      · have e1 : min (m + 1) i = m + 1 := by omega
        have e2 : min m i = m := by omega
        rw [e1, e2, hs m (by omega) (by simpa using hd)]
      · have : min (m + 1) i = min m i := by omega
        rw [this]

theorem SV_const {T : Nat → Bool} {s : Nat} (hs : ∀ j, j < s → SAt (tr.take (j + 1)) σ = σ) : ∀ (m : Nat), (∀ j, j < m → silentAt ds j = false → T j = true → j < s) → SV ds tr σ T m = σ
  | 0, _ => rfl
  | m + 1, h => by
    simp only [SV]
    split
    · rename_i hc
      exact hs m (h m (by omega) hc.2 hc.1)
    · exact SV_const hs m fun j hj => h j (by omega)
end

theorem guardW_congr {o : DOp} {f g : Fr} {p q : Prop} (h : ∀ d b, o.guard = some (d, b) → f.get d = g.get d) (hg : guardW o f p q) : guardW o g p q := by
  unfold guardW at *
  cases e : o.guard with
  | none => simp only [e] at hg ⊢; exact hg
  | some x =>
    obtain ⟨d, b⟩ := x
    simp only [e] at hg ⊢
    rw [← h d b e]
    exact hg

structure DrawInv (C : Cx) (E : Env) (ops : Array Oper) (ds : List DOp) (tr : List (D × St)) (f : Fr) (σ : St) (listed : Array Bool) (a : Act) (w : World) : Prop where
  size : listed.size = ops.size
  closed : ∀ (j : Nat) (o : Oper), ops.toList[j]? = some o → listed.getD j false = true → ∀ e ∈ o.after, Region.binds .any e = true → listed.getD e.on false = true
  good : ∃ g, (∀ t, g.get t = LV ds tr f (fun i => listed.getD i false) ds.length t) ∧ Good C E a w g (SV ds tr σ (fun i => listed.getD i false) ds.length)

theorem Good.congr {C : Cx} {E : Env} {a : Act} {w : World} {f g : Fr} {σ : St} (h : ∀ t, f.get t = g.get t) (G : Good C E a w f σ) : Good C E a w g σ := by
  obtain ⟨ι, G⟩ := G
  exact ⟨ι, ⟨G.size, G.defers, G.nx, G.kept, G.sim, G.old, G.mine, G.stay, fun t => by rw [← h t]; exact G.fr t⟩⟩

theorem mem_names_opd {o : DOp} {t : Nat} (h : Opd.t t ∈ o.k.opds) : t ∈ o.names := by
  unfold DOp.names
  exact List.mem_append_left _ (List.mem_filterMap.2 ⟨_, h, rfl⟩)
theorem mem_names_guard {o : DOp} {d : Nat} {b : Bool} (h : o.guard = some (d, b)) : d ∈ o.names := by
  unfold DOp.names
  simp [h]

theorem apartD_names {x y : DOp} (h : apartD x y = true) : (∀ d, x.dst = some d → d ∉ y.names) ∧ (∀ d, x.dst = some d → y.dst ≠ some d) ∧ (∀ d, y.dst = some d → d ∉ x.names) := by
  unfold apartD at h
  simp only [Bool.and_eq_true] at h
  refine ⟨fun d hd => ?_, fun d hd => ?_, fun d hd => ?_⟩
  · have := h.1; rw [hd] at this; simp at this; exact this.1
  · have := h.1; rw [hd] at this; simp at this; exact this.2
  · have := h.2; rw [hd] at this; simpa using this

section
variable {C : Cx} {E : Env} {ops : Array Oper} {ds : List DOp} {tr : List (D × St)} {f : Fr} {σ : St} {Q : Exit → Act → World → Prop} {s : Nat}

theorem drawOk_spec (hok : drawOk ops.toList ds s = true) {i j : Nat} {oj : Oper} {di dj : DOp} (hj : ops.toList[j]? = some oj) (hdj : ds[j]? = some dj) (hdi : ds[i]? = some di) (hij : i < j) :
    ordered (masks ops.toList []) i j = true ∨ (apartD di dj = true ∧ (j < s ∨ di.k.silent = true ∨ dj.k.silent = true)) := by
  have hlt : j < ops.toList.length := (List.getElem?_eq_some_iff.1 hj).1
  have h1 := List.all_eq_true.1 hok j (List.mem_range.2 hlt)
  simp only [hj, hdj, Bool.and_eq_true] at h1
  have h2 := List.all_eq_true.1 h1.2 i (List.mem_range.2 hij)
  simp only [hdi, Bool.or_eq_true, Bool.and_eq_true, decide_eq_true_eq] at h2
  rcases h2 with h | ⟨h3, (h | h) | h⟩
  · exact .inl h
  · exact .inr ⟨h3, .inl h⟩
  · exact .inr ⟨h3, .inr (.inl h)⟩
  · exact .inr ⟨h3, .inr (.inr h)⟩

theorem drawOk_back (hok : drawOk ops.toList ds s = true) {j : Nat} {oj : Oper} (hj : ops.toList[j]? = some oj) : ∀ e ∈ oj.after, Region.binds .any e = true → e.on < j := by
  have hlt : j < ops.toList.length := (List.getElem?_eq_some_iff.1 hj).1
  have h1 := List.all_eq_true.1 hok j (List.mem_range.2 hlt)
  simp only [hj] at h1
  split at h1
  · rename_i o d h2 h3
    simp at h2; subst h2
    simp only [Bool.and_eq_true] at h1
    intro e he hb
    have := List.all_eq_true.1 h1.1 e (by simpa using he)
    simp [hb] at this
    exact this
  · simp at h1

theorem draw_any (hd : mapO (mkOp C.P C.N C.own ops) ops.toList = some ds) (hok : drawOk ops.toList ds s = true) (ht : Trace C ds f σ tr) (hlen : tr.length = ds.length) (hpre : ∀ i, i < s → SAt (tr.take (i + 1)) σ = σ)
    (hQ : ∀ a w, Good C E a w (FAt ds tr f) (SAt tr σ) → Q .normal a w) :
    ∀ (fuel : Nat) (listed : Array Bool) (a : Act) (w : World), ((List.range ops.size).filter fun i => !listed.getD i false).length ≤ fuel → DrawInv C E ops ds tr f σ listed a w → wpAny C.P .any ops Q fuel listed a w := by
  obtain ⟨hdl, hdg⟩ := mapO_spec hd
  have hdl' : ds.length = ops.size := by simpa using hdl
  -- silent steps leave the text's state
  have hsil : ∀ j, j < ds.length → silentAt ds j = true → SAt (tr.take (j + 1)) σ = SAt (tr.take j) σ := by
    intro j hj hs
    have ho : ds[j]? = some ds[j] := List.getElem?_eq_getElem hj
    obtain ⟨d, σ', h1, h2⟩ := ht.at j _ ho
    rw [SAt_succ tr σ j _ h1]
    simp only [silentAt, ho, Option.map_some, Option.getD_some] at hs
    unfold guardW at h2
    split at h2
    · exact (opV_silent hs h2).1
    · split at h2
      · exact (Classical.em _).elim (fun hbw => (opV_silent hs ((ite_and h2).1 hbw)).1) (fun hbw => ((ite_and h2).2 hbw).2)
      · exact h2.2
      · exact h2.elim
  -- at the end
  have fin : ∀ (listed : Array Bool) (a : Act) (w : World), Region.ready .any ops listed = [] → DrawInv C E ops ds tr f σ listed a w → Q .normal a w := by
    intro listed a w hr I
    have all : ∀ i, i < ops.size → listed.getD i false = true := by
      intro i
      induction i using Nat.strongRecOn with
      | _ i ih =>
        intro hi
        by_cases hT : listed.getD i false = true
        · exact hT
        · have ho : ops.toList[i]? = some ops[i] := by simp [hi]
          have : i ∈ Region.ready .any ops listed := by
            rw [mem_ready]
            refine ⟨getD_in (by rw [I.size]; exact hi) (by simpa using hT), ops[i], by simp [hi], fun e he hb => ?_⟩
            have := drawOk_back hok ho e he hb
            exact ih e.on this (by omega)
          rw [hr] at this
          cases this
    obtain ⟨g, hg, G⟩ := I.good
    refine hQ a w ?_
    have e1 : SV ds tr σ (fun i => listed.getD i false) ds.length = SAt tr σ := by
      rw [SV_cut (i := ds.length) hsil ds.length (Nat.le_refl _) fun j hj _ => ⟨fun _ => hj, fun _ => all j (by omega)⟩]
      rw [Nat.min_self, ← hlen, List.take_length]
    rw [e1] at G
    refine G.congr fun t => ?_
    rw [hg t, LV_cut (i := ds.length) ds.length fun j hj _ => ⟨fun _ => hj, fun _ => all j (by omega)⟩, Nat.min_self, ← LV_true hlen ds.length (Nat.le_refl _) t]
    rw [List.take_length, ← hlen, List.take_length]
  intro fuel
  induction fuel with
  | zero =>
    intro listed a w hf I
    have hr : Region.ready .any ops listed = [] := by
      apply List.eq_nil_iff_forall_not_mem.2
      intro i hi
      have h1 := (mem_ready.1 hi).1
      obtain ⟨_, o, ho, _⟩ := mem_ready.1 hi
      have hlt : i < ops.size := (Array.getElem?_eq_some_iff.1 ho).1
      have : i ∈ (List.range ops.size).filter fun i => !listed.getD i false := List.mem_filter.2 ⟨List.mem_range.2 hlt, by rw [getD_both h1]; rfl⟩
      rw [List.eq_nil_of_length_eq_zero (Nat.le_zero.1 hf)] at this
      cases this
    exact ⟨hr, fin _ _ _ hr I⟩
  | succ fuel ih =>
    intro listed a w hf I
    refine ⟨fun hr => fin _ _ _ hr I, fun i hi => ?_⟩
    obtain ⟨hun, o, ho, hall⟩ := mem_ready.1 hi
    have hlt : i < ops.size := (Array.getElem?_eq_some_iff.1 ho).1
    have hTi : listed.getD i false = false := getD_both hun
    have hol : ops.toList[i]? = some o := by simpa using ho
    obtain ⟨dop, hdop, hmk⟩ := hdg i o hol
    have hTlen : ∀ j, listed.getD j false = true → j < ops.toList.length := by
      intro j hj
      rcases Nat.lt_or_ge j listed.size with h | h
      · simp; rw [← I.size]; exact h
      · simp [Array.getElem?_eq_none h] at hj
    have rdy : ∀ j, ordered (masks ops.toList []) j i = true → listed.getD j false = true :=
      ordered_ready (T := fun j => listed.getD j false) I.closed hTlen hol hall
    have late : ∀ j, ordered (masks ops.toList []) i j = true → listed.getD j false = false := by
      intro j hj
      by_cases h : listed.getD j false = true
      · have this : listed.getD i false = true := ordered_closed (T := fun j => listed.getD j false) I.closed hTlen j h i hj
        rw [hTi] at this
        cases this
      · simpa using h
    obtain ⟨g, hg, G⟩ := I.good
    obtain ⟨d, σ', htr, hstep⟩ := ht.at i dop hdop
    have hds : ∀ j, j < ds.length → ds[j]? = some (ds.getD j dop) := fun j hj => by simp [List.getD, hj]
    have hopsj : ∀ j, j < ds.length → ops.toList[j]? = some (ops.toList.getD j o) := fun j hj => by
      have : j < ops.toList.length := by omega
      simp only [List.getD, List.getElem?_eq_getElem this, Option.getD_some]
    have hids : i < ds.length := by omega
    -- the slots that are looked at
    have hnm : ∀ t, t ∈ dop.names → g.get t = (FAt (ds.take i) (tr.take i) f).get t := by
      intro t htn
      rw [hg t, LV_true hlen i (by omega) t, LV_cut (i := i) ds.length, Nat.min_eq_right (by omega)]
      intro j hj hdj
      unfold dstAt at hdj
      rw [hds j hj] at hdj
      simp only [Option.bind_some] at hdj
      rcases Nat.lt_trichotomy j i with h | h | h
      · refine ⟨fun _ => h, fun _ => ?_⟩
        rcases drawOk_spec hok hol hdop (hds j hj) h with h2 | ⟨h2, _⟩
        · exact rdy j h2
        · exact absurd htn ((apartD_names h2).1 t hdj)
      · subst h
        exact ⟨(fun h => by rw [hTi] at h; cases h), fun h => absurd h (Nat.lt_irrefl _)⟩
      · refine ⟨fun hT => ?_, fun h' => by omega⟩
        rcases drawOk_spec hok (hopsj j hj) (hds j hj) hdop h with h2 | ⟨h2, _⟩
        · rw [late j h2] at hT; cases hT
        · exact absurd htn ((apartD_names h2).2.2 t hdj)
    have hev : ∀ x ∈ dop.k.opds, evO (FAt (ds.take i) (tr.take i) f) x = evO g x := by
      intro x hx
      cases x with
      | t n => exact (hnm n (mem_names_opd hx)).symm
      | c d => rfl
    have hgd : ∀ d b, dop.guard = some (d, b) → (FAt (ds.take i) (tr.take i) f).get d = g.get d := fun d b h => (hnm d (mem_names_guard h)).symm
    -- the state behind the step
    let T' : Nat → Bool := fun j => (listed.setIfInBounds i true).getD j false
    have hT' : ∀ j, T' j = if i = j then true else listed.getD j false := by
      intro j
      by_cases h : i = j
      · subst h
        simp only [T', if_pos]
        have : i < listed.size := by rw [I.size]; exact hlt
        simp [this]
      · rw [if_neg h]
        exact getD_set_ne false h
    have key : guardW dop g (opV C (SV ds tr σ (fun j => listed.getD j false) ds.length) (evO g) dop.k fun x y => x = d ∧ y = SV ds tr σ T' ds.length) (D.und = d ∧ SV ds tr σ (fun j => listed.getD j false) ds.length = SV ds tr σ T' ds.length) := by
      by_cases hs : dop.k.silent = true
      · have e : SV ds tr σ T' ds.length = SV ds tr σ (fun j => listed.getD j false) ds.length := by
          refine SV_same _ fun j hj hns => ?_
          rw [hT' j]
          by_cases h : i = j
          · subst h
            simp only [silentAt, hdop, Option.map_some, Option.getD_some] at hns
            rw [hs] at hns; cases hns
          · rw [if_neg h]
        rw [e]
        refine guardW_mono (guardW_congr hgd hstep) (fun h => ?_) (fun h => ⟨h.1.symm, rfl⟩)
        exact opV_congr hev ((opV_silent hs h).2 _)
      · have hns : dop.k.silent = false := by simpa using hs
        have hnsi : silentAt ds i = false := by simp only [silentAt, hdop, Option.map_some, Option.getD_some]; exact hns
        have hsame : SV ds tr σ (fun j => listed.getD j false) ds.length = SAt (tr.take i) σ ∧ SV ds tr σ T' ds.length = SAt (tr.take (i + 1)) σ := by
          by_cases his : i < s
          · have hlow : ∀ j, j < ds.length → silentAt ds j = false → listed.getD j false = true → j < s := by
              intro j hj hnj hT
              rcases Nat.lt_or_ge j s with h | h
              · exact h
              · have hnj' : (ds.getD j dop).k.silent = false := by
                  unfold silentAt at hnj; rw [hds j hj] at hnj; simpa using hnj
                rcases drawOk_spec hok (hopsj j hj) (hds j hj) hdop (by omega : i < j) with h2 | ⟨_, h2⟩
                · rw [late j h2] at hT; cases hT
                · rcases h2 with h2 | h2 | h2
                  · omega
                  · rw [hns] at h2; cases h2
                  · rw [hnj'] at h2; cases h2
            have e0 : SAt (tr.take i) σ = σ := by
              cases i with
              | zero => simp [SAt]
              | succ m => exact hpre m (by omega)
            rw [e0, hpre i his]
            refine ⟨SV_const hpre _ hlow, SV_const hpre _ fun j hj hnj hT => ?_⟩
            rw [hT' j] at hT
            by_cases h : i = j
            · subst h; exact his
            · rw [if_neg h] at hT; exact hlow j hj hnj hT
          · have hcut : ∀ j, j < ds.length → silentAt ds j = false → j ≠ i → (listed.getD j false = true ↔ j < i) := by
              intro j hj hnj hne
              have hnj' : (ds.getD j dop).k.silent = false := by
                unfold silentAt at hnj; rw [hds j hj] at hnj; simpa using hnj
              rcases Nat.lt_or_ge j i with h | h
              · refine ⟨fun _ => h, fun _ => ?_⟩
                rcases drawOk_spec hok hol hdop (hds j hj) h with h2 | ⟨_, h2⟩
                · exact rdy j h2
                · rcases h2 with h2 | h2 | h2
                  · omega
                  · rw [hnj'] at h2; cases h2
                  · rw [hns] at h2; cases h2
              · refine ⟨fun hT => ?_, fun h' => by omega⟩
                rcases drawOk_spec hok (hopsj j hj) (hds j hj) hdop (by omega : i < j) with h2 | ⟨_, h2⟩
                · rw [late j h2] at hT; cases hT
                · rcases h2 with h2 | h2 | h2
                  · omega
                  · rw [hns] at h2; cases h2
                  · rw [hnj'] at h2; cases h2
            constructor
            · rw [SV_cut (i := i) hsil ds.length (Nat.le_refl _) fun j hj hnj => ?_, Nat.min_eq_right (by omega)]
              by_cases h : j = i
              · subst h; exact ⟨(fun h => by rw [hTi] at h; cases h), fun h => absurd h (Nat.lt_irrefl _)⟩
              · exact hcut j hj hnj h
            · rw [SV_cut (i := i + 1) hsil ds.length (Nat.le_refl _) fun j hj hnj => ?_, Nat.min_eq_right (by omega)]
              rw [hT' j]
              by_cases h : i = j
              · subst h; simp
              · rw [if_neg h, hcut j hj hnj (fun e => h e.symm)]
                omega
        rw [hsame.1, hsame.2, SAt_succ tr σ i _ htr]
        exact guardW_mono (guardW_congr hgd hstep) (fun h => opV_congr hev h) (fun h => ⟨h.1.symm, h.2.symm⟩)
    have := op_step (next := wpAny C.P .any ops Q fuel (listed.setIfInBounds i true)) (Q := Q) (K := fun x y => x = d ∧ y = SV ds tr σ T' ds.length) hmk G (guardW_mono key (fun h => h) (fun h => h)) (fun a' w' d' σ2 G' hk => by
      obtain ⟨rfl, rfl⟩ := hk
      refine ih _ _ _ ?_ ⟨by simp [I.size], fun j oj hj hT e he hb => ?_, g.put dop.dst d', fun t => ?_, G'⟩
      · -- one fewer
        have hlt2 : ((List.range ops.size).filter fun j => !(listed.setIfInBounds i true).getD j false).length < ((List.range ops.size).filter fun j => !listed.getD j false).length := by
          have hsub : ((List.range ops.size).filter fun j => !(listed.setIfInBounds i true).getD j false) = ((List.range ops.size).filter fun j => !listed.getD j false).filter (fun j => j != i) := by
            rw [List.filter_filter]
            refine List.filter_congr fun j _ => ?_
            have := hT' j
            simp only [T'] at this
            rw [this]
            by_cases h : i = j
            · subst h; simp
            · have hne : (j != i) = true := by simpa using fun e => h e.symm
              simp [h, hne]
          rw [hsub]
          refine List.length_filter_lt_length_iff_exists.2 ⟨i, ?_, by simp⟩
          exact List.mem_filter.2 ⟨List.mem_range.2 hlt, by rw [hTi]; rfl⟩
        omega
      · by_cases h : i = j
        · subst h
          rw [hol] at hj
          simp at hj; subst hj
          exact getD_set_true (hall e he hb)
        · rw [getD_set_ne false h] at hT
          exact getD_set_true (I.closed j oj hj hT e he hb)
      · show (g.put dop.dst d').get t = LV ds tr f T' ds.length t
        have hdi : dstAt ds i = dop.dst := by simp [dstAt, hdop]
        by_cases hdt : dop.dst = some t
        · rw [hdt, Fr.get_put, if_pos rfl]
          rw [LV_last (i := i) (by rw [hT' i]; simp) (by rw [hdi]; exact hdt) ds.length hids]
          · simp [dvAt, htr]
          · intro j hij hj hdj
            rw [hT' j, if_neg (by omega)]
            unfold dstAt at hdj
            rw [hds j hj] at hdj
            simp only [Option.bind_some] at hdj
            rcases drawOk_spec hok (hopsj j hj) (hds j hj) hdop hij with h2 | ⟨h2, _⟩
            · exact late j h2
            · exact absurd hdj ((apartD_names h2).2.1 t hdt)
        · have e1 : (g.put dop.dst d').get t = g.get t := by
            cases hdd : dop.dst with
            | none => rfl
            | some u =>
              rw [Fr.get_put, if_neg]
              intro e; subst e; exact hdt hdd
          rw [e1, hg t]
          refine (LV_same _ fun j hj hdj => ?_).symm
          rw [hT' j]
          by_cases h : i = j
          · subst h; rw [hdi] at hdj; exact absurd hdj hdt
          · rw [if_neg h])
    unfold wpOp
    simp only [ho]
    split
    · rename_i hw; rw [if_pos hw] at this; exact .inl this
    · rename_i hw; rw [if_neg hw] at this; exact this

/-- A REGION THAT DRAWS ITS ORDER. -/
theorem draw_sound {id : Nat} {a : Act} {w : World} (hm : C.P.follows .mixedOrders = true) (hd : mapO (mkOp C.P C.N C.own ops) ops.toList = some ds) (hok : drawOk ops.toList ds s = true) (ht : Trace C ds f σ tr) (hlen : tr.length = ds.length) (hpre : ∀ i, i < s → SAt (tr.take (i + 1)) σ = σ)
    (hQ : ∀ a w, Good C E a w (FAt ds tr f) (SAt tr σ) → Q .normal a w) (G : Good C E a w f σ) : (Code.region id ops true).wp C.P Q a w := by
  have G' : Good C E a { w with drawn := w.drawn + 1 } f σ := by
    obtain ⟨ι, G⟩ := G
    have hk : Kept w w.drew fun _ => False := (Kept.refl _ _).drew
    have hS := G.sim.ext hk
    exact ⟨ι, ⟨G.size, G.defers, G.nx, G.kept.drew, hS, G.old, G.mine, G.stay, G.fr.keep (fun b hb _ => rfl) (fun _ _ h => h) hk.shape (fun _ _ => rfl) (Nat.le_refl _)⟩⟩
  have hf0 : ∀ j, (Array.replicate ops.size false).getD j false = false := getD_replicate_false ops.size
  refine wp_region_any hm (draw_any hd hok ht hlen hpre hQ _ _ _ _ ?_ ⟨by simp, (fun j o _ hT => by rw [hf0] at hT; cases hT), f, fun t => ?_, ?_⟩)
  · exact Nat.le_trans (List.length_filter_le _ _) (by simp)
  · rw [LV_cut (i := 0) ds.length fun j _ _ => ⟨(fun h => by rw [hf0] at h; cases h), fun h => by omega⟩]
    simp [LV]
  · have : SV ds tr σ (fun i => (Array.replicate ops.size false).getD i false) ds.length = σ := by
      refine SV_const (s := 0) (fun j hj => by omega) _ fun j _ _ hT => ?_
      rw [hf0] at hT; cases hT
    rw [this]
    exact G'
end
end Go.Pd
