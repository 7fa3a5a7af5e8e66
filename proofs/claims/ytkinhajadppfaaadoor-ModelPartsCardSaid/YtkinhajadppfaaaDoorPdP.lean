/-
  PURE DATA, part P: the function's rule, calls by contract. Over any program.
-/
import Derived.Test.YtkinhajadppfaaaDoorPdO
namespace Go.Pd
open Go
set_option linter.unusedSectionVars false
variable [Tabs]
set_option linter.unusedSimpArgs false
set_option linter.unusedVariables false

section
variable {C : Cx} {M0 : Nat → Prop} {w : World} {σ : St} {ι : Nat → Nat} {a : Act} {o : Oper} {ev : Opd → D} {K : D → Prop}

theorem load_yields {t : TypeId} {x : Operand} {ag : Bool} {x' : Opd} {inf : TypeInfo} (hop : o.op = .load t x) (hag : isAggB C.P t = some ag) (hi : C.P.info? t = some inf) (hx : mkOpd C.N x = some x') (h : pW C σ ev (.load inf.size ag x') K)
    (hS : SimS M0 w σ ι) (hR : ∀ x y, mkOpd C.N x = some y → R (Mof M0 ι σ) w ι σ.nx (a.eval x) (ev y)) : ∃ v d, Yields C.P o a w v ∧ K d ∧ R (Mof M0 ι σ) w ι σ.nx v d := by
  have htd : ∃ td, C.P.underlying t = some td := by
    unfold isAggB at hag
    cases hu : C.P.underlying t with
    | none => simp [hu] at hag
    | some td => exact ⟨td, rfl⟩
  obtain ⟨td, htd⟩ := htd
  -- cells that are read
  have go : ∀ (ad : Addr) (vs : List Value) (ds : List D), a.eval x = .pointer (some ad) → vs.length = inf.size → ds.length = inf.size → (∀ j v, vs[j]? = some v → w.cell? (ad.add j) = some v) →
      (∀ j, j < inf.size → R (Mof M0 ι σ) w ι σ.nx (vs.getD j undef) (ds.getD j .top)) → (ag = true ∨ inf.size = 1) → K (packD ag ds) → ∃ v d, Yields C.P o a w v ∧ K d ∧ R (Mof M0 ι σ) w ι σ.nx v d := by
    intro ad vs ds hX hl hl' hc hr hone hK
    cases ag with
    | true =>
      refine ⟨_, _, (y_loadN hop htd hag hi hl hX hc), hK, ?_⟩
      refine .agg (by simp [hl, hl']) fun j hj => ?_
      rw [hl'] at hj
      have := hr j hj
      simpa using this
    | false =>
      have h1 : inf.size = 1 := by simpa using hone
      match vs, hl with
      | [], hl => simp at hl; omega
      | v :: r, hl =>
        have hc0 := hc 0 v rfl
        have e0 : ad.add 0 = ad := by simp [Addr.add]
        rw [e0] at hc0
        have hr0 := hr 0 (by omega)
        match ds, hl' with
        | [], hl' => simp at hl'; omega
        | d :: r', hl' => exact ⟨_, _, (y_load1 hop htd hag hX hc0), hK, (by simpa [packD] using hr0)⟩
  simp only [pW] at h
  split at h
  · rename_i key sz i off hb
    obtain ⟨h1, h2⟩ := (hb ▸ hR _ _ hx).ref_inv
    split at h
    · rename_i ob hob
      obtain ⟨g1, g2, g3, g4, g5⟩ := h
      subst g1
      obtain ⟨_, cur, e, c1, c2, c3, c4⟩ := hS.holds key ob hob
      have hlen : (ob.els.getD i []).length = ob.sz := by
        have : ob.els.getD i [] = ob.els[i] := by simp [List.getD, g2]
        rw [this]; exact c2 _ (List.getElem_mem g2)
      refine go ⟨ι key, i * ob.sz + off, none⟩ ((List.range inf.size).map fun j => cur.getD (i * ob.sz + off + j) undef) _ h1 (by simp) (by rw [List.length_take, List.length_drop, hlen]; omega) (fun j v hj => ?_) (fun j hj => ?_) g4 g5
      · simp only [List.getElem?_map, Option.map_eq_some_iff, List.getElem?_range'] at hj
        obtain ⟨j', hj', rfl⟩ := hj
        have hj2 : j < inf.size := by
          rcases Nat.lt_or_ge j inf.size with h | h
          · exact h
          · simp [List.getElem?_eq_none (by simpa using h : (List.range inf.size).length ≤ j)] at hj'
        have e1 : j' = j := by simpa [hj2] using hj'.symm
        subst e1
        rw [Addr.add_lit]
        have hlt : i * ob.sz + off + j' < cur.size := by
          have := lin_lt (sz := ob.sz) (j := off + j') g2 (by omega)
          omega
        simp [World.cell?, c1, hlt]
      · have hq := (c4 i g2 (off + j) (by omega)).2
        have e1 : (List.map (fun j => cur.getD (i * ob.sz + off + j) undef) (List.range inf.size)).getD j undef = cur.getD (i * ob.sz + (off + j)) undef := by
          simp [List.getD, hj, Nat.add_assoc]
        have e2 : (((ob.els.getD i []).drop off).take inf.size).getD j .top = (ob.els.getD i []).getD (off + j) .top := by
          simp [List.getD, hj, List.getElem?_take]
        rw [e1, e2]
        exact hq
    · exact h.elim
  · rename_i cs hb
    obtain ⟨b, off, vs, h1, h2, h3, h4, h5⟩ := (hb ▸ hR _ _ hx).ptr_inv
    obtain ⟨g1, g2, g3⟩ := h
    refine go ⟨b, off, none⟩ ((List.range inf.size).map vs) _ h1 (by simp) (by simp; omega) (fun j v hj => ?_) (fun j hj => ?_) g2 g3
    · simp only [List.getElem?_map, Option.map_eq_some_iff] at hj
      obtain ⟨j', hj', rfl⟩ := hj
      have hj2 : j < inf.size := by
        rcases Nat.lt_or_ge j inf.size with h | h
        · exact h
        · simp [List.getElem?_eq_none (by simpa using h : (List.range inf.size).length ≤ j)] at hj'
      have e1 : j' = j := by simpa [hj2] using hj'.symm
      subst e1
      rw [Addr.add_lit]
      exact h4 j' (by omega)
    · have e1 : (List.map vs (List.range inf.size)).getD j undef = vs j := by simp [List.getD, hj]
      have e2 : (cs.take inf.size).getD j .top = cs.getD j .top := by simp [List.getD, hj, List.getElem?_take]
      rw [e1, e2]
      exact .pure (h5 j (by omega))
  · exact h.elim

end

/-! ### Results -/
inductive DRes where
  | tmp (t : Nat)
  | cell (t n : Nat) (ag : Bool)

def mkRes (P : Program) (N : Nat) : ResultVar → Option DRes
  | .tmp t => if t < N then some (.tmp t) else none
  | .cell a t => do
    let ag ← isAggB P t
    let n ← sizeB P t
    if a < N then some (.cell a n ag) else none

def resW (C : Cx) (r : DRes) (f : Fr) (σ : St) (K : D → Prop) : Prop :=
  match r with
  | .tmp t => K (f.get t)
  | .cell t n ag => pW C σ (evO f) (.load n ag (.t t)) K

def ressW (C : Cx) (rs : List DRes) (f : Fr) (σ : St) (K : D → Prop) : Prop :=
  match rs with
  | [] => K (.tup [])
  | [a] => resW C a f σ K
  | [a, b] => resW C a f σ fun x => resW C b f σ fun y => K (.tup [x, y])
  | [a, b, c] => resW C a f σ fun x => resW C b f σ fun y => resW C c f σ fun z => K (.tup [x, y, z])
  | [a, b, c, d] => resW C a f σ fun x => resW C b f σ fun y => resW C c f σ fun z => resW C d f σ fun u => K (.tup [x, y, z, u])
  | _ => False

def readRes (tmps : Array Value) : ResultVar → Sem Value := fun
  | .tmp t => pure (tmps.getD t undef)
  | .cell a t => do loadVar t (← asAddr (tmps.getD a undef))

theorem res_sound {C : Cx} {E : Env} {a : Act} {w : World} {f : Fr} {σ : St} {ι : Nat → Nat} {r : ResultVar} {dr : DRes} {K : D → Prop} (hr : mkRes C.P C.N r = some dr) (G : GoodI C E a w f σ ι) (h : resW C dr f σ K) :
    ∃ v d, (readRes a.tmps r).run C.P w = .ok v w ∧ K d ∧ R (Mof E.M0 ι σ) w ι σ.nx v d := by
  cases r with
  | tmp t =>
    simp [mkRes] at hr
    obtain ⟨_, rfl⟩ := hr
    exact ⟨_, _, rfl, h, G.fr t⟩
  | cell t ty =>
    simp only [mkRes, Option.bind_eq_bind, Option.bind_eq_some_iff] at hr
    obtain ⟨ag, hag, n, hn, hr⟩ := hr
    split at hr
    · rename_i hlt
      simp at hr; subst hr
      simp only [sizeB, Option.map_eq_some_iff] at hn
      obtain ⟨inf, hi, rfl⟩ := hn
      have hx : mkOpd C.N (.tmp t) = some (.t t) := by simp only [mkOpd]; rw [if_pos hlt]
      simp only [resW] at h
      obtain ⟨v, d, h1, h2, h3⟩ := load_yields (o := { (default : Oper) with op := .load ty (.tmp t) }) (t := ty) (x := .tmp t) rfl hag hi hx h G.sim (fun x y hxy => evO_sound G.fr hxy)
      refine ⟨v, d, ?_, h2, h3⟩
      have hp : ∃ ad, a.tmps.getD t undef = .pointer (some ad) := by
        simp only [pW] at h
        have hX : R (Mof E.M0 ι σ) w ι σ.nx (a.tmps.getD t undef) (evO f (.t t)) := G.fr t
        split at h
        · rename_i key sz i off hb
          exact ⟨_, (hb ▸ hX).ref_inv.1⟩
        · rename_i cs hb
          obtain ⟨b, off, vs, h1, _⟩ := (hb ▸ hX).ptr_inv
          exact ⟨_, h1⟩
        · exact h.elim
      obtain ⟨ad, hp⟩ := hp
      simp only [readRes, hp]
      have he : a.eval (.tmp t) = .pointer (some ad) := hp
      unfold Yields at h1
      simp only [execOp, he, Instr.loadAt, Instr.sureAddr] at h1
      simp only [Sem.run_bind, Sem.run_pure, Result.andThen_ok] at h1
      simp only [asAddr, Sem.run_bind, Sem.run_pure, Result.andThen_ok]
      generalize (loadVar ty ad).run C.P w = rr at h1
      cases rr with
      | ok x w' =>
        simp [Result.andThen] at h1
        obtain ⟨rfl, rfl⟩ := h1
        rfl
      | halt x w' => simp [Result.andThen] at h1
    · simp at hr

theorem results_eq (fn : Func) (tmps : Array Value) : results fn tmps = (do
    let vs ← fn.results.mapM (readRes tmps)
    pure (if h : vs.size = 1 then vs[0] else .tuple vs)) := by
  unfold results
  rfl

theorem ress_sound {C : Cx} {E : Env} {a : Act} {w : World} {f : Fr} {σ : St} {ι : Nat → Nat} {fn : Func} {rs : List DRes} {K : D → Prop} (hr : mapO (mkRes C.P C.N) fn.results.toList = some rs) (G : GoodI C E a w f σ ι) (h : ressW C rs f σ K) :
    ∃ v d, (results fn a.tmps).run C.P w = .ok v w ∧ K d ∧ R (Mof E.M0 ι σ) w ι σ.nx v d := by
  obtain ⟨hl, hg⟩ := mapO_spec hr
  rw [results_eq]
  generalize hfr : fn.results = rr at hl hg
  obtain ⟨rl⟩ := rr
  simp only at hl hg
  have at' : ∀ (j : Nat) (x : ResultVar) (y : DRes), rl[j]? = some x → rs[j]? = some y → mkRes C.P C.N x = some y := by
    intro j x y hx hy
    obtain ⟨b, hb, hf⟩ := hg j x hx
    rw [hy] at hb
    simp at hb; subst hb
    exact hf
  unfold ressW at h
  split at h
  · match rl, hl with
    | [], _ =>
      exact ⟨.tuple #[], .tup [], by simp, h, .tup (by simp) (by simp)⟩
  · match rl, hl with
    | [r1], _ =>
      obtain ⟨v, d, h1, h2, h3⟩ := res_sound (at' 0 _ _ rfl rfl) G h
      exact ⟨v, d, by simp [h1], h2, h3⟩
  · match rl, hl with
    | [r1, r2], _ =>
      obtain ⟨v, d, h1, h2, h3⟩ := res_sound (at' 0 _ _ rfl rfl) G h
      obtain ⟨v', d', g1, g2, g3⟩ := res_sound (at' 1 _ _ rfl rfl) G h2
      refine ⟨.tuple #[v, v'], .tup [d, d'], by simp [h1, g1], g2, .tup (by simp) fun j hj => ?_⟩
      match j, hj with
      | 0, _ => exact h3
      | 1, _ => exact g3
  · match rl, hl with
    | [r1, r2, r3], _ =>
      obtain ⟨v, d, h1, h2, h3⟩ := res_sound (at' 0 _ _ rfl rfl) G h
      obtain ⟨v', d', g1, g2, g3⟩ := res_sound (at' 1 _ _ rfl rfl) G h2
      obtain ⟨v'', d'', k1, k2, k3⟩ := res_sound (at' 2 _ _ rfl rfl) G g2
      refine ⟨.tuple #[v, v', v''], .tup [d, d', d''], by simp [h1, g1, k1], k2, .tup (by simp) fun j hj => ?_⟩
      match j, hj with
      | 0, _ => exact h3
      | 1, _ => exact g3
      | 2, _ => exact k3
  · match rl, hl with
    | [r1, r2, r3, r4], _ =>
      obtain ⟨v, d, h1, h2, h3⟩ := res_sound (at' 0 _ _ rfl rfl) G h
      obtain ⟨v', d', g1, g2, g3⟩ := res_sound (at' 1 _ _ rfl rfl) G h2
      obtain ⟨v'', d'', k1, k2, k3⟩ := res_sound (at' 2 _ _ rfl rfl) G g2
      obtain ⟨v3, d3, l1, l2, l3⟩ := res_sound (at' 3 _ _ rfl rfl) G k2
      refine ⟨.tuple #[v, v', v'', v3], .tup [d, d', d'', d3], by simp [h1, g1, k1, l1], l2, .tup (by simp) fun j hj => ?_⟩
      match j, hj with
      | 0, _ => exact h3
      | 1, _ => exact g3
      | 2, _ => exact k3
      | 3, _ => exact l3
  · exact h.elim

/-! ### The function's rule -/
def argFr : Nat → List D → Fr
  | _, [] => []
  | i, d :: r => (i, d) :: argFr (i + 1) r

theorem argFr_get : ∀ (ds : List D) (i t : Nat), (argFr i ds).get t = if i ≤ t then ds.getD (t - i) .top else .top
  | [], i, t => by simp [argFr, Fr.get]
  | d :: r, i, t => by
    simp only [argFr, Fr.get]
    by_cases h : i = t
    · subst h; simp
    · rw [if_neg h, argFr_get r]
      by_cases h2 : i ≤ t
      · have h3 : i + 1 ≤ t := by omega
        have h4 : t - i = (t - (i + 1)) + 1 := by omega
        rw [if_pos h2, if_pos h3, h4]
        simp
      · rw [if_neg h2, if_neg (by omega)]

/-- What comes back: just so, or viewed. -/
def RetV (n0 : Nat) (σ1 : St) (d1 : D) (σ' : St) (d : D) : Prop :=
  (d = d1 ∧ σ' = σ1) ∨ ∃ ρ : Nat → Nat, n0 ≤ σ'.nx ∧ (∀ k, k < n0 → ρ k = k) ∧ vw σ1 σ' ρ d1 d ∧ stays σ1 σ' ρ ∧ apartNames σ' ρ

def bodyQ (C : Cx) (rs : List DRes) (d : D) (σ' : St) (e : Exit) (f : Fr) (σ1 : St) : Prop :=
  (e = .ret ∨ e = .normal) ∧ ressW C rs f σ1 fun d1 => RetV C.n0 σ1 d1 σ' d

theorem CallT.of_body {P : Program} {g : FuncId} {fn : Func} {code : Code} {dc : DC} {own : List Nat} {args : List D} {σ : St} {d : D} {σ' : St} {rs : List DRes} (hm : P.follows .mixedOrders = true) (hf : P.funcs[g]? = some fn) (hb : fn.body = some code)
    (hname : (fn.name == "runtime.NumGoroutine") = false) (hc : mkC P fn.ntmps own code = some dc) (hr : mapO (mkRes P fn.ntmps) fn.results.toList = some rs) (hla : args.length ≤ fn.ntmps)
    (h : wpS ⟨P, fn.ntmps, σ.nx, own⟩ dc (argFr 0 args) σ (bodyQ ⟨P, fn.ntmps, σ.nx, own⟩ rs d σ')) : CallT P g args σ d σ' := by
  refine ⟨⟨fn, hf, hname, by rw [hb]; rfl⟩, fun M0 w ι vals hS hl hv => ?_⟩
  let C : Cx := ⟨P, fn.ntmps, σ.nx, own⟩
  let E : Env := ⟨w, M0, Own ι σ, ι⟩
  have G : GoodI C E { tmps := vals ++ Array.replicate (fn.ntmps - vals.size) undef, defers := [] } w (argFr 0 args) σ ι := by
    refine ⟨by show (vals ++ Array.replicate (fn.ntmps - vals.size) undef).size = fn.ntmps; simp; omega, rfl, Nat.le_refl _, Kept.refl _ _, hS, hS.old, fun k o hk => .inr ⟨k, o, hk, rfl⟩, fun _ _ => rfl, fun t => ?_⟩
    rw [argFr_get]
    simp only [Nat.zero_le, if_pos, Nat.sub_zero]
    by_cases ht : t < args.length
    · have := hv t ht
      have e : (vals ++ Array.replicate (fn.ntmps - vals.size) undef).getD t undef = vals.getD t undef := by
        simp only [Array.getD_eq_getD_getElem?]
        rw [Array.getElem?_append_left (by omega)]
      rw [e]; exact this
    · have : args.getD t .top = .top := by simp [List.getD, List.getElem?_eq_none (Nat.le_of_not_lt ht)]
      rw [this]
      exact R.top _
  refine calls_of_wp hf hb (wp_mono (h code hc E _ w ⟨ι, G⟩) fun e a' w' hq => ?_)
  obtain ⟨f', σ1, ⟨ι1, G1⟩, he, hres⟩ := hq
  obtain ⟨v, d1, hrun, hret, hR⟩ := ress_sound hr G1 hres
  have key : a'.defers = [] ∧ ∃ v, (results fn a'.tmps).run P w' = .ok v w' ∧ ∃ v' ι', Ending.returned v = .returned v' ∧ Kept w w' (Own ι σ) ∧ SimS M0 w' σ' ι' ∧ σ.nx ≤ σ'.nx ∧ (∀ k, k < σ.nx → ι' k = ι k) ∧
      (∀ k o, σ'.get k = some o → w.heap.size ≤ ι' k ∨ Own ι σ (ι' k)) ∧ R (Mof M0 ι' σ') w' ι' σ'.nx v' d := by
    refine ⟨G1.defers, v, hrun, ?_⟩
    rcases hret with ⟨rfl, rfl⟩ | ⟨ρ, r1, r2, r3, r4, r5⟩
    · exact ⟨v, ι1, rfl, G1.kept, G1.sim, G1.nx, fun k hk => G1.stay k hk, G1.mine, hR⟩
    · have hlive : ∀ p ∈ σ'.objs, ∃ ob, σ1.get (ρ p.1) = some ob := fun p hp => by
        obtain ⟨_, ob, h, _⟩ := r4 p hp
        exact ⟨ob, h⟩
      refine ⟨v, fun k => ι1 (ρ k), rfl, G1.kept, G1.sim.view r4 r5, r1, fun k hk => ?_, fun k o hk => ?_, vw_sound G1.sim hlive _ _ hR r3⟩
      · show ι1 (ρ k) = ι k
        rw [r2 k hk]; exact G1.stay k hk
      · obtain ⟨ob, h⟩ := hlive _ (look_mem hk)
        exact G1.mine _ _ h
  rcases he with rfl | rfl
  · exact key
  · exact key

/-! ### Calls by contract -/
theorem Kept.own_mono {w w' : World} {ι : Nat → Nat} {h σ : St} (hk : Kept w w' (Own ι h)) (hsub : ∀ k o, h.get k = some o → σ.get k = some o) : Kept w w' (Own ι σ) :=
  hk.mono fun b _ ⟨k, o, h1, h2⟩ => ⟨k, o, hsub k o h1, h2⟩

/-- A contract over a part of the state. -/
theorem CallT.frame {P : Program} {g : FuncId} {args : List D} {h h' σ σ' : St} {d : D} (hc : CallT P g args h d h') (hnx : h.nx = σ.nx) (hsub : ∀ k o, h.get k = some o → σ.get k = some o) (hnx' : h'.nx = σ'.nx)
    (h1 : ∀ k o, h'.get k = some o → σ'.get k = some o) (h2 : ∀ k o, σ'.get k = some o → h'.get k = some o ∨ (h.get k = none ∧ σ.get k = some o)) : CallT P g args σ d σ' := by
  refine ⟨hc.ord, fun M0 w ι vals hS hl hv => ?_⟩
  let M1 : Nat → Prop := fun b => M0 b ∨ ∃ k o, σ.get k = some o ∧ h.get k = none ∧ ι k = b
  have e1 : ∀ b, Mof M1 ι h b → Mof M0 ι σ b := by
    intro b hb
    rcases hb with (hb | ⟨k, o, hk, _, rfl⟩) | ⟨k, o, hk, rfl⟩
    · exact .inl hb
    · exact .inr ⟨k, o, hk, rfl⟩
    · exact .inr ⟨k, o, hsub k o hk, rfl⟩
  have e2 : ∀ b, Mof M0 ι σ b → Mof M1 ι h b := by
    intro b hb
    rcases hb with hb | ⟨k, o, hk, rfl⟩
    · exact .inl (.inl hb)
    · cases hh : h.get k with
      | none => exact .inl (.inr ⟨k, o, hk, hh, rfl⟩)
      | some o' => exact .inr ⟨k, o', hh, rfl⟩
  have S1 : SimS M1 w h ι := by
    refine ⟨fun b hb => ?_, fun k o hk => ?_, fun k k' o o' hk hk' => hS.inj k k' o o' (hsub k o hk) (hsub k' o' hk'), fun k o hk hm => ?_, hS.tabs.keep (Nat.le_refl _) (fun _ _ _ => rfl) fun b _ hb => e1 b hb⟩
    · rcases hb with hb | ⟨k, o, hk, _, rfl⟩
      · exact hS.old b hb
      · exact Own.lt hS ⟨k, o, hk, rfl⟩
    · obtain ⟨g1, g2⟩ := hS.holds k o (hsub k o hk)
      exact ⟨by omega, g2.keep rfl rfl (fun _ _ _ => rfl) (fun b _ hb => e1 b hb) (fun b cur e hc => ⟨cur, hc, rfl⟩) (fun _ _ => rfl) (by omega)⟩
    · rcases hm with hm | ⟨k', o', hk', hn, he⟩
      · exact hS.notM k o (hsub k o hk) hm
      · have := hS.inj k' k o' o hk' (hsub k o hk) he
        subst this
        rw [hk] at hn; cases hn
  refine (hc.run M1 w ι vals S1 hl fun j hj => (hv j hj).keep (fun _ _ _ => rfl) (fun b _ hb => e1 b hb) (fun b cur e hc => ⟨cur, hc, rfl⟩) (fun _ _ => rfl) (by omega)).mono fun e w' hh => ?_
  obtain ⟨v, ι', rfl, k1, k2, k3, k4, k5, k6⟩ := hh
  have hlt : ∀ k o, σ.get k = some o → k < h.nx := fun k o hk => by rw [hnx]; exact (hS.holds k o hk).1
  have e3 : ∀ b, Mof M0 ι' σ' b → Mof M1 ι' h' b := by
    intro b hb
    rcases hb with hb | ⟨k, o, hk, rfl⟩
    · exact .inl (.inl hb)
    · rcases h2 k o hk with hk' | ⟨hn, hk'⟩
      · exact .inr ⟨k, o, hk', rfl⟩
      · exact .inl (.inr ⟨k, o, hk', hn, (k4 k (hlt k o hk')).symm⟩)
  have e4 : ∀ b, b < w.heap.size → Mof M0 ι' σ' b → Mof M0 ι σ b := by
    intro b hb hm
    rcases hm with hm | ⟨k, o, hk, rfl⟩
    · exact .inl hm
    · rcases h2 k o hk with hk' | ⟨hn, hk'⟩
      · rcases k5 k o hk' with hlo | ⟨k0, o0, hk0, he⟩
        · omega
        · exact .inr ⟨k0, o0, hsub _ _ hk0, he⟩
      · exact .inr ⟨k, o, hk', (k4 k (hlt k o hk')).symm⟩
  have K1 : Kept w w' (Own ι σ) := k1.own_mono hsub
  refine ⟨v, ι', rfl, K1, ⟨fun b hb => Nat.lt_of_lt_of_le (hS.old b hb) K1.size, fun k o hk => ?_, fun k k' o o' hk hk' e => ?_, fun k o hk hm => ?_, k2.tabs.keep (Nat.le_refl _) (fun _ _ _ => rfl) fun b _ hb => e3 b hb⟩, by rw [← hnx, ← hnx']; exact k3, fun k hk => k4 k (by rw [hnx]; exact hk), fun k o hk => ?_, ?_⟩
  · rcases h2 k o hk with hk' | ⟨hn, hk'⟩
    · obtain ⟨g1, g2⟩ := k2.holds k o hk'
      exact ⟨by rw [← hnx']; exact g1, g2.keep rfl rfl (fun _ _ _ => rfl) (fun b _ hb => e3 b hb) (fun b cur e hc => ⟨cur, hc, rfl⟩) (fun _ _ => rfl) (by rw [hnx']; exact Nat.le_refl _)⟩
    · obtain ⟨g1, g2⟩ := hS.holds k o hk'
      have hno : ¬ Own ι h (ι k) := by
        rintro ⟨k0, o0, hk0, he⟩
        have := hS.inj k0 k o0 o (hsub _ _ hk0) hk' he
        subst this
        rw [hk0] at hn; cases hn
      refine ⟨by omega, g2.keep (k1.block _ (Own.lt hS ⟨k, o, hk', rfl⟩) hno) (k4 k (hlt k o hk')) (fun b hb hM => K1.block b hb fun ho => hM (.inr ho)) (fun b hb hm => e4 b hb hm) K1.shape (fun k hk => k4 k (by omega)) (by omega)⟩
  · rcases h2 k o hk with a1 | ⟨b1, b2⟩ <;> rcases h2 k' o' hk' with a1' | ⟨b1', b2'⟩
    · exact k2.inj k k' o o' a1 a1' e
    · exfalso
      refine k2.notM k o a1 (.inr ⟨k', o', b2', b1', ?_⟩)
      rw [e, k4 k' (hlt k' o' b2')]
    · exfalso
      refine k2.notM k' o' a1' (.inr ⟨k, o, b2, b1, ?_⟩)
      rw [← e, k4 k (hlt k o b2)]
    · rw [k4 k (hlt k o b2), k4 k' (hlt k' o' b2')] at e
      exact hS.inj k k' o o' b2 b2' e
  · rcases h2 k o hk with a1 | ⟨b1, b2⟩
    · exact k2.notM k o a1 (.inl hm)
    · rw [k4 k (hlt k o b2)] at hm
      exact hS.notM k o b2 hm
  · rcases h2 k o hk with a1 | ⟨b1, b2⟩
    · rcases k5 k o a1 with hlo | ⟨k0, o0, hk0, he⟩
      · exact .inl hlo
      · exact .inr ⟨k0, o0, hsub _ _ hk0, he⟩
    · exact .inr ⟨k, o, b2, (k4 k (hlt k o b2)).symm⟩
  · exact k6.keep (fun _ _ _ => rfl) (fun b _ hb => e3 b hb) (fun b cur e hc => ⟨cur, hc, rfl⟩) (fun _ _ => rfl) (by rw [hnx']; exact Nat.le_refl _)

def St0 : St := ⟨0, []⟩
/-- The contract of a function over data: no object is needed, none is left. -/
def Runs (P : Program) (g : FuncId) (args : List D) (d : D) : Prop := CallT P g args St0 d St0

theorem R.zero {M : Nat → Prop} {w : World} {ι : Nat → Nat} {v : Value} {d : D} (h : R M w ι 0 v d) : RP M w v d := by
  induction h with
  | pure h => exact h
  | ref hk => omega
  | osl hk => omega
  | mref hk => omega
  | agg hl hr ih => exact .agg hl ih
  | tup hl hr ih => exact .tup hl ih
  | fn hl hr ih => exact .fn hl ih

theorem pureL_at {args : List D} (h : D.isPureL args = true) (j : Nat) : (args.getD j .top).isPure = true := isPureL_get h j

/-- A function that needs no object, called with data. -/
theorem CallT.of_runs {P : Program} {g : FuncId} {args : List D} {d : D} {σ : St} (hc : Runs P g args d) (hp : D.isPureL args = true) : CallT P g args σ d σ := by
  refine ⟨hc.ord, fun M0 w ι vals hS hl hv => ?_⟩
  have S1 : SimS (Mof M0 ι σ) w St0 ι := ⟨fun b hb => Mof.lt hS hb, (fun k o hk => by cases hk), (fun k k' o o' hk => by cases hk), (fun k o hk => by cases hk), hS.tabs.keep (Nat.le_refl _) (fun _ _ _ => rfl) fun b _ hb => hb.elim id fun ⟨k, o, hk, _⟩ => by cases hk⟩
  have e1 : ∀ (ι' : Nat → Nat) b, Mof (Mof M0 ι σ) ι' St0 b → Mof M0 ι σ b := by
    intro ι' b hb
    rcases hb with hb | ⟨k, o, hk, _⟩
    · exact hb
    · cases hk
  refine (hc.run _ w ι vals S1 hl fun j hj => .pure (((hv j hj).toRP (pureL_at hp j)).keep (fun _ _ _ => rfl) fun b _ hb => e1 ι b hb)).mono fun e w' hh => ?_
  obtain ⟨v, ι', rfl, k1, k2, k3, k4, k5, k6⟩ := hh
  have K0 : Kept w w' fun _ => False := k1.mono fun b _ ⟨k, o, hk, _⟩ => by cases hk
  exact ⟨v, ι, rfl, K0.none _, hS.ext K0, Nat.le_refl _, fun _ _ => rfl, fun k o hk => .inr ⟨k, o, hk, rfl⟩, .pure (k6.zero.keep (fun _ _ _ => rfl) fun b _ hb => .inl hb)⟩

-- Objects of one's own, lent as data to a function that returns nothing that lies in memory.
mutual
def lend (σ : St) : D → D → Prop
  | _, .top => True
  | d, .sl sz els => match d with
    | .sl sz' els' => sz' = sz ∧ els' = els
    | .nils => els = []
    | .emp => els = []
    | .osl k0 sz' n => sz' = sz ∧ 0 < sz ∧ ∃ ob, σ.get k0 = some ob ∧ ob.sz = sz ∧ n ≤ ob.els.length ∧ els = ob.els.take n ∧ ∀ e ∈ els, D.isPureL e = true
    | _ => False
  | d, .agg cs => match d with
    | .agg ds => ds.length = cs.length ∧ lendL σ ds cs
    | _ => False
  | d, d' => d = d' ∧ d'.isPure = true
def lendL (σ : St) : List D → List D → Prop
  | [], [] => True
  | d :: ds, c :: cs => lend σ d c ∧ lendL σ ds cs
  | _, _ => False
end
mutual
def D.flat : D → Bool
  | .int _ _ | .bool _ | .str _ | .und | .nils | .nilp | .nilm | .nilf | .top => true
  | .agg cs | .tup cs => D.flatL cs
  | _ => false
def D.flatL : List D → Bool
  | [] => true
  | d :: r => d.flat && D.flatL r
end

theorem RP.flat {M M' : Nat → Prop} {w : World} {v : Value} {d : D} (h : RP M w v d) (hf : d.flat = true) : RP M' w v d := by
  have fl : ∀ {cs : List D}, D.flatL cs = true → ∀ j, (cs.getD j .top).flat = true := by
    intro cs
    induction cs with
    | nil => intro _ j; simp [D.flat]
    | cons d r ih =>
      intro h j
      simp only [D.flatL, Bool.and_eq_true] at h
      cases j with
      | zero => simpa using h.1
      | succ j => simpa using ih h.2 j
  induction h with
  | top v => exact .top v
  | und => exact .und
  | int h => exact .int h
  | bool b => exact .bool b
  | str h => exact .str h
  | sl0 => simp [D.flat] at hf
  | emp => simp [D.flat] at hf
  | sl => simp [D.flat] at hf
  | nils => exact .nils
  | ptr => simp [D.flat] at hf
  | agg hl hr ih => simp only [D.flat] at hf; exact .agg hl fun j hj => ih j hj (fl hf j)
  | tup hl hr ih => simp only [D.flat] at hf; exact .tup hl fun j hj => ih j hj (fl hf j)
  | fn => simp [D.flat] at hf
  | nilp => exact .nilp
  | nilm => exact .nilm
  | nilf => exact .nilf

theorem lend_sound {M0 : Nat → Prop} {w : World} {σ : St} {ι : Nat → Nat} (hS : SimS M0 w σ ι) {d' : D} : ∀ (v : Value) (d : D), R (Mof M0 ι σ) w ι σ.nx v d → lend σ d d' → RP (fun _ => False) w v d' := by
  have weaken : ∀ {v : Value} {d : D}, R (Mof M0 ι σ) w ι σ.nx v d → d.isPure = true → RP (fun _ => False) w v d := fun h hp => (h.toRP hp).keep (fun _ _ _ => rfl) fun _ _ h => h.elim
  refine D.rec (motive_1 := fun d' => ∀ (v : Value) (d : D), R (Mof M0 ι σ) w ι σ.nx v d → lend σ d d' → RP (fun _ => False) w v d')
    (motive_2 := fun _ => True)
    (motive_3 := fun cs => ∀ (ds : List D) (vs : Nat → Value), (∀ j, j < ds.length → R (Mof M0 ι σ) w ι σ.nx (vs j) (ds.getD j .top)) → lendL σ ds cs → ∀ j, j < cs.length → RP (fun _ => False) w (vs j) (cs.getD j .top))
    ?top ?und ?int ?bool ?str ?sl ?nils ?emp ?agg ?tup ?fn ?ref ?osl ?ptr ?mref ?nilp ?nilm ?nilf trivial (fun _ _ _ _ => trivial) ?nil ?cons d'
  case top => intro v d _ _; exact .top v
  case agg =>
    intro cs ih v d h hv
    cases d <;> (try (simp [lend] at hv; done))
    rename_i ds
    simp only [lend] at hv
    obtain ⟨vs, rfl, h1, h2⟩ := h.agg_inv
    exact .agg (by omega) fun j hj => ih ds (fun j => vs.getD j undef) (fun j hj => h2 j hj) hv.2 j hj
  case sl =>
    intro sz els _ v d h hv
    cases d <;> (try (simp [lend] at hv; done))
    · simp only [lend] at hv
      obtain ⟨rfl, rfl⟩ := hv
      exact weaken h rfl
    · simp only [lend] at hv
      subst hv
      have := h.nils_inv
      subst this
      exact .sl0 _ _ _ (by simp)
    · simp only [lend] at hv
      subst hv
      obtain ⟨ad, cap, rfl⟩ := h.emp_inv
      exact .sl0 _ _ _ (by simp)
    · rename_i k0 sz' n
      simp only [lend] at hv
      obtain ⟨rfl, h0, ob, h2, h3, h4, h5, h6⟩ := hv
      obtain ⟨cap, cur, e, rfl, k1, k2, k3, k4, k5⟩ := h.osl_inv
      obtain ⟨_, cur', e', c1, c2, c3, c4⟩ := hS.holds k0 ob h2
      rw [k4] at c1
      simp at c1
      obtain ⟨rfl, rfl⟩ := c1
      have hlen : els.length = n := by rw [h5]; simp; omega
      rw [← hlen]
      have hget : ∀ i, i < n → els.getD i [] = ob.els.getD i [] := by
        intro i hi
        rw [h5]
        simp [List.getD, List.getElem?_take, hi]
      refine .sl (fun i j => cur.getD (i * sz' + j) undef) h0 id (by omega) k3 (fun el he => ?_) (fun i hi j hj => ?_) (fun i hi j hj => ?_)
      · rw [h5] at he
        rw [← h3]
        exact c2 el (List.mem_of_mem_take he)
      · have : i * sz' + j < cur.size := by
          have := lin_lt (m := ob.els.length) (i := i) (j := j) (sz := sz') (by omega) hj
          rw [h3] at c3
          omega
        rw [Nat.zero_add, cell_of_row _ _ _ _ _ _ k4]
        simp [this]
      · have := (c4 i (by omega) j (by rw [h3]; exact hj)).2
        rw [h3] at this
        rw [hget i (by omega)]
        refine weaken this ?_
        rw [← hget i (by omega)]
        have hmem : els.getD i [] ∈ els := by
          have : i < els.length := by omega
          simp [List.getD, this]
        exact isPureL_get (h6 _ hmem) j
  case nil => intro ds vs _ _ j hj; simp at hj
  case cons =>
    intro c cs ih1 ih2 ds vs hr hv j hj
    cases ds with
    | nil => simp [lendL] at hv
    | cons d ds =>
      simp only [lendL] at hv
      cases j with
      | zero => exact ih1 _ _ (by simpa using hr 0 (by simp)) hv.1
      | succ j =>
        have := ih2 ds (fun j => vs (j + 1)) (fun j hj => by simpa using hr (j + 1) (by simpa using hj)) hv.2 j (by simpa using hj)
        simpa using this
  all_goals
    intros
    rename_i h hv
    simp only [lend] at hv
    obtain ⟨rfl, hp⟩ := hv
    exact weaken h hp

/-- A function that needs no object, called with objects lent; it returns nothing that lies in memory. -/
theorem CallT.lent {P : Program} {g : FuncId} {args args' : List D} {d : D} {σ : St} (hc : Runs P g args' d) (hl' : lendL σ args args') (hf : d.flat = true) : CallT P g args σ d σ := by
  refine ⟨hc.ord, fun M0 w ι vals hS hl hv => ?_⟩
  have S1 : SimS (fun _ => False) w St0 ι := ⟨fun b hb => hb.elim, (fun k o hk => by cases hk), (fun k k' o o' hk => by cases hk), (fun k o hk => by cases hk), hS.tabs.keep (Nat.le_refl _) (fun _ _ _ => rfl) fun b _ hb => hb.elim False.elim fun ⟨k, o, hk, _⟩ => by cases hk⟩
  have e1 : ∀ (ι' : Nat → Nat) b, Mof (fun _ => False) ι' St0 b → False := by
    intro ι' b hb
    rcases hb with hb | ⟨k, o, hk, _⟩
    · exact hb
    · cases hk
  have lens : ∀ (as bs : List D), lendL σ as bs → as.length = bs.length := by
    intro as
    induction as with
    | nil => intro bs h; cases bs with | nil => rfl | cons => simp [lendL] at h
    | cons a as ih => intro bs h; cases bs with | nil => simp [lendL] at h | cons b bs => simp only [lendL] at h; simp [ih bs h.2]
  have ats : ∀ (as bs : List D), lendL σ as bs → ∀ j, j < bs.length → lend σ (as.getD j .top) (bs.getD j .top) := by
    intro as
    induction as with
    | nil => intro bs h j hj; cases bs with | nil => simp at hj | cons => simp [lendL] at h
    | cons a as ih =>
      intro bs h j hj
      cases bs with
      | nil => simp at hj
      | cons b bs =>
        simp only [lendL] at h
        cases j with
        | zero => simpa using h.1
        | succ j => simpa using ih bs h.2 j (by simpa using hj)
  have hlen := lens _ _ hl'
  refine (hc.run _ w ι vals S1 (by omega) fun j hj => .pure ((lend_sound hS _ _ (hv j (by omega)) (ats _ _ hl' j hj)).keep (fun _ _ _ => rfl) fun b _ hb => e1 ι b hb)).mono fun e w' hh => ?_
  obtain ⟨v, ι', rfl, k1, k2, k3, k4, k5, k6⟩ := hh
  have K0 : Kept w w' fun _ => False := k1.mono fun b _ ⟨k, o, hk, _⟩ => by cases hk
  exact ⟨v, ι, rfl, K0.none _, hS.ext K0, Nat.le_refl _, fun _ _ => rfl, fun k o hk => .inr ⟨k, o, hk, rfl⟩, .pure (k6.zero.flat hf)⟩

theorem look_append (l r : List (Nat × Ob)) (k : Nat) : St.look (l ++ r) k = (St.look l k).or (St.look r k) := by
  induction l with
  | nil => simp [St.look]
  | cons p l ih =>
    obtain ⟨j, o⟩ := p
    simp only [List.cons_append, St.look]
    split
    · simp
    · exact ih

mutual
def D.shift (c : Nat) : D → D
  | .ref k sz i off => .ref (c + k) sz i off
  | .osl k sz n => .osl (c + k) sz n
  | .mref k => .mref (c + k)
  | .agg cs => .agg (D.shiftL c cs)
  | .tup cs => .tup (D.shiftL c cs)
  | .fn f cs => .fn f (D.shiftL c cs)
  | d => d
def D.shiftL (c : Nat) : List D → List D
  | [] => []
  | d :: r => d.shift c :: D.shiftL c r
end
def Ob.shift (c : Nat) (o : Ob) : Ob := ⟨o.sz, o.els.map (D.shiftL c)⟩
def shiftObjs (c : Nat) : List (Nat × Ob) → List (Nat × Ob)
  | [] => []
  | (k, o) :: r => (c + k, o.shift c) :: shiftObjs c r

theorem shiftL_len (c : Nat) : ∀ cs : List D, (D.shiftL c cs).length = cs.length
  | [] => rfl
  | d :: r => by simp [D.shiftL, shiftL_len c r]
theorem shiftL_get (c : Nat) : ∀ (cs : List D) (j : Nat), (D.shiftL c cs).getD j .top = (cs.getD j .top).shift c
  | [], j => by simp [D.shiftL, D.shift]
  | d :: r, 0 => by simp [D.shiftL]
  | d :: r, j + 1 => by simpa [D.shiftL] using shiftL_get c r j

theorem shift_pure (c : Nat) {d : D} : d.isPure = true → d.shift c = d := by
  refine D.rec (motive_1 := fun d => d.isPure = true → d.shift c = d) (motive_2 := fun _ => True) (motive_3 := fun cs => D.isPureL cs = true → D.shiftL c cs = cs)
    ?top ?und ?int ?bool ?str ?sl ?nils ?emp ?agg ?tup ?fn ?ref ?osl ?ptr ?mref ?nilp ?nilm ?nilf trivial (fun _ _ _ _ => trivial) ?nil ?cons d
  case agg => intro cs ih h; simp only [D.isPure] at h; simp only [D.shift, ih h]
  case tup => intro cs ih h; simp only [D.isPure] at h; simp only [D.shift, ih h]
  case fn => intro f cs ih h; simp only [D.isPure] at h; simp only [D.shift, ih h]
  case ref => intro k sz i off h; simp [D.isPure] at h
  case osl => intro k sz n h; simp [D.isPure] at h
  case mref => intro k h; simp [D.isPure] at h
  case nil => intro _; rfl
  case cons =>
    intro d r h1 h2 h
    simp only [D.isPureL, Bool.and_eq_true] at h
    simp only [D.shiftL, h1 h.1, h2 h.2]
  all_goals intros; rfl
theorem shiftL_pure (c : Nat) : ∀ {cs : List D}, D.isPureL cs = true → D.shiftL c cs = cs
  | [], _ => rfl
  | d :: r, h => by
    simp only [D.isPureL, Bool.and_eq_true] at h
    simp only [D.shiftL, shift_pure c h.1, shiftL_pure c h.2]
theorem shiftE_pure (c : Nat) {els : List (List D)} (h : ∀ e ∈ els, D.isPureL e = true) : els.map (D.shiftL c) = els := by
  conv => rhs; rw [← List.map_id els]
  exact List.map_congr_left fun e he => shiftL_pure c (h e he)

theorem RP.isPure {M : Nat → Prop} {w : World} {v : Value} {d : D} (h : RP M w v d) : d.isPure = true := by
  have pl : ∀ {cs : List D}, (∀ j, j < cs.length → (cs.getD j .top).isPure = true) → D.isPureL cs = true := by
    intro cs
    induction cs with
    | nil => intro _; rfl
    | cons d r ih =>
      intro h
      simp only [D.isPureL, Bool.and_eq_true]
      exact ⟨by simpa using h 0 (by simp), ih fun j hj => by simpa using h (j + 1) (by simpa using hj)⟩
  induction h with
  | agg hl hr ih => exact pl ih
  | tup hl hr ih => exact pl ih
  | fn hl hr ih => exact pl ih
  | _ => rfl

theorem R.shift {M Mn : Nat → Prop} {w : World} {ι ιn : Nat → Nat} {c m : Nat} (hM : ∀ b, Mn b → M b) (hi : ∀ k, k < m → ιn (c + k) = ι k) {v : Value} {d : D} (h : R M w ι m v d) : R Mn w ιn (c + m) v (d.shift c) := by
  induction h with
  | pure h =>
    rw [shift_pure c h.isPure]
    exact .pure (h.keep (fun _ _ _ => rfl) fun b _ hb => hM b hb)
  | @ref key sz i off hk => rw [← hi _ hk]; exact .ref (ι := ιn) (key := c + key) (by omega)
  | @osl key sz len cap cur e hk h1 h2 h3 h4 =>
    rw [← hi _ hk] at h3 ⊢
    exact .osl (ι := ιn) (key := c + key) (by omega) h1 h2 h3 h4
  | @mref key hk => rw [← hi _ hk]; exact .mref (ι := ιn) (key := c + key) (by omega)
  | agg hl hr ih => exact .agg (by rw [hl, shiftL_len]) fun j hj => by rw [shiftL_get]; exact ih j (by rw [shiftL_len] at hj; exact hj)
  | tup hl hr ih => exact .tup (by rw [hl, shiftL_len]) fun j hj => by rw [shiftL_get]; exact ih j (by rw [shiftL_len] at hj; exact hj)
  | fn hl hr ih => exact .fn (by rw [hl, shiftL_len]) fun j hj => by rw [shiftL_get]; exact ih j (by rw [shiftL_len] at hj; exact hj)

theorem look_shift (c : Nat) : ∀ (l : List (Nat × Ob)) (k : Nat) (o : Ob), St.look (shiftObjs c l) k = some o → ∃ k0 o0, k = c + k0 ∧ St.look l k0 = some o0 ∧ o = o0.shift c
  | [], k, o, h => by cases h
  | (j, ob) :: r, k, o, h => by
    simp only [shiftObjs, St.look] at h
    split at h
    · rename_i e
      simp at h; subst h; subst e
      exact ⟨j, ob, rfl, by simp [St.look], rfl⟩
    · rename_i e
      obtain ⟨k0, o0, rfl, h2, h3⟩ := look_shift c r k o h
      refine ⟨k0, o0, rfl, ?_, h3⟩
      simp only [St.look]
      rw [if_neg (fun e' => e (by rw [e']))]
      exact h2

/-- A function that hands back objects of its own (their names begin at 0), named anew from σ.nx on. -/
theorem CallT.own {P : Program} {g : FuncId} {args : List D} {d : D} {σ : St} {m : Nat} {objs : List (Nat × Ob)} (hc : CallT P g args St0 d ⟨m, objs⟩) (hp : D.isPureL args = true) : CallT P g args σ (d.shift σ.nx) ⟨σ.nx + m, shiftObjs σ.nx objs ++ σ.objs⟩ := by
  refine ⟨hc.ord, fun M0 w ι vals hS hl hv => ?_⟩
  have S1 : SimS (Mof M0 ι σ) w St0 ι := ⟨fun b hb => Mof.lt hS hb, (fun k o hk => by cases hk), (fun k k' o o' hk => by cases hk), (fun k o hk => by cases hk), hS.tabs.keep (Nat.le_refl _) (fun _ _ _ => rfl) fun b _ hb => hb.elim id fun ⟨k, o, hk, _⟩ => by cases hk⟩
  have e1 : ∀ b, Mof (Mof M0 ι σ) ι St0 b → Mof M0 ι σ b := by
    intro b hb
    rcases hb with hb | ⟨k, o, hk, _⟩
    · exact hb
    · cases hk
  refine (hc.run _ w ι vals S1 hl fun j hj => .pure (((hv j hj).toRP (pureL_at hp j)).keep (fun _ _ _ => rfl) fun b _ hb => e1 b hb)).mono fun e w' hh => ?_
  obtain ⟨v, ι', rfl, k1, k2, k3, k4, k5, k6⟩ := hh
  have K0 : Kept w w' fun _ => False := k1.mono fun b _ ⟨k, o, hk, _⟩ => by cases hk
  let ιn : Nat → Nat := fun k => if k < σ.nx then ι k else ι' (k - σ.nx)
  have n1 : ∀ k, k < σ.nx → ιn k = ι k := fun k hk => by simp only [ιn, if_pos hk]
  have n2 : ∀ k, ιn (σ.nx + k) = ι' k := fun k => by
    simp only [ιn, if_neg (show ¬ (σ.nx + k < σ.nx) by omega)]
    congr 1; omega
  have lk : ∀ k o, St.get ⟨σ.nx + m, shiftObjs σ.nx objs ++ σ.objs⟩ k = some o → (∃ k0 o0, k = σ.nx + k0 ∧ St.get ⟨m, objs⟩ k0 = some o0 ∧ o = o0.shift σ.nx) ∨ (k < σ.nx ∧ σ.get k = some o) := by
    intro k o hk
    unfold St.get at hk
    simp only at hk
    rw [look_append] at hk
    cases h1 : St.look (shiftObjs σ.nx objs) k with
    | some o1 =>
      rw [h1] at hk
      simp at hk; subst hk
      exact .inl (look_shift _ _ _ _ h1)
    | none =>
      rw [h1] at hk
      simp at hk
      exact .inr ⟨(hS.holds k o hk).1, hk⟩
  have fresh : ∀ k o, St.get ⟨m, objs⟩ k = some o → w.heap.size ≤ ι' k := by
    intro k o hk
    rcases k5 _ _ hk with h | ⟨k0, o0, hk0, _⟩
    · exact h
    · cases hk0
  have mm : ∀ b, b < w.heap.size → Mof M0 ιn ⟨σ.nx + m, shiftObjs σ.nx objs ++ σ.objs⟩ b → Mof M0 ι σ b := by
    intro b hb hm
    rcases hm with hm | ⟨k, o, hk, rfl⟩
    · exact .inl hm
    · rcases lk k o hk with ⟨k0, o0, rfl, h2, _⟩ | ⟨h1, h2⟩
      · have := fresh k0 o0 h2
        rw [n2] at hb
        omega
      · exact .inr ⟨k, o, h2, (n1 k h1).symm⟩
  have mv : ∀ b, Mof M0 ιn ⟨σ.nx + m, shiftObjs σ.nx objs ++ σ.objs⟩ b → Mof (Mof M0 ι σ) ι' ⟨m, objs⟩ b := by
    intro b hm
    rcases hm with hm | ⟨k, o, hk, rfl⟩
    · exact .inl (.inl hm)
    · rcases lk k o hk with ⟨k0, o0, rfl, h2, _⟩ | ⟨h1, h2⟩
      · exact .inr ⟨k0, o0, h2, (n2 k0).symm⟩
      · exact .inl (.inr ⟨k, o, h2, (n1 k h1).symm⟩)
  refine ⟨v, ιn, rfl, K0.none _, ⟨fun b hb => Nat.lt_of_lt_of_le (hS.old b hb) K0.size, fun k o hk => ?_, fun k k' o o' hk hk' e => ?_, fun k o hk hm => ?_, k2.tabs.keep (Nat.le_refl _) (fun _ _ _ => rfl) fun b _ hb => mv b hb⟩, Nat.le_add_right _ _, n1, fun k o hk => ?_, R.shift mv (fun k _ => n2 k) k6⟩
  · rcases lk k o hk with ⟨k0, o0, rfl, h2, rfl⟩ | ⟨h1, h2⟩
    · obtain ⟨g1, cur, e, c1, c2, c3, c4⟩ := k2.holds k0 o0 h2
      have glt : k0 < m := g1
      refine ⟨by show σ.nx + k0 < σ.nx + m; omega, cur, e, by rw [n2]; exact c1, fun el he => ?_, by simpa [Ob.shift] using c3, fun i hi j hj => ?_⟩
      · simp only [Ob.shift, List.mem_map] at he ⊢
        obtain ⟨el', h3, rfl⟩ := he
        rw [shiftL_len]; exact c2 _ h3
      · simp only [Ob.shift, List.length_map] at hi hj ⊢
        have h3 := c4 i hi j hj
        have e2 : ((o0.els.map (D.shiftL σ.nx)).getD i []).getD j .top = ((o0.els.getD i []).getD j .top).shift σ.nx := by
          have : (o0.els.map (D.shiftL σ.nx)).getD i [] = D.shiftL σ.nx (o0.els.getD i []) := by simp [List.getD, hi]
          rw [this, shiftL_get]
        rw [e2]
        exact ⟨h3.1, R.shift mv (fun k _ => n2 k) h3.2⟩
    · obtain ⟨g1, g2⟩ := hS.holds k o h2
      exact ⟨by show k < σ.nx + m; omega, g2.keep (K0.block _ (Own.lt hS ⟨k, o, h2, rfl⟩) id) (n1 k h1) (fun b hb _ => K0.block b hb id) (fun b hb hm => mm b hb hm) K0.shape n1 (Nat.le_add_right _ _)⟩
  · rcases lk k o hk with ⟨k0, o0, rfl, h2, rfl⟩ | ⟨h1, h2⟩ <;> rcases lk k' o' hk' with ⟨k0', o0', rfl, h2', rfl⟩ | ⟨h1', h2'⟩
    · rw [n2, n2] at e
      rw [k2.inj _ _ _ _ h2 h2' e]
    · rw [n2, n1 k' h1'] at e
      have := fresh _ _ h2
      have := Own.lt hS ⟨k', o', h2', rfl⟩
      omega
    · rw [n1 k h1, n2] at e
      have := fresh _ _ h2'
      have := Own.lt hS ⟨k, o, h2, rfl⟩
      omega
    · rw [n1 k h1, n1 k' h1'] at e
      exact hS.inj _ _ _ _ h2 h2' e
  · rcases lk k o hk with ⟨k0, o0, rfl, h2, rfl⟩ | ⟨h1, h2⟩
    · rw [n2] at hm
      have := fresh _ _ h2
      have := hS.old _ hm
      omega
    · rw [n1 k h1] at hm
      exact hS.notM k o h2 hm
  · rcases lk k o hk with ⟨k0, o0, rfl, h2, rfl⟩ | ⟨h1, h2⟩
    · rw [n2]; exact .inl (fresh _ _ h2)
    · rw [n1 k h1]; exact .inr ⟨k, o, h2, rfl⟩
end Go.Pd
