/- PURE DATA: a reckoner of closed calls: operations that change the state, code, functions. Over any program. -/
import Derived.Test.YthohheekakbpbaaXE
set_option linter.unusedSectionVars false
set_option linter.unusedVariables false
set_option linter.unusedSimpArgs false
set_option linter.defProp false
set_option maxRecDepth 20000
namespace Go.Pd
open Go
variable [Tabs]
def appE (σ : St) (sz bytes : Nat) (x : D) (rows : List (List D)) : Option (D × St) :=
  match x with
  | .nils => if rows.length * bytes ≤ 140737488355328 ∧ rows.length ≤ 1000000000000 then (match rows with
    | [] => some (.nils, σ)
    | _ :: _ => some (.osl σ.nx sz rows.length, σ.new ⟨sz, rows⟩)) else none
  | .osl key sz' n => match σ.get key with
    | some ob => if sz = sz' ∧ ob.sz = sz ∧ n ≤ ob.els.length ∧ (n + rows.length) * bytes ≤ 140737488355328 ∧ n + rows.length ≤ 1000000000000 then some (.osl σ.nx sz (n + rows.length), (σ.erase key).new ⟨sz, ob.els.take n ++ rows⟩) else none
    | none => none
  | _ => none
def clrE (σ : St) (zero : D) (x : D) : Option (D × St) :=
  match x with
  | .nils => some (.tup [], σ)
  | .emp => some (.tup [], σ)
  | .osl key sz n => match σ.get key with
    | some ob => if sz = 1 ∧ ob.sz = 1 ∧ 0 < n ∧ n ≤ ob.els.length ∧ zero.one = true then some (.tup [], σ.set key ⟨1, List.replicate n [zero] ++ ob.els.drop n⟩) else none
    | none => none
  | .sub key sz lo n => match σ.get key with
    | some ob => if sz = 1 ∧ ob.sz = 1 ∧ 0 < n ∧ lo + n ≤ ob.els.length ∧ zero.one = true then some (.tup [], σ.set key ⟨1, ob.els.take lo ++ (List.replicate n [zero] ++ ob.els.drop (lo + n))⟩) else none
    | none => none
  | _ => none
def mapE (σ : St) (m k : D) (f : St → Nat → Ob → IntKind → Int → Option (D × St)) : Option (D × St) :=
  match m, k with
  | .mref key, .int kk y => match σ.get key with
    | some o => if o.sz = 0 ∧ keysE kk o.els = true then f σ key o kk y else none
    | none => none
  | _, _ => none
def vE (call : Caller) (σ : St) (ev : Opd → D) (k : DK) : Option (D × St) :=
  match k with
  | .box x => match (ev x).cells with
    | some cs => if oneAll cs = true ∧ 0 < cs.length then some (.ref σ.nx cs.length 0 0, σ.new ⟨cs.length, [cs]⟩) else none
    | none => none
  | .alloc zero => if oneAll zero = true ∧ 0 < zero.length then some (.ref σ.nx zero.length 0 0, σ.new ⟨zero.length, [zero]⟩) else none
  | .store n a x => match ev a, (ev x).cells with
    | .ref key sz i off, some ds => match σ.get key with
      | some ob => if ob.sz = sz ∧ i < ob.els.length ∧ ds.length = n ∧ off + n ≤ sz ∧ oneAll ds = true then some (.und, σ.set key ⟨sz, ob.els.set i (setD (ob.els.getD i []) off ds)⟩) else none
      | none => none
    | _, _ => none
  | .app sz bytes x y => match rowsOf σ sz (ev y) with
    | some rows => if rows.all oneAll = true then appE σ sz bytes (ev x) rows else none
    | none => none
  | .mksl sz bytes zero len cap => match ev len, ev cap with
    | .int .i64 n, .int .i64 m => if n = m ∧ 0 ≤ n ∧ bytes * n ≤ 281474976710656 ∧ oneAll zero = true then some (.osl σ.nx sz n.toNat, σ.new ⟨sz, List.replicate n.toNat zero⟩) else none
    | _, _ => none
  | .olit sz len zero parts => match fillE sz (List.replicate len zero) (parts.map fun p => (p.1, ev p.2)) with
    | some es => if es.all oneAll = true then some (.osl σ.nx sz len, σ.new ⟨sz, es⟩) else none
    | none => none
  | .clr zero x => clrE σ zero (ev x)
  | .call fn args => match ev fn with
    | .fn g caps => loudE call σ g (args.map ev ++ caps)
    | _ => none
  | .mkm => some (.mref σ.nx, σ.new ⟨0, []⟩)
  | .mput m k x => mapE σ (ev m) (ev k) fun σ key o kk y => some (.und, σ.set key ⟨0, mputE kk o.els y (ev x)⟩)
  | .mputs n m k x => match ev m, ev k with
    | .mref key, .agg cs => match σ.get key, intsOf cs with
      | some o, some y => match unrow o.els with
        | some l => if o.sz = 0 ∧ y.length = n ∧ (l.all fun p => p.1.length == n) = true then some (.und, σ.set key ⟨0, arow (aputL y (ev x) l)⟩) else none
        | none => none
      | _, _ => none
    | _, _ => none
  | .ment zero m k => mapE σ (ev m) (ev k) fun σ key o kk y => if o.els.length ≤ 1000000000 then (match mfind y o.els 0 with
    | some (i, d) => some (.tup [d, .int .i64 i], σ.set key ⟨0, o.els⟩)
    | none => some (.tup [zero, .int .i64 o.els.length], σ.set key ⟨0, o.els ++ [[.int kk y, zero]]⟩)) else none
  | .esto m s x => match ev m, ev s with
    | .mref key, .int _ i => match σ.get key with
      | some o => if o.sz = 0 ∧ 0 ≤ i ∧ i < o.els.length then (match o.els.getD i.toNat [] with
        | [.int kk y, _] => some (.und, σ.set key ⟨0, o.els.set i.toNat [.int kk y, ev x]⟩)
        | _ => none) else none
      | none => none
    | _, _ => none
  | k => (pE call σ ev k).map fun d => (d, σ)
theorem all_one {rows : List (List D)} (h : rows.all oneAll = true) : ∀ r ∈ rows, oneAll r = true := List.all_eq_true.1 h
theorem vE_ok {C : Cx} {call : Caller} (hc : CallOk C.P call) {σ : St} {ev : Opd → D} : ∀ {k : DK} {d : D} {σ' : St}, vE call σ ev k = some (d, σ') → ∀ {K : D → St → Prop}, K d σ' → opV C σ ev k K
  | .box x, d, σ', h, K, hK => by
    simp only [vE] at h
    simp only [opV]
    split at h
    · rename_i h1
      rw [h1]
      simp only
      split at h
      · rename_i h2
        simp only [Option.some.injEq, Prod.mk.injEq] at h
        obtain ⟨rfl, rfl⟩ := h
        exact ⟨h2.1, h2.2, hK⟩
      · cases h
    · cases h
  | .alloc zero, d, σ', h, K, hK => by
    simp only [vE] at h
    split at h
    · rename_i h2
      simp only [Option.some.injEq, Prod.mk.injEq] at h
      obtain ⟨rfl, rfl⟩ := h
      exact ⟨h2.1, h2.2, hK⟩
    · cases h
  | .store n a x, d, σ', h, K, hK => by
    simp only [vE] at h
    simp only [opV]
    split at h
    · rename_i h1 h2
      rw [h1, h2]
      simp only
      split at h
      · rename_i h3
        rw [h3]
        simp only
        split at h
        · rename_i h4
          simp only [Option.some.injEq, Prod.mk.injEq] at h
          obtain ⟨rfl, rfl⟩ := h
          exact ⟨h4.1, h4.2.1, h4.2.2.1, h4.2.2.2.1, h4.2.2.2.2, hK⟩
        · cases h
      · cases h
    · cases h
  | .app sz bytes x y, d, σ', h, K, hK => by
    simp only [vE] at h
    simp only [opV]
    split at h
    · rename_i rows h1
      rw [h1]
      simp only
      split at h
      · rename_i h2
        refine ⟨all_one h2, ?_⟩
        unfold appE at h
        split at h
        · rename_i h3
          rw [h3]
          simp only
          split at h
          · rename_i h4
            refine ⟨h4.1, h4.2, fun e => ?_, fun e => ?_⟩
            · subst e
              simp only [Option.some.injEq, Prod.mk.injEq] at h
              obtain ⟨rfl, rfl⟩ := h
              exact hK
            · match rows, e, h with
              | r :: rs, _, h =>
                simp only [Option.some.injEq, Prod.mk.injEq] at h
                obtain ⟨rfl, rfl⟩ := h
                exact hK
          · cases h
        · rename_i h3
          rw [h3]
          simp only
          split at h
          · rename_i h5
            rw [h5]
            simp only
            split at h
            · rename_i h4
              simp only [Option.some.injEq, Prod.mk.injEq] at h
              obtain ⟨rfl, rfl⟩ := h
              exact ⟨h4.1, h4.2.1, h4.2.2.1, h4.2.2.2.1, h4.2.2.2.2, hK⟩
            · cases h
          · cases h
        · cases h
      · cases h
    · cases h
  | .mksl sz bytes zero len cap, d, σ', h, K, hK => by
    simp only [vE] at h
    simp only [opV]
    split at h
    · rename_i h1 h2
      rw [h1, h2]
      simp only
      split at h
      · rename_i h4
        simp only [Option.some.injEq, Prod.mk.injEq] at h
        obtain ⟨rfl, rfl⟩ := h
        exact ⟨h4.1, h4.2.1, h4.2.2.1, h4.2.2.2, hK⟩
      · cases h
    · cases h
  | .olit sz len zero parts, d, σ', h, K, hK => by
    simp only [vE] at h
    simp only [opV]
    split at h
    · rename_i h1
      rw [h1]
      simp only
      split at h
      · rename_i h4
        simp only [Option.some.injEq, Prod.mk.injEq] at h
        obtain ⟨rfl, rfl⟩ := h
        exact ⟨all_one h4, hK⟩
      · cases h
    · cases h
  | .clr zero x, d, σ', h, K, hK => by
    simp only [vE] at h
    simp only [opV]
    unfold clrE at h
    split at h
    · rename_i h1
      rw [h1]
      simp only [Option.some.injEq, Prod.mk.injEq] at h
      obtain ⟨rfl, rfl⟩ := h
      exact hK
    · rename_i h1
      rw [h1]
      simp only [Option.some.injEq, Prod.mk.injEq] at h
      obtain ⟨rfl, rfl⟩ := h
      exact hK
    · rename_i h1
      rw [h1]
      simp only
      split at h
      · rename_i h2
        rw [h2]
        simp only
        split at h
        · rename_i h4
          simp only [Option.some.injEq, Prod.mk.injEq] at h
          obtain ⟨rfl, rfl⟩ := h
          exact ⟨h4.1, h4.2.1, h4.2.2.1, h4.2.2.2.1, h4.2.2.2.2, hK⟩
        · cases h
      · cases h
    · rename_i h1
      rw [h1]
      simp only
      split at h
      · rename_i h2
        rw [h2]
        simp only
        split at h
        · rename_i h4
          simp only [Option.some.injEq, Prod.mk.injEq] at h
          obtain ⟨rfl, rfl⟩ := h
          exact ⟨h4.1, h4.2.1, h4.2.2.1, h4.2.2.2.1, h4.2.2.2.2, hK⟩
        · cases h
      · cases h
    · cases h
  | .call fn args, d, σ', h, K, hK => by
    simp only [vE] at h
    simp only [opV]
    split at h
    · rename_i h1
      rw [h1]
      exact ⟨d, σ', loudE_ok hc h, hK⟩
    · cases h
  | .mkm, d, σ', h, K, hK => by
    simp only [vE, Option.some.injEq, Prod.mk.injEq] at h
    obtain ⟨rfl, rfl⟩ := h
    exact hK
  | .mput m k x, d, σ', h, K, hK => by
    simp only [vE] at h
    simp only [opV]
    unfold mapE at h
    split at h
    · rename_i h1 h2
      rw [h1, h2]
      simp only
      split at h
      · rename_i h3
        rw [h3]
        simp only
        split at h
        · rename_i h4
          simp only [Option.some.injEq, Prod.mk.injEq] at h
          obtain ⟨rfl, rfl⟩ := h
          exact ⟨h4.1, keysE_ok h4.2, hK⟩
        · cases h
      · cases h
    · cases h
  | .mputs n m k x, d, σ', h, K, hK => by
    simp only [vE] at h
    simp only [opV]
    split at h
    · rename_i key cs h1 h2
      rw [h1, h2]
      simp only
      split at h
      · rename_i o y h3 h4
        rw [h3]
        simp only
        split at h
        · rename_i l h5
          split at h
          · rename_i h6
            simp only [Option.some.injEq, Prod.mk.injEq] at h
            obtain ⟨rfl, rfl⟩ := h
            exact ⟨h6.1, y, l, ⟨intsOf_spec h4, unrow_ok h5, h6.2.1, fun p hp => by have := List.all_eq_true.1 h6.2.2 p hp; simpa using this⟩, hK⟩
          · cases h
        · cases h
      · cases h
    · cases h
  | .ment zero m k, d, σ', h, K, hK => by
    simp only [vE] at h
    simp only [opV]
    unfold mapE at h
    split at h
    · rename_i h1 h2
      rw [h1, h2]
      simp only
      split at h
      · rename_i h3
        rw [h3]
        simp only
        split at h
        · rename_i h4
          simp only at h
          split at h
          · rename_i h5
            refine ⟨h4.1, keysE_ok h4.2, h5, ?_⟩
            split at h
            · rename_i h6
              rw [h6]
              simp only [Option.some.injEq, Prod.mk.injEq] at h
              obtain ⟨rfl, rfl⟩ := h
              exact hK
            · rename_i h6
              rw [h6]
              simp only [Option.some.injEq, Prod.mk.injEq] at h
              obtain ⟨rfl, rfl⟩ := h
              exact hK
          · cases h
        · cases h
      · cases h
    · cases h
  | .esto m s x, d, σ', h, K, hK => by
    simp only [vE] at h
    simp only [opV]
    split at h
    · rename_i h1 h2
      rw [h1, h2]
      simp only
      split at h
      · rename_i h3
        rw [h3]
        simp only
        split at h
        · rename_i h4
          split at h
          · rename_i kk y dd h6
            simp only [Option.some.injEq, Prod.mk.injEq] at h
            obtain ⟨rfl, rfl⟩ := h
            exact ⟨h4.1, h4.2.1, h4.2.2, kk, y, dd, h6, hK⟩
          · cases h
        · cases h
      · cases h
    · cases h
  | .mv _, d, σ', h, K, hK | .nck _, d, σ', h, K, hK | .pick .., d, σ', h, K, hK | .bin .., d, σ', h, K, hK | .beq .., d, σ', h, K, hK | .geq .., d, σ', h, K, hK | .nt _, d, σ', h, K, hK | .neg _, d, σ', h, K, hK | .cpl _, d, σ', h, K, hK
  | .conv .., d, σ', h, K, hK | .fld .., d, σ', h, K, hK | .fval .., d, σ', h, K, hK | .extr .., d, σ', h, K, hK | .mkf .., d, σ', h, K, hK | .mn .., d, σ', h, K, hK | .mx .., d, σ', h, K, hK | .build .., d, σ', h, K, hK | .idx .., d, σ', h, K, hK
  | .len _, d, σ', h, K, hK | .nileq .., d, σ', h, K, hK | .mlen _, d, σ', h, K, hK | .load .., d, σ', h, K, hK | .slc .., d, σ', h, K, hK | .blit .., d, σ', h, K, hK | .mget .., d, σ', h, K, hK | .mgets .., d, σ', h, K, hK => by
    simp only [vE, Option.map_eq_some_iff, Prod.mk.injEq] at h
    obtain ⟨d0, h0, rfl, rfl⟩ := h
    exact pE_ok hc h0 (K := fun d => K d σ) hK
def guardE (o : DOp) (f : Fr) : Option Bool :=
  match o.guard with
  | none => some true
  | some (j, want) => match f.get j with
    | .bool b => if b = want then some true else some false
    | .und => some false
    | _ => none
theorem guardE_ok {o : DOp} {f : Fr} {b : Bool} (h : guardE o f = some b) {yes no : Prop} (h1 : b = true → yes) (h2 : b = false → no) : guardW o f yes no := by
  unfold guardE at h
  unfold guardW
  split at h
  · rename_i e; rw [e]; simp only [Option.some.injEq] at h; exact h1 h.symm
  · rename_i j want e
    rw [e]
    simp only
    split at h
    · rename_i b' e2
      rw [e2]
      simp only
      split at h
      · rename_i e3; rw [if_pos e3]; simp only [Option.some.injEq] at h; exact h1 h.symm
      · rename_i e3; rw [if_neg e3]; simp only [Option.some.injEq] at h; exact h2 h.symm
    · rename_i e2; rw [e2]; simp only [Option.some.injEq] at h; exact h2 h.symm
    · cases h
def preE (call : Caller) (σ : St) : List DOp → Fr → Option Fr
  | [], f => some f
  | o :: r, f => match guardE o f with
    | some true => match pE call σ (evO f) o.k with
      | some d => preE call σ r (f.put o.dst d)
      | none => none
    | some false => preE call σ r (f.put o.dst .und)
    | none => none
theorem preE_ok {C : Cx} {call : Caller} (hc : CallOk C.P call) {σ : St} : ∀ {l : List DOp} {f f' : Fr}, preE call σ l f = some f' → ∀ {K : Fr → Prop}, K f' → preW C σ l f K
  | [], f, f', h, K, hK => by simp [preE] at h; subst h; exact hK
  | o :: r, f, f', h, K, hK => by
    unfold preE at h
    unfold preW
    split at h
    · rename_i hg
      split at h
      · rename_i d hd
        exact guardE_ok hg (fun _ => pE_ok hc hd (preE_ok hc h hK)) fun e => by cases e
      · cases h
    · rename_i hg
      exact guardE_ok hg (fun e => by cases e) fun _ => preE_ok hc h hK
    · cases h
def opsE (call : Caller) : List DOp → Fr → St → Option (Fr × St)
  | [], f, σ => some (f, σ)
  | o :: r, f, σ => match guardE o f with
    | some true => match vE call σ (evO f) o.k with
      | some (d, σ') => opsE call r (f.put o.dst d) σ'
      | none => none
    | some false => opsE call r (f.put o.dst .und) σ
    | none => none
theorem opsE_ok {C : Cx} {call : Caller} (hc : CallOk C.P call) : ∀ {l : List DOp} {f f' : Fr} {σ σ' : St}, opsE call l f σ = some (f', σ') → ∀ {K : Fr → St → Prop}, K f' σ' → opsW C l f σ K
  | [], f, f', σ, σ', h, K, hK => by simp [opsE] at h; obtain ⟨rfl, rfl⟩ := h; exact hK
  | o :: r, f, f', σ, σ', h, K, hK => by
    unfold opsE at h
    unfold opsW
    split at h
    · rename_i hg
      split at h
      · rename_i d σ1 hd
        exact guardE_ok hg (fun _ => vE_ok hc hd (opsE_ok hc h hK)) fun e => by cases e
      · cases h
    · rename_i hg
      exact guardE_ok hg (fun e => by cases e) fun _ => opsE_ok hc h hK
    · cases h
/-- A frame without the slots that are hidden. -/
def dd (mask : Nat) : Fr → Fr
  | [] => []
  | (t, d) :: r => if mask.testBit t = true then dd mask r else (t, d) :: dd (mask ||| 2 ^ t) r
theorem dd_get : ∀ (f : Fr) (mask t : Nat), mask.testBit t = false → (dd mask f).get t = f.get t
  | [], mask, t, h => rfl
  | (s, d) :: r, mask, t, h => by
    unfold dd
    split
    · rename_i hs
      rw [dd_get r mask t h]
      have : s ≠ t := fun e => by rw [e, h] at hs; cases hs
      simp [Fr.get, this]
    · by_cases e : s = t
      · simp [Fr.get, e]
      · rw [Fr.get, if_neg e, Fr.get, if_neg e]
        refine dd_get r _ t ?_
        rw [Nat.testBit_or, h, Nat.testBit_two_pow_of_ne e]; rfl
theorem Weak.dd {C : Cx} {f : Fr} {σ : St} : Weak C f σ (Pd.dd 0 f) σ := Weak.frame fun t => .inr (dd_get f 0 t (Nat.zero_testBit t))
def loopE (body : Fr → St → Option (Ex × Fr × St)) : Nat → Fr → St → Option (Ex × Fr × St)
  | 0, _, _ => none
  | k + 1, f, σ => match body f σ with
    | some (.normal, f1, σ1) => loopE body k (dd 0 f1) σ1
    | r => r
def unE (call : Caller) (σ : St) (mid : List DOp) (f : Fr) (un : Bool) (f2 : Fr) : Bool :=
  match un with
  | true => match preE call σ mid f with
    | some g2 => eqFr g2 f2
    | none => false
  | false => true
theorem unE_ok {C : Cx} {call : Caller} (hc : CallOk C.P call) {σ : St} {mid : List DOp} {f f2 : Fr} {un : Bool} (h : unE call σ mid f un f2 = true) : if un = true then preW C σ mid f (fun g => g = f2) else True := by
  unfold unE at h
  split at h
  · rw [if_pos rfl]
    split at h
    · rename_i g2 h8
      exact preE_ok hc h8 (eqFr_ok h)
    · cases h
  · rw [if_neg (by simp)]; trivial
def evC (call : Caller) : DC → Nat → Fr → St → Option (Ex × Fr × St)
  | .skip, _, f, σ => some (.normal, f, σ)
  | .reg pre post, _, f, σ => match preE call σ pre f with
    | some f1 => match opsE call post f1 σ with
      | some (f2, σ2) => some (.normal, f2, σ2)
      | none => none
    | none => none
  | .regm pre m mid un post, _, f, σ => match preE call σ pre f with
    | some f1 => match vE call σ (evO f1) m.k with
      | some (d, σ1) => match preE call σ1 pre f, preE call σ1 mid (f1.put m.dst d) with
        | some g1, some f2 => match eqFr g1 f1 && unE call σ mid (f1.put m.dst d) un f2 with
          | true => match opsE call post f2 σ1 with
            | some (f3, σ3) => some (.normal, f3, σ3)
            | none => none
          | false => none
        | _, _ => none
      | none => none
    | none => none
  | .regc pre m1 mid1 m2 mid2 post, _, f, σ => match preE call σ pre f with
    | some f1 => match vE call σ (evO f1) m1.k with
      | some (d1, σ1) => match preE call σ1 pre f, preE call σ1 mid1 (f1.put m1.dst d1) with
        | some g1, some f2 => match eqFr g1 f1, vE call σ1 (evO f2) m2.k with
          | true, some (d2, σ2) => match preE call σ2 pre f, preE call σ2 mid1 (f1.put m1.dst d1), preE call σ2 mid2 (f2.put m2.dst d2) with
            | some x1, some x2, some f3 => match eqFr x1 f1 && eqFr x2 f2 with
              | true => match opsE call post f3 σ2 with
                | some (f4, σ4) => some (.normal, f4, σ4)
                | none => none
              | false => none
            | _, _, _ => none
          | _, _ => none
        | _, _ => none
      | none => none
    | none => none
  | .seq a b, n, f, σ => match evC call a n f σ with
    | some (.normal, f1, σ1) => evC call b n f1 σ1
    | r => r
  | .cond c a b, n, f, σ => match evO f c with
    | .bool t => if t = true then evC call a n f σ else evC call b n f σ
    | _ => none
  | .block id c, n, f, σ => match evC call c n f σ with
    | some (.exit i, f1, σ1) => if i = id then some (.normal, f1, σ1) else some (.exit i, f1, σ1)
    | r => r
  | .loop c, n, f, σ => loopE (evC call c n) n f σ
  | .exit id, _, f, σ => some (.exit id, f, σ)
  | .ret, _, f, σ => some (.ret, f, σ)
  | _, _, _, _ => none
theorem loopE_ok {C : Cx} (hm : C.P.follows .mixedOrders = true) {c : DC} {body : Fr → St → Option (Ex × Fr × St)} (hb : ∀ f σ e f' σ', body f σ = some (e, f', σ') → ∀ Q : Exit → Fr → St → Prop, Q e.to f' σ' → wpD C c f σ Q) {n : Nat} {f : Fr} {σ : St} {e : Ex} {f' : Fr} {σ' : St}
    (h : loopE body n f σ = some (e, f', σ')) {Q : Exit → Fr → St → Prop} (hQ : Q e.to f' σ') : wpS C (.loop c) f σ Q := by
  refine wpS_loop (α := Nat × Fr × St) (fun a => a.2.1) (fun a => a.2.2) (fun a => loopE body a.1 a.2.1 a.2.2 = some (e, f', σ')) (fun a => a.1) (n, f, σ) h Weak.refl ?_
  rintro ⟨k, f0, σ0⟩ hI
  match k, hI with
  | 0, hI => simp [loopE] at hI
  | k + 1, hI =>
    simp only at hI ⊢
    unfold loopE at hI
    refine wpS_of hm ?_
    split at hI
    · rename_i f1 σ1 h1
      exact hb _ _ _ _ _ h1 _ ⟨(k, Pd.dd 0 f1, σ1), hI, Weak.dd, Nat.lt_succ_self k⟩
    · rename_i hne
      refine hb _ _ _ _ _ hI _ ?_
      cases e with
      | normal => exact absurd hI (hne _ _)
      | exit i => exact hQ
      | ret => exact hQ
theorem evC_ok {C : Cx} (hm : C.P.follows .mixedOrders = true) {call : Caller} (hc : CallOk C.P call) : ∀ (c : DC) (n : Nat) (f : Fr) (σ : St) (e : Ex) (f' : Fr) (σ' : St), evC call c n f σ = some (e, f', σ') → ∀ Q : Exit → Fr → St → Prop, Q e.to f' σ' → wpD C c f σ Q
  | .skip, n, f, σ, e, f', σ', h, Q, hQ => by simp [evC] at h; obtain ⟨rfl, rfl, rfl⟩ := h; exact hQ
  | .exit id, n, f, σ, e, f', σ', h, Q, hQ => by simp [evC] at h; obtain ⟨rfl, rfl, rfl⟩ := h; exact hQ
  | .ret, n, f, σ, e, f', σ', h, Q, hQ => by simp [evC] at h; obtain ⟨rfl, rfl, rfl⟩ := h; exact hQ
  | .reg pre post, n, f, σ, e, f', σ', h, Q, hQ => by
    unfold evC at h
    unfold wpD
    split at h
    · rename_i f1 h1
      split at h
      · rename_i f2 σ2 h2
        simp only [Option.some.injEq, Prod.mk.injEq] at h
        obtain ⟨rfl, rfl, rfl⟩ := h
        exact preE_ok hc h1 (opsE_ok hc h2 hQ)
      · cases h
    · cases h
  | .seq a b, n, f, σ, e, f', σ', h, Q, hQ => by
    unfold evC at h
    unfold wpD
    split at h
    · rename_i f1 σ1 h1
      exact evC_ok hm hc a n _ _ _ _ _ h1 _ (evC_ok hm hc b n _ _ _ _ _ h Q hQ)
    · rename_i hne
      refine evC_ok hm hc a n _ _ _ _ _ h _ ?_
      cases e with
      | normal => exact absurd h (hne _ _)
      | exit i => exact hQ
      | ret => exact hQ
  | .cond c a b, n, f, σ, e, f', σ', h, Q, hQ => by
    unfold evC at h
    unfold wpD
    split at h
    · rename_i t ht
      rw [ht]
      simp only
      split at h
      · rename_i e1; rw [if_pos e1]; exact evC_ok hm hc a n _ _ _ _ _ h Q hQ
      · rename_i e1; rw [if_neg e1]; exact evC_ok hm hc b n _ _ _ _ _ h Q hQ
    · cases h
  | .block id c, n, f, σ, e, f', σ', h, Q, hQ => by
    unfold evC at h
    unfold wpD
    split at h
    · rename_i i f1 σ1 h1
      refine evC_ok hm hc c n _ _ _ _ _ h1 _ ?_
      show if i = id then Q .normal f1 σ1 else Q (.exit i) f1 σ1
      split at h
      · rename_i e1
        simp only [Option.some.injEq, Prod.mk.injEq] at h
        obtain ⟨rfl, rfl, rfl⟩ := h
        rw [if_pos e1]; exact hQ
      · rename_i e1
        simp only [Option.some.injEq, Prod.mk.injEq] at h
        obtain ⟨rfl, rfl, rfl⟩ := h
        rw [if_neg e1]; exact hQ
    · rename_i hne
      refine evC_ok hm hc c n _ _ _ _ _ h _ ?_
      cases e with
      | normal => exact hQ
      | exit i => exact absurd h (hne _ _ _)
      | ret => exact hQ
  | .loop c, n, f, σ, e, f', σ', h, Q, hQ => by
    unfold evC at h
    unfold wpD
    exact loopE_ok hm (fun f σ e f' σ' h Q hQ => evC_ok hm hc c n f σ e f' σ' h Q hQ) h hQ
  | .regm pre m mid un post, n, f, σ, e, f', σ', h, Q, hQ => by
    unfold evC at h
    unfold wpD
    split at h
    · rename_i f1 h1
      split at h
      · rename_i d σ1 h2
        split at h
        · rename_i g1 f2 h3 h4
          split at h
          · rename_i h5
            rw [Bool.and_eq_true] at h5
            split at h
            · rename_i f3 σ3 h6
              simp only [Option.some.injEq, Prod.mk.injEq] at h
              obtain ⟨rfl, rfl, rfl⟩ := h
              exact preE_ok hc h1 (vE_ok hc h2 ⟨preE_ok hc h3 (eqFr_ok h5.1), preE_ok hc h4 ⟨unE_ok hc h5.2, opsE_ok hc h6 hQ⟩⟩)
            · cases h
          · cases h
        · cases h
      · cases h
    · cases h
  | .regc pre m1 mid1 m2 mid2 post, n, f, σ, e, f', σ', h, Q, hQ => by
    unfold evC at h
    unfold wpD
    split at h
    · rename_i f1 h1
      split at h
      · rename_i d1 σ1 h2
        split at h
        · rename_i g1 f2 h3 h4
          split at h
          · rename_i d2 σ2 h5 h6
            split at h
            · rename_i x1 x2 f3 h7 h8 h9
              split at h
              · rename_i h10
                rw [Bool.and_eq_true] at h10
                split at h
                · rename_i f4 σ4 h11
                  simp only [Option.some.injEq, Prod.mk.injEq] at h
                  obtain ⟨rfl, rfl, rfl⟩ := h
                  exact preE_ok hc h1 (vE_ok hc h2 ⟨preE_ok hc h3 (eqFr_ok h5), preE_ok hc h4 (vE_ok hc h6 ⟨preE_ok hc h7 (eqFr_ok h10.1), preE_ok hc h8 (eqFr_ok h10.2), preE_ok hc h9 (opsE_ok hc h11 hQ)⟩)⟩)
                · cases h
              · cases h
            · cases h
          · cases h
        · cases h
      · cases h
    · cases h
  | .rng .., n, f, σ, e, f', σ', h, Q, hQ | .nxt .., n, f, σ, e, f', σ', h, Q, hQ | .ent .., n, f, σ, e, f', σ', h, Q, hQ | .mloop .., n, f, σ, e, f', σ', h, Q, hQ => by
    simp [evC] at h
/-! Objects that nothing leads to are forgotten when a call returns. -/
mutual
def keysD : D → List Nat → List Nat
  | .ref k _ _ _, l => k :: l
  | .osl k _ _, l => k :: l
  | .sub k _ _ _, l => k :: l
  | .mref k, l => k :: l
  | .agg cs, l => keysL cs l
  | .tup cs, l => keysL cs l
  | .fn _ cs, l => keysL cs l
  | _, l => l
def keysL : List D → List Nat → List Nat
  | [], l => l
  | d :: r, l => keysD d (keysL r l)
end
def keysR : List (List D) → List Nat → List Nat
  | [], l => l
  | e :: r, l => keysL e (keysR r l)
def markG (n0 : Nat) (objs : List (Nat × Ob)) : Nat → List Nat → Nat → Nat
  | 0, _, m => m
  | _ + 1, [], m => m
  | n + 1, k :: todo, m => if k < n0 ∨ m.testBit k = true then markG n0 objs n todo m else match St.look objs k with
    | some o => markG n0 objs n (keysR o.els todo) (m ||| 2 ^ k)
    | none => markG n0 objs n todo m
def rootsG (n0 : Nat) : List (Nat × Ob) → List Nat
  | [] => []
  | (k, o) :: r => if k < n0 then keysR o.els (rootsG n0 r) else rootsG n0 r
def gcO (n0 : Nat) (d : D) (σ : St) : List (Nat × Ob) :=
  if σ.nx = n0 then σ.objs else
    let m := markG n0 σ.objs 100000 (keysD d (rootsG n0 σ.objs)) 0
    σ.objs.filter fun p => decide (p.1 < n0) || m.testBit p.1
theorem look_filter {φ : Nat → Bool} {k : Nat} {o : Ob} : ∀ {l : List (Nat × Ob)}, St.look (l.filter fun p => φ p.1) k = some o → St.look l k = some o
  | [], h => by cases h
  | (j, o') :: r, h => by
    rw [List.filter_cons] at h
    split at h
    · rw [look_cons] at h ⊢
      split at h
      · rename_i e; rw [if_pos e]; exact h
      · rename_i e; rw [if_neg e]; exact look_filter h
    · rename_i hf
      have h' := look_filter h
      rw [look_cons]
      split
      · rename_i e
        subst e
        exfalso
        have : ∀ {l : List (Nat × Ob)}, St.look (l.filter fun p => φ p.1) j ≠ some o := by
          intro l
          induction l with
          | nil => simp [St.look]
          | cons p l ih =>
            rw [List.filter_cons]
            split
            · rename_i hp
              rw [look_cons]
              split
              · rename_i e; rw [e] at hp; exact absurd hp hf
              · exact ih
            · exact ih
        exact this h
      · exact h'
theorem gcO_ok {n0 : Nat} {d : D} {σ : St} : ∀ k o, St.look (gcO n0 d σ) k = some o → σ.get k = some o := fun k o h => by
  unfold gcO at h
  split at h
  · exact h
  · exact look_filter (φ := fun j => decide (j < n0) || (markG n0 σ.objs 100000 (keysD d (rootsG n0 σ.objs)) 0).testBit j) h
def res1E (f : Fr) (σ : St) : DRes → Option D
  | .tmp t => some (f.get t)
  | .cell t n ag => loadE σ n ag (f.get t)
def resE (f : Fr) (σ : St) : List DRes → Option D
  | [] => some (.tup [])
  | [a] => res1E f σ a
  | [a, b] => match res1E f σ a, res1E f σ b with
    | some x, some y => some (.tup [x, y])
    | _, _ => none
  | [a, b, c] => match res1E f σ a, res1E f σ b, res1E f σ c with
    | some x, some y, some z => some (.tup [x, y, z])
    | _, _, _ => none
  | [a, b, c, d] => match res1E f σ a, res1E f σ b, res1E f σ c, res1E f σ d with
    | some x, some y, some z, some u => some (.tup [x, y, z, u])
    | _, _, _, _ => none
  | _ => none
theorem res1E_ok {C : Cx} {f : Fr} {σ : St} {r : DRes} {d : D} (h : res1E f σ r = some d) {K : D → Prop} (hK : K d) : resW C r f σ K := by
  cases r with
  | tmp t => simp only [res1E, Option.some.injEq] at h; subst h; exact hK
  | cell t n ag => exact loadE_ok (C := C) (ev := evO f) (x := .t t) h hK
theorem resE_ok {C : Cx} {f : Fr} {σ : St} : ∀ {rs : List DRes} {d : D}, resE f σ rs = some d → ∀ {K : D → Prop}, K d → ressW C rs f σ K
  | [], d, h, K, hK => by simp only [resE, Option.some.injEq] at h; subst h; exact hK
  | [a], d, h, K, hK => res1E_ok (by simpa only [resE] using h) hK
  | [a, b], d, h, K, hK => by
    simp only [resE] at h
    simp only [ressW]
    split at h
    · rename_i h1 h2
      simp only [Option.some.injEq] at h; subst h
      exact res1E_ok h1 (K := fun x => resW C b f σ fun y => K (.tup [x, y])) (res1E_ok h2 hK)
    · cases h
  | [a, b, c], d, h, K, hK => by
    simp only [resE] at h
    simp only [ressW]
    split at h
    · rename_i h1 h2 h3
      simp only [Option.some.injEq] at h; subst h
      exact res1E_ok h1 (K := fun x => resW C b f σ fun y => resW C c f σ fun z => K (.tup [x, y, z])) (res1E_ok h2 (K := fun y => resW C c f σ fun z => K (.tup [_, y, z])) (res1E_ok h3 hK))
    · cases h
  | [a, b, c, e], d, h, K, hK => by
    simp only [resE] at h
    simp only [ressW]
    split at h
    · rename_i h1 h2 h3 h4
      simp only [Option.some.injEq] at h; subst h
      exact res1E_ok h1 (K := fun x => resW C b f σ fun y => resW C c f σ fun z => resW C e f σ fun u => K (.tup [x, y, z, u])) (res1E_ok h2 (K := fun y => resW C c f σ fun z => resW C e f σ fun u => K (.tup [_, y, z, u])) (res1E_ok h3 (K := fun z => resW C e f σ fun u => K (.tup [_, _, z, u])) (res1E_ok h4 hK)))
    · cases h
  | _ :: _ :: _ :: _ :: _ :: _, d, h, K, hK => by simp [resE] at h
/-! Functions: those of a table; others by contract. -/
abbrev Table := List (Nat × Fn)
def lookT : Table → Nat → Option Fn
  | [], _ => none
  | (k, F) :: r, g => if k = g then some F else lookT r g
def TableOk (P : Program) (T : Table) : Prop := ∀ g F, lookT T g = some F → ∃ fn, P.funcs[g]? = some fn ∧ codeOf P F.own fn = some (F.n, F.code, F.res)
theorem TableOk.nil {P : Program} : TableOk P [] := fun g F h => by cases h
theorem TableOk.cons {P : Program} {T : Table} {g : Nat} {fn : Func} {own : List Nat} {c : Nat × DC × List DRes} (hf : P.funcs[g]? = some fn) (hc : codeOf P own fn = some c) (h : TableOk P T) : TableOk P ((g, ⟨c.1, c.2.1, c.2.2, own⟩) :: T) := fun k F hk => by
  unfold lookT at hk
  split at hk
  · rename_i e
    subst e
    simp only [Option.some.injEq] at hk
    subst hk
    exact ⟨fn, hf, hc⟩
  · exact h k F hk
abbrev Oracle := FuncId → List D → Option D
def OracleOk (P : Program) (O : Oracle) : Prop := ∀ g args d, O g args = some d → ∀ σ, CallT P g args σ d σ
def evF (T : Table) (O : Oracle) : Nat → Caller
  | 0, _, _, _ => none
  | n + 1, g, args, σ => match O g args with
    | some d => some (d, σ)
    | none => match lookT T g with
      | some F => if args.length ≤ F.n then (match evC (evF T O n) F.code 100000 (argFr 0 args) σ with
        | some (.exit _, _, _) => none
        | some (_, f, σ1) => match resE f σ1 F.res with
          | some d => some (d, ⟨σ1.nx, gcO σ.nx d σ1⟩)
          | none => none
        | none => none) else none
      | none => none
theorem evF_ok {P : Program} (hm : P.follows .mixedOrders = true) {T : Table} (hT : TableOk P T) {O : Oracle} (hO : OracleOk P O) : ∀ n, CallOk P (evF T O n)
  | 0 => fun g args σ d σ' h => by simp [evF] at h
  | n + 1 => fun g args σ d σ' h => by
    have ih := evF_ok hm hT hO n
    unfold evF at h
    split at h
    · rename_i d1 h1
      simp only [Option.some.injEq, Prod.mk.injEq] at h
      obtain ⟨rfl, rfl⟩ := h
      exact hO _ _ _ h1 σ
    split at h
    · rename_i F hF
      obtain ⟨fn, hf, hc⟩ := hT g F hF
      split at h
      · rename_i hl
        have key : ∀ e f σ1, evC (evF T O n) F.code 100000 (argFr 0 args) σ = some (e, f, σ1) → (e.to = .ret ∨ e.to = .normal) → (match resE f σ1 F.res with | some d => some (d, (⟨σ1.nx, gcO σ.nx d σ1⟩ : St)) | none => none) = some (d, σ') → CallT P g args σ d σ' := by
          intro e f σ1 h1 he h2
          split at h2
          · rename_i d1 h3
            simp only [Option.some.injEq, Prod.mk.injEq] at h2
            obtain ⟨rfl, rfl⟩ := h2
            refine CallT.gc (σ1 := σ1) ?_ gcO_ok
            refine CallT.of_fn hm hf hc hl fun _ => ?_
            exact evC_ok (C := ⟨P, F.n, σ.nx, F.own⟩) hm ih F.code 100000 _ _ _ _ _ h1 _ ⟨he, resE_ok h3 (.inl ⟨rfl, rfl⟩)⟩
          · cases h2
        split at h
        · cases h
        · rename_i e f σ1 hne h1
          refine key e f σ1 h1 ?_ h
          cases e with
          | normal => exact .inr rfl
          | exit i => exact absurd rfl (hne i)
          | ret => exact .inl rfl
        · cases h
      · cases h
    · cases h
/-- A closed call, reckoned. -/
theorem reckon {P : Program} (hm : P.follows .mixedOrders = true) {T : Table} (hT : TableOk P T) {O : Oracle} (hO : OracleOk P O) (n : Nat) {g : FuncId} {args : List D} {d : D} (hd : d.isPure = true) (h : (evF T O n g args St0).map (·.1) = some d) : Runs P g args d := by
  rw [Option.map_eq_some_iff] at h
  obtain ⟨⟨d1, σ1⟩, h1, rfl⟩ := h
  exact (evF_ok hm hT hO n _ _ _ _ _ h1).toRuns hd
end Go.Pd
