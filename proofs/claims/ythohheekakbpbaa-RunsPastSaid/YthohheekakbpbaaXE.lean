/- PURE DATA: a reckoner of closed calls. Over any program. -/
import Derived.Test.YthohheekakbpbaaX8
set_option linter.unusedSectionVars false
set_option linter.unusedVariables false
set_option linter.unusedSimpArgs false
set_option linter.defProp false
set_option maxRecDepth 20000
namespace Go.Pd
open Go
variable [Tabs]
/-- A function's code. -/
structure Fn where
  n : Nat
  code : DC
  res : List DRes
  own : List Nat
inductive Ex where
  | normal
  | exit (id : Nat)
  | ret
def Ex.to : Ex → Exit
  | .normal => .normal
  | .exit i => .exit i
  | .ret => .ret
def binE (op : BinOp) (k : IntKind) (a : Int) (k' : IntKind) (b : Int) : Option D :=
  match op with
  | .shl => if 0 ≤ b then some (.int k (shlI k a b)) else none
  | .shr => if 0 ≤ b then some (.int k (shrI k a b)) else none
  | .quo => if k = k' ∧ b ≠ 0 then some (.int k (k.wrap (a.tdiv b))) else none
  | .rem => if k = k' ∧ b ≠ 0 then some (.int k (a.tmod b)) else none
  | .add => if k = k' then some (.int k (k.wrap (a + b))) else none
  | .sub => if k = k' then some (.int k (k.wrap (a - b))) else none
  | .mul => if k = k' then some (.int k (k.wrap (a * b))) else none
  | .and => if k = k' then some (.int k (bitI .and k a b)) else none
  | .or => if k = k' then some (.int k (bitI .or k a b)) else none
  | .xor => if k = k' then some (.int k (bitI .xor k a b)) else none
  | .andNot => if k = k' then some (.int k (bitI .andNot k a b)) else none
  | .eql => if k = k' then some (.bool (a == b)) else none
  | .neq => if k = k' then some (.bool (a != b)) else none
  | .lss => if k = k' then some (.bool (decide (a < b))) else none
  | .leq => if k = k' then some (.bool (decide (a ≤ b))) else none
  | .gtr => if k = k' then some (.bool (decide (a > b))) else none
  | .geq => if k = k' then some (.bool (decide (a ≥ b))) else none
theorem binE_ok {op : BinOp} {k : IntKind} {a : Int} {k' : IntKind} {b : Int} {d : D} (h : binE op k a k' b = some d) {K : D → Prop} (hK : K d) : binW op k a k' b K := by
  cases op <;> simp only [binE] at h <;> split at h <;> simp at h <;> subst h <;> simp_all [binW]
/-- What is read deep. -/
def fzE (φ : D → Option D) (sz : Nat) (els : List (List D)) : Option (List (List D)) := mapO (fun row => if row.length = sz then mapO φ row else none) els
def fz (σ : St) : Nat → D → Option D
  | 0, _ => none
  | n + 1, d => if d.isPure = true then some d else match d with
    | .agg cs => (mapO (fz σ n) cs).map .agg
    | .fn f cs => (mapO (fz σ n) cs).map (.fn f)
    | .osl key sz len => match σ.get key with
      | some ob => if 0 < sz ∧ ob.sz = sz ∧ len ≤ ob.els.length then (fzE (fz σ n) sz (ob.els.take len)).map (.sl sz) else none
      | none => none
    | .ref key sz i off => match σ.get key with
      | some ob => if ob.sz = sz ∧ i < ob.els.length ∧ off < sz ∧ (ob.els.getD i []).length = sz then (mapO (fz σ n) ((ob.els.getD i []).drop off)).map .ptr else none
      | none => none
    | _ => none
theorem mapO_seen {σ : St} {φ : D → Option D} (hφ : ∀ d d', φ d = some d' → Seen σ (fun _ => False) d d') : ∀ {cs ds : List D}, mapO φ cs = some ds → SeenL σ (fun _ => False) cs ds
  | [], ds, h => by
    simp [mapO] at h; subst h; trivial
  | c :: cs, ds, h => by
    unfold mapO at h
    split at h
    · rename_i b bs h1 h2
      simp at h; subst h
      exact ⟨hφ _ _ h1, mapO_seen hφ h2⟩
    · cases h
theorem fz_ok {σ : St} : ∀ (n : Nat) (d d' : D), fz σ n d = some d' → Seen σ (fun _ => False) d d'
  | 0, d, d', h => by simp [fz] at h
  | n + 1, d, d', h => by
    have ih := fz_ok (σ := σ) n
    unfold fz at h
    split at h
    · rename_i hp
      simp at h; subst h
      exact Seen.pure hp
    split at h
    · rw [Option.map_eq_some_iff] at h
      obtain ⟨cs, h1, rfl⟩ := h
      exact Seen.agg (mapO_seen ih h1)
    · rw [Option.map_eq_some_iff] at h
      obtain ⟨cs, h1, rfl⟩ := h
      exact Seen.fn (mapO_seen ih h1)
    · split at h
      · rename_i key sz len _ _ ob hob
        split at h
        · rename_i hc
          rw [Option.map_eq_some_iff] at h
          obtain ⟨els, h1, rfl⟩ := h
          obtain ⟨l1, l2⟩ := mapO_spec h1
          have hl : els.length = len := by rw [l1, List.length_take]; omega
          have row : ∀ i, i < len → ∃ r, els.getD i [] = r ∧ (ob.els.getD i []).length = sz ∧ mapO (fz σ n) (ob.els.getD i []) = some r := fun i hi => by
            have hi' : i < ob.els.length := by omega
            obtain ⟨b, h2, h3⟩ := l2 i (ob.els.getD i []) (by simp [List.getD, hi', hi])
            split at h3
            · rename_i h4
              exact ⟨b, by simp [List.getD, h2], h4, h3⟩
            · cases h3
          refine Seen.osl hob id hc.1 hc.2.1 hc.2.2 hl (fun e he => ?_) fun i hi j hj => ?_
          · obtain ⟨i, hi, rfl⟩ := List.getElem_of_mem he
            obtain ⟨r, r1, r2, r3⟩ := row i (by omega)
            have : els[i] = r := by rw [← r1]; simp [List.getD, hi]
            rw [this, (mapO_spec r3).1, r2]
          · obtain ⟨r, r1, r2, r3⟩ := row i hi
            rw [r1]
            exact (mapO_seen ih r3).at_ j (by rw [(mapO_spec r3).1]; omega)
        · cases h
      · cases h
    · split at h
      · rename_i key sz i off _ _ ob hob
        split at h
        · rename_i hc
          rw [Option.map_eq_some_iff] at h
          obtain ⟨cs, h1, rfl⟩ := h
          have hl := (mapO_spec h1).1
          rw [List.length_drop] at hl
          refine Seen.ref hob id hc.1 hc.2.1 (by omega) (by omega) fun j hj => ?_
          have := (mapO_seen ih h1).at_ j hj
          have e : ((ob.els.getD i []).drop off).getD j .top = (ob.els.getD i []).getD (off + j) .top := by simp [List.getD, List.getElem?_drop]
          rwa [e] at this
        · cases h
      · cases h
    · cases h
/-- Objects that nobody names may be forgotten. -/
theorem CallT.gc {P : Program} {g : FuncId} {args : List D} {σ σ1 : St} {d : D} {objs' : List (Nat × Ob)} (h : CallT P g args σ d σ1) (hs : ∀ k o, St.look objs' k = some o → σ1.get k = some o) : CallT P g args σ d ⟨σ1.nx, objs'⟩ := by
  refine ⟨h.ord, fun M0 w ι vals hS hl hv => (h.run M0 w ι vals hS hl hv).mono fun e w' hh => ?_⟩
  obtain ⟨v, ι', rfl, k1, k2, k3, k4, k5, k6⟩ := hh
  exact ⟨v, ι', rfl, k1, k2.sub hs, k3, k4, fun k o hk => k5 k o (hs k o hk), k6.keep (fun _ _ _ => rfl) (fun b _ hb => hb.imp id fun ⟨k, o, h1, h2⟩ => ⟨k, o, hs k o h1, h2⟩) (fun _ cur _ h => ⟨cur, h, rfl⟩) (fun _ _ => rfl) (Nat.le_refl _)⟩
theorem CallT.toRuns {P : Program} {g : FuncId} {args : List D} {σ1 : St} {d : D} (h : CallT P g args St0 d σ1) (hp : d.isPure = true) : Runs P g args d := by
  refine ⟨h.ord, fun M0 w ι vals hS hl hv => (h.run M0 w ι vals hS hl hv).mono fun e w' hh => ?_⟩
  obtain ⟨v, ι', rfl, k1, k2, k3, k4, k5, k6⟩ := hh
  have k2' : SimS M0 w' ⟨σ1.nx, []⟩ ι' := k2.sub (objs' := []) fun k o hk => by cases hk
  refine ⟨v, ι', rfl, k1, ⟨k2'.old, (fun k o hk => by cases hk), (fun k k' o o' hk => by cases hk), (fun k o hk => by cases hk), k2'.tabs⟩, Nat.le_refl _, k4, (fun k o hk => by cases hk), .pure ?_⟩
  exact (k6.toRP hp).keep (fun _ _ _ => rfl) fun b _ hb => hb.elim .inl fun ⟨k, o, h1, h2⟩ => by cases h1
theorem CallT.toRunsS {P : Program} {g : FuncId} {args : List D} {σ1 : St} {d d' : D} (h : CallT P g args St0 d σ1) (hd : Seen σ1 (fun _ => False) d d') : Runs P g args d' := by
  refine ⟨h.ord, fun M0 w ι vals hS hl hv => (h.run M0 w ι vals hS hl hv).mono fun e w' hh => ?_⟩
  obtain ⟨v, ι', rfl, k1, k2, k3, k4, k5, k6⟩ := hh
  have k2' : SimS M0 w' ⟨σ1.nx, []⟩ ι' := k2.sub (objs' := []) fun k o hk => by cases hk
  refine ⟨v, ι', rfl, k1, ⟨k2'.old, (fun k o hk => by cases hk), (fun k k' o o' hk => by cases hk), (fun k o hk => by cases hk), k2'.tabs⟩, Nat.le_refl _, k4, (fun k o hk => by cases hk), .pure ?_⟩
  exact (hd M0 w' ι' v k2 k6).keep (fun _ _ _ => rfl) fun b _ hb => hb.elim .inl fun ⟨k, o, h1, h2⟩ => by cases h1
/-- Equality, decided. -/
def eqG {α : Type} (φ : α → α → Bool) : List α → List α → Bool
  | [], [] => true
  | a :: l, b :: m => φ a b && eqG φ l m
  | _, _ => false
theorem eqG_ok {α : Type} {φ : α → α → Bool} (hφ : ∀ a b, φ a b = true → a = b) : ∀ {l m : List α}, eqG φ l m = true → l = m
  | [], [], _ => rfl
  | a :: l, b :: m, h => by
    simp only [eqG, Bool.and_eq_true] at h
    rw [hφ _ _ h.1, eqG_ok hφ h.2]
  | [], _ :: _, h => by simp [eqG] at h
  | _ :: _, [], h => by simp [eqG] at h
def eqD : Nat → D → D → Bool
  | n + 1, .sl s e, .sl s' e' => decide (s = s') && eqG (eqG (eqD n)) e e'
  | n + 1, .agg a, .agg b => eqG (eqD n) a b
  | n + 1, .tup a, .tup b => eqG (eqD n) a b
  | n + 1, .fn f a, .fn g b => decide (f = g) && eqG (eqD n) a b
  | n + 1, .ptr a, .ptr b => eqG (eqD n) a b
  | _, .top, .top => true
  | _, .und, .und => true
  | _, .int k n, .int k' n' => decide (k = k') && decide (n = n')
  | _, .bool a, .bool b => decide (a = b)
  | _, .nils, .nils => true
  | _, .emp, .emp => true
  | _, .ref a b c d, .ref a' b' c' d' => decide (a = a') && decide (b = b') && decide (c = c') && decide (d = d')
  | _, .osl a b c, .osl a' b' c' => decide (a = a') && decide (b = b') && decide (c = c')
  | _, .sub a b c d, .sub a' b' c' d' => decide (a = a') && decide (b = b') && decide (c = c') && decide (d = d')
  | _, .mref a, .mref a' => decide (a = a')
  | _, .nilp, .nilp => true
  | _, .nilm, .nilm => true
  | _, .nilf, .nilf => true
  | _, _, _ => false
theorem eqD_ok : ∀ (n : Nat) (a b : D), eqD n a b = true → a = b
  | 0, a, b, h => by
    cases a <;> cases b <;> simp [eqD] at h <;> simp [h]
  | n + 1, a, b, h => by
    have ih := eqD_ok n
    cases a <;> cases b <;> simp only [eqD, Bool.and_eq_true, decide_eq_true_eq, Bool.false_eq_true] at h <;>
      first
      | rfl
      | (rw [eqG_ok ih h]; done)
      | (rw [h.1, eqG_ok ih h.2]; done)
      | (rw [h.1, eqG_ok (fun _ _ h => eqG_ok ih h) h.2]; done)
      | simp [h]
def eqFr (f g : Fr) : Bool := eqG (fun p q => decide (p.1 = q.1) && eqD 30 p.2 q.2) f g
theorem eqFr_ok {f g : Fr} (h : eqFr f g = true) : f = g := eqG_ok (fun a b h => by
  simp only [Bool.and_eq_true, decide_eq_true_eq] at h
  exact Prod.ext h.1 (eqD_ok _ _ _ h.2)) h
/-- Calls: of a still operation, of any. -/
abbrev Caller := FuncId → List D → St → Option (D × St)
def stillE (call : Caller) (σ : St) (g : FuncId) (args : List D) : Option D :=
  if D.isPureL args = true then match call g args St0 with
    | some (d, σ1) => if d.isPure = true then some d else fz σ1 30 d
    | none => none
  else match mapO (fz σ 30) args with
    | some args' => match call g args' St0 with
      | some (d, _) => if d.flat = true ∧ d.isPure = true then some d else none
      | none => none
    | none => none
def loudE (call : Caller) (σ : St) (g : FuncId) (args : List D) : Option (D × St) :=
  if D.isPureL args = true then match call g args St0 with
    | some (d, σ1) => if d.isPure = true then some (d, σ) else some (d.shift σ.nx, ⟨σ.nx + σ1.nx, shiftObjs σ.nx σ1.objs ++ σ.objs⟩)
    | none => none
  else call g args σ
def CallOk (P : Program) (call : Caller) : Prop := ∀ g args σ d σ', call g args σ = some (d, σ') → CallT P g args σ d σ'
theorem stillE_ok {P : Program} {call : Caller} (hc : CallOk P call) {σ : St} {g : FuncId} {args : List D} {d : D} (h : stillE call σ g args = some d) : CallT P g args σ d σ := by
  unfold stillE at h
  split at h
  · rename_i hp
    split at h
    · rename_i d1 σ1 h1
      split at h
      · rename_i h2
        simp at h; subst h
        exact CallT.of_runs ((hc _ _ _ _ _ h1).toRuns h2) hp
      · exact CallT.of_runs ((hc _ _ _ _ _ h1).toRunsS (fz_ok 30 _ _ h)) hp
    · cases h
  · split at h
    · rename_i args' h0
      split at h
      · rename_i d1 σ1 h1
        split at h
        · rename_i h2
          simp at h; subst h
          exact CallT.lentS ((hc _ _ _ _ _ h1).toRuns h2.2) (mapO_seen (fz_ok 30) h0) h2.1
        · cases h
      · cases h
    · cases h
theorem loudE_ok {P : Program} {call : Caller} (hc : CallOk P call) {σ : St} {g : FuncId} {args : List D} {d : D} {σ' : St} (h : loudE call σ g args = some (d, σ')) : CallT P g args σ d σ' := by
  unfold loudE at h
  split at h
  · rename_i hp
    split at h
    · rename_i d1 σ1 h1
      split at h
      · rename_i h2
        simp at h
        obtain ⟨rfl, rfl⟩ := h
        exact CallT.of_runs ((hc _ _ _ _ _ h1).toRuns h2) hp
      · simp at h
        obtain ⟨rfl, rfl⟩ := h
        exact CallT.own (hc _ _ _ _ _ h1) hp
    · cases h
  · exact hc _ _ _ _ _ h
def keysE (kk : IntKind) : List (List D) → Bool
  | [] => true
  | [.int k _, _] :: r => if k = kk then keysE kk r else false
  | _ => false
theorem keysE_ok {kk : IntKind} : ∀ {els : List (List D)}, keysE kk els = true → keysK kk els
  | [], _ => fun row h => by cases h
  | e :: r, h => by
    unfold keysE at h
    split at h
    · rename_i heq; cases heq
    · rename_i k n d r' heq
      cases heq
      split at h
      · rename_i hk
        subst hk
        intro row hrow
        rcases List.mem_cons.1 hrow with rfl | hrow
        · exact ⟨n, d, rfl⟩
        · exact keysE_ok h row hrow
      · cases h
    · cases h
def unrow : List (List D) → Option (List (List Int × D))
  | [] => some []
  | [.agg cs, d] :: r => match intsOf cs, unrow r with
    | some x, some l => some ((x, d) :: l)
    | _, _ => none
  | _ => none
theorem unrow_ok : ∀ {els : List (List D)} {l : List (List Int × D)}, unrow els = some l → els = arow l
  | [], l, h => by simp [unrow] at h; subst h; rfl
  | e :: r, l, h => by
    unfold unrow at h
    split at h
    · rename_i heq; cases heq
    · rename_i cs d r' heq
      cases heq
      split at h
      · rename_i x l' h1 h2
        simp at h; subst h
        rw [intsOf_spec h1, unrow_ok h2]
        rfl
      · cases h
    · cases h
def loE (x : Option D) : Option Int := loW x
def hiE (n : Nat) : Option D → Option Int
  | none => some n
  | some (.int _ m) => some m
  | _ => none
def slcE (sz : Nat) (x : D) (lo hi : Option D) : Option D :=
  match x with
  | .sl sz' els => match loW lo, hiE els.length hi with
    | some l, some h => if sz = sz' ∧ 0 ≤ l ∧ l ≤ h ∧ h ≤ els.length then some (.sl sz ((els.take h.toNat).drop l.toNat)) else none
    | _, _ => none
  | .osl key sz' len => match loW lo, hiE len hi with
    | some l, some h => if sz = sz' ∧ 0 ≤ l ∧ l ≤ h ∧ h ≤ len then some (if l = 0 then .osl key sz h.toNat else if l = h then .emp else .sub key sz l.toNat (h.toNat - l.toNat)) else none
    | _, _ => none
  | _ => none
def loadE (σ : St) (n : Nat) (ag : Bool) (x : D) : Option D :=
  match x with
  | .ref key sz i off => match σ.get key with
    | some o => if o.sz = sz ∧ i < o.els.length ∧ off + n ≤ sz ∧ (ag = true ∨ n = 1) then some (packD ag (((o.els.getD i []).drop off).take n)) else none
    | none => none
  | .ptr cs => if n ≤ cs.length ∧ (ag = true ∨ n = 1) then some (packD ag (cs.take n)) else none
  | _ => none
def mgetE (σ : St) (zero : D) (ok : Bool) (m k : D) : Option D :=
  match m, k with
  | .mref key, .int kk x => match σ.get key with
    | some o => if o.sz = 0 ∧ keysE kk o.els = true then some (mres ok zero (mfind x o.els 0)) else none
    | none => none
  | .nilm, .int _ _ => some (mres ok zero none)
  | _, _ => none
def pE (call : Caller) (σ : St) (ev : Opd → D) : DK → Option D
  | .mv x => some (ev x)
  | .pick c a b => match ev c with
    | .bool t => if t = true then some (ev a) else some (ev b)
    | _ => none
  | .bin op x y => match ev x, ev y with
    | .int k a, .int k' b => binE op k a k' b
    | _, _ => none
  | .beq neg x y => match ev x, ev y with
    | .bool a, .bool b => some (.bool (if neg then a != b else a == b))
    | _, _ => none
  | .nileq neg x y => match ev x, ev y with
    | .nils, .nils => some (.bool (!neg))
    | .osl .., .nils => some (.bool neg)
    | .emp, .nils => some (.bool neg)
    | .sl _ (_ :: _), .nils => some (.bool neg)
    | _, _ => none
  | .nt x => match ev x with
    | .bool b => some (.bool (!b))
    | _ => none
  | .neg x => match ev x with
    | .int k a => some (.int k (k.wrap (0 - a)))
    | _ => none
  | .cpl x => match ev x with
    | .int k a => some (.int k (bitI .xor k (if k.signed then -1 else k.max) a))
    | _ => none
  | .geq neg n x y => match ev x, ev y with
    | .agg cs, .agg ds => match intsOf cs, intsOf ds with
      | some xs, some ys => if xs.length = n ∧ ys.length = n then some (.bool (if neg then !decide (xs = ys) else decide (xs = ys))) else none
      | _, _ => none
    | _, _ => none
  | .mlen x => match ev x with
    | .mref key => match σ.get key with
      | some o => if o.sz = 0 ∧ o.els.length ≤ 1000000 then some (.int .i64 o.els.length) else none
      | none => none
    | _ => none
  | .conv k x => match ev x with
    | .int _ n => some (.int k (k.wrap n))
    | _ => none
  | .fld off x => match ev x with
    | .ref key sz i o => some (.ref key sz i (o + off))
    | .ptr cs => if off < cs.length then some (.ptr (cs.drop off)) else none
    | _ => none
  | .fval off n ag x => match ev x with
    | .agg cs => if off + n ≤ cs.length ∧ (ag = true ∨ n = 1) then some (packD ag ((cs.drop off).take n)) else none
    | _ => none
  | .idx sz x i => match ev x, ev i with
    | .sl sz' els, .int _ n => if sz = sz' ∧ 0 ≤ n ∧ n < els.length then some (.ptr (els.getD n.toNat [])) else none
    | .osl key sz' len, .int _ n => if sz = sz' ∧ 0 ≤ n ∧ n < len then some (.ref key sz n.toNat 0) else none
    | .sub key sz' lo len, .int _ n => if sz = sz' ∧ 0 ≤ n ∧ n < len then some (.ref key sz (lo + n.toNat) 0) else none
    | _, _ => none
  | .build zero parts => (fillD zero (parts.map fun p => (p.1, p.2.1, ev p.2.2))).map .agg
  | .blit sz len zero parts => match fillE sz (List.replicate len zero) (parts.map fun p => (p.1, ev p.2)) with
    | some es => if (es.all D.isPureL) = true then some (.sl sz es) else none
    | none => none
  | .len x => match ev x with
    | .sl _ els => some (.int .i64 els.length)
    | .osl _ _ n => some (.int .i64 n)
    | .sub _ _ _ n => some (.int .i64 n)
    | .nils => some (.int .i64 0)
    | .emp => some (.int .i64 0)
    | _ => none
  | .mn x y => match ev x, ev y with
    | .int k a, .int k' b => if k = k' then some (.int k (if b < a then b else a)) else none
    | _, _ => none
  | .mx x y => match ev x, ev y with
    | .int k a, .int k' b => if k = k' then some (.int k (if b > a then b else a)) else none
    | _, _ => none
  | .extr x i => match ev x with
    | .tup vs => if i < vs.length then some (vs.getD i .top) else none
    | _ => none
  | .mkf f caps => some (.fn f (caps.map ev))
  | .load n ag x => loadE σ n ag (ev x)
  | .slc sz x lo hi => slcE sz (ev x) (lo.map ev) (hi.map ev)
  | .call fn args => match ev fn with
    | .fn g caps => stillE call σ g (args.map ev ++ caps)
    | _ => none
  | .nck x => match ev x with
    | .ref key sz i off => some (.ref key sz i off)
    | .ptr cs => some (.ptr cs)
    | .fn f cs => some (.fn f cs)
    | _ => none
  | .mget zero ok m k => mgetE σ zero ok (ev m) (ev k)
  | .mgets n zero ok m k => match ev m, ev k with
    | .mref key, .agg cs => match σ.get key, intsOf cs with
      | some o, some x => match unrow o.els with
        | some l => if o.sz = 0 ∧ x.length = n ∧ (l.all fun p => p.1.length == n) = true then some (mres ok zero (afindL x l 0)) else none
        | none => none
      | _, _ => none
    | _, _ => none
  | _ => none
theorem loadE_ok {C : Cx} {σ : St} {ev : Opd → D} {n : Nat} {ag : Bool} {x : Opd} {d : D} (h : loadE σ n ag (ev x) = some d) {K : D → Prop} (hK : K d) : pW C σ ev (.load n ag x) K := by
  simp only [pW]
  unfold loadE at h
  split at h
  · rename_i key sz i off he
    rw [he]
    simp only
    split at h
    · rename_i o ho
      rw [ho]
      simp only
      split at h
      · rename_i hc
        simp at h; subst h
        exact ⟨hc.1, hc.2.1, hc.2.2.1, hc.2.2.2, hK⟩
      · cases h
    · cases h
  · rename_i cs he
    rw [he]
    simp only
    split at h
    · rename_i hc
      simp at h; subst h
      exact ⟨hc.1, hc.2, hK⟩
    · cases h
  · cases h
theorem slcE_ok {C : Cx} {σ : St} {ev : Opd → D} {sz : Nat} {x : Opd} {lo hi : Option Opd} {d : D} (h : slcE sz (ev x) (lo.map ev) (hi.map ev) = some d) {K : D → Prop} (hK : K d) : pW C σ ev (.slc sz x lo hi) K := by
  have hh : ∀ {n : Nat} {m : Int}, hiE n (hi.map ev) = some m → (match hi.map ev with | none => m = n | some (.int _ q) => m = q | some _ => False) := fun {n m} he => by
    unfold hiE at he
    split at he
    · rename_i e0; rw [e0]; simp at he; exact he.symm
    · rename_i e0; rw [e0]; simp at he; exact he.symm
    · cases he
  simp only [pW]
  unfold slcE at h
  split at h
  · rename_i sz' els he
    rw [he]
    simp only
    split at h
    · rename_i l m h1 h2
      split at h
      · rename_i hc
        simp at h; subst h
        exact ⟨hc.1, l, m, h1, hh h2, hc.2.1, hc.2.2.1, hc.2.2.2, hK⟩
      · cases h
    · cases h
  · rename_i key sz' len he
    rw [he]
    simp only
    split at h
    · rename_i l m h1 h2
      split at h
      · rename_i hc
        simp only [Option.some.injEq] at h; subst h
        exact ⟨hc.1, l, m, h1, hh h2, hc.2.1, hc.2.2.1, hc.2.2.2, hK⟩
      · cases h
    · cases h
  · cases h
theorem mgetE_ok {C : Cx} {σ : St} {ev : Opd → D} {zero : D} {ok : Bool} {m k : Opd} {d : D} (h : mgetE σ zero ok (ev m) (ev k) = some d) {K : D → Prop} (hK : K d) : pW C σ ev (.mget zero ok m k) K := by
  simp only [pW]
  unfold mgetE at h
  split at h
  · rename_i key kk x h1 h2
    rw [h1, h2]
    simp only
    split at h
    · rename_i o ho
      rw [ho]
      simp only
      split at h
      · rename_i hc
        simp at h; subst h
        exact ⟨hc.1, keysE_ok hc.2, hK⟩
      · cases h
    · cases h
  · rename_i h1 h2
    rw [h1, h2]
    simp at h; subst h
    exact hK
  · cases h
theorem pE_ok {C : Cx} {call : Caller} (hc : CallOk C.P call) {σ : St} {ev : Opd → D} : ∀ {k : DK} {d : D}, pE call σ ev k = some d → ∀ {K : D → Prop}, K d → pW C σ ev k K
  | .load n ag x, d, h, K, hK => loadE_ok h hK
  | .slc sz x lo hi, d, h, K, hK => slcE_ok h hK
  | .mget zero ok m k, d, h, K, hK => mgetE_ok h hK
  | .bin op x y, d, h, K, hK => by
    simp only [pE] at h
    simp only [pW]
    split at h
    · rename_i h1 h2
      rw [h1, h2]
      exact binE_ok h hK
    · cases h
  | .call fn args, d, h, K, hK => by
    simp only [pE] at h
    simp only [pW]
    split at h
    · rename_i h1
      rw [h1]
      exact ⟨d, stillE_ok hc h, hK⟩
    · cases h
  | .mgets n zero ok m k, d, h, K, hK => by
    simp only [pE] at h
    simp only [pW]
    split at h
    · rename_i key cs h1 h2
      rw [h1, h2]
      simp only
      split at h
      · rename_i o x h3 h4
        rw [h3]
        simp only
        split at h
        · rename_i l h5
          split at h
          · rename_i h6
            simp at h; subst h
            exact ⟨h6.1, x, l, ⟨intsOf_spec h4, unrow_ok h5, h6.2.1, fun p hp => by have := List.all_eq_true.1 h6.2.2 p hp; simpa using this⟩, hK⟩
          · cases h
        · cases h
      · cases h
    · cases h
  | .build zero parts, d, h, K, hK => by
    simp only [pE] at h
    simp only [pW]
    rw [Option.map_eq_some_iff] at h
    obtain ⟨cs, h1, rfl⟩ := h
    rw [h1]
    exact hK
  | .mv x, d, h, K, hK => by simp only [pE, Option.some.injEq] at h; subst h; exact hK
  | .mkf f caps, d, h, K, hK => by simp only [pE, Option.some.injEq] at h; subst h; exact hK
  | .pick c a b, d, h, K, hK => by
    simp only [pE] at h
    simp only [pW]
    split at h
    · rename_i t h1
      rw [h1]
      simp only
      split at h <;> (simp only [Option.some.injEq] at h; subst h; simp_all)
    · cases h
  | .nileq neg x y, d, h, K, hK => by
    simp only [pE] at h
    simp only [pW]
    split at h <;> (first | (rename_i h1 h2; rw [h1, h2]; simp only [Option.some.injEq] at h; subst h; exact hK) | cases h)
  | .beq .., d, h, K, hK | .nt _, d, h, K, hK | .neg _, d, h, K, hK | .cpl _, d, h, K, hK | .conv .., d, h, K, hK | .len _, d, h, K, hK | .nck _, d, h, K, hK => by
    simp only [pE] at h
    simp only [pW]
    split at h <;> first | (simp only [Option.some.injEq] at h; subst h; simp_all; done) | cases h
  | .geq neg n x y, d, h, K, hK => by
    simp only [pE] at h
    simp only [pW]
    split at h
    · rename_i cs ds h1 h2
      rw [h1, h2]
      simp only
      split at h
      · rename_i xs ys h3 h4
        rw [h3, h4]
        simp only
        split at h
        · rename_i h5
          simp only [Option.some.injEq] at h; subst h
          exact ⟨h5.1, h5.2, hK⟩
        · cases h
      · cases h
    · cases h
  | .mlen x, d, h, K, hK => by
    simp only [pE] at h
    simp only [pW]
    split at h
    · rename_i key h1
      rw [h1]
      simp only
      split at h
      · rename_i o ho
        rw [ho]
        simp only
        split at h
        · rename_i h5
          simp only [Option.some.injEq] at h; subst h
          exact ⟨h5.1, h5.2, hK⟩
        · cases h
      · cases h
    · cases h
  | .fld off x, d, h, K, hK => by
    simp only [pE] at h
    simp only [pW]
    split at h
    · rename_i h1
      rw [h1]
      simp only [Option.some.injEq] at h; subst h
      exact hK
    · rename_i h1
      rw [h1]
      simp only
      split at h
      · rename_i h5
        simp only [Option.some.injEq] at h; subst h
        exact ⟨h5, hK⟩
      · cases h
    · cases h
  | .fval off n ag x, d, h, K, hK => by
    simp only [pE] at h
    simp only [pW]
    split at h
    · rename_i h1
      rw [h1]
      simp only
      split at h
      · rename_i h5
        simp only [Option.some.injEq] at h; subst h
        exact ⟨h5.1, h5.2, hK⟩
      · cases h
    · cases h
  | .idx sz x i, d, h, K, hK => by
    simp only [pE] at h
    simp only [pW]
    split at h
    case h_4 => cases h
    all_goals
      rename_i h1 h2
      rw [h1, h2]
      simp only
      split at h
      · rename_i h5
        simp only [Option.some.injEq] at h; subst h
        exact ⟨h5.1, h5.2.1, h5.2.2, hK⟩
      · cases h
  | .blit sz len zero parts, d, h, K, hK => by
    simp only [pE] at h
    simp only [pW]
    split at h
    · rename_i es h1
      rw [h1]
      simp only
      split at h
      · rename_i h5
        simp only [Option.some.injEq] at h; subst h
        exact ⟨h5, hK⟩
      · cases h
    · cases h
  | .mn x y, d, h, K, hK | .mx x y, d, h, K, hK => by
    simp only [pE] at h
    simp only [pW]
    split at h
    · rename_i h1 h2
      rw [h1, h2]
      simp only
      split at h
      · rename_i h5
        simp only [Option.some.injEq] at h; subst h
        exact ⟨h5, hK⟩
      · cases h
    · cases h
  | .extr x i, d, h, K, hK => by
    simp only [pE] at h
    simp only [pW]
    split at h
    · rename_i h1
      rw [h1]
      simp only
      split at h
      · rename_i h5
        simp only [Option.some.injEq] at h; subst h
        exact ⟨h5, hK⟩
      · cases h
    · cases h
  | .box _, d, h, K, hK | .alloc _, d, h, K, hK | .store .., d, h, K, hK | .app .., d, h, K, hK | .mksl .., d, h, K, hK | .olit .., d, h, K, hK | .clr .., d, h, K, hK | .mkm, d, h, K, hK | .mput .., d, h, K, hK | .mputs .., d, h, K, hK | .ment .., d, h, K, hK | .esto .., d, h, K, hK => by
    simp [pE] at h
end Go.Pd
