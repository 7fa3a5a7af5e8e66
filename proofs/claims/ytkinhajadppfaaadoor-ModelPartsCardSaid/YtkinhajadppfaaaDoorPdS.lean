/-
  PURE DATA, part S: the reckoning, said so that what goes on behind a step is not looked at before its turn. Over any program.
-/
import Derived.Test.YtkinhajadppfaaaDoorPdR
set_option linter.unusedSectionVars false
set_option linter.unusedVariables false
set_option linter.unusedSimpArgs false
set_option linter.defProp false
namespace Go.Pd
open Go
universe u
variable [Tabs]

def atK (σ : St) (K : D → St → Prop) (d : D) : Prop := K d σ
def putK (f : Fr) (dst : Option Nat) (K : Fr → St → Prop) (d : D) (σ : St) : Prop := K (f.put dst d) σ
def putP (f : Fr) (dst : Option Nat) (K : Fr → Prop) (d : D) : Prop := K (f.put dst d)
def normK (Q : Exit → Fr → St → Prop) (f : Fr) (σ : St) : Prop := Q .normal f σ

/-- Is it wanted? -/
def gdB (d : D) (want : Bool) (yes no : Prop) : Prop :=
  match d with
  | .bool b => if b = want then yes else no
  | .und => no
  | _ => False
theorem gdB_bool (b want : Bool) (yes no : Prop) : gdB (.bool b) want yes no = if b = want then yes else no := rfl
theorem gdB_und (want : Bool) (yes no : Prop) : gdB .und want yes no = no := rfl
@[congr] theorem gdB_congr {d d' : D} {want : Bool} {yes no : Prop} (h : d = d') : gdB d want yes no = gdB d' want yes no := by rw [h]
def gd (g : Option (Nat × Bool)) (f : Fr) (yes no : Prop) : Prop :=
  match g with
  | none => yes
  | some (j, want) => gdB (f.get j) want yes no
theorem gd_none (f : Fr) (yes no : Prop) : gd none f yes no = yes := rfl
theorem gd_some (j : Nat) (want : Bool) (f : Fr) (yes no : Prop) : gd (some (j, want)) f yes no = gdB (f.get j) want yes no := rfl
theorem gd_eq (o : DOp) (f : Fr) (yes no : Prop) : guardW o f yes no = gd o.guard f yes no := by
  unfold guardW gd
  split
  · rename_i h; rw [h]
  · rename_i h; rw [h]; rfl

/-! Operations whose operand may be a slice that grows. -/
def appW (σ : St) (sz bytes : Nat) (x : D) (y : Option (List (List D))) (K : D → St → Prop) : Prop :=
  match y with
  | none => False
  | some rows => (∀ r ∈ rows, oneAll r = true) ∧ match x with
    | .nils => rows.length * bytes ≤ 140737488355328 ∧ rows.length ≤ 1000000000000 ∧ (rows = [] → K .nils σ) ∧ (rows ≠ [] → K (.osl σ.nx sz rows.length) (σ.new ⟨sz, rows⟩))
    | .osl key sz' n => match σ.get key with
      | some ob => sz = sz' ∧ ob.sz = sz ∧ n ≤ ob.els.length ∧ (n + rows.length) * bytes ≤ 140737488355328 ∧ n + rows.length ≤ 1000000000000 ∧
        K (.osl σ.nx sz (n + rows.length)) ((σ.erase key).new ⟨sz, ob.els.take n ++ rows⟩)
      | none => False
    | _ => False
def stoW (σ : St) (n : Nat) (a : D) (x : Option (List D)) (K : D → St → Prop) : Prop :=
  match a, x with
  | .ref key sz i off, some ds => match σ.get key with
    | some ob => ob.sz = sz ∧ i < ob.els.length ∧ ds.length = n ∧ off + n ≤ sz ∧ oneAll ds = true ∧ K .und (σ.set key ⟨sz, ob.els.set i (setD (ob.els.getD i []) off ds)⟩)
    | none => False
  | _, _ => False
def lenW (x : D) (K : D → Prop) : Prop :=
  match x with
  | .sl _ els => K (.int .i64 els.length)
  | .osl _ _ n => K (.int .i64 n)
  | .nils => K (.int .i64 0)
  | .emp => K (.int .i64 0)
  | _ => False
def idxW (sz : Nat) (x i : D) (K : D → Prop) : Prop :=
  match x, i with
  | .sl sz' els, .int _ n => sz = sz' ∧ 0 ≤ n ∧ n < els.length ∧ K (.ptr (els.getD n.toNat []))
  | .osl key sz' len, .int _ n => sz = sz' ∧ 0 ≤ n ∧ n < len ∧ K (.ref key sz n.toNat 0)
  | _, _ => False
def nileqW (neg : Bool) (x y : D) (K : D → Prop) : Prop :=
  match x, y with
  | .nils, .nils => K (.bool (!neg))
  | .osl .., .nils | .nils, .osl .. => K (.bool neg)
  | .emp, .nils | .nils, .emp => K (.bool neg)
  | .sl _ (_ :: _), .nils => K (.bool neg)
  | _, _ => False
def loadW (σ : St) (n : Nat) (ag : Bool) (x : D) (K : D → Prop) : Prop :=
  match x with
  | .ref key sz i off => match σ.get key with
    | some o => o.sz = sz ∧ i < o.els.length ∧ off + n ≤ sz ∧ (ag = true ∨ n = 1) ∧ K (packD ag (((o.els.getD i []).drop off).take n))
    | none => False
  | .ptr cs => n ≤ cs.length ∧ (ag = true ∨ n = 1) ∧ K (packD ag (cs.take n))
  | _ => False
@[congr] theorem appW_congr {σ : St} {sz bytes : Nat} {x x' : D} {y y' : Option (List (List D))} {K : D → St → Prop} (h : x = x') (h' : y = y') : appW σ sz bytes x y K = appW σ sz bytes x' y' K := by rw [h, h']
@[congr] theorem stoW_congr {σ : St} {n : Nat} {x x' : D} {y y' : Option (List D)} {K : D → St → Prop} (h : x = x') (h' : y = y') : stoW σ n x y K = stoW σ n x' y' K := by rw [h, h']
@[congr] theorem lenW_congr {x x' : D} {K : D → Prop} (h : x = x') : lenW x K = lenW x' K := by rw [h]
@[congr] theorem idxW_congr {sz : Nat} {x x' i i' : D} {K : D → Prop} (h : x = x') (h' : i = i') : idxW sz x i K = idxW sz x' i' K := by rw [h, h']
@[congr] theorem nileqW_congr {neg : Bool} {x x' i i' : D} {K : D → Prop} (h : x = x') (h' : i = i') : nileqW neg x i K = nileqW neg x' i' K := by rw [h, h']
@[congr] theorem loadW_congr {σ : St} {n : Nat} {ag : Bool} {x x' : D} {K : D → Prop} (h : x = x') : loadW σ n ag x K = loadW σ n ag x' K := by rw [h]

def pX (C : Cx) (σ : St) (ev : Opd → D) (k : DK) (K : D → Prop) : Prop :=
  match k with
  | .len x => lenW (ev x) K
  | .idx sz x i => idxW sz (ev x) (ev i) K
  | .nileq neg x y => nileqW neg (ev x) (ev y) K
  | .load n ag x => loadW σ n ag (ev x) K
  | k => pW C σ ev k K
theorem pX_eq (C : Cx) (σ : St) (ev : Opd → D) (k : DK) (K : D → Prop) : pX C σ ev k K = pW C σ ev k K := by
  cases k <;> rfl
def opX (C : Cx) (σ : St) (ev : Opd → D) (k : DK) (K : D → St → Prop) : Prop :=
  match k with
  | .box x => opV C σ ev (.box x) K
  | .alloc z => opV C σ ev (.alloc z) K
  | .store n a x => stoW σ n (ev a) (ev x).cells K
  | .app sz bytes x y => appW σ sz bytes (ev x) (rowsOf σ sz (ev y)) K
  | .mksl sz bytes zero len cap => opV C σ ev (.mksl sz bytes zero len cap) K
  | .olit sz len zero parts => opV C σ ev (.olit sz len zero parts) K
  | .call fn args => opV C σ ev (.call fn args) K
  | k => pX C σ ev k (atK σ K)
theorem opX_eq (C : Cx) (σ : St) (ev : Opd → D) (k : DK) (K : D → St → Prop) : opX C σ ev k K = opV C σ ev k K := by
  cases k <;> first | rfl | (show pX _ _ _ _ _ = _; rw [pX_eq]; rfl)

def opsX (C : Cx) : List DOp → (Fr → St → Prop) → Fr → St → Prop
  | [], K, f, σ => K f σ
  | ⟨dst, g, k⟩ :: rest, K, f, σ => gd g f (opX C σ (evO f) k (putK f dst (opsX C rest K))) (opsX C rest K (f.put dst .und) σ)
theorem opsX_eq (C : Cx) (K : Fr → St → Prop) : ∀ (ops : List DOp) (f : Fr) (σ : St), opsX C ops K f σ = opsW C ops f σ K
  | [], f, σ => rfl
  | o :: rest, f, σ => by
    have ih : opsX C rest K = fun f σ => opsW C rest f σ K := by funext f σ; exact opsX_eq C K rest f σ
    unfold opsX opsW
    rw [gd_eq, opX_eq, ih]
    rfl

def preX (C : Cx) (σ : St) : List DOp → (Fr → Prop) → Fr → Prop
  | [], K, f => K f
  | ⟨dst, g, k⟩ :: rest, K, f => gd g f (pX C σ (evO f) k (putP f dst (preX C σ rest K))) (preX C σ rest K (f.put dst .und))
theorem preX_eq (C : Cx) (σ : St) (K : Fr → Prop) : ∀ (ops : List DOp) (f : Fr), preX C σ ops K f = preW C σ ops f K
  | [], f => rfl
  | o :: rest, f => by
    have ih : preX C σ rest K = fun f => preW C σ rest f K := by funext f; exact preX_eq C σ K rest f
    unfold preX preW
    rw [gd_eq, pX_eq, ih]
    rfl

def postK (C : Cx) (post : List DOp) (Q : Exit → Fr → St → Prop) (σ : St) (f : Fr) : Prop := opsX C post (normK Q) f σ

def cdB (d : D) (p q : Prop) : Prop :=
  match d with
  | .bool t => if t = true then p else q
  | _ => False
theorem cdB_bool (t : Bool) (p q : Prop) : cdB (.bool t) p q = if t = true then p else q := rfl
@[congr] theorem cdB_congr {d d' : D} {p q : Prop} (h : d = d') : cdB d p q = cdB d' p q := by rw [h]

def wpX (C : Cx) : DC → (Exit → Fr → St → Prop) → Fr → St → Prop
  | .skip, Q, f, σ => Q .normal f σ
  | .reg pre post, Q, f, σ => preX C σ pre (postK C post Q σ) f
  | .seq a b, Q, f, σ => wpX C a (thenW (wpX C b Q) Q) f σ
  | .cond c a b, Q, f, σ => cdB (evO f c) (wpX C a Q f σ) (wpX C b Q f σ)
  | .block id c, Q, f, σ => wpX C c (blockW id Q) f σ
  | .loop c, Q, f, σ => wpS C (.loop c) f σ Q
  | .exit id, Q, f, σ => Q (.exit id) f σ
  | .ret, Q, f, σ => Q .ret f σ
theorem wpX_eq (C : Cx) : ∀ (dc : DC) (Q : Exit → Fr → St → Prop) (f : Fr) (σ : St), wpX C dc Q f σ = wpD C dc f σ Q
  | .skip, Q, f, σ => rfl
  | .reg pre post, Q, f, σ => by
    unfold wpX wpD
    rw [preX_eq]
    have : postK C post Q σ = fun f => opsW C post f σ fun f σ => Q .normal f σ := by
      funext f
      unfold postK
      rw [opsX_eq]
      rfl
    rw [this]
  | .seq a b, Q, f, σ => by
    have ih : wpX C b Q = fun f σ => wpD C b f σ Q := by funext f σ; exact wpX_eq C b Q f σ
    unfold wpX
    rw [wpX_eq C a, ih]
    rfl
  | .cond c a b, Q, f, σ => by
    unfold wpX
    rw [wpX_eq C a, wpX_eq C b]
    rfl
  | .block id c, Q, f, σ => by unfold wpX; rw [wpX_eq C c]; rfl
  | .loop c, Q, f, σ => rfl
  | .exit id, Q, f, σ => rfl
  | .ret, Q, f, σ => rfl

/-! Sealed: no one looks into them but by their laws (the kernel too). -/
noncomputable def sealed {α : Sort u} (a : α) : α := Classical.choose (⟨a, rfl⟩ : ∃ b : α, b = a)
theorem sealed_eq {α : Sort u} (a : α) : sealed a = a := Classical.choose_spec (⟨a, rfl⟩ : ∃ b : α, b = a)

noncomputable def opsZ (C : Cx) : List DOp → (Fr → St → Prop) → Fr → St → Prop := sealed (opsX C)
noncomputable def preZ (C : Cx) (σ : St) : List DOp → (Fr → Prop) → Fr → Prop := sealed (preX C σ)
noncomputable def wpZ (C : Cx) : DC → (Exit → Fr → St → Prop) → Fr → St → Prop := sealed (wpX C)
theorem opsZ_eq (C : Cx) : opsZ C = opsX C := sealed_eq _
theorem preZ_eq (C : Cx) (σ : St) : preZ C σ = preX C σ := sealed_eq _
theorem wpZ_eq (C : Cx) : wpZ C = wpX C := sealed_eq _

section
variable (C : Cx) (σ : St) (f : Fr) (Q : Exit → Fr → St → Prop) (K : Fr → St → Prop) (K1 : Fr → Prop) (a b c : DC) (dst : Option Nat) (g : Option (Nat × Bool)) (k : DK) (rest pre post : List DOp) (x : Opd) (id : Nat)
theorem opsZ_nil : opsZ C [] K f σ = K f σ := by rw [opsZ_eq]; rfl
theorem opsZ_cons : opsZ C (⟨dst, g, k⟩ :: rest) K f σ = gd g f (opX C σ (evO f) k (putK f dst (opsZ C rest K))) (opsZ C rest K (f.put dst .und) σ) := by rw [opsZ_eq]; rfl
theorem preZ_nil : preZ C σ [] K1 f = K1 f := by rw [preZ_eq]; rfl
theorem preZ_cons : preZ C σ (⟨dst, g, k⟩ :: rest) K1 f = gd g f (pX C σ (evO f) k (putP f dst (preZ C σ rest K1))) (preZ C σ rest K1 (f.put dst .und)) := by rw [preZ_eq]; rfl
def postZ (C : Cx) (post : List DOp) (Q : Exit → Fr → St → Prop) (σ : St) (f : Fr) : Prop := opsZ C post (normK Q) f σ
theorem wpZ_skip : wpZ C .skip Q f σ = Q .normal f σ := by rw [wpZ_eq]; rfl
theorem wpZ_reg : wpZ C (.reg pre post) Q f σ = preZ C σ pre (postZ C post Q σ) f := by
  have e : postZ C post Q σ = postK C post Q σ := by funext f; unfold postZ postK; rw [opsZ_eq]
  rw [wpZ_eq, preZ_eq, e]; rfl
theorem wpZ_seq : wpZ C (.seq a b) Q f σ = wpZ C a (thenW (wpZ C b Q) Q) f σ := by rw [wpZ_eq]; rfl
theorem wpZ_cond : wpZ C (.cond x a b) Q f σ = cdB (evO f x) (wpZ C a Q f σ) (wpZ C b Q f σ) := by rw [wpZ_eq]; rfl
theorem wpZ_block : wpZ C (.block id c) Q f σ = wpZ C c (blockW id Q) f σ := by rw [wpZ_eq]; rfl
theorem wpZ_loop : wpZ C (.loop c) Q f σ = wpS C (.loop c) f σ Q := by rw [wpZ_eq]; rfl
theorem wpZ_exit : wpZ C (.exit id) Q f σ = Q (.exit id) f σ := by rw [wpZ_eq]; rfl
theorem wpZ_ret : wpZ C .ret Q f σ = Q .ret f σ := by rw [wpZ_eq]; rfl
end

theorem wpS_go {C : Cx} (hm : C.P.follows .mixedOrders = true) {dc : DC} {f : Fr} {σ : St} {Q : Exit → Fr → St → Prop} (h : wpZ C dc Q f σ) : wpS C dc f σ Q :=
  wpS_of hm (by rw [← wpX_eq, ← wpZ_eq]; exact h)
theorem CallT.go_fn {P : Program} {g : FuncId} {fn : Func} {own : List Nat} {N : Nat} {dc : DC} {rs : List DRes} {args : List D} {σ : St} {d : D} {σ' : St} (hm : P.follows .mixedOrders = true) (hf : P.funcs[g]? = some fn)
    (hc : codeOf P own fn = some (N, dc, rs)) (hla : args.length ≤ N)
    (h : D.factL args → wpZ ⟨P, N, σ.nx, own⟩ dc (bodyQ ⟨P, N, σ.nx, own⟩ rs d σ') (argFr 0 args) σ) : CallT P g args σ d σ' :=
  CallT.of_fn hm hf hc hla fun hfa => by rw [← wpX_eq, ← wpZ_eq]; exact h hfa
end Go.Pd
