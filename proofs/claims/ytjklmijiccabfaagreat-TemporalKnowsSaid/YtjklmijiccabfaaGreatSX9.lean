/- Part X9. -/
import Derived.Test.YtjklmijiccabfaaGreatSX8
import Derived.Test.YtjklmijiccabfaaGreatSCode
set_option linter.unusedSectionVars false
set_option linter.unusedVariables false
set_option linter.unusedSimpArgs false
set_option linter.defProp false
set_option maxRecDepth 20000
set_option maxHeartbeats 1000000
namespace Go.Pd
open Go Go.Proofs
theorem shlN {n : Nat} (hn : n ≤ 61) : shlI .i64 1 (n : Int) = ((2 ^ n : Nat) : Int) := shl_one (by omega)
theorem take_snoc {α : Type} {l : List α} {k : Nat} {d : α} (h : k < l.length) : l.take (k + 1) = l.take k ++ [l.getD k d] := by
 rw [List.take_add_one]; simp [List.getD, h]
theorem drop_cons {α : Type} {l : List α} {k : Nat} {d : α} (h : k < l.length) : l.drop k = l.getD k d :: l.drop (k + 1) := by simp [List.getD, h]
theorem getD_mem {α : Type} {l : List α} {k : Nat} {d : α} (h : k < l.length) : l.getD k d ∈ l := by simp [List.getD, h]
theorem take_all {α : Type} {l : List α} {k : Nat} (h : k = l.length) : l.take k = l := by rw [h, List.take_length]
theorem mx_max (x y : Int) : (if x < y then y else x) = max x y := by rw [Int.max_def]; split <;> split <;> omega
variable [Tabs]
theorem CallT.ret {P : Program} {g : FuncId} {args : List D} {σ σ1 σ' : St} {d1 d : D} (hc : CallT P g args σ d1 σ1) (hr : RetV σ.nx σ1 d1 σ' d) : CallT P g args σ d σ' := by
 refine ⟨hc.ord, fun M0 w ι vals hS hl hv => (hc.run M0 w ι vals hS hl hv).mono fun e w' hh => ?_⟩
 obtain ⟨v, ι1, he, kept, sim, nx, stay, mine, hR⟩ := hh
 rcases hr with ⟨rfl, rfl⟩ | ⟨ρ, r1, r2, r3, r4, r5⟩
 ·exact ⟨v, ι1, he, kept, sim, nx, stay, mine, hR⟩
 ·have hlive : ∀ p ∈ σ'.objs, ∃ ob, σ1.get (ρ p.1) = some ob := fun p hp => by
   obtain ⟨_, ob, h, _⟩ := r4 p hp
   exact ⟨ob, h⟩
  refine ⟨v, fun k => ι1 (ρ k), he, kept, sim.view r4 r5, r1, fun k hk => ?_, fun k o hk => ?_, vw_sound sim hlive _ _ hR r3⟩
  ·show ι1 (ρ k) = ι k
   rw [r2 k hk]; exact stay k hk
  ·obtain ⟨ob, h⟩ := hlive _ (look_mem hk)
   exact mine _ _ h
theorem growD_ne {k s : Nat} {els : List (List D)} (h : els ≠ []) : growD k s els = .osl k s els.length := by cases els with
 | nil => exact absurd rfl h
 | cons e r => rfl
theorem growO_ne {k s : Nat} {els : List (List D)} (h : els ≠ []) : growO k s els = [(k, ⟨s, els⟩)] := by cases els with
 | nil => exact absurd rfl h
 | cons e r => rfl
def rl (ll : List (List Int)) : List (List D) := ll.map fun l => [.sl 1 (rows .i64 l)]
theorem rl_len (l : List (List Int)) : (rl l).length = l.length := by simp [rl]
theorem rl_get (l : List (List Int)) {i : Nat} (h : i < l.length) : (rl l).getD i [] = [.sl 1 (rows .i64 (l.getD i []))] := by simp [rl, List.getD, h]
theorem CallT.go_fnS {P : Program} {g : FuncId} {fn : Func} {own : List Nat} {N : Nat} {dc : DC} {rs : List DRes} {args : List D} {σ : St} {d : D} {σ' : St} (hm : P.follows .mixedOrders = true) (hf : P.funcs[g]? = some fn)
  (hc : codeOf P own fn = some (N, dc, rs)) (hla : args.length ≤ N)
  (h : D.factL args → wpS ⟨P, N, σ.nx, own⟩ dc (argFr 0 args) σ (bodyQ ⟨P, N, σ.nx, own⟩ rs d σ')) : CallT P g args σ d σ' := by
 unfold codeOf at hc
 split at hc
 ·cases hc
 ·rename_i c hb
  split at hc
  ·cases hc
  ·rename_i hname
   split at hc
   ·rename_i dc' rs' h1 h2
    simp at hc
    obtain ⟨rfl, rfl, rfl⟩ := hc
    refine CallT.facts ⟨fn, hf, by simpa using hname, by rw [hb]; rfl⟩ fun hfa => ?_
    exact CallT.of_body hm hf hb (by simpa using hname) h1 h2 hla (h hfa)
   ·cases hc
theorem wpS_cut {C} {x y : DC} {f σ Q} (f0 : Fr) (σ0 : St) (h : wpS C x f σ (thenW (fun f' σ' => Weak C f' σ' f0 σ0) Q)) (h2 : wpS C y f0 σ0 Q) : wpS C (.seq x y) f σ Q :=
 wpS_seq (wpS_mono h fun e f' σ' hq => by cases e with | normal => exact wpS_weak hq h2 | _ => exact hq)
end Go.Pd
