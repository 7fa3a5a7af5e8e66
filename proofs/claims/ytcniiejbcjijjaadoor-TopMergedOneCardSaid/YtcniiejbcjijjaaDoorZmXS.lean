/- Part XS. -/
import Derived.Test.YtcniiejbcjijjaaDoorZmX6
set_option linter.unusedSectionVars false
set_option linter.unusedVariables false
set_option linter.unusedSimpArgs false
set_option linter.defProp false
set_option maxRecDepth 20000
set_option maxHeartbeats 1000000
namespace Go.Pd
open Go
structure Hid (q : Prop) : Prop where
 out:q
section
variable [zF]
theorem xC {p q:Prop}  (k:q) (e:Hid q->p:=by intro  k; simp only [simprocAttr,-ZA,↓zU,↓zD,zV,zT,zW]; exact k.out):p:=e  ⟨k⟩
theorem yN {p q a0:Prop} (h0:a0) (k:q) (e:a0->Hid q->p:=by intro h0 k; simp only [simprocAttr,-ZA,↓zU,↓zD,zV,zT,zW,h0]; exact k.out):p:=e h0 ⟨k⟩
theorem rE {p q a0 a1:Prop} (h0:a0) (h1:a1) (k:q) (e:a0->a1->Hid q->p:=by intro h0 h1 k; simp only [simprocAttr,-ZA,↓zU,↓zD,zV,zT,zW,h0,h1]; exact k.out):p:=e h0 h1 ⟨k⟩
theorem v7 {p q a0 a1 a2:Prop} (h0:a0) (h1:a1) (h2:a2) (k:q) (e:a0->a1->a2->Hid q->p:=by intro h0 h1 h2 k; simp only [simprocAttr,-ZA,↓zU,↓zD,zV,zT,zW,h0,h1,h2]; exact k.out):p:=e h0 h1 h2 ⟨k⟩
theorem l7 {p q a0 a1 a2 a3:Prop} (h0:a0) (h1:a1) (h2:a2) (h3:a3) (k:q) (e:a0->a1->a2->a3->Hid q->p:=by intro h0 h1 h2 h3 k; simp only [simprocAttr,-ZA,↓zU,↓zD,zV,zT,zW,h0,h1,h2,h3]; exact k.out):p:=e h0 h1 h2 h3 ⟨k⟩
theorem pI {p q:Prop}  (k:q) (e:Hid q->p:=by intro  k; simp only [simprocAttr,-ZA,↓zU,↓zD,zV,zT,zW]; (repeat refine sd ?_); exact k.out):p:=e  ⟨k⟩
theorem fD {p q a0:Prop} (h0:a0) (k:q) (e:a0->Hid q->p:=by intro h0 k; simp only [simprocAttr,-ZA,↓zU,↓zD,zV,zT,zW,h0]; (repeat refine sd ?_); exact k.out):p:=e h0 ⟨k⟩
theorem hU {p q a0 a1:Prop} (h0:a0) (h1:a1) (k:q) (e:a0->a1->Hid q->p:=by intro h0 h1 k; simp only [simprocAttr,-ZA,↓zU,↓zD,zV,zT,zW,h0,h1]; (repeat refine sd ?_); exact k.out):p:=e h0 h1 ⟨k⟩
theorem uf {p q a0 a1 a2:Prop} (h0:a0) (h1:a1) (h2:a2) (k:q) (e:a0->a1->a2->Hid q->p:=by intro h0 h1 h2 k; simp only [simprocAttr,-ZA,↓zU,↓zD,zV,zT,zW,h0,h1,h2]; (repeat refine sd ?_); exact k.out):p:=e h0 h1 h2 ⟨k⟩
theorem pk {p q a0 a1 a2 a3:Prop} (h0:a0) (h1:a1) (h2:a2) (h3:a3) (k:q) (e:a0->a1->a2->a3->Hid q->p:=by intro h0 h1 h2 h3 k; simp only [simprocAttr,-ZA,↓zU,↓zD,zV,zT,zW,h0,h1,h2,h3]; (repeat refine sd ?_); exact k.out):p:=e h0 h1 h2 h3 ⟨k⟩
theorem ug {p q a0 a1 a2 a3 a4:Prop} (h0:a0) (h1:a1) (h2:a2) (h3:a3) (h4:a4) (k:q) (e:a0->a1->a2->a3->a4->Hid q->p:=by intro h0 h1 h2 h3 h4 k; simp only [simprocAttr,-ZA,↓zU,↓zD,zV,zT,zW,h0,h1,h2,h3,h4]; (repeat refine sd ?_); exact k.out):p:=e h0 h1 h2 h3 h4 ⟨k⟩
theorem l8 {p q a0 a1 a2 a3 a4 a5:Prop} (h0:a0) (h1:a1) (h2:a2) (h3:a3) (h4:a4) (h5:a5) (k:q) (e:a0->a1->a2->a3->a4->a5->Hid q->p:=by intro h0 h1 h2 h3 h4 h5 k; simp only [simprocAttr,-ZA,↓zU,↓zD,zV,zT,zW,h0,h1,h2,h3,h4,h5]; (repeat refine sd ?_); exact k.out):p:=e h0 h1 h2 h3 h4 h5 ⟨k⟩
theorem cw {p q a0 a1 a2 a3 a4 a5 a6:Prop} (h0:a0) (h1:a1) (h2:a2) (h3:a3) (h4:a4) (h5:a5) (h6:a6) (k:q) (e:a0->a1->a2->a3->a4->a5->a6->Hid q->p:=by intro h0 h1 h2 h3 h4 h5 h6 k; simp only [simprocAttr,-ZA,↓zU,↓zD,zV,zT,zW,h0,h1,h2,h3,h4,h5,h6]; (repeat refine sd ?_); exact k.out):p:=e h0 h1 h2 h3 h4 h5 h6 ⟨k⟩
theorem v8 {p q a0 a1 a2 a3 a4 a5 a6 a7:Prop} (h0:a0) (h1:a1) (h2:a2) (h3:a3) (h4:a4) (h5:a5) (h6:a6) (h7:a7) (k:q) (e:a0->a1->a2->a3->a4->a5->a6->a7->Hid q->p:=by intro h0 h1 h2 h3 h4 h5 h6 h7 k; simp only [simprocAttr,-ZA,↓zU,↓zD,zV,zT,zW,h0,h1,h2,h3,h4,h5,h6,h7]; (repeat refine sd ?_); exact k.out):p:=e h0 h1 h2 h3 h4 h5 h6 h7 ⟨k⟩
theorem tW {C:Cx} {f f':Fr} {σ:St} (h:wR f f':=by simp [wR,Fr.get]):zG C f σ f' σ:=.same h
theorem vR {C:Cx} {f f':Fr} {σ:St} (h:wR f f':=by simp only [wR,Fr.get,simprocAttr,-BitVec.isValue,D.int.injEq,D.bool.injEq,D.sl.injEq,and_true,true_and,and_self]; all_goals first | rfl | exact wrap_i64 (by omega) | exact wrap_up' (by omega) | exact vt (by omega) | omega):zG C f σ f' σ:=.same h
theorem cv {C:Cx} {f f':Fr} {σ σ':St} (l:List (Nat × Nat)) (ks:List Nat) (h:pv ks σ'.xW/\tZ σ σ' (sw l) σ'.xW/\pz σ σ' (sw l) f f') (hn:C.n0<=σ'.nx:=by simp) (h0:∀ p ∈ l,C.n0<=p.1:=by simp) (hd:(ks.map (sw l)).Nodup:=by decide):zG C f σ f' σ':=.pq l ks hn h0 hd h
theorem l6 {C:Cx} {f f':Fr} {σ σ':St} {a0:Prop} (l:List (Nat × Nat)) (ks:List Nat) (y0:a0) (hn:C.n0<=σ'.nx:=by simp) (h0:∀ p ∈ l,C.n0<=p.1:=by simp) (hd:(ks.map (sw l)).Nodup:=by decide) (h:a0->(pv ks σ'.xW/\tZ σ σ' (sw l) σ'.xW/\pz σ σ' (sw l) f f'):=by intro h0; simp only [zP,zQ,simprocAttr,-ZA,exists_eq_left',ne_eq,zR,h0]; all_goals first | rfl | exact wrap_i64 (by omega) | exact wrap_up' (by omega) | exact vt (by omega) | omega):zG C f σ f' σ':=.pq l ks hn h0 hd (h y0)
end
end Go.Pd

/- Part X8. -/
namespace Go.Pd
open Go
variable [zF]
end Go.Pd
