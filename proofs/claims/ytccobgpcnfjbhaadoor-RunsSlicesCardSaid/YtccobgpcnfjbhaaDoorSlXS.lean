/- Part XS. -/
import Derived.Test.YtccobgpcnfjbhaaDoorSlX6
set_option linter.unusedSectionVars false
set_option linter.unusedVariables false
set_option linter.unusedSimpArgs false
set_option linter.defProp false
set_option maxRecDepth 20000
set_option maxHeartbeats 1000000
namespace Go.Pd
open Go
structure Hid (q : Prop) : Prop where
 out:q
section
variable [zJ]
theorem yF {p q:Prop}  (k:q) (e:Hid q->p:=by intro  k; simp only [simprocAttr,-ZA,↓zU,↓zD,zV,zT,zW]; exact k.out):p:=e  ⟨k⟩
theorem wL {p q a0:Prop} (h0:a0) (k:q) (e:a0->Hid q->p:=by intro h0 k; simp only [simprocAttr,-ZA,↓zU,↓zD,zV,zT,zW,h0]; exact k.out):p:=e h0 ⟨k⟩
theorem rW {p q a0 a1:Prop} (h0:a0) (h1:a1) (k:q) (e:a0->a1->Hid q->p:=by intro h0 h1 k; simp only [simprocAttr,-ZA,↓zU,↓zD,zV,zT,zW,h0,h1]; exact k.out):p:=e h0 h1 ⟨k⟩
theorem qi {p q a0 a1 a2:Prop} (h0:a0) (h1:a1) (h2:a2) (k:q) (e:a0->a1->a2->Hid q->p:=by intro h0 h1 h2 k; simp only [simprocAttr,-ZA,↓zU,↓zD,zV,zT,zW,h0,h1,h2]; exact k.out):p:=e h0 h1 h2 ⟨k⟩
theorem jt {p q a0 a1 a2 a3:Prop} (h0:a0) (h1:a1) (h2:a2) (h3:a3) (k:q) (e:a0->a1->a2->a3->Hid q->p:=by intro h0 h1 h2 h3 k; simp only [simprocAttr,-ZA,↓zU,↓zD,zV,zT,zW,h0,h1,h2,h3]; exact k.out):p:=e h0 h1 h2 h3 ⟨k⟩
theorem u6 {p q a0 a1 a2 a3 a4:Prop} (h0:a0) (h1:a1) (h2:a2) (h3:a3) (h4:a4) (k:q) (e:a0->a1->a2->a3->a4->Hid q->p:=by intro h0 h1 h2 h3 h4 k; simp only [simprocAttr,-ZA,↓zU,↓zD,zV,zT,zW,h0,h1,h2,h3,h4]; exact k.out):p:=e h0 h1 h2 h3 h4 ⟨k⟩
theorem u7 {p q a0 a1 a2 a3 a4 a5:Prop} (h0:a0) (h1:a1) (h2:a2) (h3:a3) (h4:a4) (h5:a5) (k:q) (e:a0->a1->a2->a3->a4->a5->Hid q->p:=by intro h0 h1 h2 h3 h4 h5 k; simp only [simprocAttr,-ZA,↓zU,↓zD,zV,zT,zW,h0,h1,h2,h3,h4,h5]; exact k.out):p:=e h0 h1 h2 h3 h4 h5 ⟨k⟩
theorem u9 {p q a0 a1 a2 a3 a4 a5 a6 a7:Prop} (h0:a0) (h1:a1) (h2:a2) (h3:a3) (h4:a4) (h5:a5) (h6:a6) (h7:a7) (k:q) (e:a0->a1->a2->a3->a4->a5->a6->a7->Hid q->p:=by intro h0 h1 h2 h3 h4 h5 h6 h7 k; simp only [simprocAttr,-ZA,↓zU,↓zD,zV,zT,zW,h0,h1,h2,h3,h4,h5,h6,h7]; exact k.out):p:=e h0 h1 h2 h3 h4 h5 h6 h7 ⟨k⟩
theorem eo {p q a0 a1 a2 a3 a4 a5 a6 a7 a8 a9:Prop} (h0:a0) (h1:a1) (h2:a2) (h3:a3) (h4:a4) (h5:a5) (h6:a6) (h7:a7) (h8:a8) (h9:a9) (k:q) (e:a0->a1->a2->a3->a4->a5->a6->a7->a8->a9->Hid q->p:=by intro h0 h1 h2 h3 h4 h5 h6 h7 h8 h9 k; simp only [simprocAttr,-ZA,↓zU,↓zD,zV,zT,zW,h0,h1,h2,h3,h4,h5,h6,h7,h8,h9]; exact k.out):p:=e h0 h1 h2 h3 h4 h5 h6 h7 h8 h9 ⟨k⟩
theorem wg {p q a0 a1 a2 a3 a4 a5 a6 a7 a8 a9 a10:Prop} (h0:a0) (h1:a1) (h2:a2) (h3:a3) (h4:a4) (h5:a5) (h6:a6) (h7:a7) (h8:a8) (h9:a9) (h10:a10) (k:q) (e:a0->a1->a2->a3->a4->a5->a6->a7->a8->a9->a10->Hid q->p:=by intro h0 h1 h2 h3 h4 h5 h6 h7 h8 h9 h10 k; simp only [simprocAttr,-ZA,↓zU,↓zD,zV,zT,zW,h0,h1,h2,h3,h4,h5,h6,h7,h8,h9,h10]; exact k.out):p:=e h0 h1 h2 h3 h4 h5 h6 h7 h8 h9 h10 ⟨k⟩
theorem rZ {p q:Prop}  (k:q) (e:Hid q->p:=by intro  k; simp only [simprocAttr,-ZA,↓zU,↓zD,zV,zT,zW]; (repeat refine sd ?_); exact k.out):p:=e  ⟨k⟩
theorem mD {p q a0:Prop} (h0:a0) (k:q) (e:a0->Hid q->p:=by intro h0 k; simp only [simprocAttr,-ZA,↓zU,↓zD,zV,zT,zW,h0]; (repeat refine sd ?_); exact k.out):p:=e h0 ⟨k⟩
theorem cP {p q a0 a1:Prop} (h0:a0) (h1:a1) (k:q) (e:a0->a1->Hid q->p:=by intro h0 h1 k; simp only [simprocAttr,-ZA,↓zU,↓zD,zV,zT,zW,h0,h1]; (repeat refine sd ?_); exact k.out):p:=e h0 h1 ⟨k⟩
theorem fF {p q a0 a1 a2:Prop} (h0:a0) (h1:a1) (h2:a2) (k:q) (e:a0->a1->a2->Hid q->p:=by intro h0 h1 h2 k; simp only [simprocAttr,-ZA,↓zU,↓zD,zV,zT,zW,h0,h1,h2]; (repeat refine sd ?_); exact k.out):p:=e h0 h1 h2 ⟨k⟩
theorem v7 {p q a0 a1 a2 a3:Prop} (h0:a0) (h1:a1) (h2:a2) (h3:a3) (k:q) (e:a0->a1->a2->a3->Hid q->p:=by intro h0 h1 h2 h3 k; simp only [simprocAttr,-ZA,↓zU,↓zD,zV,zT,zW,h0,h1,h2,h3]; (repeat refine sd ?_); exact k.out):p:=e h0 h1 h2 h3 ⟨k⟩
theorem v8 {p q a0 a1 a2 a3 a4:Prop} (h0:a0) (h1:a1) (h2:a2) (h3:a3) (h4:a4) (k:q) (e:a0->a1->a2->a3->a4->Hid q->p:=by intro h0 h1 h2 h3 h4 k; simp only [simprocAttr,-ZA,↓zU,↓zD,zV,zT,zW,h0,h1,h2,h3,h4]; (repeat refine sd ?_); exact k.out):p:=e h0 h1 h2 h3 h4 ⟨k⟩
theorem w4 {p q a0 a1 a2 a3 a4 a5:Prop} (h0:a0) (h1:a1) (h2:a2) (h3:a3) (h4:a4) (h5:a5) (k:q) (e:a0->a1->a2->a3->a4->a5->Hid q->p:=by intro h0 h1 h2 h3 h4 h5 k; simp only [simprocAttr,-ZA,↓zU,↓zD,zV,zT,zW,h0,h1,h2,h3,h4,h5]; (repeat refine sd ?_); exact k.out):p:=e h0 h1 h2 h3 h4 h5 ⟨k⟩
theorem uM {C:Cx} {f f':Fr} {σ:St} (h:nD f f':=by simp [nD,Fr.get]):zA C f σ f' σ:=.same h
theorem oA {C:Cx} {f f':Fr} {σ:St} (h:nD f f':=by simp only [nD,Fr.get,simprocAttr,-BitVec.isValue,D.int.injEq,D.bool.injEq,D.sl.injEq,and_true,true_and,and_self]; all_goals first | rfl | exact wrap_i64 (by omega) | exact rJ (by omega) | exact sH (by omega) | omega):zA C f σ f' σ:=.same h
theorem kQ {C:Cx} {f f':Fr} {σ σ':St} (l:List (Nat × Nat)) (ks:List Nat) (h:xn ks σ'.xZ/\uN σ σ' (sw l) σ'.xZ/\cS σ σ' (sw l) f f') (hn:C.n0<=σ'.nx:=by simp) (h0:∀ p ∈ l,C.n0<=p.1:=by simp) (hd:(ks.map (sw l)).Nodup:=by decide):zA C f σ f' σ':=.fc l ks hn h0 hd h
theorem xi {C:Cx} {f f':Fr} {σ σ':St}  (l:List (Nat × Nat)) (ks:List Nat)  (hn:C.n0<=σ'.nx:=by simp) (h0:∀ p ∈ l,C.n0<=p.1:=by simp) (hd:(ks.map (sw l)).Nodup:=by decide) (h:(xn ks σ'.xZ/\uN σ σ' (sw l) σ'.xZ/\cS σ σ' (sw l) f f'):=by simp only [vS,zQ,simprocAttr,-ZA,exists_eq_left',ne_eq,zR]; all_goals first | rfl | exact wrap_i64 (by omega) | exact rJ (by omega) | exact sH (by omega) | omega):zA C f σ f' σ':=.fc l ks hn h0 hd h
theorem qe {C:Cx} {f f':Fr} {σ σ':St} {a0:Prop} (l:List (Nat × Nat)) (ks:List Nat) (y0:a0) (hn:C.n0<=σ'.nx:=by simp) (h0:∀ p ∈ l,C.n0<=p.1:=by simp) (hd:(ks.map (sw l)).Nodup:=by decide) (h:a0->(xn ks σ'.xZ/\uN σ σ' (sw l) σ'.xZ/\cS σ σ' (sw l) f f'):=by intro h0; simp only [vS,zQ,simprocAttr,-ZA,exists_eq_left',ne_eq,zR,h0]; all_goals first | rfl | exact wrap_i64 (by omega) | exact rJ (by omega) | exact sH (by omega) | omega):zA C f σ f' σ':=.fc l ks hn h0 hd (h y0)
theorem qf {C:Cx} {f f':Fr} {σ σ':St} {a0 a1:Prop} (l:List (Nat × Nat)) (ks:List Nat) (y0:a0) (y1:a1) (hn:C.n0<=σ'.nx:=by simp) (h0:∀ p ∈ l,C.n0<=p.1:=by simp) (hd:(ks.map (sw l)).Nodup:=by decide) (h:a0->a1->(xn ks σ'.xZ/\uN σ σ' (sw l) σ'.xZ/\cS σ σ' (sw l) f f'):=by intro h0 h1; simp only [vS,zQ,simprocAttr,-ZA,exists_eq_left',ne_eq,zR,h0,h1]; all_goals first | rfl | exact wrap_i64 (by omega) | exact rJ (by omega) | exact sH (by omega) | omega):zA C f σ f' σ':=.fc l ks hn h0 hd (h y0 y1)
theorem cn {C:Cx} {f f':Fr} {σ σ':St} {a0 a1 a2:Prop} (l:List (Nat × Nat)) (ks:List Nat) (y0:a0) (y1:a1) (y2:a2) (hn:C.n0<=σ'.nx:=by simp) (h0:∀ p ∈ l,C.n0<=p.1:=by simp) (hd:(ks.map (sw l)).Nodup:=by decide) (h:a0->a1->a2->(xn ks σ'.xZ/\uN σ σ' (sw l) σ'.xZ/\cS σ σ' (sw l) f f'):=by intro h0 h1 h2; simp only [vS,zQ,simprocAttr,-ZA,exists_eq_left',ne_eq,zR,h0,h1,h2]; all_goals first | rfl | exact wrap_i64 (by omega) | exact rJ (by omega) | exact sH (by omega) | omega):zA C f σ f' σ':=.fc l ks hn h0 hd (h y0 y1 y2)
end
end Go.Pd
