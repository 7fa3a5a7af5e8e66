/- Part XS. -/
import Derived.Test.YtndfaefmmcoapaaGreatGeX6
set_option linter.unusedSectionVars false
set_option linter.unusedVariables false
set_option linter.unusedSimpArgs false
set_option linter.defProp false
set_option maxRecDepth 20000
set_option maxHeartbeats 1000000
open Nat renaming le_refl->γ
open List renaming getElem_mem->δ,getElem?_eq_none->ε
namespace Go.Pd
open Go
structure Hid (q : Prop) : Prop where
 out:q
section
variable [tP]
theorem xJ {p q:Prop}  (k:q) (e:Hid q->p:=by intro  k; simp only [simprocAttr,-ZA,↓zU,↓zD,zV,zT,zW]; exact k.out):p:=e  ⟨k⟩
theorem xH {p q a0:Prop} (h0:a0) (k:q) (e:a0->Hid q->p:=by intro h0 k; simp only [simprocAttr,-ZA,↓zU,↓zD,zV,zT,zW,h0]; exact k.out):p:=e h0 ⟨k⟩
theorem yO {p q a0 a1:Prop} (h0:a0) (h1:a1) (k:q) (e:a0->a1->Hid q->p:=by intro h0 h1 k; simp only [simprocAttr,-ZA,↓zU,↓zD,zV,zT,zW,h0,h1]; exact k.out):p:=e h0 h1 ⟨k⟩
theorem fY {p q a0 a1 a2:Prop} (h0:a0) (h1:a1) (h2:a2) (k:q) (e:a0->a1->a2->Hid q->p:=by intro h0 h1 h2 k; simp only [simprocAttr,-ZA,↓zU,↓zD,zV,zT,zW,h0,h1,h2]; exact k.out):p:=e h0 h1 h2 ⟨k⟩
theorem cE {p q a0 a1 a2 a3:Prop} (h0:a0) (h1:a1) (h2:a2) (h3:a3) (k:q) (e:a0->a1->a2->a3->Hid q->p:=by intro h0 h1 h2 h3 k; simp only [simprocAttr,-ZA,↓zU,↓zD,zV,zT,zW,h0,h1,h2,h3]; exact k.out):p:=e h0 h1 h2 h3 ⟨k⟩
theorem bn {p q a0 a1 a2 a3 a4:Prop} (h0:a0) (h1:a1) (h2:a2) (h3:a3) (h4:a4) (k:q) (e:a0->a1->a2->a3->a4->Hid q->p:=by intro h0 h1 h2 h3 h4 k; simp only [simprocAttr,-ZA,↓zU,↓zD,zV,zT,zW,h0,h1,h2,h3,h4]; exact k.out):p:=e h0 h1 h2 h3 h4 ⟨k⟩
theorem Js {p q a0 a1 a2 a3 a4 a5:Prop} (h0:a0) (h1:a1) (h2:a2) (h3:a3) (h4:a4) (h5:a5) (k:q) (e:a0->a1->a2->a3->a4->a5->Hid q->p:=by intro h0 h1 h2 h3 h4 h5 k; simp only [simprocAttr,-ZA,↓zU,↓zD,zV,zT,zW,h0,h1,h2,h3,h4,h5]; exact k.out):p:=e h0 h1 h2 h3 h4 h5 ⟨k⟩
theorem TE {p q a0 a1 a2 a3 a4 a5 a6:Prop} (h0:a0) (h1:a1) (h2:a2) (h3:a3) (h4:a4) (h5:a5) (h6:a6) (k:q) (e:a0->a1->a2->a3->a4->a5->a6->Hid q->p:=by intro h0 h1 h2 h3 h4 h5 h6 k; simp only [simprocAttr,-ZA,↓zU,↓zD,zV,zT,zW,h0,h1,h2,h3,h4,h5,h6]; exact k.out):p:=e h0 h1 h2 h3 h4 h5 h6 ⟨k⟩
theorem LB {p q a0 a1 a2 a3 a4 a5 a6 a7 a8:Prop} (h0:a0) (h1:a1) (h2:a2) (h3:a3) (h4:a4) (h5:a5) (h6:a6) (h7:a7) (h8:a8) (k:q) (e:a0->a1->a2->a3->a4->a5->a6->a7->a8->Hid q->p:=by intro h0 h1 h2 h3 h4 h5 h6 h7 h8 k; simp only [simprocAttr,-ZA,↓zU,↓zD,zV,zT,zW,h0,h1,h2,h3,h4,h5,h6,h7,h8]; exact k.out):p:=e h0 h1 h2 h3 h4 h5 h6 h7 h8 ⟨k⟩
theorem zI {p q:Prop}  (k:q) (e:Hid q->p:=by intro  k; simp only [simprocAttr,-ZA,↓zU,↓zD,zV,zT,zW]; (repeat refine sd ?_); exact k.out):p:=e  ⟨k⟩
theorem vR {p q a0:Prop} (h0:a0) (k:q) (e:a0->Hid q->p:=by intro h0 k; simp only [simprocAttr,-ZA,↓zU,↓zD,zV,zT,zW,h0]; (repeat refine sd ?_); exact k.out):p:=e h0 ⟨k⟩
theorem nQ {p q a0 a1:Prop} (h0:a0) (h1:a1) (k:q) (e:a0->a1->Hid q->p:=by intro h0 h1 k; simp only [simprocAttr,-ZA,↓zU,↓zD,zV,zT,zW,h0,h1]; (repeat refine sd ?_); exact k.out):p:=e h0 h1 ⟨k⟩
theorem rF {p q a0 a1 a2:Prop} (h0:a0) (h1:a1) (h2:a2) (k:q) (e:a0->a1->a2->Hid q->p:=by intro h0 h1 h2 k; simp only [simprocAttr,-ZA,↓zU,↓zD,zV,zT,zW,h0,h1,h2]; (repeat refine sd ?_); exact k.out):p:=e h0 h1 h2 ⟨k⟩
theorem uC {p q a0 a1 a2 a3:Prop} (h0:a0) (h1:a1) (h2:a2) (h3:a3) (k:q) (e:a0->a1->a2->a3->Hid q->p:=by intro h0 h1 h2 h3 k; simp only [simprocAttr,-ZA,↓zU,↓zD,zV,zT,zW,h0,h1,h2,h3]; (repeat refine sd ?_); exact k.out):p:=e h0 h1 h2 h3 ⟨k⟩
theorem rI {p q a0 a1 a2 a3 a4:Prop} (h0:a0) (h1:a1) (h2:a2) (h3:a3) (h4:a4) (k:q) (e:a0->a1->a2->a3->a4->Hid q->p:=by intro h0 h1 h2 h3 h4 k; simp only [simprocAttr,-ZA,↓zU,↓zD,zV,zT,zW,h0,h1,h2,h3,h4]; (repeat refine sd ?_); exact k.out):p:=e h0 h1 h2 h3 h4 ⟨k⟩
theorem pH {p q a0 a1 a2 a3 a4 a5:Prop} (h0:a0) (h1:a1) (h2:a2) (h3:a3) (h4:a4) (h5:a5) (k:q) (e:a0->a1->a2->a3->a4->a5->Hid q->p:=by intro h0 h1 h2 h3 h4 h5 k; simp only [simprocAttr,-ZA,↓zU,↓zD,zV,zT,zW,h0,h1,h2,h3,h4,h5]; (repeat refine sd ?_); exact k.out):p:=e h0 h1 h2 h3 h4 h5 ⟨k⟩
theorem cF {p q a0 a1 a2 a3 a4 a5 a6:Prop} (h0:a0) (h1:a1) (h2:a2) (h3:a3) (h4:a4) (h5:a5) (h6:a6) (k:q) (e:a0->a1->a2->a3->a4->a5->a6->Hid q->p:=by intro h0 h1 h2 h3 h4 h5 h6 k; simp only [simprocAttr,-ZA,↓zU,↓zD,zV,zT,zW,h0,h1,h2,h3,h4,h5,h6]; (repeat refine sd ?_); exact k.out):p:=e h0 h1 h2 h3 h4 h5 h6 ⟨k⟩
theorem mU {p q a0 a1 a2 a3 a4 a5 a6 a7:Prop} (h0:a0) (h1:a1) (h2:a2) (h3:a3) (h4:a4) (h5:a5) (h6:a6) (h7:a7) (k:q) (e:a0->a1->a2->a3->a4->a5->a6->a7->Hid q->p:=by intro h0 h1 h2 h3 h4 h5 h6 h7 k; simp only [simprocAttr,-ZA,↓zU,↓zD,zV,zT,zW,h0,h1,h2,h3,h4,h5,h6,h7]; (repeat refine sd ?_); exact k.out):p:=e h0 h1 h2 h3 h4 h5 h6 h7 ⟨k⟩
theorem j9 {p q a0 a1 a2 a3 a4 a5 a6 a7 a8:Prop} (h0:a0) (h1:a1) (h2:a2) (h3:a3) (h4:a4) (h5:a5) (h6:a6) (h7:a7) (h8:a8) (k:q) (e:a0->a1->a2->a3->a4->a5->a6->a7->a8->Hid q->p:=by intro h0 h1 h2 h3 h4 h5 h6 h7 h8 k; simp only [simprocAttr,-ZA,↓zU,↓zD,zV,zT,zW,h0,h1,h2,h3,h4,h5,h6,h7,h8]; (repeat refine sd ?_); exact k.out):p:=e h0 h1 h2 h3 h4 h5 h6 h7 h8 ⟨k⟩
theorem rC {p q a0 a1 a2 a3 a4 a5 a6 a7 a8 a9:Prop} (h0:a0) (h1:a1) (h2:a2) (h3:a3) (h4:a4) (h5:a5) (h6:a6) (h7:a7) (h8:a8) (h9:a9) (k:q) (e:a0->a1->a2->a3->a4->a5->a6->a7->a8->a9->Hid q->p:=by intro h0 h1 h2 h3 h4 h5 h6 h7 h8 h9 k; simp only [simprocAttr,-ZA,↓zU,↓zD,zV,zT,zW,h0,h1,h2,h3,h4,h5,h6,h7,h8,h9]; (repeat refine sd ?_); exact k.out):p:=e h0 h1 h2 h3 h4 h5 h6 h7 h8 h9 ⟨k⟩
theorem NT {p q a0 a1 a2 a3 a4 a5 a6 a7 a8 a9 a10:Prop} (h0:a0) (h1:a1) (h2:a2) (h3:a3) (h4:a4) (h5:a5) (h6:a6) (h7:a7) (h8:a8) (h9:a9) (h10:a10) (k:q) (e:a0->a1->a2->a3->a4->a5->a6->a7->a8->a9->a10->Hid q->p:=by intro h0 h1 h2 h3 h4 h5 h6 h7 h8 h9 h10 k; simp only [simprocAttr,-ZA,↓zU,↓zD,zV,zT,zW,h0,h1,h2,h3,h4,h5,h6,h7,h8,h9,h10]; (repeat refine sd ?_); exact k.out):p:=e h0 h1 h2 h3 h4 h5 h6 h7 h8 h9 h10 ⟨k⟩
theorem NU {p q a0 a1 a2 a3 a4 a5 a6 a7 a8 a9 a10 a11 a12:Prop} (h0:a0) (h1:a1) (h2:a2) (h3:a3) (h4:a4) (h5:a5) (h6:a6) (h7:a7) (h8:a8) (h9:a9) (h10:a10) (h11:a11) (h12:a12) (k:q) (e:a0->a1->a2->a3->a4->a5->a6->a7->a8->a9->a10->a11->a12->Hid q->p:=by intro h0 h1 h2 h3 h4 h5 h6 h7 h8 h9 h10 h11 h12 k; simp only [simprocAttr,-ZA,↓zU,↓zD,zV,zT,zW,h0,h1,h2,h3,h4,h5,h6,h7,h8,h9,h10,h11,h12]; (repeat refine sd ?_); exact k.out):p:=e h0 h1 h2 h3 h4 h5 h6 h7 h8 h9 h10 h11 h12 ⟨k⟩
theorem Sx {p q a0 a1 a2 a3 a4 a5 a6 a7 a8 a9 a10 a11 a12 a13:Prop} (h0:a0) (h1:a1) (h2:a2) (h3:a3) (h4:a4) (h5:a5) (h6:a6) (h7:a7) (h8:a8) (h9:a9) (h10:a10) (h11:a11) (h12:a12) (h13:a13) (k:q) (e:a0->a1->a2->a3->a4->a5->a6->a7->a8->a9->a10->a11->a12->a13->Hid q->p:=by intro h0 h1 h2 h3 h4 h5 h6 h7 h8 h9 h10 h11 h12 h13 k; simp only [simprocAttr,-ZA,↓zU,↓zD,zV,zT,zW,h0,h1,h2,h3,h4,h5,h6,h7,h8,h9,h10,h11,h12,h13]; (repeat refine sd ?_); exact k.out):p:=e h0 h1 h2 h3 h4 h5 h6 h7 h8 h9 h10 h11 h12 h13 ⟨k⟩
theorem wO {C:Cx} {f f':Fr} {σ:St} (h:yS f f':=by simp [yS,Fr.get]):yR C f σ f' σ:=.same h
theorem yL {C:Cx} {f f':Fr} {σ:St} (h:yS f f':=by simp only [yS,Fr.get,simprocAttr,-BitVec.isValue,D.int.injEq,D.bool.injEq,D.sl.injEq,and_true,true_and,and_self]; all_goals first | rfl | exact wrap_i64 (by omega) | exact eY (by omega) | exact wK (by omega) | omega):yR C f σ f' σ:=.same h
theorem rZ {C:Cx} {f f':Fr} {σ σ':St} (l:List (Nat × Nat)) (ks:List Nat) (h:Zg ks σ'.xZ/\oI σ σ' (sw l) σ'.xZ/\bw σ σ' (sw l) f f') (hn:C.n0<=σ'.nx:=by simp) (h0:∀ p ∈ l,C.n0<=p.1:=by simp) (hd:(ks.map (sw l)).Nodup:=by decide):yR C f σ f' σ':=.VB l ks hn h0 hd h
theorem mD {C:Cx} {f f':Fr} {σ σ':St}  (l:List (Nat × Nat)) (ks:List Nat)  (hn:C.n0<=σ'.nx:=by simp) (h0:∀ p ∈ l,C.n0<=p.1:=by simp) (hd:(ks.map (sw l)).Nodup:=by decide) (h:(Zg ks σ'.xZ/\oI σ σ' (sw l) σ'.xZ/\bw σ σ' (sw l) f f'):=by simp only [wR,zQ,simprocAttr,-ZA,exists_eq_left',ne_eq,zR]; all_goals first | rfl | exact wrap_i64 (by omega) | exact eY (by omega) | exact wK (by omega) | omega):yR C f σ f' σ':=.VB l ks hn h0 hd h
theorem bj {C:Cx} {f f':Fr} {σ σ':St} {a0:Prop} (l:List (Nat × Nat)) (ks:List Nat) (y0:a0) (hn:C.n0<=σ'.nx:=by simp) (h0:∀ p ∈ l,C.n0<=p.1:=by simp) (hd:(ks.map (sw l)).Nodup:=by decide) (h:a0->(Zg ks σ'.xZ/\oI σ σ' (sw l) σ'.xZ/\bw σ σ' (sw l) f f'):=by intro h0; simp only [wR,zQ,simprocAttr,-ZA,exists_eq_left',ne_eq,zR,h0]; all_goals first | rfl | exact wrap_i64 (by omega) | exact eY (by omega) | exact wK (by omega) | omega):yR C f σ f' σ':=.VB l ks hn h0 hd (h y0)
theorem qN {C:Cx} {f f':Fr} {σ σ':St} {a0 a1:Prop} (l:List (Nat × Nat)) (ks:List Nat) (y0:a0) (y1:a1) (hn:C.n0<=σ'.nx:=by simp) (h0:∀ p ∈ l,C.n0<=p.1:=by simp) (hd:(ks.map (sw l)).Nodup:=by decide) (h:a0->a1->(Zg ks σ'.xZ/\oI σ σ' (sw l) σ'.xZ/\bw σ σ' (sw l) f f'):=by intro h0 h1; simp only [wR,zQ,simprocAttr,-ZA,exists_eq_left',ne_eq,zR,h0,h1]; all_goals first | rfl | exact wrap_i64 (by omega) | exact eY (by omega) | exact wK (by omega) | omega):yR C f σ f' σ':=.VB l ks hn h0 hd (h y0 y1)
theorem L9 {C:Cx} {f f':Fr} {σ σ':St} {a0 a1 a2:Prop} (l:List (Nat × Nat)) (ks:List Nat) (y0:a0) (y1:a1) (y2:a2) (hn:C.n0<=σ'.nx:=by simp) (h0:∀ p ∈ l,C.n0<=p.1:=by simp) (hd:(ks.map (sw l)).Nodup:=by decide) (h:a0->a1->a2->(Zg ks σ'.xZ/\oI σ σ' (sw l) σ'.xZ/\bw σ σ' (sw l) f f'):=by intro h0 h1 h2; simp only [wR,zQ,simprocAttr,-ZA,exists_eq_left',ne_eq,zR,h0,h1,h2]; all_goals first | rfl | exact wrap_i64 (by omega) | exact eY (by omega) | exact wK (by omega) | omega):yR C f σ f' σ':=.VB l ks hn h0 hd (h y0 y1 y2)
end
end Go.Pd

/- Part X8. -/
namespace Go.Pd
open Go
variable [tP]
def D.fl : D->Bool
 | .int _ _ | .bool _ | .str _ | .rJ | .xL | .emp | .qM | .oH | .mC | .top | .ref .. | .yD .. | .sub .. | .wA _=>true
 | .agg cs | .wF cs=>cs.attach.all λ⟨d,_⟩=>D.fl d
 | _=>false
def D.Zn (cs:List D):Bool:=cs.all D.fl
theorem SR (cs:List D):(D.agg cs).fl=D.Zn cs:=by rw [D.fl]; simp [D.Zn]
theorem SS (cs:List D):(D.wF cs).fl=D.Zn cs:=by rw [D.fl]; simp [D.Zn]
theorem qo {cs:List D} (h:D.Zn cs=true) (j:Nat):(cs.getD j .top).fl=true:=by
 by_cases hj:j<cs.length
 ·have:cs.getD j .top=cs[j]:=by simp [List.getD,hj]
  rw [this];exact List.all_eq_true.1 h _ (δ hj)
 ·simp [List.getD,ε (Nat.le_of_not_lt hj),D.fl]
theorem RP.fl {M M':Nat->Prop} {w:World} {v:Value} {d:D} (h:RP M w v d) (hf:d.fl=true):RP M' w v d:=by
 induction h with
 | top v=>exact .top v
 | rJ=>exact .rJ
 | int h=>exact .int h
 | bool b=>exact .bool b
 | str h=>exact .str h
 | kp=>simp [D.fl] at hf
 | emp a c=>exact .emp a c
 | sl=>simp [D.fl] at hf
 | xL=>exact .xL
 | ptr=>simp [D.fl] at hf
 | agg hl hr ih=>rw [SR] at hf; exact .agg hl λj hj=>ih j hj (qo hf j)
 | wF hl hr ih=>rw [SS] at hf; exact .wF hl λj hj=>ih j hj (qo hf j)
 | fn=>simp [D.fl] at hf
 | qM=>exact .qM
 | oH=>exact .oH
 | mC=>exact .mC
 | l5 b=>simp [D.fl] at hf
theorem R.fl {M M':Nat->Prop} {w:World} {ι:Nat->Nat} {n:Nat} {v:Value} {d:D} (h:R M w ι n v d) (hf:d.fl=true):R M' w ι n v d:=by
 induction h with
 | pure h=>exact .pure (h.fl hf)
 | ref hk h0=>exact .ref hk h0
 | yD hk h1 h2 h3 h4=>exact .yD hk h1 h2 h3 h4
 | sub hk h1 h2 h3 h4=>exact .sub hk h1 h2 h3 h4
 | wA hk=>exact .wA hk
 | agg hl hr ih=>rw [SR] at hf; exact .agg hl λj hj=>ih j hj (qo hf j)
 | wF hl hr ih=>rw [SS] at hf; exact .wF hl λj hj=>ih j hj (qo hf j)
 | fn=>simp [D.fl] at hf
theorem yG.fl {M M':Nat->Prop} {w:World} {ι:Nat->Nat} {n:Nat} {fO:Option Obj} {o:Ob} (h:yG M w ι n fO o) (hf:∀ e ∈ o.xW,D.Zn e=true):yG M' w ι n fO o:=by
 have at_:∀ i j,((o.xW.getD i []).getD j .top).fl=true:=by
  intro i j
  by_cases hi:i<o.xW.length
  ·have:o.xW.getD i []=o.xW[i]:=by simp [List.getD,hi]
   rw [this];exact qo (hf _ (δ hi)) j
  ·have:o.xW.getD i [] = []:=by simp [List.getD,ε (Nat.le_of_not_lt hi)]
   rw [this]; simp [D.fl]
 rcases h with ⟨h0,cur,e,h1,h2,h3,h4⟩ | ⟨h0,es,h1,h2,h3⟩
 ·exact .inl ⟨h0,cur,e,h1,h2,h3,λi hi j hj=>⟨(h4 i hi j hj).1,(h4 i hi j hj).2.fl (at_ i j)⟩⟩
 ·refine .inr ⟨h0,es,h1,h2,λi hi=>?_⟩;obtain⟨kk,v,x,d,g1,g2,g3,g4⟩:=h3 i hi;have a0:=at_ i 0;have a1:=at_ i 1;rw [g1] at a0 a1;exact⟨kk,v,x,d,g1,g2,g3.fl a0,g4.fl a1⟩
def Mk (M0:Nat->Prop) (ι:Nat->Nat) (σ:St) (K:Nat->Prop) (b:Nat):Prop:=M0 b\/∃ k o,K k/\σ.get k=some o/\ι k=b
def Seen (σ:St) (K:Nat->Prop) (d d':D):Prop:=∀ (M0:Nat->Prop) (w:World) (ι:Nat->Nat) (v:Value),wI M0 w σ ι->R (zY M0 ι σ) w ι σ.nx v d->RP (Mk M0 ι σ K) w v d'
def mW (σ:St) (K:Nat->Prop):List D->List D->Prop
 | [],[]=>True
 | d :: ds,c :: cs=>Seen σ K d c/\mW σ K ds cs
 | _,_=>False
theorem Mk.GD {M0:Nat->Prop} {ι:Nat->Nat} {σ:St} {K:Nat->Prop} {b:Nat} (h:Mk M0 ι σ K b):zY M0 ι σ b:=h.imp id λ⟨k,o,_,h1,h2⟩=>⟨k,o,h1,h2⟩
theorem mW.len {σ:St} {K:Nat->Prop}:∀ {ds cs:List D},mW σ K ds cs->ds.length=cs.length
 | [],[],_=>rfl
 | _ :: _,_ :: _,h=>by simp [mW.len h.2]
 | [],_ :: _,h=>h.elim
 | _ :: _,[],h=>h.elim
theorem mW.at_ {σ:St} {K:Nat->Prop}:∀ {ds cs:List D},mW σ K ds cs->∀ j,j<cs.length->Seen σ K (ds.getD j .top) (cs.getD j .top)
 | [],[],_,j,hj=>by simp at hj
 | _ :: _,_ :: _,h,0,_=>by simpa using h.1
 | _ :: _,_ :: _,h,j+1,hj=>by simpa using mW.at_ h.2 j (by simpa using hj)
 | [],_ :: _,h,_,_=>h.elim
 | _ :: _,[],h,_,_=>h.elim
theorem Seen.pure {σ:St} {K:Nat->Prop} {d:D} (h:d.xF=true):Seen σ K d d:=λ_ _ _ _ _ hR=>(hR.rv h).zN (λ_ _ _=>rfl) λ_ _ hb=>hb.GD
theorem Seen.nil {σ:St} {K:Nat->Prop} (sz:Nat):Seen σ K .xL (.sl sz []):=λ_ _ _ v _ hR=>by have:=hR.tD;subst this;exact .kp _ _ _ (by simp)
theorem Seen.agg {σ:St} {K:Nat->Prop} {ds cs:List D} (h:mW σ K ds cs):Seen σ K (.agg ds) (.agg cs):=λM0 w ι v hS hR=>by obtain⟨vs,rfl,h1,h2⟩:=hR.xk;have:=h.len;exact .agg (by omega) λj hj=>h.at_ j hj M0 w ι _ hS (h2 j (by omega))
theorem Seen.wF {σ:St} {K:Nat->Prop} {ds cs:List D} (h:mW σ K ds cs):Seen σ K (.wF ds) (.wF cs):=λM0 w ι v hS hR=>by obtain⟨vs,rfl,h1,h2⟩:=hR.x7;have:=h.len;exact .wF (by omega) λj hj=>h.at_ j hj M0 w ι _ hS (h2 j (by omega))
theorem Mk.not {M0:Nat->Prop} {w:World} {ι:Nat->Nat} {σ:St} {K:Nat->Prop} {key:Nat} {ob:Ob} (hS:wI M0 w σ ι) (hob:σ.get key=some ob) (hk:¬ K key):¬ Mk M0 ι σ K (ι key):=by
 rintro (h | ⟨k,o,h1,h2,h3⟩)
 ·exact hS.notM key ob hob h
 ·exact hk (hS.inj k key o ob h2 hob h3 ▸ h1)
theorem Seen.yD {σ:St} {K:Nat->Prop} {key sz n:Nat} {ob:Ob} {xW:List (List D)} (hob:σ.get key=some ob) (hk:¬ K key) (hs:0<sz) (hsz:ob.sz=sz) (hn:n<=ob.xW.length) (hl:xW.length=n)
  (hrow:∀ e ∈ xW,e.length=sz) (h:∀ i,i<n->∀ j,j<sz->Seen σ K ((ob.xW.getD i []).getD j .top) ((xW.getD i []).getD j .top)):Seen σ K (.yD key sz n) (.sl sz xW):=λM0 w ι v hS hR=>by
 subst hsz; subst hl;obtain⟨cap,cur,e,rfl,k1,k2,k3,k4,k5⟩:=hR.rL;obtain⟨_,cur',e',c1,c2,c3,c4⟩:=yG.rows (hS.holds key ob hob).2 k4;rw [k4] at c1;simp at c1;obtain⟨rfl,rfl⟩:=c1;refine .sl (λi j=>cur.getD (i*ob.sz+j) undef) hs (Mk.not hS hob hk) k2 k3 hrow (λi hi j hj=>?_) λi hi j hj=>h i hi j hj M0 w ι _ hS (c4 i (by omega) j hj).2
 have:i*ob.sz+j<cur.size:=by have:=lV (m:=ob.xW.length) (i:=i) (j:=j) (sz:=ob.sz) (by omega) hj;omega
 rw [Nat.zero_add,cell_of_row _ _ _ _ _ _ k4];simp [this]
theorem Seen.ref {σ:St} {K:Nat->Prop} {key sz i off:Nat} {ob:Ob} {cs:List D} (hob:σ.get key=some ob) (hk:¬ K key) (hsz:ob.sz=sz) (hi:i<ob.xW.length) (hc:0<cs.length) (hl:off+cs.length<=sz)
  (h:∀ j,j<cs.length->Seen σ K ((ob.xW.getD i []).getD (off+j) .top) (cs.getD j .top)):Seen σ K (.ref key sz i off) (.ptr cs):=λM0 w ι v hS hR=>by
 subst hsz;obtain⟨rfl,k1,k2⟩:=hR.sT;obtain⟨cur,e,c1,c2,c3,c4⟩:=(hS.holds key ob hob).2.cells k2;refine .ptr (λj=>cur.getD (i*ob.sz+(off+j)) undef) hc (Mk.not hS hob hk) (λj hj=>?_) λj hj=>h j hj M0 w ι _ hS (c4 i hi (off+j) (by omega)).2
 have:i*ob.sz+(off+j)<cur.size:=by have:=lV (m:=ob.xW.length) (i:=i) (j:=off+j) (sz:=ob.sz) hi (by omega);omega
 rw [Nat.add_assoc,cell_of_row _ _ _ _ _ _ c1];simp [this]
def NJ (σ:St) (d d':D):Prop:=∀ (M0:Nat->Prop) (w:World) (ι:Nat->Nat) (v:Value),wI M0 w σ ι->R (zY M0 ι σ) w ι σ.nx v d->RP (λ_=>False) w v d'
theorem Seen.f {σ:St} {K:Nat->Prop} {d d':D} (h:Seen σ K d d'):NJ σ d d':=λM0 w ι v hS hR=>(h M0 w ι v hS hR).zN (λ_ _ _=>rfl) λ_ _ hb=>hb.elim
theorem xQ.Sq {P:Program} {g:FuncId} {args args':List D} {d:D} {σ:St} (hc:xA P g args' d) (hl':mW σ (λ_=>False) args args') (hf:d.flat=true):xQ P g args σ d σ:=by
 refine⟨hc.ord,λM0 w ι vals hS hl hv=>?_⟩;have S1:wI (λ_=>False) w jR ι:=⟨λb hb=>hb.elim,(λk o hk=>by cases hk),(λk k' o o' hk=>by cases hk),(λk o hk=>by cases hk),hS.nR.zN (γ _) (λ_ _ _=>rfl) λb _ hb=>hb.elim False.elim λ⟨k,o,hk,_⟩=>by cases hk⟩
 have e1:∀ (ι':Nat->Nat) b,zY (λ_=>False) ι' jR b->False:=by
  intro ι' b hb
  rcases hb with hb | ⟨k,o,hk,_⟩
  ·exact hb
  ·cases hk
 have hlen:=hl'.len;refine(hc.run _ w ι vals S1 (by omega) λj hj=>.pure (((hl'.at_ j hj).f M0 w ι _ hS (hv j (by omega))).zN (λ_ _ _=>rfl) λb _ hb=>e1 ι b hb)).mono λe w' hh=>?_;obtain⟨v,ι',rfl,k1,k2,k3,k4,k5,k6⟩:=hh;have K0:Kept w w' λ_=>False:=k1.mono λb _ ⟨k,o,hk,_⟩=>by cases hk
 exact⟨v,ι,rfl,K0.none _,hS.ext K0,γ _,λ_ _=>rfl,λk o hk=>.inr ⟨k,o,hk,rfl⟩,.pure (k6.zero.flat hf)⟩
theorem xQ.ME {P:Program} {g:FuncId} {args args':List D} {d:D} {σ:St} {m:Nat} {xZ:List (Nat × Ob)} (hc:xQ P g args' jR d ⟨m,xZ⟩) (hlen:args.length=args'.length) (ats:∀ j,j<args'.length->NJ σ (args.getD j .top) (args'.getD j .top)) (hf:d.fl=true) (ho:∀ p ∈ xZ,∀ e ∈ p.2.xW,D.Zn e=true) :
  xQ P g args σ (d.shift σ.nx) ⟨σ.nx+m,yH σ.nx xZ++σ.xZ⟩:=by
 refine⟨hc.ord,λM0 w ι vals hS hl hv=>?_⟩;have S1:wI (λ_=>False) w jR ι:=⟨λb hb=>hb.elim,(λk o hk=>by cases hk),(λk k' o o' hk=>by cases hk),(λk o hk=>by cases hk),hS.nR.zN (γ _) (λ_ _ _=>rfl) λb _ hb=>hb.elim False.elim λ⟨k,o,hk,_⟩=>by cases hk⟩
 have e1:∀ (ι':Nat->Nat) b,zY (λ_=>False) ι' jR b->False:=by
  intro ι' b hb
  rcases hb with hb | ⟨k,o,hk,_⟩
  ·exact hb
  ·cases hk
 refine(hc.run _ w ι vals S1 (by omega) λj hj=>.pure ((ats j hj M0 w ι _ hS (hv j (by omega))).zN (λ_ _ _=>rfl) λb _ hb=>e1 ι b hb)).mono λe w' hh=>?_;obtain⟨v,ι',rfl,k1,k2,k3,k4,k5,k6⟩:=hh;have K0:Kept w w' λ_=>False:=k1.mono λb _ ⟨k,o,hk,_⟩=>by cases hk
 let ιn:Nat->Nat:=λk=>if k<σ.nx then ι k else ι' (k-σ.nx)
 have n1:∀ k,k<σ.nx->ιn k=ι k:=λk hk=>by simp only [ιn,if_pos hk]
 have n2:∀ k,ιn (σ.nx+k)= ι' k:=λk=>by simp only [ιn,if_neg (show ¬ (σ.nx+k<σ.nx) by omega)];congr 1; omega
 have lk:∀ k o,St.get ⟨σ.nx+m,yH σ.nx xZ++σ.xZ⟩ k=some o->(∃ k0 o0,k=σ.nx+k0/\St.get ⟨m,xZ⟩ k0=some o0/\o=o0.shift σ.nx)\/(k<σ.nx/\σ.get k=some o):=by
  intro k o hk;unfold St.get at hk;simp only at hk;rw [sX] at hk
  cases h1:St.look (yH σ.nx xZ) k with
  | some o1=> rw [h1] at hk;simp at hk; subst hk;exact .inl (gS _ _ _ _ h1)
  | none=> rw [h1] at hk;simp at hk;exact .inr ⟨(hS.holds k o hk).1,hk⟩
 have fresh:∀ k o,St.get ⟨m,xZ⟩ k=some o->w.heap.size<=ι' k:=by
  intro k o hk
  rcases k5 _ _ hk with h | ⟨k0,o0,hk0,_⟩
  ·exact h
  ·cases hk0
 have mm:∀ b,b<w.heap.size->zY M0 ιn ⟨σ.nx+m,yH σ.nx xZ++σ.xZ⟩ b->zY M0 ι σ b:=by
  intro b hb hm
  rcases hm with hm | ⟨k,o,hk,rfl⟩
  ·exact .inl hm
  ·rcases lk k o hk with ⟨k0,o0,rfl,h2,_⟩ | ⟨h1,h2⟩
   ·have:=fresh k0 o0 h2;rw [n2] at hb;omega
   ·exact .inr ⟨k,o,h2,(n1 k h1).symm⟩
 have mv:∀ b,zY M0 ιn ⟨σ.nx+m,yH σ.nx xZ++σ.xZ⟩ b->zY (zY M0 ι σ) ι' ⟨m,xZ⟩ b:=by
  intro b hm
  rcases hm with hm | ⟨k,o,hk,rfl⟩
  ·exact .inl (.inl hm)
  ·rcases lk k o hk with ⟨k0,o0,rfl,h2,_⟩ | ⟨h1,h2⟩
   ·exact .inr ⟨k0,o0,h2,(n2 k0).symm⟩
   ·exact .inl (.inr ⟨k,o,h2,(n1 k h1).symm⟩)
 refine⟨v,ιn,rfl,K0.none _,⟨λb hb=>Nat.lt_of_lt_of_le (hS.oJ b hb) K0.size,λk o hk=>?_,λk k' o o' hk hk' e=>?_,λk o hk hm=>?_,hS.nR.zN K0.size (λb hb hM=>K0.block b hb id) λb hb hm=>mm b hb hm⟩,Nat.le_add_right _ _,n1,λk o hk=>?_,R.shift mv (λk _=>n2 k) (k6.fl hf)⟩
 ·rcases lk k o hk with ⟨k0,o0,rfl,h2,rfl⟩ | ⟨h1,h2⟩
  ·obtain⟨g1,g20⟩:=k2.holds k0 o0 h2;have g2:yG (zY (zY M0 ι σ) ι' ⟨m,xZ⟩) w' ι' m w'.heap[ι' k0]? o0:=g20.fl (ho (k0,o0) (vH h2));have glt:k0<m:=g1;rcases g2 with ⟨s0,cur,e,c1,c2,c3,c4⟩ | ⟨s0,es,c1,c2,c3⟩
   case inr=>
    refine⟨by show σ.nx+k0<σ.nx+m; omega,.inr ⟨s0,es,by rw [n2]; exact c1,by simpa [Ob.shift] using c2,λi hi=>?_⟩⟩;simp only [Ob.shift,List.length_map] at hi ⊢;obtain⟨kk,v,x,d,r1,r2,r3,r4⟩:=c3 i hi;refine⟨kk,v,x.shift σ.nx,d.shift σ.nx,?_,r2,R.shift mv (λk _=>n2 k) r3,R.shift mv (λk _=>n2 k) r4⟩;have:(o0.xW.map (D.vN σ.nx)).getD i []=D.vN σ.nx (o0.xW.getD i []):=by simp [List.getD,hi]
    rw [this,r1]; rfl
   refine⟨by show σ.nx+k0<σ.nx+m; omega,.inl ⟨s0,cur,e,by rw [n2]; exact c1,λel he=>?_,by simpa [Ob.shift] using c3,λi hi j hj=>?_⟩⟩
   ·simp only [Ob.shift,List.mem_map] at he ⊢;obtain⟨el',h3,rfl⟩:=he;rw [sC]; exact c2 _ h3
   ·simp only [Ob.shift,List.length_map] at hi hj ⊢;have h3:=c4 i hi j hj
    have e2:((o0.xW.map (D.vN σ.nx)).getD i []).getD j .top=((o0.xW.getD i []).getD j .top).shift σ.nx:=by
     have:(o0.xW.map (D.vN σ.nx)).getD i []=D.vN σ.nx (o0.xW.getD i []):=by simp [List.getD,hi]
     rw [this,nX]
    rw [e2];exact⟨h3.1,R.shift mv (λk _=>n2 k) h3.2⟩
  ·obtain⟨g1,g2⟩:=hS.holds k o h2;exact⟨by show k<σ.nx+m; omega,g2.zN (K0.block _ (Own.lt hS ⟨k,o,h2,rfl⟩) id) (n1 k h1) (λb hb _=>K0.block b hb id) (λb hb hm=>mm b hb hm) K0.shape n1 (Nat.le_add_right _ _)⟩
 ·rcases lk k o hk with ⟨k0,o0,rfl,h2,rfl⟩ | ⟨h1,h2⟩ <;> rcases lk k' o' hk' with ⟨k0',o0',rfl,h2',rfl⟩ | ⟨h1',h2'⟩
  ·rw [n2,n2] at e;rw [k2.inj _ _ _ _ h2 h2' e]
  ·rw [n2,n1 k' h1'] at e;have:=fresh _ _ h2;have:=Own.lt hS ⟨k',o',h2',rfl⟩;omega
  ·rw [n1 k h1,n2] at e;have:=fresh _ _ h2';have:=Own.lt hS ⟨k,o,h2,rfl⟩;omega
  ·rw [n1 k h1,n1 k' h1'] at e;exact hS.inj _ _ _ _ h2 h2' e
 ·rcases lk k o hk with ⟨k0,o0,rfl,h2,rfl⟩ | ⟨h1,h2⟩
  ·rw [n2] at hm;have:=fresh _ _ h2;have:=hS.oJ _ hm;omega
  ·rw [n1 k h1] at hm;exact hS.notM k o h2 hm
 ·rcases lk k o hk with ⟨k0,o0,rfl,h2,rfl⟩ | ⟨h1,h2⟩
  ·rw [n2]; exact .inl (fresh _ _ h2)
  ·rw [n1 k h1]; exact .inr ⟨k,o,h2,rfl⟩
theorem xQ.MF {P:Program} {g:FuncId} {args args':List D} {d:D} {σ:St} {m:Nat} {xZ:List (Nat × Ob)} (hc:xQ P g args' jR d ⟨m,xZ⟩) (hl':mW σ (λ_=>False) args args') (hf:d.fl=true) (ho:∀ p ∈ xZ,∀ e ∈ p.2.xW,D.Zn e=true) :
  xQ P g args σ (d.shift σ.nx) ⟨σ.nx+m,yH σ.nx xZ++σ.xZ⟩:=xQ.ME hc hl'.len (λj hj=>(hl'.at_ j hj).f) hf ho
theorem wI.sub {M0:Nat->Prop} {w:World} {σ:St} {ι:Nat->Nat} {objs':List (Nat × Ob)} (h:wI M0 w σ ι) (hs:∀ k o,St.look objs' k=some o->σ.get k=some o):wI M0 w ⟨σ.nx,objs'⟩ ι:=
 have hm:∀ b,zY M0 ι ⟨σ.nx,objs'⟩ b->zY M0 ι σ b:=λb hb=>hb.imp id λ⟨k,o,h1,h2⟩=>⟨k,o,hs k o h1,h2⟩
 ⟨h.oJ,λk o hk=>⟨(h.holds k o (hs k o hk)).1,(h.holds k o (hs k o hk)).2.zN rfl rfl (λ_ _ _=>rfl) (λb _ hb=>hm b hb) (λb cur e hc=>⟨cur,hc,rfl⟩) (λ_ _=>rfl) (γ _)⟩,
  λk k' o o' hk hk'=>h.inj k k' o o' (hs k o hk) (hs k' o' hk'),λk o hk=>h.notM k o (hs k o hk),h.nR.zN (γ _) (λ_ _ _=>rfl) λb _ hb=>hm b hb⟩
theorem xQ.Ms {P:Program} {g:FuncId} {args args':List D} {d:D} {σ:St} {objs':List (Nat × Ob)} (K:Nat->Prop) (hc:xA P g args' d) (hl':mW σ K args args') (hs:∀ k o,St.look objs' k=some o->K k/\σ.get k=some o) :
  xQ P g args σ d ⟨σ.nx,objs'⟩:=by
 refine⟨hc.ord,λM0 w ι vals hS hl hv=>?_⟩;have hS':=hS.sub (objs':=objs') λk o hk=>(hs k o hk).2;have S1:wI (zY M0 ι ⟨σ.nx,objs'⟩) w jR ι:=⟨λb hb=>zY.lt hS' hb,(λk o hk=>by cases hk),(λk k' o o' hk=>by cases hk),(λk o hk=>by cases hk),hS'.nR.zN (γ _) (λ_ _ _=>rfl) λb _ hb=>hb.elim id λ⟨k,o,hk,_⟩=>by cases hk⟩
 have e1:∀ (ι':Nat->Nat) b,zY (zY M0 ι ⟨σ.nx,objs'⟩) ι' jR b->zY M0 ι ⟨σ.nx,objs'⟩ b:=by
  intro ι' b hb
  rcases hb with hb | ⟨k,o,hk,_⟩
  ·exact hb
  ·cases hk
 have hlen:=hl'.len;have e2:∀ b,zY M0 ι ⟨σ.nx,objs'⟩ b->Mk M0 ι σ K b:=λb hb=>hb.imp id λ⟨k,o,h1,h2⟩=>⟨k,o,(hs k o h1).1,(hs k o h1).2,h2⟩;refine(hc.run _ w ι vals S1 (by omega) λj hj=>.pure ((hl'.at_ j hj M0 w ι _ hS (hv j (by omega))).zN (λ_ _ _=>rfl) λb _ hb=>e2 b (e1 ι b hb))).mono λe w' hh=>?_;obtain⟨v,ι',rfl,k1,k2,k3,k4,k5,k6⟩:=hh;have K0:Kept w w' λ_=>False:=k1.mono λb _ ⟨k,o,hk,_⟩=>by cases hk
 exact⟨v,ι,rfl,K0.none _,hS'.ext K0,γ _,λ_ _=>rfl,λk o hk=>.inr ⟨k,o,(hs k o hk).2,rfl⟩,.pure (k6.zero.zN (λ_ _ _=>rfl) λb _ hb=>.inl hb)⟩
theorem Seen.rows {σ:St} {K:Nat->Prop} {key sz n:Nat} {xW:List (List D)} (hob:σ.get key=some ⟨sz,xW⟩) (hk:¬ K key) (hs:0<sz) (hn:n=xW.length) (hrow:∀ e ∈ xW,e.length=sz) (hp:∀ e ∈ xW,D.xR e=true):Seen σ K (.yD key sz n) (.sl sz xW):=by
 subst hn;refine Seen.yD hob hk hs rfl (γ _) rfl hrow λi hi j hj=>?_;have hm:xW.getD i [] ∈ xW:=by simp [List.getD,hi]
 exact .pure (uD (hp _ hm) j)
theorem Seen.grow {σ:St} {K:Nat->Prop} {key sz:Nat} {xW:List (List D)} (hob:σ.get key=vA sz xW) (hk:¬ K key) (hs:0<sz) (hrow:∀ e ∈ xW,e.length=sz) (hp:∀ e ∈ xW,D.xR e=true):Seen σ K (xB key sz xW) (.sl sz xW):=by
 cases xW with
 | nil=>exact .nil sz
 | cons e r=>exact Seen.rows hob hk hs rfl hrow hp
def Sv (σ:St) (K:Nat->Prop) (f:Fr):Fr->Prop
 | []=>True
 | (t,d) :: r=>(f.get t=d\/Seen σ K (f.get t) d)/\ Sv σ K f r
def Sw (σ:St) (K:Nat->Prop):List (Nat × Ob)->Prop
 | []=>True
 | (k,o) :: r=>(K k/\∃ ob,σ.get k=some ob/\ob.sz=o.sz/\ob.xW.length=o.xW.length/\∀ i,i<o.xW.length->(o.xW.getD i []).length=(ob.xW.getD i []).length/\∀ j,(o.xW.getD i []).getD j .top=(ob.xW.getD i []).getD j .top\/Seen σ K ((ob.xW.getD i []).getD j .top) ((o.xW.getD i []).getD j .top))/\ Sw σ K r
theorem ik {σ:St} {K:Nat->Prop}:∀ {l:List (Nat × Ob)},Sw σ K l->∀ p ∈ l,K p.1/\∃ ob,σ.get p.1=some ob/\ob.sz=p.2.sz/\ob.xW.length=p.2.xW.length/\∀ i,i<p.2.xW.length->(p.2.xW.getD i []).length=(ob.xW.getD i []).length/\∀ j,(p.2.xW.getD i []).getD j .top=(ob.xW.getD i []).getD j .top\/Seen σ K ((ob.xW.getD i []).getD j .top) ((p.2.xW.getD i []).getD j .top)
 | [],_,p,hp=>by cases hp
 | q :: r,h,p,hp=>by
  rcases List.mem_cons.1 hp with rfl | hp
  ·exact h.1
  ·exact ik h.2 p hp
theorem yR.deep {C:Cx} {f f':Fr} {σ:St} {objs':List (Nat × Ob)} (K:Nat->Prop) (ho:Sw σ K objs') (hf:Sv σ K f f'):yR C f σ f' ⟨σ.nx,objs'⟩:=by
 rintro E a w ⟨ι,G⟩;have hS:=G.mL;have hlive:∀ k o,St.get ⟨σ.nx,objs'⟩ k=some o->K k/\∃ ob,σ.get k=some ob/\ob.sz=o.sz/\ob.xW.length=o.xW.length/\∀ i,i<o.xW.length->(o.xW.getD i []).length=(ob.xW.getD i []).length/\∀ j,(o.xW.getD i []).getD j .top=(ob.xW.getD i []).getD j .top\/Seen σ K ((ob.xW.getD i []).getD j .top) ((o.xW.getD i []).getD j .top):=λk o hk=>ik ho (k,o) (vH hk)
 have hM1:∀ b,zY E.M0 ι ⟨σ.nx,objs'⟩ b->Mk E.M0 ι σ K b:=by
  rintro b (hb | ⟨k,o,hk,rfl⟩)
  ·exact .inl hb
  ·obtain⟨h1,ob,h2,_⟩:=hlive k o hk;exact .inr ⟨k,ob,h1,h2,rfl⟩
 have hM2:∀ b,zY E.M0 ι ⟨σ.nx,objs'⟩ b->zY E.M0 ι σ b:=λb hb=>(hM1 b hb).GD;have same:∀ {v:Value} {d:D},R (zY E.M0 ι σ) w ι σ.nx v d->R (zY E.M0 ι ⟨σ.nx,objs'⟩) w ι σ.nx v d:=λh=>h.zN (λ_ _ _=>rfl) (λb _ hb=>hM2 b hb) (λ_ cur _ h=>⟨cur,h,rfl⟩) (λ_ _=>rfl) (γ _)
 have seen:∀ {v:Value} {d d':D},R (zY E.M0 ι σ) w ι σ.nx v d->(d'=d\/Seen σ K d d')->R (zY E.M0 ι ⟨σ.nx,objs'⟩) w ι σ.nx v d':=by
  intro v d d' h hs
  rcases hs with rfl | hs
  ·exact same h
  ·exact .pure ((hs _ w ι v hS h).zN (λ_ _ _=>rfl) λb _ hb=>hM1 b hb)
 refine⟨ι,G.size,G.defers,G.nx,G.kept,⟨hS.oJ,λk o hk=>?_,λk k' o o' hk hk' e=>?_,λk o hk=>?_,hS.nR.zN (γ _) (λ_ _ _=>rfl) λb _ hb=>hM2 b hb⟩,G.oJ,λk o hk=>?_,G.stay,λt=>?_⟩
 ·obtain⟨_,ob,h2,h3,h4,h5⟩:=hlive k o hk;obtain⟨g1,g2⟩:=hS.holds k ob h2;refine⟨g1,?_⟩
  rcases g2 with ⟨s0,cur,e,c1,c2,c3,c4⟩ | ⟨s0,es,c1,c2,c3⟩
  ·refine .inl ⟨by omega,cur,e,c1,λel he=>?_,by rw [<- h4,<- h3]; exact c3,λi hi j hj=>⟨(c4 i (by omega) j (by omega)).1 |> λh=>by rw [<- h3]; exact h,?_⟩⟩
   ·obtain⟨i,hi,rfl⟩:=List.getElem_of_mem he;have:=(h5 i hi).1;have e2:o.xW.getD i []=o.xW[i]:=by simp [List.getD,hi]
    rw [<- e2,this,<- h3];have hi':i<ob.xW.length:=by omega
    have e3:ob.xW.getD i []=ob.xW[i]:=by simp [List.getD,hi']
    rw [e3];exact c2 _ (δ hi')
   ·have:=(c4 i (by omega) j (by omega)).2;rw [h3] at this;exact seen this ((h5 i hi).2 j)
  ·refine .inr ⟨by omega,es,c1,by omega,λi hi=>?_⟩;obtain⟨kk,v,x,d,r1,r2,r3,r4⟩:=c3 i (by omega);obtain⟨e1,e2⟩:=h5 i hi;rw [r1] at e1 e2;generalize o.xW.getD i []=row at e1 e2
   match row,e1 with
   | [x',d'],_=>exact⟨kk,v,x',d',rfl,r2,seen r3 (e2 0),seen r4 (e2 1)⟩
 ·obtain⟨_,ob,h1,_⟩:=hlive k o hk;obtain⟨_,ob',h2,_⟩:=hlive k' o' hk';exact hS.inj k k' ob ob' h1 h2 e
 ·obtain⟨_,ob,h1,_⟩:=hlive k o hk;exact hS.notM k ob h1
 ·obtain⟨_,ob,h1,_⟩:=hlive k o hk;exact G.qK k ob h1
 ·have fr:=G.fr t
  induction f' with
  | nil=>exact R.top _
  | cons p r ih=>
   obtain⟨s,d'⟩:=p;simp only [Sv] at hf;simp only [Fr.get]
   split
   ·rename_i e;subst e;exact seen fr (hf.1.imp Eq.symm id)
   ·exact ih hf.2
end Go.Pd
