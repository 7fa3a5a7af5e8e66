/- Part XS. -/
import Derived.Test.YtccobgpcnfjbhaaZcX6
set_option linter.unusedSectionVars false
set_option linter.unusedVariables false
set_option linter.unusedSimpArgs false
set_option linter.defProp false
set_option maxRecDepth 20000
set_option maxHeartbeats 1000000
open Nat renaming le_refl->γ
namespace Go.Pd
open Go
structure Hid (q : Prop) : Prop where
 out:q
section
variable [vZ]
theorem wU {p q:Prop}  (k:q) (e:Hid q->p:=by intro  k; simp only [simprocAttr,-ZA,↓zU,↓zD,zV,zT,zW]; exact k.out):p:=e  ⟨k⟩
theorem vY {p q a0:Prop} (h0:a0) (k:q) (e:a0->Hid q->p:=by intro h0 k; simp only [simprocAttr,-ZA,↓zU,↓zD,zV,zT,zW,h0]; exact k.out):p:=e h0 ⟨k⟩
theorem uA {p q a0 a1:Prop} (h0:a0) (h1:a1) (k:q) (e:a0->a1->Hid q->p:=by intro h0 h1 k; simp only [simprocAttr,-ZA,↓zU,↓zD,zV,zT,zW,h0,h1]; exact k.out):p:=e h0 h1 ⟨k⟩
theorem cX {p q a0 a1 a2:Prop} (h0:a0) (h1:a1) (h2:a2) (k:q) (e:a0->a1->a2->Hid q->p:=by intro h0 h1 h2 k; simp only [simprocAttr,-ZA,↓zU,↓zD,zV,zT,zW,h0,h1,h2]; exact k.out):p:=e h0 h1 h2 ⟨k⟩
theorem p4 {p q a0 a1 a2 a3:Prop} (h0:a0) (h1:a1) (h2:a2) (h3:a3) (k:q) (e:a0->a1->a2->a3->Hid q->p:=by intro h0 h1 h2 h3 k; simp only [simprocAttr,-ZA,↓zU,↓zD,zV,zT,zW,h0,h1,h2,h3]; exact k.out):p:=e h0 h1 h2 h3 ⟨k⟩
theorem p5 {p q a0 a1 a2 a3 a4:Prop} (h0:a0) (h1:a1) (h2:a2) (h3:a3) (h4:a4) (k:q) (e:a0->a1->a2->a3->a4->Hid q->p:=by intro h0 h1 h2 h3 h4 k; simp only [simprocAttr,-ZA,↓zU,↓zD,zV,zT,zW,h0,h1,h2,h3,h4]; exact k.out):p:=e h0 h1 h2 h3 h4 ⟨k⟩
theorem ZZ {p q a0 a1 a2 a3 a4 a5:Prop} (h0:a0) (h1:a1) (h2:a2) (h3:a3) (h4:a4) (h5:a5) (k:q) (e:a0->a1->a2->a3->a4->a5->Hid q->p:=by intro h0 h1 h2 h3 h4 h5 k; simp only [simprocAttr,-ZA,↓zU,↓zD,zV,zT,zW,h0,h1,h2,h3,h4,h5]; exact k.out):p:=e h0 h1 h2 h3 h4 h5 ⟨k⟩
theorem WQ {p q a0 a1 a2 a3 a4 a5 a6 a7:Prop} (h0:a0) (h1:a1) (h2:a2) (h3:a3) (h4:a4) (h5:a5) (h6:a6) (h7:a7) (k:q) (e:a0->a1->a2->a3->a4->a5->a6->a7->Hid q->p:=by intro h0 h1 h2 h3 h4 h5 h6 h7 k; simp only [simprocAttr,-ZA,↓zU,↓zD,zV,zT,zW,h0,h1,h2,h3,h4,h5,h6,h7]; exact k.out):p:=e h0 h1 h2 h3 h4 h5 h6 h7 ⟨k⟩
theorem Y1 {p q a0 a1 a2 a3 a4 a5 a6 a7 a8 a9:Prop} (h0:a0) (h1:a1) (h2:a2) (h3:a3) (h4:a4) (h5:a5) (h6:a6) (h7:a7) (h8:a8) (h9:a9) (k:q) (e:a0->a1->a2->a3->a4->a5->a6->a7->a8->a9->Hid q->p:=by intro h0 h1 h2 h3 h4 h5 h6 h7 h8 h9 k; simp only [simprocAttr,-ZA,↓zU,↓zD,zV,zT,zW,h0,h1,h2,h3,h4,h5,h6,h7,h8,h9]; exact k.out):p:=e h0 h1 h2 h3 h4 h5 h6 h7 h8 h9 ⟨k⟩
theorem qi {p q a0 a1 a2 a3 a4 a5 a6 a7 a8 a9 a10:Prop} (h0:a0) (h1:a1) (h2:a2) (h3:a3) (h4:a4) (h5:a5) (h6:a6) (h7:a7) (h8:a8) (h9:a9) (h10:a10) (k:q) (e:a0->a1->a2->a3->a4->a5->a6->a7->a8->a9->a10->Hid q->p:=by intro h0 h1 h2 h3 h4 h5 h6 h7 h8 h9 h10 k; simp only [simprocAttr,-ZA,↓zU,↓zD,zV,zT,zW,h0,h1,h2,h3,h4,h5,h6,h7,h8,h9,h10]; exact k.out):p:=e h0 h1 h2 h3 h4 h5 h6 h7 h8 h9 h10 ⟨k⟩
theorem Vg {p q a0 a1 a2 a3 a4 a5 a6 a7 a8 a9 a10 a11:Prop} (h0:a0) (h1:a1) (h2:a2) (h3:a3) (h4:a4) (h5:a5) (h6:a6) (h7:a7) (h8:a8) (h9:a9) (h10:a10) (h11:a11) (k:q) (e:a0->a1->a2->a3->a4->a5->a6->a7->a8->a9->a10->a11->Hid q->p:=by intro h0 h1 h2 h3 h4 h5 h6 h7 h8 h9 h10 h11 k; simp only [simprocAttr,-ZA,↓zU,↓zD,zV,zT,zW,h0,h1,h2,h3,h4,h5,h6,h7,h8,h9,h10,h11]; exact k.out):p:=e h0 h1 h2 h3 h4 h5 h6 h7 h8 h9 h10 h11 ⟨k⟩
theorem uB {p q:Prop}  (k:q) (e:Hid q->p:=by intro  k; simp only [simprocAttr,-ZA,↓zU,↓zD,zV,zT,zW]; (repeat refine sd ?_); exact k.out):p:=e  ⟨k⟩
theorem pZ {p q a0:Prop} (h0:a0) (k:q) (e:a0->Hid q->p:=by intro h0 k; simp only [simprocAttr,-ZA,↓zU,↓zD,zV,zT,zW,h0]; (repeat refine sd ?_); exact k.out):p:=e h0 ⟨k⟩
theorem lR {p q a0 a1:Prop} (h0:a0) (h1:a1) (k:q) (e:a0->a1->Hid q->p:=by intro h0 h1 k; simp only [simprocAttr,-ZA,↓zU,↓zD,zV,zT,zW,h0,h1]; (repeat refine sd ?_); exact k.out):p:=e h0 h1 ⟨k⟩
theorem yz {p q a0 a1 a2:Prop} (h0:a0) (h1:a1) (h2:a2) (k:q) (e:a0->a1->a2->Hid q->p:=by intro h0 h1 h2 k; simp only [simprocAttr,-ZA,↓zU,↓zD,zV,zT,zW,h0,h1,h2]; (repeat refine sd ?_); exact k.out):p:=e h0 h1 h2 ⟨k⟩
theorem uv {p q a0 a1 a2 a3:Prop} (h0:a0) (h1:a1) (h2:a2) (h3:a3) (k:q) (e:a0->a1->a2->a3->Hid q->p:=by intro h0 h1 h2 h3 k; simp only [simprocAttr,-ZA,↓zU,↓zD,zV,zT,zW,h0,h1,h2,h3]; (repeat refine sd ?_); exact k.out):p:=e h0 h1 h2 h3 ⟨k⟩
theorem iM {p q a0 a1 a2 a3 a4:Prop} (h0:a0) (h1:a1) (h2:a2) (h3:a3) (h4:a4) (k:q) (e:a0->a1->a2->a3->a4->Hid q->p:=by intro h0 h1 h2 h3 h4 k; simp only [simprocAttr,-ZA,↓zU,↓zD,zV,zT,zW,h0,h1,h2,h3,h4]; (repeat refine sd ?_); exact k.out):p:=e h0 h1 h2 h3 h4 ⟨k⟩
theorem p6 {p q a0 a1 a2 a3 a4 a5:Prop} (h0:a0) (h1:a1) (h2:a2) (h3:a3) (h4:a4) (h5:a5) (k:q) (e:a0->a1->a2->a3->a4->a5->Hid q->p:=by intro h0 h1 h2 h3 h4 h5 k; simp only [simprocAttr,-ZA,↓zU,↓zD,zV,zT,zW,h0,h1,h2,h3,h4,h5]; (repeat refine sd ?_); exact k.out):p:=e h0 h1 h2 h3 h4 h5 ⟨k⟩
theorem p7 {p q a0 a1 a2 a3 a4 a5 a6:Prop} (h0:a0) (h1:a1) (h2:a2) (h3:a3) (h4:a4) (h5:a5) (h6:a6) (k:q) (e:a0->a1->a2->a3->a4->a5->a6->Hid q->p:=by intro h0 h1 h2 h3 h4 h5 h6 k; simp only [simprocAttr,-ZA,↓zU,↓zD,zV,zT,zW,h0,h1,h2,h3,h4,h5,h6]; (repeat refine sd ?_); exact k.out):p:=e h0 h1 h2 h3 h4 h5 h6 ⟨k⟩
theorem Tl {p q a0 a1 a2 a3 a4 a5 a6 a7:Prop} (h0:a0) (h1:a1) (h2:a2) (h3:a3) (h4:a4) (h5:a5) (h6:a6) (h7:a7) (k:q) (e:a0->a1->a2->a3->a4->a5->a6->a7->Hid q->p:=by intro h0 h1 h2 h3 h4 h5 h6 h7 k; simp only [simprocAttr,-ZA,↓zU,↓zD,zV,zT,zW,h0,h1,h2,h3,h4,h5,h6,h7]; (repeat refine sd ?_); exact k.out):p:=e h0 h1 h2 h3 h4 h5 h6 h7 ⟨k⟩
theorem Vh {p q a0 a1 a2 a3 a4 a5 a6 a7 a8 a9:Prop} (h0:a0) (h1:a1) (h2:a2) (h3:a3) (h4:a4) (h5:a5) (h6:a6) (h7:a7) (h8:a8) (h9:a9) (k:q) (e:a0->a1->a2->a3->a4->a5->a6->a7->a8->a9->Hid q->p:=by intro h0 h1 h2 h3 h4 h5 h6 h7 h8 h9 k; simp only [simprocAttr,-ZA,↓zU,↓zD,zV,zT,zW,h0,h1,h2,h3,h4,h5,h6,h7,h8,h9]; (repeat refine sd ?_); exact k.out):p:=e h0 h1 h2 h3 h4 h5 h6 h7 h8 h9 ⟨k⟩
theorem wI {C:Cx} {f f':Fr} {σ:St} (h:wZ f f':=by simp [wZ,Fr.get]):yO C f σ f' σ:=.same h
theorem sW {C:Cx} {f f':Fr} {σ:St} (h:wZ f f':=by simp only [wZ,Fr.get,simprocAttr,-BitVec.isValue,D.int.injEq,D.bool.injEq,D.sl.injEq,and_true,true_and,and_self]; all_goals first | rfl | exact wrap_i64 (by omega) | exact pM (by omega) | exact lE (by omega) | omega):yO C f σ f' σ:=.same h
theorem lP {C:Cx} {f f':Fr} {σ σ':St} (l:List (Nat × Nat)) (ks:List Nat) (h:uw ks σ'.xW/\sR σ σ' (sw l) σ'.xW/\xd σ σ' (sw l) f f') (hn:C.n0<=σ'.nx:=by simp) (h0:∀ p ∈ l,C.n0<=p.1:=by simp) (hd:(ks.map (sw l)).Nodup:=by decide):yO C f σ f' σ':=.uz l ks hn h0 hd h
theorem ZU {C:Cx} {f f':Fr} {σ σ':St}  (l:List (Nat × Nat)) (ks:List Nat)  (hn:C.n0<=σ'.nx:=by simp) (h0:∀ p ∈ l,C.n0<=p.1:=by simp) (hd:(ks.map (sw l)).Nodup:=by decide) (h:(uw ks σ'.xW/\sR σ σ' (sw l) σ'.xW/\xd σ σ' (sw l) f f'):=by simp only [vX,zQ,simprocAttr,-ZA,exists_eq_left',ne_eq,zR]; all_goals first | rfl | exact wrap_i64 (by omega) | exact pM (by omega) | exact lE (by omega) | omega):yO C f σ f' σ':=.uz l ks hn h0 hd h
theorem aU {C:Cx} {f f':Fr} {σ σ':St} {a0:Prop} (l:List (Nat × Nat)) (ks:List Nat) (y0:a0) (hn:C.n0<=σ'.nx:=by simp) (h0:∀ p ∈ l,C.n0<=p.1:=by simp) (hd:(ks.map (sw l)).Nodup:=by decide) (h:a0->(uw ks σ'.xW/\sR σ σ' (sw l) σ'.xW/\xd σ σ' (sw l) f f'):=by intro h0; simp only [vX,zQ,simprocAttr,-ZA,exists_eq_left',ne_eq,zR,h0]; all_goals first | rfl | exact wrap_i64 (by omega) | exact pM (by omega) | exact lE (by omega) | omega):yO C f σ f' σ':=.uz l ks hn h0 hd (h y0)
theorem cY {C:Cx} {f f':Fr} {σ σ':St} {a0 a1:Prop} (l:List (Nat × Nat)) (ks:List Nat) (y0:a0) (y1:a1) (hn:C.n0<=σ'.nx:=by simp) (h0:∀ p ∈ l,C.n0<=p.1:=by simp) (hd:(ks.map (sw l)).Nodup:=by decide) (h:a0->a1->(uw ks σ'.xW/\sR σ σ' (sw l) σ'.xW/\xd σ σ' (sw l) f f'):=by intro h0 h1; simp only [vX,zQ,simprocAttr,-ZA,exists_eq_left',ne_eq,zR,h0,h1]; all_goals first | rfl | exact wrap_i64 (by omega) | exact pM (by omega) | exact lE (by omega) | omega):yO C f σ f' σ':=.uz l ks hn h0 hd (h y0 y1)
theorem ZV {C:Cx} {f f':Fr} {σ σ':St} {a0 a1 a2:Prop} (l:List (Nat × Nat)) (ks:List Nat) (y0:a0) (y1:a1) (y2:a2) (hn:C.n0<=σ'.nx:=by simp) (h0:∀ p ∈ l,C.n0<=p.1:=by simp) (hd:(ks.map (sw l)).Nodup:=by decide) (h:a0->a1->a2->(uw ks σ'.xW/\sR σ σ' (sw l) σ'.xW/\xd σ σ' (sw l) f f'):=by intro h0 h1 h2; simp only [vX,zQ,simprocAttr,-ZA,exists_eq_left',ne_eq,zR,h0,h1,h2]; all_goals first | rfl | exact wrap_i64 (by omega) | exact pM (by omega) | exact lE (by omega) | omega):yO C f σ f' σ':=.uz l ks hn h0 hd (h y0 y1 y2)
end
end Go.Pd

/- Part X8. -/
namespace Go.Pd
open Go
variable [vZ]
def D.fl : D->Bool
 | .int _ _ | .bool _ | .str _ | .vB | .xZ | .emp | .sG | .tX | .uU | .top | .ref .. | .yW .. | .sub .. | .zZ _=>true
 | .agg cs | .yE cs=>cs.attach.all λ⟨d,_⟩=>D.fl d
 | _=>false
def D.r9 (cs:List D):Bool:=cs.all D.fl
theorem fk (cs:List D):(D.agg cs).fl=D.r9 cs:=by rw [D.fl]; simp [D.r9]
theorem fm (cs:List D):(D.yE cs).fl=D.r9 cs:=by rw [D.fl]; simp [D.r9]
theorem gG {cs:List D} (h:D.r9 cs=true) (j:Nat):(cs.getD j .top).fl=true:=by
 by_cases hj:j<cs.length
 ·have:cs.getD j .top=cs[j]:=by simp [List.getD,hj]
  rw [this];exact List.all_eq_true.1 h _ (List.getElem_mem hj)
 ·simp [List.getD,List.getElem?_eq_none (Nat.le_of_not_lt hj),D.fl]
theorem RP.fl {M M':Nat->Prop} {w:World} {v:Value} {d:D} (h:RP M w v d) (hf:d.fl=true):RP M' w v d:=by
 induction h with
 | top v=>exact .top v
 | vB=>exact .vB
 | int h=>exact .int h
 | bool b=>exact .bool b
 | str h=>exact .str h
 | xc=>simp [D.fl] at hf
 | emp a c=>exact .emp a c
 | sl=>simp [D.fl] at hf
 | xZ=>exact .xZ
 | ptr=>simp [D.fl] at hf
 | agg hl hr ih=>rw [fk] at hf; exact .agg hl λj hj=>ih j hj (gG hf j)
 | yE hl hr ih=>rw [fm] at hf; exact .yE hl λj hj=>ih j hj (gG hf j)
 | fn=>simp [D.fl] at hf
 | sG=>exact .sG
 | tX=>exact .tX
 | uU=>exact .uU
 | yy b=>simp [D.fl] at hf
theorem R.fl {M M':Nat->Prop} {w:World} {ι:Nat->Nat} {n:Nat} {v:Value} {d:D} (h:R M w ι n v d) (hf:d.fl=true):R M' w ι n v d:=by
 induction h with
 | pure h=>exact .pure (h.fl hf)
 | ref hk h0=>exact .ref hk h0
 | yW hk h1 h2 h3 h4=>exact .yW hk h1 h2 h3 h4
 | sub hk h1 h2 h3 h4=>exact .sub hk h1 h2 h3 h4
 | zZ hk=>exact .zZ hk
 | agg hl hr ih=>rw [fk] at hf; exact .agg hl λj hj=>ih j hj (gG hf j)
 | yE hl hr ih=>rw [fm] at hf; exact .yE hl λj hj=>ih j hj (gG hf j)
 | fn=>simp [D.fl] at hf
theorem xB.fl {M M':Nat->Prop} {w:World} {ι:Nat->Nat} {n:Nat} {blk:Option Obj} {o:Ob} (h:xB M w ι n blk o) (hf:∀ e ∈ o.xX,D.r9 e=true):xB M' w ι n blk o:=by
 have at_:∀ i j,((o.xX.getD i []).getD j .top).fl=true:=by
  intro i j
  by_cases hi:i<o.xX.length
  ·have:o.xX.getD i []=o.xX[i]:=by simp [List.getD,hi]
   rw [this];exact gG (hf _ (List.getElem_mem hi)) j
  ·have:o.xX.getD i [] = []:=by simp [List.getD,List.getElem?_eq_none (Nat.le_of_not_lt hi)]
   rw [this]; simp [D.fl]
 rcases h with ⟨h0,cur,e,h1,h2,h3,h4⟩ | ⟨h0,es,h1,h2,h3⟩
 ·exact .inl ⟨h0,cur,e,h1,h2,h3,λi hi j hj=>⟨(h4 i hi j hj).1,(h4 i hi j hj).2.fl (at_ i j)⟩⟩
 ·refine .inr ⟨h0,es,h1,h2,λi hi=>?_⟩;obtain⟨kk,v,x,d,g1,g2,g3,g4⟩:=h3 i hi;have a0:=at_ i 0;have a1:=at_ i 1;rw [g1] at a0 a1;exact⟨kk,v,x,d,g1,g2,g3.fl a0,g4.fl a1⟩
def Mk (M0:Nat->Prop) (ι:Nat->Nat) (σ:St) (K:Nat->Prop) (b:Nat):Prop:=M0 b\/∃ k o,K k/\σ.get k=some o/\ι k=b
def Seen (σ:St) (K:Nat->Prop) (d d':D):Prop:=∀ (M0:Nat->Prop) (w:World) (ι:Nat->Nat) (v:Value),yG M0 w σ ι->R (yT M0 ι σ) w ι σ.nx v d->RP (Mk M0 ι σ K) w v d'
def oG (σ:St) (K:Nat->Prop):List D->List D->Prop
 | [],[]=>True
 | d :: ds,c :: cs=>Seen σ K d c/\oG σ K ds cs
 | _,_=>False
theorem Mk.SL {M0:Nat->Prop} {ι:Nat->Nat} {σ:St} {K:Nat->Prop} {b:Nat} (h:Mk M0 ι σ K b):yT M0 ι σ b:=h.imp id λ⟨k,o,_,h1,h2⟩=>⟨k,o,h1,h2⟩
theorem oG.len {σ:St} {K:Nat->Prop}:∀ {ds cs:List D},oG σ K ds cs->ds.length=cs.length
 | [],[],_=>rfl
 | _ :: _,_ :: _,h=>by simp [oG.len h.2]
 | [],_ :: _,h=>h.elim
 | _ :: _,[],h=>h.elim
theorem oG.at_ {σ:St} {K:Nat->Prop}:∀ {ds cs:List D},oG σ K ds cs->∀ j,j<cs.length->Seen σ K (ds.getD j .top) (cs.getD j .top)
 | [],[],_,j,hj=>by simp at hj
 | _ :: _,_ :: _,h,0,_=>by simpa using h.1
 | _ :: _,_ :: _,h,j+1,hj=>by simpa using oG.at_ h.2 j (by simpa using hj)
 | [],_ :: _,h,_,_=>h.elim
 | _ :: _,[],h,_,_=>h.elim
theorem Seen.pure {σ:St} {K:Nat->Prop} {d:D} (h:d.xJ=true):Seen σ K d d:=λ_ _ _ _ _ hR=>(hR.iN h).yR (λ_ _ _=>rfl) λ_ _ hb=>hb.SL
theorem Seen.agg {σ:St} {K:Nat->Prop} {ds cs:List D} (h:oG σ K ds cs):Seen σ K (.agg ds) (.agg cs):=λM0 w ι v hS hR=>by obtain⟨vs,rfl,h1,h2⟩:=hR.kX;have:=h.len;exact .agg (by omega) λj hj=>h.at_ j hj M0 w ι _ hS (h2 j (by omega))
theorem Seen.fn {σ:St} {K:Nat->Prop} {f:FuncId} {ds cs:List D} (h:oG σ K ds cs):Seen σ K (.fn f ds) (.fn f cs):=λM0 w ι v hS hR=>by obtain⟨vs,rfl,h1,h2⟩:=hR.nV;have:=h.len;exact .fn (by omega) λj hj=>h.at_ j hj M0 w ι _ hS (h2 j (by omega))
theorem Mk.not {M0:Nat->Prop} {w:World} {ι:Nat->Nat} {σ:St} {K:Nat->Prop} {key:Nat} {ob:Ob} (hS:yG M0 w σ ι) (hob:σ.get key=some ob) (hk:¬ K key):¬ Mk M0 ι σ K (ι key):=by
 rintro (h | ⟨k,o,h1,h2,h3⟩)
 ·exact hS.notM key ob hob h
 ·exact hk (hS.inj k key o ob h2 hob h3 ▸ h1)
theorem Seen.yW {σ:St} {K:Nat->Prop} {key sz n:Nat} {ob:Ob} {xX:List (List D)} (hob:σ.get key=some ob) (hk:¬ K key) (hs:0<sz) (hsz:ob.sz=sz) (hn:n<=ob.xX.length) (hl:xX.length=n)
  (hrow:∀ e ∈ xX,e.length=sz) (h:∀ i,i<n->∀ j,j<sz->Seen σ K ((ob.xX.getD i []).getD j .top) ((xX.getD i []).getD j .top)):Seen σ K (.yW key sz n) (.sl sz xX):=λM0 w ι v hS hR=>by
 subst hsz; subst hl;obtain⟨cap,cur,e,rfl,k1,k2,k3,k4,k5⟩:=hR.uZ;obtain⟨_,cur',e',c1,c2,c3,c4⟩:=xB.rows (hS.holds key ob hob).2 k4;rw [k4] at c1;simp at c1;obtain⟨rfl,rfl⟩:=c1;refine .sl (λi j=>cur.getD (i*ob.sz+j) undef) hs (Mk.not hS hob hk) k2 k3 hrow (λi hi j hj=>?_) λi hi j hj=>h i hi j hj M0 w ι _ hS (c4 i (by omega) j hj).2
 have:i*ob.sz+j<cur.size:=by have:=qX (m:=ob.xX.length) (i:=i) (j:=j) (sz:=ob.sz) (by omega) hj;omega
 rw [Nat.zero_add,cell_of_row _ _ _ _ _ _ k4];simp [this]
theorem Seen.ref {σ:St} {K:Nat->Prop} {key sz i off:Nat} {ob:Ob} {cs:List D} (hob:σ.get key=some ob) (hk:¬ K key) (hsz:ob.sz=sz) (hi:i<ob.xX.length) (hc:0<cs.length) (hl:off+cs.length<=sz)
  (h:∀ j,j<cs.length->Seen σ K ((ob.xX.getD i []).getD (off+j) .top) (cs.getD j .top)):Seen σ K (.ref key sz i off) (.ptr cs):=λM0 w ι v hS hR=>by
 subst hsz;obtain⟨rfl,k1,k2⟩:=hR.vN;obtain⟨cur,e,c1,c2,c3,c4⟩:=(hS.holds key ob hob).2.cells k2;refine .ptr (λj=>cur.getD (i*ob.sz+(off+j)) undef) hc (Mk.not hS hob hk) (λj hj=>?_) λj hj=>h j hj M0 w ι _ hS (c4 i hi (off+j) (by omega)).2
 have:i*ob.sz+(off+j)<cur.size:=by have:=qX (m:=ob.xX.length) (i:=i) (j:=off+j) (sz:=ob.sz) hi (by omega);omega
 rw [Nat.add_assoc,cell_of_row _ _ _ _ _ _ c1];simp [this]
def Zn (σ:St) (d d':D):Prop:=∀ (M0:Nat->Prop) (w:World) (ι:Nat->Nat) (v:Value),yG M0 w σ ι->R (yT M0 ι σ) w ι σ.nx v d->RP (λ_=>False) w v d'
theorem Seen.f {σ:St} {K:Nat->Prop} {d d':D} (h:Seen σ K d d'):Zn σ d d':=λM0 w ι v hS hR=>(h M0 w ι v hS hR).yR (λ_ _ _=>rfl) λ_ _ hb=>hb.elim
theorem xS.Ve {P:Program} {g:FuncId} {args args':List D} {d:D} {σ:St} (hc:yA P g args' d) (hl':oG σ (λ_=>False) args args') (hf:d.flat=true):xS P g args σ d σ:=by
 refine⟨hc.ord,λM0 w ι vals hS hl hv=>?_⟩;have S1:yG (λ_=>False) w mR ι:=⟨λb hb=>hb.elim,(λk o hk=>by cases hk),(λk k' o o' hk=>by cases hk),(λk o hk=>by cases hk),hS.rZ.yR (γ _) (λ_ _ _=>rfl) λb _ hb=>hb.elim False.elim λ⟨k,o,hk,_⟩=>by cases hk⟩
 have e1:∀ (ι':Nat->Nat) b,yT (λ_=>False) ι' mR b->False:=by
  intro ι' b hb
  rcases hb with hb | ⟨k,o,hk,_⟩
  ·exact hb
  ·cases hk
 have hlen:=hl'.len;refine(hc.run _ w ι vals S1 (by omega) λj hj=>.pure (((hl'.at_ j hj).f M0 w ι _ hS (hv j (by omega))).yR (λ_ _ _=>rfl) λb _ hb=>e1 ι b hb)).mono λe w' hh=>?_;obtain⟨v,ι',rfl,k1,k2,k3,k4,k5,k6⟩:=hh;have K0:Kept w w' λ_=>False:=k1.mono λb _ ⟨k,o,hk,_⟩=>by cases hk
 exact⟨v,ι,rfl,K0.none _,hS.ext K0,γ _,λ_ _=>rfl,λk o hk=>.inr ⟨k,o,hk,rfl⟩,.pure (k6.zero.flat hf)⟩
theorem xS.Ws {P:Program} {g:FuncId} {args args':List D} {d:D} {σ:St} {m:Nat} {xW:List (Nat × Ob)} (hc:xS P g args' mR d ⟨m,xW⟩) (hlen:args.length=args'.length) (ats:∀ j,j<args'.length->Zn σ (args.getD j .top) (args'.getD j .top)) (hf:d.fl=true) (ho:∀ p ∈ xW,∀ e ∈ p.2.xX,D.r9 e=true) :
  xS P g args σ (d.shift σ.nx) ⟨σ.nx+m,yN σ.nx xW++σ.xW⟩:=by
 refine⟨hc.ord,λM0 w ι vals hS hl hv=>?_⟩;have S1:yG (λ_=>False) w mR ι:=⟨λb hb=>hb.elim,(λk o hk=>by cases hk),(λk k' o o' hk=>by cases hk),(λk o hk=>by cases hk),hS.rZ.yR (γ _) (λ_ _ _=>rfl) λb _ hb=>hb.elim False.elim λ⟨k,o,hk,_⟩=>by cases hk⟩
 have e1:∀ (ι':Nat->Nat) b,yT (λ_=>False) ι' mR b->False:=by
  intro ι' b hb
  rcases hb with hb | ⟨k,o,hk,_⟩
  ·exact hb
  ·cases hk
 refine(hc.run _ w ι vals S1 (by omega) λj hj=>.pure ((ats j hj M0 w ι _ hS (hv j (by omega))).yR (λ_ _ _=>rfl) λb _ hb=>e1 ι b hb)).mono λe w' hh=>?_;obtain⟨v,ι',rfl,k1,k2,k3,k4,k5,k6⟩:=hh;have K0:Kept w w' λ_=>False:=k1.mono λb _ ⟨k,o,hk,_⟩=>by cases hk
 let ιn:Nat->Nat:=λk=>if k<σ.nx then ι k else ι' (k-σ.nx)
 have n1:∀ k,k<σ.nx->ιn k=ι k:=λk hk=>by simp only [ιn,if_pos hk]
 have n2:∀ k,ιn (σ.nx+k)= ι' k:=λk=>by simp only [ιn,if_neg (show ¬ (σ.nx+k<σ.nx) by omega)];congr 1; omega
 have lk:∀ k o,St.get ⟨σ.nx+m,yN σ.nx xW++σ.xW⟩ k=some o->(∃ k0 o0,k=σ.nx+k0/\St.get ⟨m,xW⟩ k0=some o0/\o=o0.shift σ.nx)\/(k<σ.nx/\σ.get k=some o):=by
  intro k o hk;unfold St.get at hk;simp only at hk;rw [vH] at hk
  cases h1:St.look (yN σ.nx xW) k with
  | some o1=> rw [h1] at hk;simp at hk; subst hk;exact .inl (lZ _ _ _ _ h1)
  | none=> rw [h1] at hk;simp at hk;exact .inr ⟨(hS.holds k o hk).1,hk⟩
 have fresh:∀ k o,St.get ⟨m,xW⟩ k=some o->w.heap.size<=ι' k:=by
  intro k o hk
  rcases k5 _ _ hk with h | ⟨k0,o0,hk0,_⟩
  ·exact h
  ·cases hk0
 have mm:∀ b,b<w.heap.size->yT M0 ιn ⟨σ.nx+m,yN σ.nx xW++σ.xW⟩ b->yT M0 ι σ b:=by
  intro b hb hm
  rcases hm with hm | ⟨k,o,hk,rfl⟩
  ·exact .inl hm
  ·rcases lk k o hk with ⟨k0,o0,rfl,h2,_⟩ | ⟨h1,h2⟩
   ·have:=fresh k0 o0 h2;rw [n2] at hb;omega
   ·exact .inr ⟨k,o,h2,(n1 k h1).symm⟩
 have mv:∀ b,yT M0 ιn ⟨σ.nx+m,yN σ.nx xW++σ.xW⟩ b->yT (yT M0 ι σ) ι' ⟨m,xW⟩ b:=by
  intro b hm
  rcases hm with hm | ⟨k,o,hk,rfl⟩
  ·exact .inl (.inl hm)
  ·rcases lk k o hk with ⟨k0,o0,rfl,h2,_⟩ | ⟨h1,h2⟩
   ·exact .inr ⟨k0,o0,h2,(n2 k0).symm⟩
   ·exact .inl (.inr ⟨k,o,h2,(n1 k h1).symm⟩)
 refine⟨v,ιn,rfl,K0.none _,⟨λb hb=>Nat.lt_of_lt_of_le (hS.uD b hb) K0.size,λk o hk=>?_,λk k' o o' hk hk' e=>?_,λk o hk hm=>?_,hS.rZ.yR K0.size (λb hb hM=>K0.block b hb id) λb hb hm=>mm b hb hm⟩,Nat.le_add_right _ _,n1,λk o hk=>?_,R.shift mv (λk _=>n2 k) (k6.fl hf)⟩
 ·rcases lk k o hk with ⟨k0,o0,rfl,h2,rfl⟩ | ⟨h1,h2⟩
  ·obtain⟨g1,g20⟩:=k2.holds k0 o0 h2;have g2:xB (yT (yT M0 ι σ) ι' ⟨m,xW⟩) w' ι' m w'.heap[ι' k0]? o0:=g20.fl (ho (k0,o0) (zA h2));have glt:k0<m:=g1;rcases g2 with ⟨s0,cur,e,c1,c2,c3,c4⟩ | ⟨s0,es,c1,c2,c3⟩
   case inr=>
    refine⟨by show σ.nx+k0<σ.nx+m; omega,.inr ⟨s0,es,by rw [n2]; exact c1,by simpa [Ob.shift] using c2,λi hi=>?_⟩⟩;simp only [Ob.shift,List.length_map] at hi ⊢;obtain⟨kk,v,x,d,r1,r2,r3,r4⟩:=c3 i hi;refine⟨kk,v,x.shift σ.nx,d.shift σ.nx,?_,r2,R.shift mv (λk _=>n2 k) r3,R.shift mv (λk _=>n2 k) r4⟩;have:(o0.xX.map (D.yJ σ.nx)).getD i []=D.yJ σ.nx (o0.xX.getD i []):=by simp [List.getD,hi]
    rw [this,r1]; rfl
   refine⟨by show σ.nx+k0<σ.nx+m; omega,.inl ⟨s0,cur,e,by rw [n2]; exact c1,λel he=>?_,by simpa [Ob.shift] using c3,λi hi j hj=>?_⟩⟩
   ·simp only [Ob.shift,List.mem_map] at he ⊢;obtain⟨el',h3,rfl⟩:=he;rw [vF]; exact c2 _ h3
   ·simp only [Ob.shift,List.length_map] at hi hj ⊢;have h3:=c4 i hi j hj
    have e2:((o0.xX.map (D.yJ σ.nx)).getD i []).getD j .top=((o0.xX.getD i []).getD j .top).shift σ.nx:=by
     have:(o0.xX.map (D.yJ σ.nx)).getD i []=D.yJ σ.nx (o0.xX.getD i []):=by simp [List.getD,hi]
     rw [this,sM]
    rw [e2];exact⟨h3.1,R.shift mv (λk _=>n2 k) h3.2⟩
  ·obtain⟨g1,g2⟩:=hS.holds k o h2;exact⟨by show k<σ.nx+m; omega,g2.yR (K0.block _ (tU.lt hS ⟨k,o,h2,rfl⟩) id) (n1 k h1) (λb hb _=>K0.block b hb id) (λb hb hm=>mm b hb hm) K0.shape n1 (Nat.le_add_right _ _)⟩
 ·rcases lk k o hk with ⟨k0,o0,rfl,h2,rfl⟩ | ⟨h1,h2⟩ <;> rcases lk k' o' hk' with ⟨k0',o0',rfl,h2',rfl⟩ | ⟨h1',h2'⟩
  ·rw [n2,n2] at e;rw [k2.inj _ _ _ _ h2 h2' e]
  ·rw [n2,n1 k' h1'] at e;have:=fresh _ _ h2;have:=tU.lt hS ⟨k',o',h2',rfl⟩;omega
  ·rw [n1 k h1,n2] at e;have:=fresh _ _ h2';have:=tU.lt hS ⟨k,o,h2,rfl⟩;omega
  ·rw [n1 k h1,n1 k' h1'] at e;exact hS.inj _ _ _ _ h2 h2' e
 ·rcases lk k o hk with ⟨k0,o0,rfl,h2,rfl⟩ | ⟨h1,h2⟩
  ·rw [n2] at hm;have:=fresh _ _ h2;have:=hS.uD _ hm;omega
  ·rw [n1 k h1] at hm;exact hS.notM k o h2 hm
 ·rcases lk k o hk with ⟨k0,o0,rfl,h2,rfl⟩ | ⟨h1,h2⟩
  ·rw [n2]; exact .inl (fresh _ _ h2)
  ·rw [n1 k h1]; exact .inr ⟨k,o,h2,rfl⟩
theorem xS.Wt {P:Program} {g:FuncId} {args args':List D} {d:D} {σ:St} {m:Nat} {xW:List (Nat × Ob)} (hc:xS P g args' mR d ⟨m,xW⟩) (hl':oG σ (λ_=>False) args args') (hf:d.fl=true) (ho:∀ p ∈ xW,∀ e ∈ p.2.xX,D.r9 e=true) :
  xS P g args σ (d.shift σ.nx) ⟨σ.nx+m,yN σ.nx xW++σ.xW⟩:=xS.Ws hc hl'.len (λj hj=>(hl'.at_ j hj).f) hf ho
theorem yG.sub {M0:Nat->Prop} {w:World} {σ:St} {ι:Nat->Nat} {objs':List (Nat × Ob)} (h:yG M0 w σ ι) (hs:∀ k o,St.look objs' k=some o->σ.get k=some o):yG M0 w ⟨σ.nx,objs'⟩ ι:=
 have hm:∀ b,yT M0 ι ⟨σ.nx,objs'⟩ b->yT M0 ι σ b:=λb hb=>hb.imp id λ⟨k,o,h1,h2⟩=>⟨k,o,hs k o h1,h2⟩
 ⟨h.uD,λk o hk=>⟨(h.holds k o (hs k o hk)).1,(h.holds k o (hs k o hk)).2.yR rfl rfl (λ_ _ _=>rfl) (λb _ hb=>hm b hb) (λb cur e hc=>⟨cur,hc,rfl⟩) (λ_ _=>rfl) (γ _)⟩,
  λk k' o o' hk hk'=>h.inj k k' o o' (hs k o hk) (hs k' o' hk'),λk o hk=>h.notM k o (hs k o hk),h.rZ.yR (γ _) (λ_ _ _=>rfl) λb _ hb=>hm b hb⟩
theorem Seen.rows {σ:St} {K:Nat->Prop} {key sz n:Nat} {xX:List (List D)} (hob:σ.get key=some ⟨sz,xX⟩) (hk:¬ K key) (hs:0<sz) (hn:n=xX.length) (hrow:∀ e ∈ xX,e.length=sz) (hp:∀ e ∈ xX,D.xT e=true):Seen σ K (.yW key sz n) (.sl sz xX):=by
 subst hn;refine Seen.yW hob hk hs rfl (γ _) rfl hrow λi hi j hj=>?_;have hm:xX.getD i [] ∈ xX:=by simp [List.getD,hi]
 exact .pure (wM (hp _ hm) j)
end Go.Pd
