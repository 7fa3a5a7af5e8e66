/- Part XS. -/
import Derived.Test.YtccobgpcnfjbhaaZtX6
set_option linter.unusedSectionVars false
set_option linter.unusedVariables false
set_option linter.unusedSimpArgs false
set_option linter.defProp false
set_option maxRecDepth 20000
set_option maxHeartbeats 1000000
open Nat renaming le_refl->γ
namespace Go.Pd
open Go
structure Hid (q : Prop) : Prop where
 out:q
section
variable [vU]
theorem yQ {p q:Prop}  (k:q) (e:Hid q->p:=by intro  k; simp only [simprocAttr,-ZA,↓zU,↓zD,zV,zT,zW]; exact k.out):p:=e  ⟨k⟩
theorem yF {p q a0:Prop} (h0:a0) (k:q) (e:a0->Hid q->p:=by intro h0 k; simp only [simprocAttr,-ZA,↓zU,↓zD,zV,zT,zW,h0]; exact k.out):p:=e h0 ⟨k⟩
theorem mX {p q a0 a1:Prop} (h0:a0) (h1:a1) (k:q) (e:a0->a1->Hid q->p:=by intro h0 h1 k; simp only [simprocAttr,-ZA,↓zU,↓zD,zV,zT,zW,h0,h1]; exact k.out):p:=e h0 h1 ⟨k⟩
theorem jl {p q a0 a1 a2:Prop} (h0:a0) (h1:a1) (h2:a2) (k:q) (e:a0->a1->a2->Hid q->p:=by intro h0 h1 h2 k; simp only [simprocAttr,-ZA,↓zU,↓zD,zV,zT,zW,h0,h1,h2]; exact k.out):p:=e h0 h1 h2 ⟨k⟩
theorem WV {p q a0 a1 a2 a3:Prop} (h0:a0) (h1:a1) (h2:a2) (h3:a3) (k:q) (e:a0->a1->a2->a3->Hid q->p:=by intro h0 h1 h2 h3 k; simp only [simprocAttr,-ZA,↓zU,↓zD,zV,zT,zW,h0,h1,h2,h3]; exact k.out):p:=e h0 h1 h2 h3 ⟨k⟩
theorem RR {p q a0 a1 a2 a3 a4:Prop} (h0:a0) (h1:a1) (h2:a2) (h3:a3) (h4:a4) (k:q) (e:a0->a1->a2->a3->a4->Hid q->p:=by intro h0 h1 h2 h3 h4 k; simp only [simprocAttr,-ZA,↓zU,↓zD,zV,zT,zW,h0,h1,h2,h3,h4]; exact k.out):p:=e h0 h1 h2 h3 h4 ⟨k⟩
theorem O8 {p q a0 a1 a2 a3 a4 a5:Prop} (h0:a0) (h1:a1) (h2:a2) (h3:a3) (h4:a4) (h5:a5) (k:q) (e:a0->a1->a2->a3->a4->a5->Hid q->p:=by intro h0 h1 h2 h3 h4 h5 k; simp only [simprocAttr,-ZA,↓zU,↓zD,zV,zT,zW,h0,h1,h2,h3,h4,h5]; exact k.out):p:=e h0 h1 h2 h3 h4 h5 ⟨k⟩
theorem O9 {p q a0 a1 a2 a3 a4 a5 a6 a7:Prop} (h0:a0) (h1:a1) (h2:a2) (h3:a3) (h4:a4) (h5:a5) (h6:a6) (h7:a7) (k:q) (e:a0->a1->a2->a3->a4->a5->a6->a7->Hid q->p:=by intro h0 h1 h2 h3 h4 h5 h6 h7 k; simp only [simprocAttr,-ZA,↓zU,↓zD,zV,zT,zW,h0,h1,h2,h3,h4,h5,h6,h7]; exact k.out):p:=e h0 h1 h2 h3 h4 h5 h6 h7 ⟨k⟩
theorem RS {p q a0 a1 a2 a3 a4 a5 a6 a7 a8:Prop} (h0:a0) (h1:a1) (h2:a2) (h3:a3) (h4:a4) (h5:a5) (h6:a6) (h7:a7) (h8:a8) (k:q) (e:a0->a1->a2->a3->a4->a5->a6->a7->a8->Hid q->p:=by intro h0 h1 h2 h3 h4 h5 h6 h7 h8 k; simp only [simprocAttr,-ZA,↓zU,↓zD,zV,zT,zW,h0,h1,h2,h3,h4,h5,h6,h7,h8]; exact k.out):p:=e h0 h1 h2 h3 h4 h5 h6 h7 h8 ⟨k⟩
theorem QX {p q a0 a1 a2 a3 a4 a5 a6 a7 a8 a9:Prop} (h0:a0) (h1:a1) (h2:a2) (h3:a3) (h4:a4) (h5:a5) (h6:a6) (h7:a7) (h8:a8) (h9:a9) (k:q) (e:a0->a1->a2->a3->a4->a5->a6->a7->a8->a9->Hid q->p:=by intro h0 h1 h2 h3 h4 h5 h6 h7 h8 h9 k; simp only [simprocAttr,-ZA,↓zU,↓zD,zV,zT,zW,h0,h1,h2,h3,h4,h5,h6,h7,h8,h9]; exact k.out):p:=e h0 h1 h2 h3 h4 h5 h6 h7 h8 h9 ⟨k⟩
theorem Tx {p q a0 a1 a2 a3 a4 a5 a6 a7 a8 a9 a10:Prop} (h0:a0) (h1:a1) (h2:a2) (h3:a3) (h4:a4) (h5:a5) (h6:a6) (h7:a7) (h8:a8) (h9:a9) (h10:a10) (k:q) (e:a0->a1->a2->a3->a4->a5->a6->a7->a8->a9->a10->Hid q->p:=by intro h0 h1 h2 h3 h4 h5 h6 h7 h8 h9 h10 k; simp only [simprocAttr,-ZA,↓zU,↓zD,zV,zT,zW,h0,h1,h2,h3,h4,h5,h6,h7,h8,h9,h10]; exact k.out):p:=e h0 h1 h2 h3 h4 h5 h6 h7 h8 h9 h10 ⟨k⟩
theorem nA {p q:Prop}  (k:q) (e:Hid q->p:=by intro  k; simp only [simprocAttr,-ZA,↓zU,↓zD,zV,zT,zW]; (repeat refine sd ?_); exact k.out):p:=e  ⟨k⟩
theorem qV {p q a0:Prop} (h0:a0) (k:q) (e:a0->Hid q->p:=by intro h0 k; simp only [simprocAttr,-ZA,↓zU,↓zD,zV,zT,zW,h0]; (repeat refine sd ?_); exact k.out):p:=e h0 ⟨k⟩
theorem zg {p q a0 a1:Prop} (h0:a0) (h1:a1) (k:q) (e:a0->a1->Hid q->p:=by intro h0 h1 k; simp only [simprocAttr,-ZA,↓zU,↓zD,zV,zT,zW,h0,h1]; (repeat refine sd ?_); exact k.out):p:=e h0 h1 ⟨k⟩
theorem ai {p q a0 a1 a2:Prop} (h0:a0) (h1:a1) (h2:a2) (k:q) (e:a0->a1->a2->Hid q->p:=by intro h0 h1 h2 k; simp only [simprocAttr,-ZA,↓zU,↓zD,zV,zT,zW,h0,h1,h2]; (repeat refine sd ?_); exact k.out):p:=e h0 h1 h2 ⟨k⟩
theorem RT {p q a0 a1 a2 a3:Prop} (h0:a0) (h1:a1) (h2:a2) (h3:a3) (k:q) (e:a0->a1->a2->a3->Hid q->p:=by intro h0 h1 h2 h3 k; simp only [simprocAttr,-ZA,↓zU,↓zD,zV,zT,zW,h0,h1,h2,h3]; (repeat refine sd ?_); exact k.out):p:=e h0 h1 h2 h3 ⟨k⟩
theorem TR {p q a0 a1 a2 a3 a4:Prop} (h0:a0) (h1:a1) (h2:a2) (h3:a3) (h4:a4) (k:q) (e:a0->a1->a2->a3->a4->Hid q->p:=by intro h0 h1 h2 h3 h4 k; simp only [simprocAttr,-ZA,↓zU,↓zD,zV,zT,zW,h0,h1,h2,h3,h4]; (repeat refine sd ?_); exact k.out):p:=e h0 h1 h2 h3 h4 ⟨k⟩
theorem OA {p q a0 a1 a2 a3 a4 a5:Prop} (h0:a0) (h1:a1) (h2:a2) (h3:a3) (h4:a4) (h5:a5) (k:q) (e:a0->a1->a2->a3->a4->a5->Hid q->p:=by intro h0 h1 h2 h3 h4 h5 k; simp only [simprocAttr,-ZA,↓zU,↓zD,zV,zT,zW,h0,h1,h2,h3,h4,h5]; (repeat refine sd ?_); exact k.out):p:=e h0 h1 h2 h3 h4 h5 ⟨k⟩
theorem RU {p q a0 a1 a2 a3 a4 a5 a6:Prop} (h0:a0) (h1:a1) (h2:a2) (h3:a3) (h4:a4) (h5:a5) (h6:a6) (k:q) (e:a0->a1->a2->a3->a4->a5->a6->Hid q->p:=by intro h0 h1 h2 h3 h4 h5 h6 k; simp only [simprocAttr,-ZA,↓zU,↓zD,zV,zT,zW,h0,h1,h2,h3,h4,h5,h6]; (repeat refine sd ?_); exact k.out):p:=e h0 h1 h2 h3 h4 h5 h6 ⟨k⟩
theorem OB {p q a0 a1 a2 a3 a4 a5 a6 a7 a8:Prop} (h0:a0) (h1:a1) (h2:a2) (h3:a3) (h4:a4) (h5:a5) (h6:a6) (h7:a7) (h8:a8) (k:q) (e:a0->a1->a2->a3->a4->a5->a6->a7->a8->Hid q->p:=by intro h0 h1 h2 h3 h4 h5 h6 h7 h8 k; simp only [simprocAttr,-ZA,↓zU,↓zD,zV,zT,zW,h0,h1,h2,h3,h4,h5,h6,h7,h8]; (repeat refine sd ?_); exact k.out):p:=e h0 h1 h2 h3 h4 h5 h6 h7 h8 ⟨k⟩
theorem Qa {p q a0 a1 a2 a3 a4 a5 a6 a7 a8 a9:Prop} (h0:a0) (h1:a1) (h2:a2) (h3:a3) (h4:a4) (h5:a5) (h6:a6) (h7:a7) (h8:a8) (h9:a9) (k:q) (e:a0->a1->a2->a3->a4->a5->a6->a7->a8->a9->Hid q->p:=by intro h0 h1 h2 h3 h4 h5 h6 h7 h8 h9 k; simp only [simprocAttr,-ZA,↓zU,↓zD,zV,zT,zW,h0,h1,h2,h3,h4,h5,h6,h7,h8,h9]; (repeat refine sd ?_); exact k.out):p:=e h0 h1 h2 h3 h4 h5 h6 h7 h8 h9 ⟨k⟩
theorem sV {C:Cx} {f f':Fr} {σ:St} (h:zL f f':=by simp [zL,Fr.get]):yV C f σ f' σ:=.same h
theorem zf {C:Cx} {f f':Fr} {σ:St} (h:zL f f':=by simp only [zL,Fr.get,simprocAttr,-BitVec.isValue,D.int.injEq,D.bool.injEq,D.sl.injEq,and_true,true_and,and_self]; all_goals first | rfl | exact wrap_i64 (by omega) | exact wrap_up' (by omega) | exact yB (by omega) | omega):yV C f σ f' σ:=.same h
theorem RM {C:Cx} {f f':Fr} {σ σ':St} (l:List (Nat × Nat)) (ks:List Nat) (h:ak ks σ'.xY/\rI σ σ' (sw l) σ'.xY/\uk σ σ' (sw l) f f') (hn:C.n0<=σ'.nx:=by simp) (h0:∀ p ∈ l,C.n0<=p.1:=by simp) (hd:(ks.map (sw l)).Nodup:=by decide):yV C f σ f' σ':=.Q1 l ks hn h0 hd h
theorem RK {C:Cx} {f f':Fr} {σ σ':St}  (l:List (Nat × Nat)) (ks:List Nat)  (hn:C.n0<=σ'.nx:=by simp) (h0:∀ p ∈ l,C.n0<=p.1:=by simp) (hd:(ks.map (sw l)).Nodup:=by decide) (h:(ak ks σ'.xY/\rI σ σ' (sw l) σ'.xY/\uk σ σ' (sw l) f f'):=by simp only [eA,zQ,simprocAttr,-ZA,exists_eq_left',ne_eq,zR]; all_goals first | rfl | exact wrap_i64 (by omega) | exact wrap_up' (by omega) | exact yB (by omega) | omega):yV C f σ f' σ':=.Q1 l ks hn h0 hd h
theorem RL {C:Cx} {f f':Fr} {σ σ':St} {a0:Prop} (l:List (Nat × Nat)) (ks:List Nat) (y0:a0) (hn:C.n0<=σ'.nx:=by simp) (h0:∀ p ∈ l,C.n0<=p.1:=by simp) (hd:(ks.map (sw l)).Nodup:=by decide) (h:a0->(ak ks σ'.xY/\rI σ σ' (sw l) σ'.xY/\uk σ σ' (sw l) f f'):=by intro h0; simp only [eA,zQ,simprocAttr,-ZA,exists_eq_left',ne_eq,zR,h0]; all_goals first | rfl | exact wrap_i64 (by omega) | exact wrap_up' (by omega) | exact yB (by omega) | omega):yV C f σ f' σ':=.Q1 l ks hn h0 hd (h y0)
theorem O7 {C:Cx} {f f':Fr} {σ σ':St} {a0 a1:Prop} (l:List (Nat × Nat)) (ks:List Nat) (y0:a0) (y1:a1) (hn:C.n0<=σ'.nx:=by simp) (h0:∀ p ∈ l,C.n0<=p.1:=by simp) (hd:(ks.map (sw l)).Nodup:=by decide) (h:a0->a1->(ak ks σ'.xY/\rI σ σ' (sw l) σ'.xY/\uk σ σ' (sw l) f f'):=by intro h0 h1; simp only [eA,zQ,simprocAttr,-ZA,exists_eq_left',ne_eq,zR,h0,h1]; all_goals first | rfl | exact wrap_i64 (by omega) | exact wrap_up' (by omega) | exact yB (by omega) | omega):yV C f σ f' σ':=.Q1 l ks hn h0 hd (h y0 y1)
end
end Go.Pd

/- Part X8. -/
namespace Go.Pd
open Go
variable [vU]
def D.fl : D->Bool
 | .int _ _ | .bool _ | .str _ | .vP | .xU | .emp | .sY | .uA | .uL | .top | .ref .. | .xP .. | .sub .. | .xG _=>true
 | .agg cs | .xI cs=>cs.attach.all λ⟨d,_⟩=>D.fl d
 | _=>false
def D.Wb (cs:List D):Bool:=cs.all D.fl
theorem iv (cs:List D):(D.agg cs).fl=D.Wb cs:=by rw [D.fl]; simp [D.Wb]
theorem iw (cs:List D):(D.xI cs).fl=D.Wb cs:=by rw [D.fl]; simp [D.Wb]
theorem cM {cs:List D} (h:D.Wb cs=true) (j:Nat):(cs.getD j .top).fl=true:=by
 by_cases hj:j<cs.length
 ·have:cs.getD j .top=cs[j]:=by simp [List.getD,hj]
  rw [this];exact List.all_eq_true.1 h _ (List.getElem_mem hj)
 ·simp [List.getD,List.getElem?_eq_none (Nat.le_of_not_lt hj),D.fl]
theorem RP.fl {M M':Nat->Prop} {w:World} {v:Value} {d:D} (h:RP M w v d) (hf:d.fl=true):RP M' w v d:=by
 induction h with
 | top v=>exact .top v
 | vP=>exact .vP
 | int h=>exact .int h
 | bool b=>exact .bool b
 | str h=>exact .str h
 | uh=>simp [D.fl] at hf
 | emp a c=>exact .emp a c
 | sl=>simp [D.fl] at hf
 | xU=>exact .xU
 | ptr=>simp [D.fl] at hf
 | agg hl hr ih=>rw [iv] at hf; exact .agg hl λj hj=>ih j hj (cM hf j)
 | xI hl hr ih=>rw [iw] at hf; exact .xI hl λj hj=>ih j hj (cM hf j)
 | fn=>simp [D.fl] at hf
 | sY=>exact .sY
 | uA=>exact .uA
 | uL=>exact .uL
 | kI b=>simp [D.fl] at hf
theorem R.fl {M M':Nat->Prop} {w:World} {ι:Nat->Nat} {n:Nat} {v:Value} {d:D} (h:R M w ι n v d) (hf:d.fl=true):R M' w ι n v d:=by
 induction h with
 | pure h=>exact .pure (h.fl hf)
 | ref hk h0=>exact .ref hk h0
 | xP hk h1 h2 h3 h4=>exact .xP hk h1 h2 h3 h4
 | sub hk h1 h2 h3 h4=>exact .sub hk h1 h2 h3 h4
 | xG hk=>exact .xG hk
 | agg hl hr ih=>rw [iv] at hf; exact .agg hl λj hj=>ih j hj (cM hf j)
 | xI hl hr ih=>rw [iw] at hf; exact .xI hl λj hj=>ih j hj (cM hf j)
 | fn=>simp [D.fl] at hf
theorem xB.fl {M M':Nat->Prop} {w:World} {ι:Nat->Nat} {n:Nat} {nC:Option Obj} {o:Ob} (h:xB M w ι n nC o) (hf:∀ e ∈ o.xZ,D.Wb e=true):xB M' w ι n nC o:=by
 have at_:∀ i j,((o.xZ.getD i []).getD j .top).fl=true:=by
  intro i j
  by_cases hi:i<o.xZ.length
  ·have:o.xZ.getD i []=o.xZ[i]:=by simp [List.getD,hi]
   rw [this];exact cM (hf _ (List.getElem_mem hi)) j
  ·have:o.xZ.getD i [] = []:=by simp [List.getD,List.getElem?_eq_none (Nat.le_of_not_lt hi)]
   rw [this]; simp [D.fl]
 rcases h with ⟨h0,cur,e,h1,h2,h3,h4⟩ | ⟨h0,es,h1,h2,h3⟩
 ·exact .inl ⟨h0,cur,e,h1,h2,h3,λi hi j hj=>⟨(h4 i hi j hj).1,(h4 i hi j hj).2.fl (at_ i j)⟩⟩
 ·refine .inr ⟨h0,es,h1,h2,λi hi=>?_⟩;obtain⟨kk,v,x,d,g1,g2,g3,g4⟩:=h3 i hi;have a0:=at_ i 0;have a1:=at_ i 1;rw [g1] at a0 a1;exact⟨kk,v,x,d,g1,g2,g3.fl a0,g4.fl a1⟩
def Mk (M0:Nat->Prop) (ι:Nat->Nat) (σ:St) (K:Nat->Prop) (b:Nat):Prop:=M0 b\/∃ k o,K k/\σ.get k=some o/\ι k=b
def Seen (σ:St) (K:Nat->Prop) (d d':D):Prop:=∀ (M0:Nat->Prop) (w:World) (ι:Nat->Nat) (v:Value),yC M0 w σ ι->R (yR M0 ι σ) w ι σ.nx v d->RP (Mk M0 ι σ K) w v d'
def pR (σ:St) (K:Nat->Prop):List D->List D->Prop
 | [],[]=>True
 | d :: ds,c :: cs=>Seen σ K d c/\pR σ K ds cs
 | _,_=>False
theorem Mk.ML {M0:Nat->Prop} {ι:Nat->Nat} {σ:St} {K:Nat->Prop} {b:Nat} (h:Mk M0 ι σ K b):yR M0 ι σ b:=h.imp id λ⟨k,o,_,h1,h2⟩=>⟨k,o,h1,h2⟩
theorem pR.len {σ:St} {K:Nat->Prop}:∀ {ds cs:List D},pR σ K ds cs->ds.length=cs.length
 | [],[],_=>rfl
 | _ :: _,_ :: _,h=>by simp [pR.len h.2]
 | [],_ :: _,h=>h.elim
 | _ :: _,[],h=>h.elim
theorem pR.at_ {σ:St} {K:Nat->Prop}:∀ {ds cs:List D},pR σ K ds cs->∀ j,j<cs.length->Seen σ K (ds.getD j .top) (cs.getD j .top)
 | [],[],_,j,hj=>by simp at hj
 | _ :: _,_ :: _,h,0,_=>by simpa using h.1
 | _ :: _,_ :: _,h,j+1,hj=>by simpa using pR.at_ h.2 j (by simpa using hj)
 | [],_ :: _,h,_,_=>h.elim
 | _ :: _,[],h,_,_=>h.elim
theorem Seen.pure {σ:St} {K:Nat->Prop} {d:D} (h:d.xH=true):Seen σ K d d:=λ_ _ _ _ _ hR=>(hR.eI h).yY (λ_ _ _=>rfl) λ_ _ hb=>hb.ML
theorem Seen.agg {σ:St} {K:Nat->Prop} {ds cs:List D} (h:pR σ K ds cs):Seen σ K (.agg ds) (.agg cs):=λM0 w ι v hS hR=>by obtain⟨vs,rfl,h1,h2⟩:=hR.iV;have:=h.len;exact .agg (by omega) λj hj=>h.at_ j hj M0 w ι _ hS (h2 j (by omega))
theorem Seen.xI {σ:St} {K:Nat->Prop} {ds cs:List D} (h:pR σ K ds cs):Seen σ K (.xI ds) (.xI cs):=λM0 w ι v hS hR=>by obtain⟨vs,rfl,h1,h2⟩:=hR.vz;have:=h.len;exact .xI (by omega) λj hj=>h.at_ j hj M0 w ι _ hS (h2 j (by omega))
theorem Seen.fn {σ:St} {K:Nat->Prop} {f:FuncId} {ds cs:List D} (h:pR σ K ds cs):Seen σ K (.fn f ds) (.fn f cs):=λM0 w ι v hS hR=>by obtain⟨vs,rfl,h1,h2⟩:=hR.jY;have:=h.len;exact .fn (by omega) λj hj=>h.at_ j hj M0 w ι _ hS (h2 j (by omega))
theorem Mk.not {M0:Nat->Prop} {w:World} {ι:Nat->Nat} {σ:St} {K:Nat->Prop} {key:Nat} {ob:Ob} (hS:yC M0 w σ ι) (hob:σ.get key=some ob) (hk:¬ K key):¬ Mk M0 ι σ K (ι key):=by
 rintro (h | ⟨k,o,h1,h2,h3⟩)
 ·exact hS.notM key ob hob h
 ·exact hk (hS.inj k key o ob h2 hob h3 ▸ h1)
theorem Seen.xP {σ:St} {K:Nat->Prop} {key sz n:Nat} {ob:Ob} {xZ:List (List D)} (hob:σ.get key=some ob) (hk:¬ K key) (hs:0<sz) (hsz:ob.sz=sz) (hn:n<=ob.xZ.length) (hl:xZ.length=n)
  (hrow:∀ e ∈ xZ,e.length=sz) (h:∀ i,i<n->∀ j,j<sz->Seen σ K ((ob.xZ.getD i []).getD j .top) ((xZ.getD i []).getD j .top)):Seen σ K (.xP key sz n) (.sl sz xZ):=λM0 w ι v hS hR=>by
 subst hsz; subst hl;obtain⟨cap,cur,e,rfl,k1,k2,k3,k4,k5⟩:=hR.uD;obtain⟨_,cur',e',c1,c2,c3,c4⟩:=xB.rows (hS.holds key ob hob).2 k4;rw [k4] at c1;simp at c1;obtain⟨rfl,rfl⟩:=c1;refine .sl (λi j=>cur.getD (i*ob.sz+j) undef) hs (Mk.not hS hob hk) k2 k3 hrow (λi hi j hj=>?_) λi hi j hj=>h i hi j hj M0 w ι _ hS (c4 i (by omega) j hj).2
 have:i*ob.sz+j<cur.size:=by have:=qQ (m:=ob.xZ.length) (i:=i) (j:=j) (sz:=ob.sz) (by omega) hj;omega
 rw [Nat.zero_add,cell_of_row _ _ _ _ _ _ k4];simp [this]
theorem Seen.ref {σ:St} {K:Nat->Prop} {key sz i off:Nat} {ob:Ob} {cs:List D} (hob:σ.get key=some ob) (hk:¬ K key) (hsz:ob.sz=sz) (hi:i<ob.xZ.length) (hc:0<cs.length) (hl:off+cs.length<=sz)
  (h:∀ j,j<cs.length->Seen σ K ((ob.xZ.getD i []).getD (off+j) .top) (cs.getD j .top)):Seen σ K (.ref key sz i off) (.ptr cs):=λM0 w ι v hS hR=>by
 subst hsz;obtain⟨rfl,k1,k2⟩:=hR.vY;obtain⟨cur,e,c1,c2,c3,c4⟩:=(hS.holds key ob hob).2.cells k2;refine .ptr (λj=>cur.getD (i*ob.sz+(off+j)) undef) hc (Mk.not hS hob hk) (λj hj=>?_) λj hj=>h j hj M0 w ι _ hS (c4 i hi (off+j) (by omega)).2
 have:i*ob.sz+(off+j)<cur.size:=by have:=qQ (m:=ob.xZ.length) (i:=i) (j:=off+j) (sz:=ob.sz) hi (by omega);omega
 rw [Nat.add_assoc,cell_of_row _ _ _ _ _ _ c1];simp [this]
def Tm (σ:St) (d d':D):Prop:=∀ (M0:Nat->Prop) (w:World) (ι:Nat->Nat) (v:Value),yC M0 w σ ι->R (yR M0 ι σ) w ι σ.nx v d->RP (λ_=>False) w v d'
theorem Seen.f {σ:St} {K:Nat->Prop} {d d':D} (h:Seen σ K d d'):Tm σ d d':=λM0 w ι v hS hR=>(h M0 w ι v hS hR).yY (λ_ _ _=>rfl) λ_ _ hb=>hb.elim
theorem xW.QM {P:Program} {g:FuncId} {args args':List D} {d:D} {σ:St} (hc:xK P g args' d) (hl':pR σ (λ_=>False) args args') (hf:d.flat=true):xW P g args σ d σ:=by
 refine⟨hc.ord,λM0 w ι vals hS hl hv=>?_⟩;have S1:yC (λ_=>False) w tQ ι:=⟨λb hb=>hb.elim,(λk o hk=>by cases hk),(λk k' o o' hk=>by cases hk),(λk o hk=>by cases hk),hS.tN.yY (γ _) (λ_ _ _=>rfl) λb _ hb=>hb.elim False.elim λ⟨k,o,hk,_⟩=>by cases hk⟩
 have e1:∀ (ι':Nat->Nat) b,yR (λ_=>False) ι' tQ b->False:=by
  intro ι' b hb
  rcases hb with hb | ⟨k,o,hk,_⟩
  ·exact hb
  ·cases hk
 have hlen:=hl'.len;refine(hc.run _ w ι vals S1 (by omega) λj hj=>.pure (((hl'.at_ j hj).f M0 w ι _ hS (hv j (by omega))).yY (λ_ _ _=>rfl) λb _ hb=>e1 ι b hb)).mono λe w' hh=>?_;obtain⟨v,ι',rfl,k1,k2,k3,k4,k5,k6⟩:=hh;have K0:Kept w w' λ_=>False:=k1.mono λb _ ⟨k,o,hk,_⟩=>by cases hk
 exact⟨v,ι,rfl,K0.none _,hS.ext K0,γ _,λ_ _=>rfl,λk o hk=>.inr ⟨k,o,hk,rfl⟩,.pure (k6.zero.flat hf)⟩
theorem xW.SL {P:Program} {g:FuncId} {args args':List D} {d:D} {σ:St} {m:Nat} {xY:List (Nat × Ob)} (hc:xW P g args' tQ d ⟨m,xY⟩) (hlen:args.length=args'.length) (ats:∀ j,j<args'.length->Tm σ (args.getD j .top) (args'.getD j .top)) (hf:d.fl=true) (ho:∀ p ∈ xY,∀ e ∈ p.2.xZ,D.Wb e=true) :
  xW P g args σ (d.shift σ.nx) ⟨σ.nx+m,zZ σ.nx xY++σ.xY⟩:=by
 refine⟨hc.ord,λM0 w ι vals hS hl hv=>?_⟩;have S1:yC (λ_=>False) w tQ ι:=⟨λb hb=>hb.elim,(λk o hk=>by cases hk),(λk k' o o' hk=>by cases hk),(λk o hk=>by cases hk),hS.tN.yY (γ _) (λ_ _ _=>rfl) λb _ hb=>hb.elim False.elim λ⟨k,o,hk,_⟩=>by cases hk⟩
 have e1:∀ (ι':Nat->Nat) b,yR (λ_=>False) ι' tQ b->False:=by
  intro ι' b hb
  rcases hb with hb | ⟨k,o,hk,_⟩
  ·exact hb
  ·cases hk
 refine(hc.run _ w ι vals S1 (by omega) λj hj=>.pure ((ats j hj M0 w ι _ hS (hv j (by omega))).yY (λ_ _ _=>rfl) λb _ hb=>e1 ι b hb)).mono λe w' hh=>?_;obtain⟨v,ι',rfl,k1,k2,k3,k4,k5,k6⟩:=hh;have K0:Kept w w' λ_=>False:=k1.mono λb _ ⟨k,o,hk,_⟩=>by cases hk
 let ιn:Nat->Nat:=λk=>if k<σ.nx then ι k else ι' (k-σ.nx)
 have n1:∀ k,k<σ.nx->ιn k=ι k:=λk hk=>by simp only [ιn,if_pos hk]
 have n2:∀ k,ιn (σ.nx+k)= ι' k:=λk=>by simp only [ιn,if_neg (show ¬ (σ.nx+k<σ.nx) by omega)];congr 1; omega
 have lk:∀ k o,St.get ⟨σ.nx+m,zZ σ.nx xY++σ.xY⟩ k=some o->(∃ k0 o0,k=σ.nx+k0/\St.get ⟨m,xY⟩ k0=some o0/\o=o0.shift σ.nx)\/(k<σ.nx/\σ.get k=some o):=by
  intro k o hk;unfold St.get at hk;simp only at hk;rw [fF] at hk
  cases h1:St.look (zZ σ.nx xY) k with
  | some o1=> rw [h1] at hk;simp at hk; subst hk;exact .inl (jS _ _ _ _ h1)
  | none=> rw [h1] at hk;simp at hk;exact .inr ⟨(hS.holds k o hk).1,hk⟩
 have fresh:∀ k o,St.get ⟨m,xY⟩ k=some o->w.heap.size<=ι' k:=by
  intro k o hk
  rcases k5 _ _ hk with h | ⟨k0,o0,hk0,_⟩
  ·exact h
  ·cases hk0
 have mm:∀ b,b<w.heap.size->yR M0 ιn ⟨σ.nx+m,zZ σ.nx xY++σ.xY⟩ b->yR M0 ι σ b:=by
  intro b hb hm
  rcases hm with hm | ⟨k,o,hk,rfl⟩
  ·exact .inl hm
  ·rcases lk k o hk with ⟨k0,o0,rfl,h2,_⟩ | ⟨h1,h2⟩
   ·have:=fresh k0 o0 h2;rw [n2] at hb;omega
   ·exact .inr ⟨k,o,h2,(n1 k h1).symm⟩
 have mv:∀ b,yR M0 ιn ⟨σ.nx+m,zZ σ.nx xY++σ.xY⟩ b->yR (yR M0 ι σ) ι' ⟨m,xY⟩ b:=by
  intro b hm
  rcases hm with hm | ⟨k,o,hk,rfl⟩
  ·exact .inl (.inl hm)
  ·rcases lk k o hk with ⟨k0,o0,rfl,h2,_⟩ | ⟨h1,h2⟩
   ·exact .inr ⟨k0,o0,h2,(n2 k0).symm⟩
   ·exact .inl (.inr ⟨k,o,h2,(n1 k h1).symm⟩)
 refine⟨v,ιn,rfl,K0.none _,⟨λb hb=>Nat.lt_of_lt_of_le (hS.uJ b hb) K0.size,λk o hk=>?_,λk k' o o' hk hk' e=>?_,λk o hk hm=>?_,hS.tN.yY K0.size (λb hb hM=>K0.block b hb id) λb hb hm=>mm b hb hm⟩,Nat.le_add_right _ _,n1,λk o hk=>?_,R.shift mv (λk _=>n2 k) (k6.fl hf)⟩
 ·rcases lk k o hk with ⟨k0,o0,rfl,h2,rfl⟩ | ⟨h1,h2⟩
  ·obtain⟨g1,g20⟩:=k2.holds k0 o0 h2;have g2:xB (yR (yR M0 ι σ) ι' ⟨m,xY⟩) w' ι' m w'.heap[ι' k0]? o0:=g20.fl (ho (k0,o0) (wT h2));have glt:k0<m:=g1;rcases g2 with ⟨s0,cur,e,c1,c2,c3,c4⟩ | ⟨s0,es,c1,c2,c3⟩
   case inr=>
    refine⟨by show σ.nx+k0<σ.nx+m; omega,.inr ⟨s0,es,by rw [n2]; exact c1,by simpa [Ob.shift] using c2,λi hi=>?_⟩⟩;simp only [Ob.shift,List.length_map] at hi ⊢;obtain⟨kk,v,x,d,r1,r2,r3,r4⟩:=c3 i hi;refine⟨kk,v,x.shift σ.nx,d.shift σ.nx,?_,r2,R.shift mv (λk _=>n2 k) r3,R.shift mv (λk _=>n2 k) r4⟩;have:(o0.xZ.map (D.wA σ.nx)).getD i []=D.wA σ.nx (o0.xZ.getD i []):=by simp [List.getD,hi]
    rw [this,r1]; rfl
   refine⟨by show σ.nx+k0<σ.nx+m; omega,.inl ⟨s0,cur,e,by rw [n2]; exact c1,λel he=>?_,by simpa [Ob.shift] using c3,λi hi j hj=>?_⟩⟩
   ·simp only [Ob.shift,List.mem_map] at he ⊢;obtain⟨el',h3,rfl⟩:=he;rw [uN]; exact c2 _ h3
   ·simp only [Ob.shift,List.length_map] at hi hj ⊢;have h3:=c4 i hi j hj
    have e2:((o0.xZ.map (D.wA σ.nx)).getD i []).getD j .top=((o0.xZ.getD i []).getD j .top).shift σ.nx:=by
     have:(o0.xZ.map (D.wA σ.nx)).getD i []=D.wA σ.nx (o0.xZ.getD i []):=by simp [List.getD,hi]
     rw [this,rZ]
    rw [e2];exact⟨h3.1,R.shift mv (λk _=>n2 k) h3.2⟩
  ·obtain⟨g1,g2⟩:=hS.holds k o h2;exact⟨by show k<σ.nx+m; omega,g2.yY (K0.block _ (tA.lt hS ⟨k,o,h2,rfl⟩) id) (n1 k h1) (λb hb _=>K0.block b hb id) (λb hb hm=>mm b hb hm) K0.shape n1 (Nat.le_add_right _ _)⟩
 ·rcases lk k o hk with ⟨k0,o0,rfl,h2,rfl⟩ | ⟨h1,h2⟩ <;> rcases lk k' o' hk' with ⟨k0',o0',rfl,h2',rfl⟩ | ⟨h1',h2'⟩
  ·rw [n2,n2] at e;rw [k2.inj _ _ _ _ h2 h2' e]
  ·rw [n2,n1 k' h1'] at e;have:=fresh _ _ h2;have:=tA.lt hS ⟨k',o',h2',rfl⟩;omega
  ·rw [n1 k h1,n2] at e;have:=fresh _ _ h2';have:=tA.lt hS ⟨k,o,h2,rfl⟩;omega
  ·rw [n1 k h1,n1 k' h1'] at e;exact hS.inj _ _ _ _ h2 h2' e
 ·rcases lk k o hk with ⟨k0,o0,rfl,h2,rfl⟩ | ⟨h1,h2⟩
  ·rw [n2] at hm;have:=fresh _ _ h2;have:=hS.uJ _ hm;omega
  ·rw [n1 k h1] at hm;exact hS.notM k o h2 hm
 ·rcases lk k o hk with ⟨k0,o0,rfl,h2,rfl⟩ | ⟨h1,h2⟩
  ·rw [n2]; exact .inl (fresh _ _ h2)
  ·rw [n1 k h1]; exact .inr ⟨k,o,h2,rfl⟩
theorem xW.SM {P:Program} {g:FuncId} {args args':List D} {d:D} {σ:St} {m:Nat} {xY:List (Nat × Ob)} (hc:xW P g args' tQ d ⟨m,xY⟩) (hl':pR σ (λ_=>False) args args') (hf:d.fl=true) (ho:∀ p ∈ xY,∀ e ∈ p.2.xZ,D.Wb e=true) :
  xW P g args σ (d.shift σ.nx) ⟨σ.nx+m,zZ σ.nx xY++σ.xY⟩:=xW.SL hc hl'.len (λj hj=>(hl'.at_ j hj).f) hf ho
theorem yC.sub {M0:Nat->Prop} {w:World} {σ:St} {ι:Nat->Nat} {objs':List (Nat × Ob)} (h:yC M0 w σ ι) (hs:∀ k o,St.look objs' k=some o->σ.get k=some o):yC M0 w ⟨σ.nx,objs'⟩ ι:=
 have hm:∀ b,yR M0 ι ⟨σ.nx,objs'⟩ b->yR M0 ι σ b:=λb hb=>hb.imp id λ⟨k,o,h1,h2⟩=>⟨k,o,hs k o h1,h2⟩
 ⟨h.uJ,λk o hk=>⟨(h.holds k o (hs k o hk)).1,(h.holds k o (hs k o hk)).2.yY rfl rfl (λ_ _ _=>rfl) (λb _ hb=>hm b hb) (λb cur e hc=>⟨cur,hc,rfl⟩) (λ_ _=>rfl) (γ _)⟩,
  λk k' o o' hk hk'=>h.inj k k' o o' (hs k o hk) (hs k' o' hk'),λk o hk=>h.notM k o (hs k o hk),h.tN.yY (γ _) (λ_ _ _=>rfl) λb _ hb=>hm b hb⟩
end Go.Pd
