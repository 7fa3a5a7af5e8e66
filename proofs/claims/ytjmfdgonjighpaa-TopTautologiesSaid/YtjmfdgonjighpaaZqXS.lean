/- Part XS. -/
import Derived.Test.YtjmfdgonjighpaaZqX6
set_option linter.unusedSectionVars false
set_option linter.unusedVariables false
set_option linter.unusedSimpArgs false
set_option linter.defProp false
set_option maxRecDepth 20000
set_option maxHeartbeats 1000000
open Nat renaming le_refl->γ
open List renaming getElem_mem->δ,getElem?_eq_none->ε
namespace Go.Pd
open Go
structure Hid (q : Prop) : Prop where
 out:q
section
variable [vA]
theorem xB {p q:Prop}  (k:q) (e:Hid q->p:=by intro  k; simp only [simprocAttr,-ZA,↓zU,↓zD,zV,zT,zW]; exact k.out):p:=e  ⟨k⟩
theorem yK {p q a0:Prop} (h0:a0) (k:q) (e:a0->Hid q->p:=by intro h0 k; simp only [simprocAttr,-ZA,↓zU,↓zD,zV,zT,zW,h0]; exact k.out):p:=e h0 ⟨k⟩
theorem sC {p q a0 a1:Prop} (h0:a0) (h1:a1) (k:q) (e:a0->a1->Hid q->p:=by intro h0 h1 k; simp only [simprocAttr,-ZA,↓zU,↓zD,zV,zT,zW,h0,h1]; exact k.out):p:=e h0 h1 ⟨k⟩
theorem zl {p q a0 a1 a2:Prop} (h0:a0) (h1:a1) (h2:a2) (k:q) (e:a0->a1->a2->Hid q->p:=by intro h0 h1 h2 k; simp only [simprocAttr,-ZA,↓zU,↓zD,zV,zT,zW,h0,h1,h2]; exact k.out):p:=e h0 h1 h2 ⟨k⟩
theorem se {p q a0 a1 a2 a3:Prop} (h0:a0) (h1:a1) (h2:a2) (h3:a3) (k:q) (e:a0->a1->a2->a3->Hid q->p:=by intro h0 h1 h2 h3 k; simp only [simprocAttr,-ZA,↓zU,↓zD,zV,zT,zW,h0,h1,h2,h3]; exact k.out):p:=e h0 h1 h2 h3 ⟨k⟩
theorem MJ {p q a0 a1 a2 a3 a4 a5:Prop} (h0:a0) (h1:a1) (h2:a2) (h3:a3) (h4:a4) (h5:a5) (k:q) (e:a0->a1->a2->a3->a4->a5->Hid q->p:=by intro h0 h1 h2 h3 h4 h5 k; simp only [simprocAttr,-ZA,↓zU,↓zD,zV,zT,zW,h0,h1,h2,h3,h4,h5]; exact k.out):p:=e h0 h1 h2 h3 h4 h5 ⟨k⟩
theorem MK {p q a0 a1 a2 a3 a4 a5 a6 a7:Prop} (h0:a0) (h1:a1) (h2:a2) (h3:a3) (h4:a4) (h5:a5) (h6:a6) (h7:a7) (k:q) (e:a0->a1->a2->a3->a4->a5->a6->a7->Hid q->p:=by intro h0 h1 h2 h3 h4 h5 h6 h7 k; simp only [simprocAttr,-ZA,↓zU,↓zD,zV,zT,zW,h0,h1,h2,h3,h4,h5,h6,h7]; exact k.out):p:=e h0 h1 h2 h3 h4 h5 h6 h7 ⟨k⟩
theorem j0 {p q:Prop}  (k:q) (e:Hid q->p:=by intro  k; simp only [simprocAttr,-ZA,↓zU,↓zD,zV,zT,zW]; (repeat refine sd ?_); exact k.out):p:=e  ⟨k⟩
theorem j4 {p q a0:Prop} (h0:a0) (k:q) (e:a0->Hid q->p:=by intro h0 k; simp only [simprocAttr,-ZA,↓zU,↓zD,zV,zT,zW,h0]; (repeat refine sd ?_); exact k.out):p:=e h0 ⟨k⟩
theorem W3 {p q a0 a1:Prop} (h0:a0) (h1:a1) (k:q) (e:a0->a1->Hid q->p:=by intro h0 h1 k; simp only [simprocAttr,-ZA,↓zU,↓zD,zV,zT,zW,h0,h1]; (repeat refine sd ?_); exact k.out):p:=e h0 h1 ⟨k⟩
theorem eG {p q a0 a1 a2:Prop} (h0:a0) (h1:a1) (h2:a2) (k:q) (e:a0->a1->a2->Hid q->p:=by intro h0 h1 h2 k; simp only [simprocAttr,-ZA,↓zU,↓zD,zV,zT,zW,h0,h1,h2]; (repeat refine sd ?_); exact k.out):p:=e h0 h1 h2 ⟨k⟩
theorem Qw {p q a0 a1 a2 a3:Prop} (h0:a0) (h1:a1) (h2:a2) (h3:a3) (k:q) (e:a0->a1->a2->a3->Hid q->p:=by intro h0 h1 h2 h3 k; simp only [simprocAttr,-ZA,↓zU,↓zD,zV,zT,zW,h0,h1,h2,h3]; (repeat refine sd ?_); exact k.out):p:=e h0 h1 h2 h3 ⟨k⟩
theorem TD {p q a0 a1 a2 a3 a4:Prop} (h0:a0) (h1:a1) (h2:a2) (h3:a3) (h4:a4) (k:q) (e:a0->a1->a2->a3->a4->Hid q->p:=by intro h0 h1 h2 h3 h4 k; simp only [simprocAttr,-ZA,↓zU,↓zD,zV,zT,zW,h0,h1,h2,h3,h4]; (repeat refine sd ?_); exact k.out):p:=e h0 h1 h2 h3 h4 ⟨k⟩
theorem Qz {p q a0 a1 a2 a3 a4 a5:Prop} (h0:a0) (h1:a1) (h2:a2) (h3:a3) (h4:a4) (h5:a5) (k:q) (e:a0->a1->a2->a3->a4->a5->Hid q->p:=by intro h0 h1 h2 h3 h4 h5 k; simp only [simprocAttr,-ZA,↓zU,↓zD,zV,zT,zW,h0,h1,h2,h3,h4,h5]; (repeat refine sd ?_); exact k.out):p:=e h0 h1 h2 h3 h4 h5 ⟨k⟩
theorem PQ {p q a0 a1 a2 a3 a4 a5 a6:Prop} (h0:a0) (h1:a1) (h2:a2) (h3:a3) (h4:a4) (h5:a5) (h6:a6) (k:q) (e:a0->a1->a2->a3->a4->a5->a6->Hid q->p:=by intro h0 h1 h2 h3 h4 h5 h6 k; simp only [simprocAttr,-ZA,↓zU,↓zD,zV,zT,zW,h0,h1,h2,h3,h4,h5,h6]; (repeat refine sd ?_); exact k.out):p:=e h0 h1 h2 h3 h4 h5 h6 ⟨k⟩
theorem PR {p q a0 a1 a2 a3 a4 a5 a6 a7:Prop} (h0:a0) (h1:a1) (h2:a2) (h3:a3) (h4:a4) (h5:a5) (h6:a6) (h7:a7) (k:q) (e:a0->a1->a2->a3->a4->a5->a6->a7->Hid q->p:=by intro h0 h1 h2 h3 h4 h5 h6 h7 k; simp only [simprocAttr,-ZA,↓zU,↓zD,zV,zT,zW,h0,h1,h2,h3,h4,h5,h6,h7]; (repeat refine sd ?_); exact k.out):p:=e h0 h1 h2 h3 h4 h5 h6 h7 ⟨k⟩
theorem ML {p q a0 a1 a2 a3 a4 a5 a6 a7 a8:Prop} (h0:a0) (h1:a1) (h2:a2) (h3:a3) (h4:a4) (h5:a5) (h6:a6) (h7:a7) (h8:a8) (k:q) (e:a0->a1->a2->a3->a4->a5->a6->a7->a8->Hid q->p:=by intro h0 h1 h2 h3 h4 h5 h6 h7 h8 k; simp only [simprocAttr,-ZA,↓zU,↓zD,zV,zT,zW,h0,h1,h2,h3,h4,h5,h6,h7,h8]; (repeat refine sd ?_); exact k.out):p:=e h0 h1 h2 h3 h4 h5 h6 h7 h8 ⟨k⟩
theorem On {p q a0 a1 a2 a3 a4 a5 a6 a7 a8 a9 a10:Prop} (h0:a0) (h1:a1) (h2:a2) (h3:a3) (h4:a4) (h5:a5) (h6:a6) (h7:a7) (h8:a8) (h9:a9) (h10:a10) (k:q) (e:a0->a1->a2->a3->a4->a5->a6->a7->a8->a9->a10->Hid q->p:=by intro h0 h1 h2 h3 h4 h5 h6 h7 h8 h9 h10 k; simp only [simprocAttr,-ZA,↓zU,↓zD,zV,zT,zW,h0,h1,h2,h3,h4,h5,h6,h7,h8,h9,h10]; (repeat refine sd ?_); exact k.out):p:=e h0 h1 h2 h3 h4 h5 h6 h7 h8 h9 h10 ⟨k⟩
theorem Oo {p q a0 a1 a2 a3 a4 a5 a6 a7 a8 a9 a10 a11 a12:Prop} (h0:a0) (h1:a1) (h2:a2) (h3:a3) (h4:a4) (h5:a5) (h6:a6) (h7:a7) (h8:a8) (h9:a9) (h10:a10) (h11:a11) (h12:a12) (k:q) (e:a0->a1->a2->a3->a4->a5->a6->a7->a8->a9->a10->a11->a12->Hid q->p:=by intro h0 h1 h2 h3 h4 h5 h6 h7 h8 h9 h10 h11 h12 k; simp only [simprocAttr,-ZA,↓zU,↓zD,zV,zT,zW,h0,h1,h2,h3,h4,h5,h6,h7,h8,h9,h10,h11,h12]; (repeat refine sd ?_); exact k.out):p:=e h0 h1 h2 h3 h4 h5 h6 h7 h8 h9 h10 h11 h12 ⟨k⟩
theorem lQ {C:Cx} {f f':Fr} {σ:St} (h:vI f f':=by simp [vI,Fr.get]):yJ C f σ f' σ:=.same h
theorem jG {C:Cx} {f f':Fr} {σ:St} (h:vI f f':=by simp only [vI,Fr.get,simprocAttr,-BitVec.isValue,D.int.injEq,D.bool.injEq,D.sl.injEq,and_true,true_and,and_self]; all_goals first | rfl | exact wrap_i64 (by omega) | exact wrap_up' (by omega) | exact vX (by omega) | omega):yJ C f σ f' σ:=.same h
theorem fm {C:Cx} {f f':Fr} {σ σ':St} (l:List (Nat × Nat)) (ks:List Nat) (h:Zd ks σ'.xX/\oU σ σ' (sw l) σ'.xX/\aK σ σ' (sw l) f f') (hn:C.n0<=σ'.nx:=by simp) (h0:∀ p ∈ l,C.n0<=p.1:=by simp) (hd:(ks.map (sw l)).Nodup:=by decide):yJ C f σ f' σ':=.OE l ks hn h0 hd h
theorem PP {C:Cx} {f f':Fr} {σ σ':St}  (l:List (Nat × Nat)) (ks:List Nat)  (hn:C.n0<=σ'.nx:=by simp) (h0:∀ p ∈ l,C.n0<=p.1:=by simp) (hd:(ks.map (sw l)).Nodup:=by decide) (h:(Zd ks σ'.xX/\oU σ σ' (sw l) σ'.xX/\aK σ σ' (sw l) f f'):=by simp only [lS,zQ,simprocAttr,-ZA,exists_eq_left',ne_eq,zR]; all_goals first | rfl | exact wrap_i64 (by omega) | exact wrap_up' (by omega) | exact vX (by omega) | omega):yJ C f σ f' σ':=.OE l ks hn h0 hd h
theorem T9 {C:Cx} {f f':Fr} {σ σ':St} {a0:Prop} (l:List (Nat × Nat)) (ks:List Nat) (y0:a0) (hn:C.n0<=σ'.nx:=by simp) (h0:∀ p ∈ l,C.n0<=p.1:=by simp) (hd:(ks.map (sw l)).Nodup:=by decide) (h:a0->(Zd ks σ'.xX/\oU σ σ' (sw l) σ'.xX/\aK σ σ' (sw l) f f'):=by intro h0; simp only [lS,zQ,simprocAttr,-ZA,exists_eq_left',ne_eq,zR,h0]; all_goals first | rfl | exact wrap_i64 (by omega) | exact wrap_up' (by omega) | exact vX (by omega) | omega):yJ C f σ f' σ':=.OE l ks hn h0 hd (h y0)
theorem TA {C:Cx} {f f':Fr} {σ σ':St} {a0 a1 a2:Prop} (l:List (Nat × Nat)) (ks:List Nat) (y0:a0) (y1:a1) (y2:a2) (hn:C.n0<=σ'.nx:=by simp) (h0:∀ p ∈ l,C.n0<=p.1:=by simp) (hd:(ks.map (sw l)).Nodup:=by decide) (h:a0->a1->a2->(Zd ks σ'.xX/\oU σ σ' (sw l) σ'.xX/\aK σ σ' (sw l) f f'):=by intro h0 h1 h2; simp only [lS,zQ,simprocAttr,-ZA,exists_eq_left',ne_eq,zR,h0,h1,h2]; all_goals first | rfl | exact wrap_i64 (by omega) | exact wrap_up' (by omega) | exact vX (by omega) | omega):yJ C f σ f' σ':=.OE l ks hn h0 hd (h y0 y1 y2)
end
end Go.Pd

/- Part X8. -/
namespace Go.Pd
open Go
variable [vA]
def D.fl : D->Bool
 | .int _ _ | .bool _ | .str _ | .uO | .xI | .emp | .pA | .sP | .pN | .top | .ref .. | .wZ .. | .sub .. | .yV _=>true
 | .agg cs | .yD cs=>cs.attach.all λ⟨d,_⟩=>D.fl d
 | _=>false
def D.TN (cs:List D):Bool:=cs.all D.fl
theorem Xm (cs:List D):(D.agg cs).fl=D.TN cs:=by rw [D.fl]; simp [D.TN]
theorem Xn (cs:List D):(D.yD cs).fl=D.TN cs:=by rw [D.fl]; simp [D.TN]
theorem wk {cs:List D} (h:D.TN cs=true) (j:Nat):(cs.getD j .top).fl=true:=by
 by_cases hj:j<cs.length
 ·have:cs.getD j .top=cs[j]:=by simp [List.getD,hj]
  rw [this];exact List.all_eq_true.1 h _ (δ hj)
 ·simp [List.getD,ε (Nat.le_of_not_lt hj),D.fl]
theorem RP.fl {M M':Nat->Prop} {w:World} {v:Value} {d:D} (h:RP M w v d) (hf:d.fl=true):RP M' w v d:=by
 induction h with
 | top v=>exact .top v
 | uO=>exact .uO
 | int h=>exact .int h
 | bool b=>exact .bool b
 | str h=>exact .str h
 | fw=>simp [D.fl] at hf
 | emp a c=>exact .emp a c
 | sl=>simp [D.fl] at hf
 | xI=>exact .xI
 | ptr=>simp [D.fl] at hf
 | agg hl hr ih=>rw [Xm] at hf; exact .agg hl λj hj=>ih j hj (wk hf j)
 | yD hl hr ih=>rw [Xn] at hf; exact .yD hl λj hj=>ih j hj (wk hf j)
 | fn=>simp [D.fl] at hf
 | pA=>exact .pA
 | sP=>exact .sP
 | pN=>exact .pN
 | zo b=>simp [D.fl] at hf
theorem R.fl {M M':Nat->Prop} {w:World} {ι:Nat->Nat} {n:Nat} {v:Value} {d:D} (h:R M w ι n v d) (hf:d.fl=true):R M' w ι n v d:=by
 induction h with
 | pure h=>exact .pure (h.fl hf)
 | ref hk h0=>exact .ref hk h0
 | wZ hk h1 h2 h3 h4=>exact .wZ hk h1 h2 h3 h4
 | sub hk h1 h2 h3 h4=>exact .sub hk h1 h2 h3 h4
 | yV hk=>exact .yV hk
 | agg hl hr ih=>rw [Xm] at hf; exact .agg hl λj hj=>ih j hj (wk hf j)
 | yD hl hr ih=>rw [Xn] at hf; exact .yD hl λj hj=>ih j hj (wk hf j)
 | fn=>simp [D.fl] at hf
theorem yZ.fl {M M':Nat->Prop} {w:World} {ι:Nat->Nat} {n:Nat} {blk:Option Obj} {o:Ob} (h:yZ M w ι n blk o) (hf:∀ e ∈ o.xZ,D.TN e=true):yZ M' w ι n blk o:=by
 have at_:∀ i j,((o.xZ.getD i []).getD j .top).fl=true:=by
  intro i j
  by_cases hi:i<o.xZ.length
  ·have:o.xZ.getD i []=o.xZ[i]:=by simp [List.getD,hi]
   rw [this];exact wk (hf _ (δ hi)) j
  ·have:o.xZ.getD i [] = []:=by simp [List.getD,ε (Nat.le_of_not_lt hi)]
   rw [this]; simp [D.fl]
 rcases h with ⟨h0,cur,e,h1,h2,h3,h4⟩ | ⟨h0,es,h1,h2,h3⟩
 ·exact .inl ⟨h0,cur,e,h1,h2,h3,λi hi j hj=>⟨(h4 i hi j hj).1,(h4 i hi j hj).2.fl (at_ i j)⟩⟩
 ·refine .inr ⟨h0,es,h1,h2,λi hi=>?_⟩;obtain⟨kk,v,x,d,g1,g2,g3,g4⟩:=h3 i hi;have a0:=at_ i 0;have a1:=at_ i 1;rw [g1] at a0 a1;exact⟨kk,v,x,d,g1,g2,g3.fl a0,g4.fl a1⟩
def Mk (M0:Nat->Prop) (ι:Nat->Nat) (σ:St) (K:Nat->Prop) (b:Nat):Prop:=M0 b\/∃ k o,K k/\σ.get k=some o/\ι k=b
def Seen (σ:St) (K:Nat->Prop) (d d':D):Prop:=∀ (M0:Nat->Prop) (w:World) (ι:Nat->Nat) (v:Value),zI M0 w σ ι->R (yO M0 ι σ) w ι σ.nx v d->RP (Mk M0 ι σ K) w v d'
def nX (σ:St) (K:Nat->Prop):List D->List D->Prop
 | [],[]=>True
 | d :: ds,c :: cs=>Seen σ K d c/\nX σ K ds cs
 | _,_=>False
theorem Mk.Lz {M0:Nat->Prop} {ι:Nat->Nat} {σ:St} {K:Nat->Prop} {b:Nat} (h:Mk M0 ι σ K b):yO M0 ι σ b:=h.imp id λ⟨k,o,_,h1,h2⟩=>⟨k,o,h1,h2⟩
theorem nX.len {σ:St} {K:Nat->Prop}:∀ {ds cs:List D},nX σ K ds cs->ds.length=cs.length
 | [],[],_=>rfl
 | _ :: _,_ :: _,h=>by simp [nX.len h.2]
 | [],_ :: _,h=>h.elim
 | _ :: _,[],h=>h.elim
theorem nX.at_ {σ:St} {K:Nat->Prop}:∀ {ds cs:List D},nX σ K ds cs->∀ j,j<cs.length->Seen σ K (ds.getD j .top) (cs.getD j .top)
 | [],[],_,j,hj=>by simp at hj
 | _ :: _,_ :: _,h,0,_=>by simpa using h.1
 | _ :: _,_ :: _,h,j+1,hj=>by simpa using nX.at_ h.2 j (by simpa using hj)
 | [],_ :: _,h,_,_=>h.elim
 | _ :: _,[],h,_,_=>h.elim
theorem Seen.pure {σ:St} {K:Nat->Prop} {d:D} (h:d.xO=true):Seen σ K d d:=λ_ _ _ _ _ hR=>(hR.yq h).xC (λ_ _ _=>rfl) λ_ _ hb=>hb.Lz
theorem Seen.nil {σ:St} {K:Nat->Prop} (sz:Nat):Seen σ K .xI (.sl sz []):=λ_ _ _ v _ hR=>by have:=hR.uA;subst this;exact .fw _ _ _ (by simp)
theorem Seen.agg {σ:St} {K:Nat->Prop} {ds cs:List D} (h:nX σ K ds cs):Seen σ K (.agg ds) (.agg cs):=λM0 w ι v hS hR=>by obtain⟨vs,rfl,h1,h2⟩:=hR.cU;have:=h.len;exact .agg (by omega) λj hj=>h.at_ j hj M0 w ι _ hS (h2 j (by omega))
theorem Seen.yD {σ:St} {K:Nat->Prop} {ds cs:List D} (h:nX σ K ds cs):Seen σ K (.yD ds) (.yD cs):=λM0 w ι v hS hR=>by obtain⟨vs,rfl,h1,h2⟩:=hR.jn;have:=h.len;exact .yD (by omega) λj hj=>h.at_ j hj M0 w ι _ hS (h2 j (by omega))
theorem Seen.fn {σ:St} {K:Nat->Prop} {f:FuncId} {ds cs:List D} (h:nX σ K ds cs):Seen σ K (.fn f ds) (.fn f cs):=λM0 w ι v hS hR=>by obtain⟨vs,rfl,h1,h2⟩:=hR.kM;have:=h.len;exact .fn (by omega) λj hj=>h.at_ j hj M0 w ι _ hS (h2 j (by omega))
theorem Mk.not {M0:Nat->Prop} {w:World} {ι:Nat->Nat} {σ:St} {K:Nat->Prop} {key:Nat} {ob:Ob} (hS:zI M0 w σ ι) (hob:σ.get key=some ob) (hk:¬ K key):¬ Mk M0 ι σ K (ι key):=by
 rintro (h | ⟨k,o,h1,h2,h3⟩)
 ·exact hS.notM key ob hob h
 ·exact hk (hS.inj k key o ob h2 hob h3 ▸ h1)
theorem Seen.wZ {σ:St} {K:Nat->Prop} {key sz n:Nat} {ob:Ob} {xZ:List (List D)} (hob:σ.get key=some ob) (hk:¬ K key) (hs:0<sz) (hsz:ob.sz=sz) (hn:n<=ob.xZ.length) (hl:xZ.length=n)
  (hrow:∀ e ∈ xZ,e.length=sz) (h:∀ i,i<n->∀ j,j<sz->Seen σ K ((ob.xZ.getD i []).getD j .top) ((xZ.getD i []).getD j .top)):Seen σ K (.wZ key sz n) (.sl sz xZ):=λM0 w ι v hS hR=>by
 subst hsz; subst hl;obtain⟨cap,cur,e,rfl,k1,k2,k3,k4,k5⟩:=hR.tE;obtain⟨_,cur',e',c1,c2,c3,c4⟩:=yZ.rows (hS.holds key ob hob).2 k4;rw [k4] at c1;simp at c1;obtain⟨rfl,rfl⟩:=c1;refine .sl (λi j=>cur.getD (i*ob.sz+j) undef) hs (Mk.not hS hob hk) k2 k3 hrow (λi hi j hj=>?_) λi hi j hj=>h i hi j hj M0 w ι _ hS (c4 i (by omega) j hj).2
 have:i*ob.sz+j<cur.size:=by have:=nT (m:=ob.xZ.length) (i:=i) (j:=j) (sz:=ob.sz) (by omega) hj;omega
 rw [Nat.zero_add,cell_of_row _ _ _ _ _ _ k4];simp [this]
theorem Seen.ref {σ:St} {K:Nat->Prop} {key sz i off:Nat} {ob:Ob} {cs:List D} (hob:σ.get key=some ob) (hk:¬ K key) (hsz:ob.sz=sz) (hi:i<ob.xZ.length) (hc:0<cs.length) (hl:off+cs.length<=sz)
  (h:∀ j,j<cs.length->Seen σ K ((ob.xZ.getD i []).getD (off+j) .top) (cs.getD j .top)):Seen σ K (.ref key sz i off) (.ptr cs):=λM0 w ι v hS hR=>by
 subst hsz;obtain⟨rfl,k1,k2⟩:=hR.uV;obtain⟨cur,e,c1,c2,c3,c4⟩:=(hS.holds key ob hob).2.cells k2;refine .ptr (λj=>cur.getD (i*ob.sz+(off+j)) undef) hc (Mk.not hS hob hk) (λj hj=>?_) λj hj=>h j hj M0 w ι _ hS (c4 i hi (off+j) (by omega)).2
 have:i*ob.sz+(off+j)<cur.size:=by have:=nT (m:=ob.xZ.length) (i:=i) (j:=off+j) (sz:=ob.sz) hi (by omega);omega
 rw [Nat.add_assoc,cell_of_row _ _ _ _ _ _ c1];simp [this]
def RG (σ:St) (d d':D):Prop:=∀ (M0:Nat->Prop) (w:World) (ι:Nat->Nat) (v:Value),zI M0 w σ ι->R (yO M0 ι σ) w ι σ.nx v d->RP (λ_=>False) w v d'
theorem Seen.f {σ:St} {K:Nat->Prop} {d d':D} (h:Seen σ K d d'):RG σ d d':=λM0 w ι v hS hR=>(h M0 w ι v hS hR).xC (λ_ _ _=>rfl) λ_ _ hb=>hb.elim
theorem xU.Vf {P:Program} {g:FuncId} {args args':List D} {d:D} {σ:St} (hc:zX P g args' d) (hl':nX σ (λ_=>False) args args') (hf:d.flat=true):xU P g args σ d σ:=by
 refine⟨hc.ord,λM0 w ι vals hS hl hv=>?_⟩;have S1:zI (λ_=>False) w kT ι:=⟨λb hb=>hb.elim,(λk o hk=>by cases hk),(λk k' o o' hk=>by cases hk),(λk o hk=>by cases hk),hS.sR.xC (γ _) (λ_ _ _=>rfl) λb _ hb=>hb.elim False.elim λ⟨k,o,hk,_⟩=>by cases hk⟩
 have e1:∀ (ι':Nat->Nat) b,yO (λ_=>False) ι' kT b->False:=by
  intro ι' b hb
  rcases hb with hb | ⟨k,o,hk,_⟩
  ·exact hb
  ·cases hk
 have hlen:=hl'.len;refine(hc.run _ w ι vals S1 (by omega) λj hj=>.pure (((hl'.at_ j hj).f M0 w ι _ hS (hv j (by omega))).xC (λ_ _ _=>rfl) λb _ hb=>e1 ι b hb)).mono λe w' hh=>?_;obtain⟨v,ι',rfl,k1,k2,k3,k4,k5,k6⟩:=hh;have K0:Kept w w' λ_=>False:=k1.mono λb _ ⟨k,o,hk,_⟩=>by cases hk
 exact⟨v,ι,rfl,K0.none _,hS.ext K0,γ _,λ_ _=>rfl,λk o hk=>.inr ⟨k,o,hk,rfl⟩,.pure (k6.zero.flat hf)⟩
theorem xU.Q9 {P:Program} {g:FuncId} {args args':List D} {d:D} {σ:St} {m:Nat} {xX:List (Nat × Ob)} (hc:xU P g args' kT d ⟨m,xX⟩) (hlen:args.length=args'.length) (ats:∀ j,j<args'.length->RG σ (args.getD j .top) (args'.getD j .top)) (hf:d.fl=true) (ho:∀ p ∈ xX,∀ e ∈ p.2.xZ,D.TN e=true) :
  xU P g args σ (d.shift σ.nx) ⟨σ.nx+m,vS σ.nx xX++σ.xX⟩:=by
 refine⟨hc.ord,λM0 w ι vals hS hl hv=>?_⟩;have S1:zI (λ_=>False) w kT ι:=⟨λb hb=>hb.elim,(λk o hk=>by cases hk),(λk k' o o' hk=>by cases hk),(λk o hk=>by cases hk),hS.sR.xC (γ _) (λ_ _ _=>rfl) λb _ hb=>hb.elim False.elim λ⟨k,o,hk,_⟩=>by cases hk⟩
 have e1:∀ (ι':Nat->Nat) b,yO (λ_=>False) ι' kT b->False:=by
  intro ι' b hb
  rcases hb with hb | ⟨k,o,hk,_⟩
  ·exact hb
  ·cases hk
 refine(hc.run _ w ι vals S1 (by omega) λj hj=>.pure ((ats j hj M0 w ι _ hS (hv j (by omega))).xC (λ_ _ _=>rfl) λb _ hb=>e1 ι b hb)).mono λe w' hh=>?_;obtain⟨v,ι',rfl,k1,k2,k3,k4,k5,k6⟩:=hh;have K0:Kept w w' λ_=>False:=k1.mono λb _ ⟨k,o,hk,_⟩=>by cases hk
 let ιn:Nat->Nat:=λk=>if k<σ.nx then ι k else ι' (k-σ.nx)
 have n1:∀ k,k<σ.nx->ιn k=ι k:=λk hk=>by simp only [ιn,if_pos hk]
 have n2:∀ k,ιn (σ.nx+k)= ι' k:=λk=>by simp only [ιn,if_neg (show ¬ (σ.nx+k<σ.nx) by omega)];congr 1; omega
 have lk:∀ k o,St.get ⟨σ.nx+m,vS σ.nx xX++σ.xX⟩ k=some o->(∃ k0 o0,k=σ.nx+k0/\St.get ⟨m,xX⟩ k0=some o0/\o=o0.shift σ.nx)\/(k<σ.nx/\σ.get k=some o):=by
  intro k o hk;unfold St.get at hk;simp only at hk;rw [xe] at hk
  cases h1:St.look (vS σ.nx xX) k with
  | some o1=> rw [h1] at hk;simp at hk; subst hk;exact .inl (eR _ _ _ _ h1)
  | none=> rw [h1] at hk;simp at hk;exact .inr ⟨(hS.holds k o hk).1,hk⟩
 have fresh:∀ k o,St.get ⟨m,xX⟩ k=some o->w.heap.size<=ι' k:=by
  intro k o hk
  rcases k5 _ _ hk with h | ⟨k0,o0,hk0,_⟩
  ·exact h
  ·cases hk0
 have mm:∀ b,b<w.heap.size->yO M0 ιn ⟨σ.nx+m,vS σ.nx xX++σ.xX⟩ b->yO M0 ι σ b:=by
  intro b hb hm
  rcases hm with hm | ⟨k,o,hk,rfl⟩
  ·exact .inl hm
  ·rcases lk k o hk with ⟨k0,o0,rfl,h2,_⟩ | ⟨h1,h2⟩
   ·have:=fresh k0 o0 h2;rw [n2] at hb;omega
   ·exact .inr ⟨k,o,h2,(n1 k h1).symm⟩
 have mv:∀ b,yO M0 ιn ⟨σ.nx+m,vS σ.nx xX++σ.xX⟩ b->yO (yO M0 ι σ) ι' ⟨m,xX⟩ b:=by
  intro b hm
  rcases hm with hm | ⟨k,o,hk,rfl⟩
  ·exact .inl (.inl hm)
  ·rcases lk k o hk with ⟨k0,o0,rfl,h2,_⟩ | ⟨h1,h2⟩
   ·exact .inr ⟨k0,o0,h2,(n2 k0).symm⟩
   ·exact .inl (.inr ⟨k,o,h2,(n1 k h1).symm⟩)
 refine⟨v,ιn,rfl,K0.none _,⟨λb hb=>Nat.lt_of_lt_of_le (hS.oS b hb) K0.size,λk o hk=>?_,λk k' o o' hk hk' e=>?_,λk o hk hm=>?_,hS.sR.xC K0.size (λb hb hM=>K0.block b hb id) λb hb hm=>mm b hb hm⟩,Nat.le_add_right _ _,n1,λk o hk=>?_,R.shift mv (λk _=>n2 k) (k6.fl hf)⟩
 ·rcases lk k o hk with ⟨k0,o0,rfl,h2,rfl⟩ | ⟨h1,h2⟩
  ·obtain⟨g1,g20⟩:=k2.holds k0 o0 h2;have g2:yZ (yO (yO M0 ι σ) ι' ⟨m,xX⟩) w' ι' m w'.heap[ι' k0]? o0:=g20.fl (ho (k0,o0) (vU h2));have glt:k0<m:=g1;rcases g2 with ⟨s0,cur,e,c1,c2,c3,c4⟩ | ⟨s0,es,c1,c2,c3⟩
   case inr=>
    refine⟨by show σ.nx+k0<σ.nx+m; omega,.inr ⟨s0,es,by rw [n2]; exact c1,by simpa [Ob.shift] using c2,λi hi=>?_⟩⟩;simp only [Ob.shift,List.length_map] at hi ⊢;obtain⟨kk,v,x,d,r1,r2,r3,r4⟩:=c3 i hi;refine⟨kk,v,x.shift σ.nx,d.shift σ.nx,?_,r2,R.shift mv (λk _=>n2 k) r3,R.shift mv (λk _=>n2 k) r4⟩;have:(o0.xZ.map (D.uM σ.nx)).getD i []=D.uM σ.nx (o0.xZ.getD i []):=by simp [List.getD,hi]
    rw [this,r1]; rfl
   refine⟨by show σ.nx+k0<σ.nx+m; omega,.inl ⟨s0,cur,e,by rw [n2]; exact c1,λel he=>?_,by simpa [Ob.shift] using c3,λi hi j hj=>?_⟩⟩
   ·simp only [Ob.shift,List.mem_map] at he ⊢;obtain⟨el',h3,rfl⟩:=he;rw [tD]; exact c2 _ h3
   ·simp only [Ob.shift,List.length_map] at hi hj ⊢;have h3:=c4 i hi j hj
    have e2:((o0.xZ.map (D.uM σ.nx)).getD i []).getD j .top=((o0.xZ.getD i []).getD j .top).shift σ.nx:=by
     have:(o0.xZ.map (D.uM σ.nx)).getD i []=D.uM σ.nx (o0.xZ.getD i []):=by simp [List.getD,hi]
     rw [this,pU]
    rw [e2];exact⟨h3.1,R.shift mv (λk _=>n2 k) h3.2⟩
  ·obtain⟨g1,g2⟩:=hS.holds k o h2;exact⟨by show k<σ.nx+m; omega,g2.xC (K0.block _ (rB.lt hS ⟨k,o,h2,rfl⟩) id) (n1 k h1) (λb hb _=>K0.block b hb id) (λb hb hm=>mm b hb hm) K0.shape n1 (Nat.le_add_right _ _)⟩
 ·rcases lk k o hk with ⟨k0,o0,rfl,h2,rfl⟩ | ⟨h1,h2⟩ <;> rcases lk k' o' hk' with ⟨k0',o0',rfl,h2',rfl⟩ | ⟨h1',h2'⟩
  ·rw [n2,n2] at e;rw [k2.inj _ _ _ _ h2 h2' e]
  ·rw [n2,n1 k' h1'] at e;have:=fresh _ _ h2;have:=rB.lt hS ⟨k',o',h2',rfl⟩;omega
  ·rw [n1 k h1,n2] at e;have:=fresh _ _ h2';have:=rB.lt hS ⟨k,o,h2,rfl⟩;omega
  ·rw [n1 k h1,n1 k' h1'] at e;exact hS.inj _ _ _ _ h2 h2' e
 ·rcases lk k o hk with ⟨k0,o0,rfl,h2,rfl⟩ | ⟨h1,h2⟩
  ·rw [n2] at hm;have:=fresh _ _ h2;have:=hS.oS _ hm;omega
  ·rw [n1 k h1] at hm;exact hS.notM k o h2 hm
 ·rcases lk k o hk with ⟨k0,o0,rfl,h2,rfl⟩ | ⟨h1,h2⟩
  ·rw [n2]; exact .inl (fresh _ _ h2)
  ·rw [n1 k h1]; exact .inr ⟨k,o,h2,rfl⟩
theorem xU.QA {P:Program} {g:FuncId} {args args':List D} {d:D} {σ:St} {m:Nat} {xX:List (Nat × Ob)} (hc:xU P g args' kT d ⟨m,xX⟩) (hl':nX σ (λ_=>False) args args') (hf:d.fl=true) (ho:∀ p ∈ xX,∀ e ∈ p.2.xZ,D.TN e=true) :
  xU P g args σ (d.shift σ.nx) ⟨σ.nx+m,vS σ.nx xX++σ.xX⟩:=xU.Q9 hc hl'.len (λj hj=>(hl'.at_ j hj).f) hf ho
theorem zI.sub {M0:Nat->Prop} {w:World} {σ:St} {ι:Nat->Nat} {objs':List (Nat × Ob)} (h:zI M0 w σ ι) (hs:∀ k o,St.look objs' k=some o->σ.get k=some o):zI M0 w ⟨σ.nx,objs'⟩ ι:=
 have hm:∀ b,yO M0 ι ⟨σ.nx,objs'⟩ b->yO M0 ι σ b:=λb hb=>hb.imp id λ⟨k,o,h1,h2⟩=>⟨k,o,hs k o h1,h2⟩
 ⟨h.oS,λk o hk=>⟨(h.holds k o (hs k o hk)).1,(h.holds k o (hs k o hk)).2.xC rfl rfl (λ_ _ _=>rfl) (λb _ hb=>hm b hb) (λb cur e hc=>⟨cur,hc,rfl⟩) (λ_ _=>rfl) (γ _)⟩,
  λk k' o o' hk hk'=>h.inj k k' o o' (hs k o hk) (hs k' o' hk'),λk o hk=>h.notM k o (hs k o hk),h.sR.xC (γ _) (λ_ _ _=>rfl) λb _ hb=>hm b hb⟩
theorem xU.PI {P:Program} {g:FuncId} {args args':List D} {d:D} {σ:St} {objs':List (Nat × Ob)} (K:Nat->Prop) (hc:zX P g args' d) (hl':nX σ K args args') (hs:∀ k o,St.look objs' k=some o->K k/\σ.get k=some o) :
  xU P g args σ d ⟨σ.nx,objs'⟩:=by
 refine⟨hc.ord,λM0 w ι vals hS hl hv=>?_⟩;have hS':=hS.sub (objs':=objs') λk o hk=>(hs k o hk).2;have S1:zI (yO M0 ι ⟨σ.nx,objs'⟩) w kT ι:=⟨λb hb=>yO.lt hS' hb,(λk o hk=>by cases hk),(λk k' o o' hk=>by cases hk),(λk o hk=>by cases hk),hS'.sR.xC (γ _) (λ_ _ _=>rfl) λb _ hb=>hb.elim id λ⟨k,o,hk,_⟩=>by cases hk⟩
 have e1:∀ (ι':Nat->Nat) b,yO (yO M0 ι ⟨σ.nx,objs'⟩) ι' kT b->yO M0 ι ⟨σ.nx,objs'⟩ b:=by
  intro ι' b hb
  rcases hb with hb | ⟨k,o,hk,_⟩
  ·exact hb
  ·cases hk
 have hlen:=hl'.len;have e2:∀ b,yO M0 ι ⟨σ.nx,objs'⟩ b->Mk M0 ι σ K b:=λb hb=>hb.imp id λ⟨k,o,h1,h2⟩=>⟨k,o,(hs k o h1).1,(hs k o h1).2,h2⟩;refine(hc.run _ w ι vals S1 (by omega) λj hj=>.pure ((hl'.at_ j hj M0 w ι _ hS (hv j (by omega))).xC (λ_ _ _=>rfl) λb _ hb=>e2 b (e1 ι b hb))).mono λe w' hh=>?_;obtain⟨v,ι',rfl,k1,k2,k3,k4,k5,k6⟩:=hh;have K0:Kept w w' λ_=>False:=k1.mono λb _ ⟨k,o,hk,_⟩=>by cases hk
 exact⟨v,ι,rfl,K0.none _,hS'.ext K0,γ _,λ_ _=>rfl,λk o hk=>.inr ⟨k,o,(hs k o hk).2,rfl⟩,.pure (k6.zero.xC (λ_ _ _=>rfl) λb _ hb=>.inl hb)⟩
theorem Seen.rows {σ:St} {K:Nat->Prop} {key sz n:Nat} {xZ:List (List D)} (hob:σ.get key=some ⟨sz,xZ⟩) (hk:¬ K key) (hs:0<sz) (hn:n=xZ.length) (hrow:∀ e ∈ xZ,e.length=sz) (hp:∀ e ∈ xZ,D.xT e=true):Seen σ K (.wZ key sz n) (.sl sz xZ):=by
 subst hn;refine Seen.wZ hob hk hs rfl (γ _) rfl hrow λi hi j hj=>?_;have hm:xZ.getD i [] ∈ xZ:=by simp [List.getD,hi]
 exact .pure (uS (hp _ hm) j)
theorem Seen.grow {σ:St} {K:Nat->Prop} {key sz:Nat} {xZ:List (List D)} (hob:σ.get key=wW sz xZ) (hk:¬ K key) (hs:0<sz) (hrow:∀ e ∈ xZ,e.length=sz) (hp:∀ e ∈ xZ,D.xT e=true):Seen σ K (xJ key sz xZ) (.sl sz xZ):=by
 cases xZ with
 | nil=>exact .nil sz
 | cons e r=>exact Seen.rows hob hk hs rfl hrow hp
def Vo (σ:St) (K:Nat->Prop) (f:Fr):Fr->Prop
 | []=>True
 | (t,d) :: r=>(f.get t=d\/Seen σ K (f.get t) d)/\ Vo σ K f r
def Vp (σ:St) (K:Nat->Prop):List (Nat × Ob)->Prop
 | []=>True
 | (k,o) :: r=>(K k/\∃ ob,σ.get k=some ob/\ob.sz=o.sz/\ob.xZ.length=o.xZ.length/\∀ i,i<o.xZ.length->(o.xZ.getD i []).length=(ob.xZ.getD i []).length/\∀ j,(o.xZ.getD i []).getD j .top=(ob.xZ.getD i []).getD j .top\/Seen σ K ((ob.xZ.getD i []).getD j .top) ((o.xZ.getD i []).getD j .top))/\ Vp σ K r
theorem pt {σ:St} {K:Nat->Prop}:∀ {l:List (Nat × Ob)},Vp σ K l->∀ p ∈ l,K p.1/\∃ ob,σ.get p.1=some ob/\ob.sz=p.2.sz/\ob.xZ.length=p.2.xZ.length/\∀ i,i<p.2.xZ.length->(p.2.xZ.getD i []).length=(ob.xZ.getD i []).length/\∀ j,(p.2.xZ.getD i []).getD j .top=(ob.xZ.getD i []).getD j .top\/Seen σ K ((ob.xZ.getD i []).getD j .top) ((p.2.xZ.getD i []).getD j .top)
 | [],_,p,hp=>by cases hp
 | q :: r,h,p,hp=>by
  rcases List.mem_cons.1 hp with rfl | hp
  ·exact h.1
  ·exact pt h.2 p hp
theorem yJ.deep {C:Cx} {f f':Fr} {σ:St} {objs':List (Nat × Ob)} (K:Nat->Prop) (ho:Vp σ K objs') (hf:Vo σ K f f'):yJ C f σ f' ⟨σ.nx,objs'⟩:=by
 rintro E a w ⟨ι,G⟩;have hS:=G.oC;have hlive:∀ k o,St.get ⟨σ.nx,objs'⟩ k=some o->K k/\∃ ob,σ.get k=some ob/\ob.sz=o.sz/\ob.xZ.length=o.xZ.length/\∀ i,i<o.xZ.length->(o.xZ.getD i []).length=(ob.xZ.getD i []).length/\∀ j,(o.xZ.getD i []).getD j .top=(ob.xZ.getD i []).getD j .top\/Seen σ K ((ob.xZ.getD i []).getD j .top) ((o.xZ.getD i []).getD j .top):=λk o hk=>pt ho (k,o) (vU hk)
 have hM1:∀ b,yO E.M0 ι ⟨σ.nx,objs'⟩ b->Mk E.M0 ι σ K b:=by
  rintro b (hb | ⟨k,o,hk,rfl⟩)
  ·exact .inl hb
  ·obtain⟨h1,ob,h2,_⟩:=hlive k o hk;exact .inr ⟨k,ob,h1,h2,rfl⟩
 have hM2:∀ b,yO E.M0 ι ⟨σ.nx,objs'⟩ b->yO E.M0 ι σ b:=λb hb=>(hM1 b hb).Lz;have same:∀ {v:Value} {d:D},R (yO E.M0 ι σ) w ι σ.nx v d->R (yO E.M0 ι ⟨σ.nx,objs'⟩) w ι σ.nx v d:=λh=>h.xC (λ_ _ _=>rfl) (λb _ hb=>hM2 b hb) (λ_ cur _ h=>⟨cur,h,rfl⟩) (λ_ _=>rfl) (γ _)
 have seen:∀ {v:Value} {d d':D},R (yO E.M0 ι σ) w ι σ.nx v d->(d'=d\/Seen σ K d d')->R (yO E.M0 ι ⟨σ.nx,objs'⟩) w ι σ.nx v d':=by
  intro v d d' h hs
  rcases hs with rfl | hs
  ·exact same h
  ·exact .pure ((hs _ w ι v hS h).xC (λ_ _ _=>rfl) λb _ hb=>hM1 b hb)
 refine⟨ι,G.size,G.defers,G.nx,G.kept,⟨hS.oS,λk o hk=>?_,λk k' o o' hk hk' e=>?_,λk o hk=>?_,hS.sR.xC (γ _) (λ_ _ _=>rfl) λb _ hb=>hM2 b hb⟩,G.oS,λk o hk=>?_,G.stay,λt=>?_⟩
 ·obtain⟨_,ob,h2,h3,h4,h5⟩:=hlive k o hk;obtain⟨g1,g2⟩:=hS.holds k ob h2;refine⟨g1,?_⟩
  rcases g2 with ⟨s0,cur,e,c1,c2,c3,c4⟩ | ⟨s0,es,c1,c2,c3⟩
  ·refine .inl ⟨by omega,cur,e,c1,λel he=>?_,by rw [<- h4,<- h3]; exact c3,λi hi j hj=>⟨(c4 i (by omega) j (by omega)).1 |> λh=>by rw [<- h3]; exact h,?_⟩⟩
   ·obtain⟨i,hi,rfl⟩:=List.getElem_of_mem he;have:=(h5 i hi).1;have e2:o.xZ.getD i []=o.xZ[i]:=by simp [List.getD,hi]
    rw [<- e2,this,<- h3];have hi':i<ob.xZ.length:=by omega
    have e3:ob.xZ.getD i []=ob.xZ[i]:=by simp [List.getD,hi']
    rw [e3];exact c2 _ (δ hi')
   ·have:=(c4 i (by omega) j (by omega)).2;rw [h3] at this;exact seen this ((h5 i hi).2 j)
  ·refine .inr ⟨by omega,es,c1,by omega,λi hi=>?_⟩;obtain⟨kk,v,x,d,r1,r2,r3,r4⟩:=c3 i (by omega);obtain⟨e1,e2⟩:=h5 i hi;rw [r1] at e1 e2;generalize o.xZ.getD i []=row at e1 e2
   match row,e1 with
   | [x',d'],_=>exact⟨kk,v,x',d',rfl,r2,seen r3 (e2 0),seen r4 (e2 1)⟩
 ·obtain⟨_,ob,h1,_⟩:=hlive k o hk;obtain⟨_,ob',h2,_⟩:=hlive k' o' hk';exact hS.inj k k' ob ob' h1 h2 e
 ·obtain⟨_,ob,h1,_⟩:=hlive k o hk;exact hS.notM k ob h1
 ·obtain⟨_,ob,h1,_⟩:=hlive k o hk;exact G.rQ k ob h1
 ·have fr:=G.fr t
  induction f' with
  | nil=>exact R.top _
  | cons p r ih=>
   obtain⟨s,d'⟩:=p;simp only [Vo] at hf;simp only [Fr.get]
   split
   ·rename_i e;subst e;exact seen fr (hf.1.imp Eq.symm id)
   ·exact ih hf.2
end Go.Pd
