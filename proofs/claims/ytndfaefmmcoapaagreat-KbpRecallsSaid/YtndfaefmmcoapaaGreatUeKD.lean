/- Part KD. -/
import Derived.Test.YtndfaefmmcoapaaGreatUeKB
set_option linter.unusedSectionVars false
set_option linter.unusedVariables false
set_option linter.unusedSimpArgs false
set_option linter.defProp false
set_option maxRecDepth 20000
set_option maxHeartbeats 1000000
namespace Go.Pd
open Go Go.Proofs
open BitVec renaming isValue -> ZA
open Rs Fm Ru Kb
theorem bY2 (p:PrA) (sm:qO p):yV Tryz.prog 66 [p.d] (.int .i64 (zP p)):=by
 have hD:p.d = .agg [.int .i64 p.F,.sl 1 (us p.init),.sl 1 (us p.see),.sl 1 (mvR p.xL),.sl 1 (cdR p.code)]:=rfl;have h5:=sm.code;rw [hD];refine xX.xP mixed Tryz.func66 k66 (by simp) fun hf=>?_
 by_cases a1:p.F<0
 ·rw [show zP p=2 by unfold zP; simp [a1]];simp only [simprocAttr,-ZA,↓zU,↓zD,zV,zT,zW,a1];exact .dv
 by_cases a2:8<p.F
 ·rw [show zP p=2 by unfold zP; simp [a2]];simp only [simprocAttr,-ZA,↓zU,↓zD,zV,zT,zW,a1,a2];exact .dv
 have hfe:zP p=if 4<p.see.length\/16<p.init.length\/8<p.xL.length\/p.code.any (fun l=>decide (6<l.length))= true then 8 else
   if p.see.length=0\/p.init.length=0\/p.code.length≠p.see.length\/p.init.any (mX p)= true\/p.see.any (mX p)= true then 3 else
   if aJw p.init=false\/p.xL.any (fun s=>!aW7 s)= true then 9 else 0:=by
  unfold zP; rw [if_neg (by omega)]
 by_cases a3:4<p.see.length
 ·rw [show zP p=8 by simp [hfe,a3]];have a3':(4:Int)<(p.see.length:Int):=by omega
  simp only [simprocAttr,-ZA,↓zU,↓zD,zV,zT,zW,a1,a2,a3',xO];exact .dv
 have a3':¬ (4:Int)<(p.see.length:Int):=by omega
 by_cases a4:16<p.init.length
 ·rw [show zP p=8 by simp [hfe,a4]];have a4':(16:Int)<(p.init.length:Int):=by omega
  simp only [simprocAttr,-ZA,↓zU,↓zD,zV,zT,zW,a1,a2,a3',a4',xO];exact .dv
 have a4':¬ (16:Int)<(p.init.length:Int):=by omega
 by_cases a5:8<p.xL.length
 ·rw [show zP p=8 by simp [hfe,a5]];have a5':(8:Int)<(p.xL.length:Int):=by omega
  simp only [simprocAttr,-ZA,↓zU,↓zD,zV,zT,zW,a1,a2,a3',a4',a5',xO,yP];exact .dv
 have a5':¬ (8:Int)<(p.xL.length:Int):=by omega
 simp only [simprocAttr,-ZA,↓zU,↓zD,zV,zT,zW,a1,a2,a3',a4',a5',xO,yP]
 refine xW (fun k:Nat=>[(3,.int .i64 k),(1,.ref 0 5 0 0)]) (fun _=>⟨1,[(0,⟨5,[p.cells]⟩)]⟩)
  (fun k=>k<=p.code.length/\p.code.any (fun l=>decide (6<l.length))= (p.code.drop k).any (fun l=>decide (6<l.length))) (fun k=>p.code.length-k) 0 ⟨Nat.zero_le _,rfl⟩ ?_ ?_
 ·unfold PrA.cells; (refine xI.same ?_; simp [xR,Fr.get])
 intro k ⟨hk,hi⟩;refine xQ mixed ?_;by_cases hkl:k<p.code.length
 case pos=>
  have hd:((k:Int)<(p.code.length:Int)):=by omega
  rw [drop_cons (d:=[]) hkl,List.any_cons] at hi;have hg:=kA p.code hkl;generalize p.code.getD k []=s at hi hg;unfold PrA.cells
  by_cases h6:6<s.length
  ·have h6':(6:Int)<(s.length:Int):=by omega
   rw [decide_eq_true h6,Bool.true_or] at hi;rw [show zP p=8 by simp only [hfe,hi]; simp];simp only [simprocAttr,-ZA,↓zU,↓zD,zV,zT,zW,hd,yE,hg,wA,h6']
   (repeat refine sd ?_)
   exact .dv
  ·have h6':¬ (6:Int)<(s.length:Int):=by omega
   rw [decide_eq_false h6,Bool.false_or] at hi;simp only [simprocAttr,-ZA,↓zU,↓zD,zV,zT,zW,hd,yE,hg,wA,h6']
   (repeat refine sd ?_)
   refine⟨k+1,⟨by omega,hi⟩,?_,by omega⟩
   (refine xI.same ?_; simp only [xR,Fr.get,simprocAttr,-ZA,zS])
   exact wrap_i64 (by omega)
 have hd:¬ ((k:Int)<(p.code.length:Int)):=by omega
 have a6:p.code.any (fun l=>decide (6<l.length))= false:=by rw [hi,List.drop_eq_nil_of_le (by omega)]; rfl
 clear hi;unfold PrA.cells;simp only [simprocAttr,-ZA,↓zU,↓zD,zV,zT,zW,hd,yE]
 have hf1:zP p=if p.see.length=0\/p.init.length=0\/p.code.length≠p.see.length\/p.init.any (mX p)= true\/p.see.any (mX p)= true then 3 else
   if aJw p.init=false\/p.xL.any (fun s=>!aW7 s)= true then 9 else 0:=by rw [hfe,if_neg (by rw [a6]; simp only [not_or]; exact⟨by omega,by omega,by omega,by simp⟩)]
 by_cases b1:p.see.length=0
 ·rw [show zP p=3 by rw [hf1,if_pos (.inl b1)]];have b1':((p.see.length:Int)== 0)= true:=by rw [b1]; rfl
  simp only [simprocAttr,-ZA,↓zU,↓zD,zV,zT,zW,xO,b1'];exact .dv
 have b1':((p.see.length:Int)== 0)= false:=by rw [beq_eq_false_iff_ne]; omega
 by_cases b2:p.init.length=0
 ·rw [show zP p=3 by rw [hf1,if_pos (.inr (.inl b2))]];have b2':((p.init.length:Int)== 0)= true:=by rw [b2]; rfl
  simp only [simprocAttr,-ZA,↓zU,↓zD,zV,zT,zW,xO,b1',b2'];exact .dv
 have b2':((p.init.length:Int)== 0)= false:=by rw [beq_eq_false_iff_ne]; omega
 by_cases b3:p.code.length=p.see.length
 case neg=>
  rw [show zP p=3 by rw [hf1,if_pos (.inr (.inr (.inl b3)))]];have b3':((p.code.length:Int) != (p.see.length:Int))= true:=by rw [bne_iff_ne]; omega
  simp only [simprocAttr,-ZA,↓zU,↓zD,zV,zT,zW,xO,b1',b2',yE,b3'];exact .dv
 have b3':((p.code.length:Int) != (p.see.length:Int))= false:=by rw [b3]; exact bne_self_eq_false _
 simp only [simprocAttr,-ZA,↓zU,↓zD,zV,zT,zW,xO,b1',b2',yE,b3'];clear hk hkl hd
 refine xW (fun k:Nat=>[(4,.int .i64 k),(1,.ref 0 5 0 0)]) (fun _=>⟨1,[(0,⟨5,[p.cells]⟩)]⟩)
  (fun k=>k<=p.init.length/\p.init.any (mX p)= (p.init.drop k).any (mX p)) (fun k=>p.init.length-k) 0 ⟨Nat.zero_le _,rfl⟩ ?_ ?_
 ·unfold PrA.cells; (refine xI.same ?_; simp [xR,Fr.get])
 intro k ⟨hk,hi⟩;refine xQ mixed ?_;by_cases hkl:k<p.init.length
 case pos=>
  have hd:((k:Int)<(p.init.length:Int)):=by omega
  rw [drop_cons (d:=0) hkl,List.any_cons] at hi;have hg:=zE p.init hkl;generalize p.init.getD k 0=x at hi hg;unfold PrA.cells
  by_cases hx:x >>> p.F.toNat=0#64
  ·have ex:(x >>> p.F.toNat != 0#64)= false:=by simpa using hx
   rw [show mX p x=false by unfold mX; rw [decide_eq_true hx]; rfl,Bool.false_or] at hi;simp only [simprocAttr,-ZA,↓zU,↓zD,zV,zT,zW,hd,xO,hg,ex]
   (repeat refine sd ?_)
   refine⟨k+1,⟨by omega,hi⟩,?_,by omega⟩
   (refine xI.same ?_; simp only [xR,Fr.get,simprocAttr,-ZA,zS])
   exact wrap_i64 (by omega)
  ·have ex:(x >>> p.F.toNat != 0#64)= true:=by simpa using hx
   rw [show mX p x=true by unfold mX; rw [decide_eq_false hx]; rfl,Bool.true_or] at hi;rw [show zP p=3 by rw [hf1,if_pos (.inr (.inr (.inr (.inl hi))))]];simp only [simprocAttr,-ZA,↓zU,↓zD,zV,zT,zW,hd,xO,hg,ex]
   (repeat refine sd ?_)
   exact .dv
 have hd:¬ ((k:Int)<(p.init.length:Int)):=by omega
 have b4:p.init.any (mX p)= false:=by rw [hi,List.drop_eq_nil_of_le (by omega)]; rfl
 clear hi;unfold PrA.cells;simp only [simprocAttr,-ZA,↓zU,↓zD,zV,zT,zW,hd,xO];clear hk hkl hd
 refine xW (fun k:Nat=>[(5,.int .i64 k),(1,.ref 0 5 0 0)]) (fun _=>⟨1,[(0,⟨5,[p.cells]⟩)]⟩)
  (fun k=>k<=p.see.length/\p.see.any (mX p)= (p.see.drop k).any (mX p)) (fun k=>p.see.length-k) 0 ⟨Nat.zero_le _,rfl⟩ ?_ ?_
 ·unfold PrA.cells; (refine xI.same ?_; simp [xR,Fr.get])
 intro k ⟨hk,hi⟩;refine xQ mixed ?_;by_cases hkl:k<p.see.length
 case pos=>
  have hd:((k:Int)<(p.see.length:Int)):=by omega
  rw [drop_cons (d:=0) hkl,List.any_cons] at hi;have hg:=zE p.see hkl;generalize p.see.getD k 0=x at hi hg;unfold PrA.cells
  by_cases hx:x >>> p.F.toNat=0#64
  ·have ex:(x >>> p.F.toNat != 0#64)= false:=by simpa using hx
   rw [show mX p x=false by unfold mX; rw [decide_eq_true hx]; rfl,Bool.false_or] at hi;simp only [simprocAttr,-ZA,↓zU,↓zD,zV,zT,zW,hd,xO,hg,ex]
   (repeat refine sd ?_)
   refine⟨k+1,⟨by omega,hi⟩,?_,by omega⟩
   (refine xI.same ?_; simp only [xR,Fr.get,simprocAttr,-ZA,zS])
   exact wrap_i64 (by omega)
  ·have ex:(x >>> p.F.toNat != 0#64)= true:=by simpa using hx
   rw [show mX p x=true by unfold mX; rw [decide_eq_false hx]; rfl,Bool.true_or] at hi;rw [show zP p=3 by rw [hf1,if_pos (.inr (.inr (.inr (.inr hi))))]];simp only [simprocAttr,-ZA,↓zU,↓zD,zV,zT,zW,hd,xO,hg,ex]
   (repeat refine sd ?_)
   exact .dv
 have hd:¬ ((k:Int)<(p.see.length:Int)):=by omega
 have b5:p.see.any (mX p)= false:=by rw [hi,List.drop_eq_nil_of_le (by omega)]; rfl
 clear hi;unfold PrA.cells;simp only [simprocAttr,-ZA,↓zU,↓zD,zV,zT,zW,hd,xO];clear hk hkl hd;have hf2:zP p=if aJw p.init=false\/p.xL.any (fun s=>!aW7 s)= true then 9 else 0:=by rw [hf1,if_neg (by simp [b1,b2,b3,b4,b5])]
 have hlm:(p.init.map ui).length=p.init.length:=by simp
 have hgm:∀ i,(p.init.map ui).getD i 0=ui (p.init.getD i 0):=fun i=>by simp only [List.getD,List.getElem?_map];cases p.init[i]? <;> rfl
 refine xW (fun k:Nat=>[(6,.int .i64 ((k+1:Nat):Int)),(1,.ref 0 5 0 0)]) (fun _=>⟨1,[(0,⟨5,[p.cells]⟩)]⟩)
  (fun k=>k<=p.init.length/\∀ i,i<k->i+1<p.init.length->(p.init.map ui).getD i 0<(p.init.map ui).getD (i+1) 0) (fun k=>p.init.length-k) 0 ⟨Nat.zero_le _,fun i hi=>absurd hi (Nat.not_lt_zero _)⟩ ?_ ?_
 ·unfold PrA.cells; (refine xI.same ?_; simp [xR,Fr.get])
 intro k ⟨hk,hi⟩;refine xQ mixed ?_;by_cases hh:k+1<p.init.length
 case pos=>
  have hd:(((k+1:Nat):Int)<(p.init.length:Int)):=by omega
  have hw:IntKind.i64.wrap (((k+1:Nat):Int)-1)= (k:Int):=by rw [wrap_i64 (by omega)]; omega
  have hd2:((k:Int)<(p.init.length:Int)):=by omega
  have g1:=zE p.init (show k<p.init.length by omega);have g2:=zE p.init hh;have q1:=hgm k;have q2:=hgm (k+1);unfold PrA.cells
  by_cases hlt:ui (p.init.getD k 0)<ui (p.init.getD (k+1) 0)
  ·have hlt2:¬ ui (p.init.getD (k+1) 0)<=ui (p.init.getD k 0):=by omega
   simp only [simprocAttr,-ZA,↓zU,↓zD,zV,zT,zW,hd,xO,hw,hd2,g1,g2,hlt2]
   (repeat refine sd ?_)
   refine⟨k+1,⟨by omega,fun i h1 h2=>?_⟩,?_,by omega⟩
   ·by_cases e:i=k
    ·rw [e,q1,q2]; exact hlt
    ·exact hi i (by omega) h2
   (refine xI.same ?_; simp only [xR,Fr.get,simprocAttr,-ZA,zS])
   exact wrap_i64 (by omega)
  ·have hlt2:ui (p.init.getD (k+1) 0)<=ui (p.init.getD k 0):=by omega
   rw [show zP p=9 by rw [hf2,if_pos (.inl (lX (i:=k) (by omega) (by rw [q1,q2]; exact hlt)))]];simp only [simprocAttr,-ZA,↓zU,↓zD,zV,zT,zW,hd,xO,hw,hd2,g1,g2,hlt2]
   (repeat refine sd ?_)
   exact .dv
 have hd:¬ (((k+1:Nat):Int)<(p.init.length:Int)):=by omega
 have c1:aJw p.init=true:=lY fun i h=>hi i (by omega) (by omega);clear hi;unfold PrA.cells;simp only [simprocAttr,-ZA,↓zU,↓zD,zV,zT,zW,hd,xO];clear hk hh hd
 refine xW (fun k:Nat=>[(7,.int .i64 k),(1,.ref 0 5 0 0)]) (fun _=>⟨1,[(0,⟨5,[p.cells]⟩)]⟩)
  (fun k=>k<=p.xL.length/\p.xL.any (fun s=>!aW7 s)= (p.xL.drop k).any (fun s=>!aW7 s)) (fun k=>p.xL.length-k) 0 ⟨Nat.zero_le _,rfl⟩ ?_ ?_
 ·unfold PrA.cells; (refine xI.same ?_; simp [xR,Fr.get])
 intro k ⟨hk,hi⟩;refine xQ mixed ?_;by_cases hkl:k<p.xL.length
 case neg=>
  have hd:¬ ((k:Int)<(p.xL.length:Int)):=by omega
  have c2:p.xL.any (fun s=>!aW7 s)= false:=by rw [hi,List.drop_eq_nil_of_le (by omega)]; rfl
  rw [show zP p=0 by rw [hf2,if_neg (by simp [c1,c2])]];unfold PrA.cells;simp only [simprocAttr,-ZA,↓zU,↓zD,zV,zT,zW,hd,yP];exact .dv
 have hd:((k:Int)<(p.xL.length:Int)):=by omega
 rw [drop_cons (d:=[]) hkl,List.any_cons] at hi;have hg:=kF p.xL hkl;have hs:=sm.mv _ (xN (d:=[]) hkl);generalize p.xL.getD k []=s at hi hg hs;have hls:(s.map (·.fact)).length=s.length:=by simp
 have hgs:∀ i,i<s.length->(s.map (·.fact)).getD i 0=(s.getD i as0).fact:=fun i h=>by simp [List.getD,h]
 unfold PrA.cells;simp only [simprocAttr,-ZA,↓zU,↓zD,zV,zT,zW,hd,yP]
 refine xW (fun j:Nat=>[(8,.int .i64 ((j+1:Nat):Int)),(7,.int .i64 k),(1,.ref 0 5 0 0)]) (fun _=>⟨1,[(0,⟨5,[p.cells]⟩)]⟩)
  (fun j=>j<=s.length/\∀ i,i<j->i+1<s.length->(s.map (·.fact)).getD i 0<(s.map (·.fact)).getD (i+1) 0) (fun j=>s.length-j) 0 ⟨Nat.zero_le _,fun i hi=>absurd hi (Nat.not_lt_zero _)⟩ ?_ ?_
 ·unfold PrA.cells; (refine xI.same ?_; simp [xR,Fr.get])
 intro j ⟨hj,hi2⟩;refine xQ mixed ?_;by_cases hh:j+1<s.length
 case neg=>
  have hd2:¬ (((j+1:Nat):Int)<(s.length:Int)):=by omega
  have c2:aW7 s=true:=lY fun i h=>hi2 i (by omega) (by omega);rw [c2,Bool.not_true,Bool.false_or] at hi;unfold PrA.cells;simp only [simprocAttr,-ZA,↓zU,↓zD,zV,zT,zW,hd2,hd,yP,hg,wM]
  (repeat refine sd ?_)
  refine⟨k+1,⟨by omega,hi⟩,?_,by omega⟩
  (refine xI.same ?_; simp only [xR,Fr.get,simprocAttr,-ZA,zS])
  exact wrap_i64 (by omega)
 have hd2:(((j+1:Nat):Int)<(s.length:Int)):=by omega
 have hw:IntKind.i64.wrap (((j+1:Nat):Int)-1)= (j:Int):=by rw [wrap_i64 (by omega)]; omega
 have hd3:((j:Int)<(s.length:Int)):=by omega
 have g1:=nM s (show j<s.length by omega);have g2:=nM s hh;have q1:=hgs j (by omega);have q2:=hgs (j+1) hh;unfold AsA.row at g1 g2;unfold PrA.cells
 by_cases hlt:(s.getD j as0).fact<(s.getD (j+1) as0).fact
 ·have hlt2:¬ (s.getD (j+1) as0).fact<=(s.getD j as0).fact:=by omega
  simp only [simprocAttr,-ZA,↓zU,↓zD,zV,zT,zW,hd2,hd,yP,hg,wM,hw,hd3,g1,g2,hlt2]
  (repeat refine sd ?_)
  refine⟨j+1,⟨by omega,fun i h1 h2=>?_⟩,?_,by omega⟩
  ·by_cases e:i=j
   ·rw [e,q1,q2]; exact hlt
   ·exact hi2 i (by omega) h2
  (refine xI.same ?_; simp only [xR,Fr.get,simprocAttr,-ZA,zS])
  exact wrap_i64 (by omega)
 ·have hlt2:(s.getD (j+1) as0).fact<=(s.getD j as0).fact:=by omega
  have c2:aW7 s=false:=lX (i:=j) (by omega) (by rw [q1,q2]; exact hlt);rw [show zP p=9 by rw [hf2,if_pos (.inr (by rw [hi,c2]; rfl))]];simp only [simprocAttr,-ZA,↓zU,↓zD,zV,zT,zW,hd2,hd,yP,hg,wM,hw,hd3,g1,g2,hlt2]
  (repeat refine sd ?_)
  exact .dv
theorem aWs (p:PrA) (f:List Nd) (fr:Int):yV Tryz.prog 67 [p.d,.sl 6 (ndR f),.int .i64 fr] (.int .i64 (fmE p f fr)):=by
 have h1:=aUc f;have h2:=aQy f;have h3:=aLt f p.see.length p.F;unfold PrA.d PrA.cells fmE;refine xX.xP mixed Tryz.func67 k67 (by simp) fun hf=>?_;simp only [simprocAttr,-ZA,↓zU,↓zD,zV,zT,zW]
 (repeat refine sd ?_)
 refine .go (cr h1) ?_;by_cases e1:yY f=0
 case neg=>
  have e1':(yY f != 0)= true:=by simpa using e1
  simp only [simprocAttr,-ZA,↓zU,↓zD,zV,zT,zW,e1',e1];exact .dv
 have e1':(yY f != 0)= false:=by simpa using e1
 simp only [simprocAttr,-ZA,↓zU,↓zD,zV,zT,zW,e1',e1];refine .go (cr h2) ?_;cases e2:qI .andNot .i64 (wX f) fr != 0
 case true=> simp only [simprocAttr,-ZA,↓zU,↓zD,zV,zT,zW,e2];exact .dv
 simp only [simprocAttr,-ZA,↓zU,↓zD,zV,zT,zW,e2]
 (repeat refine sd ?_)
 refine .go (cr h3) ?_
 cases e3:rO f p.see.length p.F
 ·simp only [simprocAttr,-ZA,↓zU,↓zD,zV,zT,zW];exact .dv
 ·simp only [simprocAttr,-ZA,↓zU,↓zD,zV,zT,zW];exact .dv
theorem aQ2 (p:PrA) (sm:qO p):yV Tryz.prog 18 [p.d] (.int .i64 (tH p)):=by
 have hS:=bY2 p sm;have hF:=fun f fr=>aWs p f fr;have hD:p.d = .agg [.int .i64 p.F,.sl 1 (us p.init),.sl 1 (us p.see),.sl 1 (mvR p.xL),.sl 1 (cdR p.code)]:=rfl;rw [hD] at *;refine xX.xP mixed Tryz.func18 k18 (by simp) fun hf=>?_;simp only [simprocAttr,-ZA,↓zU,↓zD,zV,zT,zW]
 (repeat refine sd ?_)
 refine .go (cr hS) ?_;by_cases s0:zP p=0
 case neg=>
  have s0':(zP p != 0)= true:=by simpa using s0
  rw [show tH p=zP p by unfold tH; rw [if_pos s0]];simp only [simprocAttr,-ZA,↓zU,↓zD,zV,zT,zW,s0'];exact .dv
 have s0':(zP p != 0)= false:=by simpa using s0
 have hch:tH p=if wC (wC (asE p)) p.xL≠0 then wC (wC (asE p)) p.xL else wC (wC (clE p)) p.code:=by unfold tH; rw [s0,if_neg (by simp)]
 have hsm:p.xL.length<=8/\∀ s ∈ p.code,s.length<=6:=by
  unfold zP at s0
  split at s0
  ·cases s0
  ·split at s0
   ·cases s0
   ·rename_i h;simp only [not_or] at h;refine⟨by omega,fun s hs=>?_⟩;have:=List.any_eq_false.1 (Bool.eq_false_iff.2 h.2.2.2) s hs;simpa using this
 simp only [simprocAttr,-ZA,↓zU,↓zD,zV,zT,zW,s0']
 refine xW (fun k:Nat=>[(4,.int .i64 k),(1,.ref 0 5 0 0)]) (fun _=>⟨1,[(0,⟨5,[p.cells]⟩)]⟩)
  (fun k=>k<=p.xL.length/\wC (wC (asE p)) p.xL=wC (wC (asE p)) (p.xL.drop k)) (fun k=>p.xL.length-k) 0 ⟨Nat.zero_le _,rfl⟩ ?_ ?_
 ·unfold PrA.cells; (refine xI.same ?_; simp [xR,Fr.get])
 intro k ⟨hk,hi⟩;refine xQ mixed ?_;by_cases hkl:k<p.xL.length
 case pos=>
  have hd:((k:Int)<(p.xL.length:Int)):=by omega
  rw [tX (d:=[]) _ hkl] at hi;have hg:=kF p.xL hkl;have hs:=sm.mv _ (xN (d:=[]) hkl);generalize p.xL.getD k []=s at hi hg hs;unfold PrA.cells;simp only [simprocAttr,-ZA,↓zU,↓zD,zV,zT,zW,hd,yP]
  refine xW (fun j:Nat=>[(5,.int .i64 j),(4,.int .i64 k),(1,.ref 0 5 0 0)]) (fun _=>⟨1,[(0,⟨5,[p.cells]⟩)]⟩)
   (fun j=>j<=s.length/\wC (asE p) s=wC (asE p) (s.drop j)) (fun j=>s.length-j) 0 ⟨Nat.zero_le _,rfl⟩ ?_ ?_
  ·unfold PrA.cells; (refine xI.same ?_; simp [xR,Fr.get])
  intro j ⟨hj,hi2⟩;refine xQ mixed ?_;by_cases hjl:j<s.length
  case neg=>
   have hd2:¬ ((j:Int)<(s.length:Int)):=by omega
   have h0:wC (asE p) s=0:=by rw [hi2,List.drop_eq_nil_of_le (by omega)]; rfl
   rw [h0,if_neg (by simp)] at hi;unfold PrA.cells;simp only [simprocAttr,-ZA,↓zU,↓zD,zV,zT,zW,hd2,hd,yP,hg,wM]
   (repeat refine sd ?_)
   refine⟨k+1,⟨by omega,hi⟩,?_,by omega⟩
   (refine xI.same ?_; simp only [xR,Fr.get,simprocAttr,-ZA,zS])
   exact wrap_i64 (by omega)
  have hd2:((j:Int)<(s.length:Int)):=by omega
  rw [tX (d:=as0) _ hjl] at hi2;have hg2:=nM s hjl;unfold AsA.row at hg2;generalize s.getD j as0=a at hi2 hg2;have hend:asE p a≠0->tH p=asE p a:=fun h=>by rw [hch,hi,hi2,if_pos h,if_pos h,if_pos h]
  unfold PrA.cells;have hFa:=hF a.to 0
  by_cases c1:a.fact<0
  ·have e:asE p a=2:=by unfold asE; rw [if_pos (.inl c1)]
   rw [hend (by rw [e]; decide),e];simp only [simprocAttr,-ZA,↓zU,↓zD,zV,zT,zW,hd2,hd,yP,hg,wM,hg2,c1]
   (repeat refine sd ?_)
   exact .dv
  by_cases c2:p.F<=a.fact
  ·have e:asE p a=2:=by unfold asE; rw [if_pos (.inr c2)]
   rw [hend (by rw [e]; decide),e];simp only [simprocAttr,-ZA,↓zU,↓zD,zV,zT,zW,hd2,hd,yP,hg,wM,hg2,c1,c2]
   (repeat refine sd ?_)
   exact .dv
  have e:asE p a=fmE p a.to 0:=by unfold asE; rw [if_neg (by omega)]
  rw [<- e] at hFa;simp only [simprocAttr,-ZA,↓zU,↓zD,zV,zT,zW,hd2,hd,yP,hg,wM,hg2,c1,c2]
  (repeat refine sd ?_)
  refine .go (cr hFa) ?_
  by_cases c3:asE p a=0
  ·have c3':(asE p a != 0)= false:=by simpa using c3
   rw [c3,if_neg (by simp)] at hi2;simp only [simprocAttr,-ZA,↓zU,↓zD,zV,zT,zW,c3'];refine⟨j+1,⟨by omega,hi2⟩,?_,by omega⟩
   (refine xI.ren [] [0] (by simp) (by simp) (by decide) ?_; simp only [yQ,vwL,vw,vwF,sw,St.get,St.look,Fr.get,simprocAttr,-ZA,exists_eq_left',ne_eq,zR])
   exact wrap_i64 (by omega)
  ·have c3':(asE p a != 0)= true:=by simpa using c3
   rw [hend c3];simp only [simprocAttr,-ZA,↓zU,↓zD,zV,zT,zW,c3'];exact .dv
 have hd:¬ ((k:Int)<(p.xL.length:Int)):=by omega
 have d1:wC (wC (asE p)) p.xL=0:=by rw [hi,List.drop_eq_nil_of_le (by omega)]; rfl
 rw [hch,d1,if_neg (by simp)];unfold PrA.cells;simp only [simprocAttr,-ZA,↓zU,↓zD,zV,zT,zW,hd,yP];clear hk hkl hd hi
 refine xW (fun k:Nat=>[(7,.int .i64 k),(1,.ref 0 5 0 0)]) (fun _=>⟨1,[(0,⟨5,[p.cells]⟩)]⟩)
  (fun k=>k<=p.code.length/\wC (wC (clE p)) p.code=wC (wC (clE p)) (p.code.drop k)) (fun k=>p.code.length-k) 0 ⟨Nat.zero_le _,rfl⟩ ?_ ?_
 ·unfold PrA.cells; (refine xI.same ?_; simp [xR,Fr.get])
 have hcl:=sm.code;intro k ⟨hk,hi⟩;refine xQ mixed ?_;by_cases hkl:k<p.code.length
 case neg=>
  have hd:¬ ((k:Int)<(p.code.length:Int)):=by omega
  rw [hi,List.drop_eq_nil_of_le (by omega)];unfold PrA.cells;simp only [simprocAttr,-ZA,↓zU,↓zD,zV,zT,zW,hd,yE];exact .drop (by simp) (by simp [vw,wC])
 have hd:((k:Int)<(p.code.length:Int)):=by omega
 rw [tX (d:=[]) _ hkl] at hi;have hg:=kA p.code hkl;have hs:=hsm.2 _ (xN (d:=[]) hkl);generalize p.code.getD k []=s at hi hg hs;unfold PrA.cells;simp only [simprocAttr,-ZA,↓zU,↓zD,zV,zT,zW,hd,yE]
 refine xW (fun j:Nat=>[(8,.int .i64 j),(7,.int .i64 k),(1,.ref 0 5 0 0)]) (fun _=>⟨1,[(0,⟨5,[p.cells]⟩)]⟩)
  (fun j=>j<=s.length/\wC (clE p) s=wC (clE p) (s.drop j)) (fun j=>s.length-j) 0 ⟨Nat.zero_le _,rfl⟩ ?_ ?_
 ·unfold PrA.cells; (refine xI.same ?_; simp [xR,Fr.get])
 intro j ⟨hj,hi2⟩;refine xQ mixed ?_;by_cases hjl:j<s.length
 case neg=>
  have hd2:¬ ((j:Int)<(s.length:Int)):=by omega
  have h0:wC (clE p) s=0:=by rw [hi2,List.drop_eq_nil_of_le (by omega)]; rfl
  rw [h0,if_neg (by simp)] at hi;unfold PrA.cells;simp only [simprocAttr,-ZA,↓zU,↓zD,zV,zT,zW,hd2,hd,yE,hg,wA]
  (repeat refine sd ?_)
  refine⟨k+1,⟨by omega,hi⟩,?_,by omega⟩
  (refine xI.same ?_; simp only [xR,Fr.get,simprocAttr,-ZA,zS])
  exact wrap_i64 (by omega)
 have hd2:((j:Int)<(s.length:Int)):=by omega
 rw [tX (d:=cl0) _ hjl] at hi2;have hg2:=aR s hjl;unfold ClA.row at hg2;generalize s.getD j cl0=c at hi2 hg2;have hend:clE p c≠0->wC (wC (clE p)) p.code=clE p c:=fun h=>by rw [hi,hi2,if_pos h,if_pos h]
 unfold PrA.cells;simp only [simprocAttr,-ZA,↓zU,↓zD,zV,zT,zW,hd2,hd,yE,hg,wA,hg2]
 (repeat refine sd ?_)
 refine .go (cr (hF c.test 15)) ?_;by_cases e1:fmE p c.test 15=0
 case neg=>
  have e1':(fmE p c.test 15 != 0)= true:=by simpa using e1
  have e:clE p c=fmE p c.test 15:=by unfold clE; rw [if_pos e1]
  rw [hend (by rw [e]; exact e1),e];simp only [simprocAttr,-ZA,↓zU,↓zD,zV,zT,zW,e1'];exact .dv
 have e1':(fmE p c.test 15 != 0)= false:=by simpa using e1
 by_cases e2:c.mv < -1
 ·have e:clE p c=2:=by unfold clE; rw [e1,if_neg (by simp),if_pos (.inl e2)]
  rw [hend (by rw [e]; decide),e];simp only [simprocAttr,-ZA,↓zU,↓zD,zV,zT,zW,e1',hd,yE,hg,hd2,wA,hg2,e2]
  (repeat refine sd ?_)
  exact .dv
 by_cases e3:(p.xL.length:Int)<=c.mv
 ·have e:clE p c=2:=by unfold clE; rw [e1,if_neg (by simp),if_pos (.inr e3)]
  rw [hend (by rw [e]; decide),e];simp only [simprocAttr,-ZA,↓zU,↓zD,zV,zT,zW,e1',hd,yE,hg,hd2,wA,hg2,e2,yP,e3]
  (repeat refine sd ?_)
  exact .dv
 have e:clE p c=0:=by unfold clE; rw [e1,if_neg (by simp),if_neg (by omega)]
 rw [e,if_neg (by simp)] at hi2;simp only [simprocAttr,-ZA,↓zU,↓zD,zV,zT,zW,e1',hd,yE,hg,hd2,wA,hg2,e2,yP,e3]
 (repeat refine sd ?_)
 refine⟨j+1,⟨by omega,hi2⟩,?_,by omega⟩
 (refine xI.same ?_; simp only [xR,Fr.get,simprocAttr,-ZA,zS])
 exact wrap_i64 (by omega)
open Rs Fm Ru Kb
namespace Kb
structure ChA where
 ag:Int
 seen:List (BitVec 64)
 mv:Int
def ch0 : ChA:=⟨0,[],0⟩
def ChA.row (c:ChA):List D:=[.int .i64 c.ag,.sl 1 (us c.seen),.int .i64 c.mv]
def chR (l:List ChA):List (List D):=l.map ChA.row
theorem vX (l:List ChA):(chR l).length=l.length:=by simp [chR]
theorem aQ (l:List ChA) {i:Nat} (h:i<l.length):(chR l).getD i []=(l.getD i ch0).row:=by simp [chR,List.getD,h]
theorem aFg (l:List ChA):∀ e ∈ chR l,D.xU e=true:=by intro e he;simp only [chR,List.mem_map] at he;obtain⟨c,_,rfl⟩:=he;rfl
def aJ2 (s:List AsA):Bool:=decide (12<s.length) || s.any fun a=>decide (40<a.to.length)
def aF2 (s:List ClA):Bool:=decide (8<s.length) || s.any fun c=>decide (40<c.test.length)
def dZ (p:PrA) (l:List ChA):Bool:=
 decide (p.init.length<=20)&& decide (p.xL.length<=12)&& decide (p.code.length<=8)&& decide (p.see.length<=8)&& decide (l.length<=100)&&
 !p.xL.any aJ2&&!p.code.any aF2&&!l.any fun c=>decide (12<c.seen.length)
end Kb
theorem aKy {p:PrA} {l:List ChA} (h:dZ p l=true):qO p:=by unfold dZ at h;simp only [Bool.and_eq_true,decide_eq_true_eq,Bool.not_eq_true'] at h;refine⟨by omega,by omega,fun s hs=>?_⟩;have:=List.any_eq_false.1 h.1.1.2 s hs;unfold aJ2 at this;simp only [Bool.or_eq_true,decide_eq_true_eq,not_or] at this;omega
theorem bVe (p:PrA) (l:List ChA):yV Tryz.prog 16 [p.d,.sl 3 (chR l)] (.bool (dZ p l)):=by
 have hD:p.d = .agg [.int .i64 p.F,.sl 1 (us p.init),.sl 1 (us p.see),.sl 1 (mvR p.xL),.sl 1 (cdR p.code)]:=rfl;rw [hD];refine xX.xP mixed Tryz.func16 k16 (by simp) fun hf=>?_
 by_cases a1:20<p.init.length
 ·have a1':(20:Int)<(p.init.length:Int):=by omega
  rw [show dZ p l=false by unfold dZ; rw [decide_eq_false (show ¬ p.init.length<=20 by omega)]; simp];simp only [simprocAttr,-ZA,↓zU,↓zD,zV,zT,zW,xO,a1'];exact .dv
 have a1':¬ (20:Int)<(p.init.length:Int):=by omega
 by_cases a2:12<p.xL.length
 ·have a2':(12:Int)<(p.xL.length:Int):=by omega
  rw [show dZ p l=false by unfold dZ; rw [decide_eq_false (show ¬ p.xL.length<=12 by omega)]; simp];simp only [simprocAttr,-ZA,↓zU,↓zD,zV,zT,zW,xO,yP,a1',a2'];exact .dv
 have a2':¬ (12:Int)<(p.xL.length:Int):=by omega
 by_cases a3:8<p.code.length
 ·have a3':(8:Int)<(p.code.length:Int):=by omega
  rw [show dZ p l=false by unfold dZ; rw [decide_eq_false (show ¬ p.code.length<=8 by omega)]; simp];simp only [simprocAttr,-ZA,↓zU,↓zD,zV,zT,zW,xO,yP,yE,a1',a2',a3'];exact .dv
 have a3':¬ (8:Int)<(p.code.length:Int):=by omega
 by_cases a4:8<p.see.length
 ·have a4':(8:Int)<(p.see.length:Int):=by omega
  rw [show dZ p l=false by unfold dZ; rw [decide_eq_false (show ¬ p.see.length<=8 by omega)]; simp];simp only [simprocAttr,-ZA,↓zU,↓zD,zV,zT,zW,xO,yP,yE,a1',a2',a3',a4'];exact .dv
 have a4':¬ (8:Int)<(p.see.length:Int):=by omega
 by_cases a5:100<l.length
 ·have a5':(100:Int)<(l.length:Int):=by omega
  rw [show dZ p l=false by unfold dZ; rw [decide_eq_false (show ¬ l.length<=100 by omega)]; simp];simp only [simprocAttr,-ZA,↓zU,↓zD,zV,zT,zW,xO,yP,yE,vX,a1',a2',a3',a4',a5'];exact .dv
 have a5':¬ (100:Int)<(l.length:Int):=by omega
 have hfe:dZ p l=(!p.xL.any aJ2&&!p.code.any aF2&&!l.any fun c=>decide (12<c.seen.length)):=by unfold dZ;rw [decide_eq_true (show p.init.length<=20 by omega),decide_eq_true (show p.xL.length<=12 by omega),decide_eq_true (show p.code.length<=8 by omega),decide_eq_true (show p.see.length<=8 by omega),decide_eq_true (show l.length<=100 by omega)];rfl
 simp only [simprocAttr,-ZA,↓zU,↓zD,zV,zT,zW,xO,yP,yE,vX,a1',a2',a3',a4',a5']
 refine xW (fun k:Nat=>[(5,.int .i64 k),(2,.ref 0 5 0 0),(1,.sl 3 (chR l))]) (fun _=>⟨1,[(0,⟨5,[p.cells]⟩)]⟩)
  (fun k=>k<=p.xL.length/\p.xL.any aJ2=(p.xL.drop k).any aJ2) (fun k=>p.xL.length-k) 0 ⟨Nat.zero_le _,rfl⟩ ?_ ?_
 ·unfold PrA.cells; (refine xI.same ?_; simp [xR,Fr.get])
 intro k ⟨hk,hi⟩;refine xQ mixed ?_;by_cases hkl:k<p.xL.length
 case pos=>
  have hd:((k:Int)<(p.xL.length:Int)):=by omega
  rw [drop_cons (d:=[]) hkl,List.any_cons] at hi;have hg:=kF p.xL hkl;generalize p.xL.getD k []=s at hi hg;have hend:aJ2 s=true->dZ p l=false:=fun h=>by rw [hfe,hi,h]; rfl
  unfold PrA.cells
  by_cases c1:12<s.length
  ·have c1':(12:Int)<(s.length:Int):=by omega
   rw [hend (by unfold aJ2; rw [decide_eq_true c1,Bool.true_or])];simp only [simprocAttr,-ZA,↓zU,↓zD,zV,zT,zW,hd,yP,hg,wM,c1']
   (repeat refine sd ?_)
   exact .dv
  have c1':¬ (12:Int)<(s.length:Int):=by omega
  have hb:aJ2 s=s.any fun a=>decide (40<a.to.length):=by unfold aJ2; rw [decide_eq_false c1,Bool.false_or]
  simp only [simprocAttr,-ZA,↓zU,↓zD,zV,zT,zW,hd,yP,hg,wM,c1']
  (repeat refine sd ?_)
  refine xW (fun j:Nat=>[(6,.int .i64 j),(5,.int .i64 k),(2,.ref 0 5 0 0),(1,.sl 3 (chR l))]) (fun _=>⟨1,[(0,⟨5,[p.cells]⟩)]⟩)
   (fun j=>j<=s.length/\(s.any fun a=>decide (40<a.to.length))= (s.drop j).any fun a=>decide (40<a.to.length)) (fun j=>s.length-j) 0 ⟨Nat.zero_le _,rfl⟩ ?_ ?_
  ·unfold PrA.cells; (refine xI.same ?_; simp [xR,Fr.get])
  intro j ⟨hj,hi2⟩;refine xQ mixed ?_;by_cases hjl:j<s.length
  case neg=>
   have hd2:¬ ((j:Int)<(s.length:Int)):=by omega
   rw [List.drop_eq_nil_of_le (by omega),List.any_nil] at hi2;rw [hb,hi2,Bool.false_or] at hi;unfold PrA.cells;simp only [simprocAttr,-ZA,↓zU,↓zD,zV,zT,zW,hd2,hd,yP,hg,wM]
   (repeat refine sd ?_)
   refine⟨k+1,⟨by omega,hi⟩,?_,by omega⟩
   (refine xI.same ?_; simp only [xR,Fr.get,simprocAttr,-ZA,zS])
   exact wrap_i64 (by omega)
  have hd2:((j:Int)<(s.length:Int)):=by omega
  rw [drop_cons (d:=as0) hjl,List.any_cons] at hi2;have hg2:=nM s hjl;unfold AsA.row at hg2;generalize s.getD j as0=a at hi2 hg2;unfold PrA.cells
  by_cases c2:40<a.to.length
  ·have c2':(40:Int)<(a.to.length:Int):=by omega
   rw [hend (by rw [hb,hi2,decide_eq_true c2,Bool.true_or])];simp only [simprocAttr,-ZA,↓zU,↓zD,zV,zT,zW,hd2,hd,yP,hg,wM,hg2,xJ,c2']
   (repeat refine sd ?_)
   exact .dv
  have c2':¬ (40:Int)<(a.to.length:Int):=by omega
  rw [decide_eq_false c2,Bool.false_or] at hi2;simp only [simprocAttr,-ZA,↓zU,↓zD,zV,zT,zW,hd2,hd,yP,hg,wM,hg2,xJ,c2']
  (repeat refine sd ?_)
  refine⟨j+1,⟨by omega,hi2⟩,?_,by omega⟩
  (refine xI.same ?_; simp only [xR,Fr.get,simprocAttr,-ZA,zS])
  exact wrap_i64 (by omega)
 have hd:¬ ((k:Int)<(p.xL.length:Int)):=by omega
 rw [List.drop_eq_nil_of_le (by omega),List.any_nil] at hi;rw [hi] at hfe;clear hk hkl hi;unfold PrA.cells;simp only [simprocAttr,-ZA,↓zU,↓zD,zV,zT,zW,hd,yP];clear hd
 refine xW (fun k:Nat=>[(7,.int .i64 k),(2,.ref 0 5 0 0),(1,.sl 3 (chR l))]) (fun _=>⟨1,[(0,⟨5,[p.cells]⟩)]⟩)
  (fun k=>k<=p.code.length/\p.code.any aF2=(p.code.drop k).any aF2) (fun k=>p.code.length-k) 0 ⟨Nat.zero_le _,rfl⟩ ?_ ?_
 ·unfold PrA.cells; (refine xI.same ?_; simp [xR,Fr.get])
 intro k ⟨hk,hi⟩;refine xQ mixed ?_;by_cases hkl:k<p.code.length
 case pos=>
  have hd:((k:Int)<(p.code.length:Int)):=by omega
  rw [drop_cons (d:=[]) hkl,List.any_cons] at hi;have hg:=kA p.code hkl;generalize p.code.getD k []=s at hi hg;have hend:aF2 s=true->dZ p l=false:=fun h=>by rw [hfe,hi,h]; rfl
  unfold PrA.cells
  by_cases c1:8<s.length
  ·have c1':(8:Int)<(s.length:Int):=by omega
   rw [hend (by unfold aF2; rw [decide_eq_true c1,Bool.true_or])];simp only [simprocAttr,-ZA,↓zU,↓zD,zV,zT,zW,hd,yE,hg,wA,c1']
   (repeat refine sd ?_)
   exact .dv
  have c1':¬ (8:Int)<(s.length:Int):=by omega
  have hb:aF2 s=s.any fun a=>decide (40<a.test.length):=by unfold aF2; rw [decide_eq_false c1,Bool.false_or]
  simp only [simprocAttr,-ZA,↓zU,↓zD,zV,zT,zW,hd,yE,hg,wA,c1']
  (repeat refine sd ?_)
  refine xW (fun j:Nat=>[(8,.int .i64 j),(7,.int .i64 k),(2,.ref 0 5 0 0),(1,.sl 3 (chR l))]) (fun _=>⟨1,[(0,⟨5,[p.cells]⟩)]⟩)
   (fun j=>j<=s.length/\(s.any fun a=>decide (40<a.test.length))= (s.drop j).any fun a=>decide (40<a.test.length)) (fun j=>s.length-j) 0 ⟨Nat.zero_le _,rfl⟩ ?_ ?_
  ·unfold PrA.cells; (refine xI.same ?_; simp [xR,Fr.get])
  intro j ⟨hj,hi2⟩;refine xQ mixed ?_;by_cases hjl:j<s.length
  case neg=>
   have hd2:¬ ((j:Int)<(s.length:Int)):=by omega
   rw [List.drop_eq_nil_of_le (by omega),List.any_nil] at hi2;rw [hb,hi2,Bool.false_or] at hi;unfold PrA.cells;simp only [simprocAttr,-ZA,↓zU,↓zD,zV,zT,zW,hd2,hd,yE,hg,wA]
   (repeat refine sd ?_)
   refine⟨k+1,⟨by omega,hi⟩,?_,by omega⟩
   (refine xI.same ?_; simp only [xR,Fr.get,simprocAttr,-ZA,zS])
   exact wrap_i64 (by omega)
  have hd2:((j:Int)<(s.length:Int)):=by omega
  rw [drop_cons (d:=cl0) hjl,List.any_cons] at hi2;have hg2:=aR s hjl;unfold ClA.row at hg2;generalize s.getD j cl0=a at hi2 hg2;unfold PrA.cells
  by_cases c2:40<a.test.length
  ·have c2':(40:Int)<(a.test.length:Int):=by omega
   rw [hend (by rw [hb,hi2,decide_eq_true c2,Bool.true_or])];simp only [simprocAttr,-ZA,↓zU,↓zD,zV,zT,zW,hd2,hd,yE,hg,wA,hg2,xJ,c2']
   (repeat refine sd ?_)
   exact .dv
  have c2':¬ (40:Int)<(a.test.length:Int):=by omega
  rw [decide_eq_false c2,Bool.false_or] at hi2;simp only [simprocAttr,-ZA,↓zU,↓zD,zV,zT,zW,hd2,hd,yE,hg,wA,hg2,xJ,c2']
  (repeat refine sd ?_)
  refine⟨j+1,⟨by omega,hi2⟩,?_,by omega⟩
  (refine xI.same ?_; simp only [xR,Fr.get,simprocAttr,-ZA,zS])
  exact wrap_i64 (by omega)
 have hd:¬ ((k:Int)<(p.code.length:Int)):=by omega
 rw [List.drop_eq_nil_of_le (by omega),List.any_nil] at hi;rw [hi] at hfe;clear hk hkl hi;unfold PrA.cells;simp only [simprocAttr,-ZA,↓zU,↓zD,zV,zT,zW,hd,yE];clear hd
 refine xW (fun k:Nat=>[(9,.int .i64 k),(1,.sl 3 (chR l))]) (fun _=>⟨1,[(0,⟨5,[p.cells]⟩)]⟩)
  (fun k=>k<=l.length/\(l.any fun c=>decide (12<c.seen.length))= (l.drop k).any fun c=>decide (12<c.seen.length)) (fun k=>l.length-k) 0 ⟨Nat.zero_le _,rfl⟩ ?_ ?_
 ·unfold PrA.cells; (refine xI.same ?_; simp [xR,Fr.get])
 intro k ⟨hk,hi⟩;refine xQ mixed ?_;by_cases hkl:k<l.length
 case pos=>
  have hd:((k:Int)<(l.length:Int)):=by omega
  rw [drop_cons (d:=ch0) hkl,List.any_cons] at hi;have hg:=aQ l hkl;unfold ChA.row at hg;generalize l.getD k ch0=s at hi hg;unfold PrA.cells
  by_cases c1:12<s.seen.length
  ·have c1':(12:Int)<(s.seen.length:Int):=by omega
   rw [show dZ p l=false by rw [hfe,hi,decide_eq_true c1]; rfl];simp only [simprocAttr,-ZA,↓zU,↓zD,zV,zT,zW,hd,vX,hg,xO,c1']
   (repeat refine sd ?_)
   exact .dv
  have c1':¬ (12:Int)<(s.seen.length:Int):=by omega
  rw [decide_eq_false c1,Bool.false_or] at hi;simp only [simprocAttr,-ZA,↓zU,↓zD,zV,zT,zW,hd,vX,hg,xO,c1']
  (repeat refine sd ?_)
  refine⟨k+1,⟨by omega,hi⟩,?_,by omega⟩
  (refine xI.same ?_; simp only [xR,Fr.get,simprocAttr,-ZA,zS])
  exact wrap_i64 (by omega)
 have hd:¬ ((k:Int)<(l.length:Int)):=by omega
 rw [List.drop_eq_nil_of_le (by omega),List.any_nil] at hi;rw [hfe,hi];unfold PrA.cells;simp only [simprocAttr,-ZA,↓zU,↓zD,zV,zT,zW,hd,vX];exact .dv
end Go.Pd
