/- Part KB. -/
import Derived.Test.YtndfaefmmcoapaaGreatUdS1
set_option linter.unusedSectionVars false
set_option linter.unusedVariables false
set_option linter.unusedSimpArgs false
set_option linter.defProp false
set_option maxRecDepth 20000
set_option maxHeartbeats 1000000
namespace Go.Pd
open Go Go.Proofs
open BitVec renaming isValue -> ZA
open Rs Fm Ru Kb
theorem bUo {nx:Nat} {xZ:List (Nat × Ob)} {p:PrA} (h0:St.look xZ 0=some ⟨5,[p.cells]⟩) (hf:0<=p.F) (x:BitVec 64):xY Tryz.prog 55 ([.int .u64 (ui x)] ++ [.ref 0 5 0 0]) ⟨nx,xZ⟩ (.bool (aNh p x)) ⟨nx,xZ⟩:=by
 unfold PrA.cells at h0;refine xY.xR mixed Tryz.func55 k55 (by simp) fun hf=>?_;simp only [simprocAttr,-ZA,↓zU,↓zD,zV,zT,zW,h0]
 (repeat refine sd ?_)
 unfold aNh
 by_cases hx:x >>> p.F.toNat=0#64
 ·have ex:(x >>> p.F.toNat != 0#64)= false:=by simpa using hx
  rw [decide_eq_true hx];simp only [simprocAttr,-ZA,↓zU,↓zD,zV,zT,zW,ex];exact .same
 ·have ex:(x >>> p.F.toNat != 0#64)= true:=by simpa using hx
  rw [decide_eq_false hx];simp only [simprocAttr,-ZA,↓zU,↓zD,zV,zT,zW,ex];exact .same
theorem bWt (l:List ClA):yB Tryz.prog 57 [.sl 2 (clR l)] (.bool (decide (6<l.length))):=by
 refine xY.xR mixed Tryz.func57 k57 (by simp) fun hf=>?_
 by_cases h:6<l.length
 ·have h':(6:Int)<(l.length:Int):=by omega
  rw [decide_eq_true h];simp only [simprocAttr,-ZA,↓zU,↓zD,zV,zT,zW,jM,h'];exact .same
 ·have h':¬ (6:Int)<(l.length:Int):=by omega
  rw [decide_eq_false h];simp only [simprocAttr,-ZA,↓zU,↓zD,zV,zT,zW,jM,h'];exact .same
theorem aOw (s:List AsA) (hl:s.length<=4400000000000):yB Tryz.prog 63 [.agg [.sl 2 (asR s)]] (.sl 1 (rows .i64 (s.map (·.fact)))):=by
 refine xY.xR mixed Tryz.func63 k63 (by simp) fun hf=>?_;simp only [simprocAttr,-ZA,↓zU,↓zD,zV,zT,zW,qL]
 refine xQ (fun k:Nat=>[(9,.int .i64 k),(8,.int .i64 s.length),(7,.sl 2 (asR s)),(3,xA 1 1 (rows .i64 ((s.take k).map (·.fact))))]) (fun k=>⟨2,yY 1 1 (rows .i64 ((s.take k).map (·.fact)))⟩) (fun k=>k<=s.length) (fun k=>s.length-k) 0 (Nat.zero_le _) ?_ ?_
 ·(refine xM.ren [] [] (by simp) (by simp) (by decide) ?_; simp only [yK,vwL,vw,vwF,sw,St.get,St.look,Fr.get,simprocAttr,-ZA,exists_eq_left',ne_eq,zR,List.take_zero,List.map_nil,lO,zA,zB])
 intro k hk;refine xN mixed ?_
 by_cases hh:k<s.length
 ·have hd:((k:Int)<(s.length:Int)):=by omega
  have hg:=aU9 s hh;have ht:(s.take (k+1)).map (·.fact)= (s.take k).map (·.fact)++ [(s.getD k as0).fact]:=by rw [wT (d:=as0) hh]; simp
  have hkl:((s.take k).map (·.fact)).length=k:=by simp; omega
  unfold AsA.row at hg;generalize (s.take k).map (·.fact)= a at hkl ht ⊢;generalize s.getD k as0=x at hg ht ⊢;simp only [simprocAttr,-ZA,↓zU,↓zD,zV,zT,zW,hd,qL,hg]
  (repeat refine sd ?_)
  refine⟨k+1,by omega,?_,by omega⟩;rw [ht]
  (refine xM.ren [(1,3)] [1] (by simp) (by simp) (by decide) ?_; simp only [yK,vwL,vw,vwF,sw,St.get,St.look,Fr.get,simprocAttr,-ZA,exists_eq_left',ne_eq,zR])
  exact wrap_i64 (by omega)
 ·have hd:¬ ((k:Int)<(s.length:Int)):=by omega
  rw [oH (show k=s.length by omega)];simp only [simprocAttr,-ZA,↓zU,↓zD,zV,zT,zW,hd];exact .drop (by simp) (aJw (by decide) (uG _ _))
theorem bU6 (s:List AsA) (hl:s.length<=4400000000000):yB Tryz.prog 61 [.agg [.sl 2 (asR s)]] (.bool (!aDo s)):=by
 have h1:=aOw s hl;have h2:=bU5 (s.map (·.fact)) (by simpa using hl);unfold aDo;refine xY.xR mixed Tryz.func61 k61 (by simp) fun hf=>?_;simp only [simprocAttr,-ZA,↓zU,↓zD,zV,zT,zW]
 (repeat refine sd ?_)
 refine .go (cr h1) ?_;simp only [simprocAttr,-ZA,↓zU,↓zD,zV,zT,zW];refine .go (cr h2) ?_;simp only [simprocAttr,-ZA,↓zU,↓zD,zV,zT,zW];exact .dv
theorem aWw (p:PrA) (f:List Nd) (fr:Int):yB Tryz.prog 65 [p.d,.sl 6 (ndR f),.int .i64 fr] (.int .i64 (fmE p f fr)):=by
 have h1:=oB f;have h2:=aTd f;have h3:=aMc f p.see.length p.F;unfold PrA.d PrA.cells fmE;refine xY.xR mixed Tryz.func65 k65 (by simp) fun hf=>?_;simp only [simprocAttr,-ZA,↓zU,↓zD,zV,zT,zW]
 (repeat refine sd ?_)
 refine .go (cr h1) ?_;by_cases e1:xB f=0
 case neg=>
  have e1':(xB f != 0)= true:=by simpa using e1
  simp only [simprocAttr,-ZA,↓zU,↓zD,zV,zT,zW,e1',e1];exact .dv
 have e1':(xB f != 0)= false:=by simpa using e1
 simp only [simprocAttr,-ZA,↓zU,↓zD,zV,zT,zW,e1',e1];refine .go (cr h2) ?_;cases e2:pT .andNot .i64 (zC f) fr != 0
 case true=> simp only [simprocAttr,-ZA,↓zU,↓zD,zV,zT,zW,e2];exact .dv
 simp only [simprocAttr,-ZA,↓zU,↓zD,zV,zT,zW,e2]
 (repeat refine sd ?_)
 refine .go (cr h3) ?_
 cases e3:sT f p.see.length p.F
 ·simp only [simprocAttr,-ZA,↓zU,↓zD,zV,zT,zW];exact .dv
 ·simp only [simprocAttr,-ZA,↓zU,↓zD,zV,zT,zW];exact .dv
theorem kR {α:Type} (f:α->Int) {l:List α} {k:Nat} {d:α} (h:k<l.length):sE f (l.drop k)= if f (l.getD k d)≠ 0 then f (l.getD k d) else sE f (l.drop (k+1)):=by rw [drop_cons (d:=d) h]; rfl
theorem aAn (p:PrA) (hm:p.xF.length<=2000000) (hl:∀ s ∈ p.xF,s.length<=4400000000000):yB Tryz.prog 64 [p.d] (.int .i64 (sE (sE (asE p)) p.xF)):=by
 have hF:=fun f=>aWw p f 0;have hD:p.d = .agg [.int .i64 p.F,.sl 1 (us p.init),.sl 1 (us p.see),.sl 1 (mvR p.xF),.sl 1 (cdR p.code)]:=rfl;rw [hD] at *;refine xY.xR mixed Tryz.func64 k64 (by simp) fun hf=>?_;simp only [simprocAttr,-ZA,↓zU,↓zD,zV,zT,zW,qM]
 (repeat refine sd ?_)
 refine xQ (fun k:Nat=>[(11,.int .i64 k),(10,.int .i64 p.xF.length),(9,.sl 1 (mvR p.xF)),(1,.ref 0 5 0 0)]) (fun _=>⟨1,[(0,⟨5,[p.cells]⟩)]⟩)
  (fun k=>k<=p.xF.length/\sE (sE (asE p)) p.xF=sE (sE (asE p)) (p.xF.drop k)) (fun k=>p.xF.length-k) 0 ⟨Nat.zero_le _,rfl⟩ ?_ ?_
 ·unfold PrA.cells; (refine xM.same ?_; simp [xP,Fr.get])
 intro k ⟨hk,hi⟩;refine xN mixed ?_;by_cases hkl:k<p.xF.length
 case neg=>
  have hd:¬ ((k:Int)<(p.xF.length:Int)):=by omega
  rw [hi,List.drop_eq_nil_of_le (by omega)];simp only [simprocAttr,-ZA,↓zU,↓zD,zV,zT,zW,hd];exact .drop (by simp) (by simp [vw,sE])
 have hd:((k:Int)<(p.xF.length:Int)):=by omega
 rw [kR (d:=[]) _ hkl] at hi;have hg:=aUx p.xF hkl;have hs:=hl _ (xS (d:=[]) hkl);generalize p.xF.getD k []=s at hi hg hs;unfold PrA.cells;simp only [simprocAttr,-ZA,↓zU,↓zD,zV,zT,zW,hd,qM,hg,qL]
 (repeat refine sd ?_)
 refine xQ (fun j:Nat=>[(18,.int .i64 j),(17,.int .i64 s.length),(16,.sl 2 (asR s)),(11,.int .i64 k),(10,.int .i64 p.xF.length),(9,.sl 1 (mvR p.xF)),(1,.ref 0 5 0 0)]) (fun _=>⟨1,[(0,⟨5,[p.cells]⟩)]⟩)
  (fun j=>j<=s.length/\sE (asE p) s=sE (asE p) (s.drop j)) (fun j=>s.length-j) 0 ⟨Nat.zero_le _,rfl⟩ ?_ ?_
 ·unfold PrA.cells; (refine xM.ren [] [0] (by simp) (by simp) (by decide) ?_; simp only [yK,vwL,vw,vwF,sw,St.get,St.look,Fr.get,simprocAttr,-ZA,exists_eq_left',ne_eq,zR])
 intro j ⟨hj,hi2⟩;refine xN mixed ?_;by_cases hjl:j<s.length
 case neg=>
  have hd2:¬ ((j:Int)<(s.length:Int)):=by omega
  have h0:sE (asE p) s=0:=by rw [hi2,List.drop_eq_nil_of_le (by omega)]; rfl
  rw [h0,if_neg (by simp)] at hi;unfold PrA.cells;simp only [simprocAttr,-ZA,↓zU,↓zD,zV,zT,zW,hd2];refine⟨k+1,⟨by omega,hi⟩,?_,by omega⟩
  (refine xM.same ?_; simp only [xP,Fr.get,simprocAttr,-ZA,zS])
  exact wrap_i64 (by omega)
 have hd2:((j:Int)<(s.length:Int)):=by omega
 rw [kR (d:=as0) _ hjl] at hi2;have hg2:=aU9 s hjl;unfold AsA.row at hg2;generalize s.getD j as0=a at hi2 hg2;have hend:asE p a≠0->sE (sE (asE p)) p.xF=asE p a:=fun h=>by rw [hi,hi2,if_pos h,if_pos h]
 unfold PrA.cells;have hFa:=hF a.to
 by_cases c1:a.fact<0
 ·have e:asE p a=2:=by unfold asE; rw [if_pos (.inl c1)]
  rw [hend (by rw [e]; decide),e];simp only [simprocAttr,-ZA,↓zU,↓zD,zV,zT,zW,hd2,qL,hg2,c1]
  (repeat refine sd ?_)
  exact .dv
 by_cases c2:p.F<=a.fact
 ·have e:asE p a=2:=by unfold asE; rw [if_pos (.inr c2)]
  rw [hend (by rw [e]; decide),e];simp only [simprocAttr,-ZA,↓zU,↓zD,zV,zT,zW,hd2,qL,hg2,c1,c2]
  (repeat refine sd ?_)
  exact .dv
 have e:asE p a=fmE p a.to 0:=by unfold asE; rw [if_neg (by omega)]
 rw [<- e] at hFa;simp only [simprocAttr,-ZA,↓zU,↓zD,zV,zT,zW,hd2,qL,hg2,c1,c2]
 (repeat refine sd ?_)
 refine .go (cr hFa) ?_
 by_cases c3:asE p a=0
 ·have c3':(asE p a != 0)= false:=by simpa using c3
  rw [c3,if_neg (by simp)] at hi2;simp only [simprocAttr,-ZA,↓zU,↓zD,zV,zT,zW,c3'];refine⟨j+1,⟨by omega,hi2⟩,?_,by omega⟩
  (refine xM.ren [] [0] (by simp) (by simp) (by decide) ?_; simp only [yK,vwL,vw,vwF,sw,St.get,St.look,Fr.get,simprocAttr,-ZA,exists_eq_left',ne_eq,zR])
  exact wrap_i64 (by omega)
 ·have c3':(asE p a != 0)= true:=by simpa using c3
  rw [hend c3];simp only [simprocAttr,-ZA,↓zU,↓zD,zV,zT,zW,c3'];exact .dv
open Rs Fm Ru Kb
theorem bX3 (p:PrA) (sm:aZl p):yB Tryz.prog 17 [p.d] (.int .i64 (qU p)):=by
 have hM:=aAn p;have hF:=fun f=>aWw p f 15
 have hlong:=aOl (σ:=⟨1,[(0,⟨5,[p.cells]⟩)]⟩) (g:=57) (caps:=[]) (c:=p.code) (f:=fun l=>decide (6<l.length)) sm.code fun x _=>by rw [List.append_nil]; exact xY.yM (bWt x) (by simp [D.xU,D.xL])
 have hasc:=aOk (σ:=⟨1,[(0,⟨5,[p.cells]⟩)]⟩) (g:=61) (caps:=[]) (c:=p.xF) (f:=fun s=>!aDo s);have hout:=fun(h0:0<=p.F) (l:List (BitVec 64)) (hl:l.length<=1000)=>jA (σ:=⟨1,[(0,⟨5,[p.cells]⟩)]⟩) (g:=55) (caps:=[.ref 0 5 0 0]) (c:=l) (f:=aNh p) hl fun x _=>bUo rfl h0 x;have hai:=bU7 (p.init.map ui) (by simpa using sm.init);rw [show rows .u64 (p.init.map ui)= us p.init by simp [rows,us]] at hai;have hD:p.d = .agg [.int .i64 p.F,.sl 1 (us p.init),.sl 1 (us p.see),.sl 1 (mvR p.xF),.sl 1 (cdR p.code)]:=rfl;unfold PrA.cells at hlong hasc hout;rw [hD] at *;refine xY.xR mixed Tryz.func17 k17 (by simp) fun hf=>?_
 by_cases a1:p.F<0
 ·rw [show qU p=2 by unfold qU nF; simp [a1]];simp only [simprocAttr,-ZA,↓zU,↓zD,zV,zT,zW,a1];exact .dv
 by_cases a2:8<p.F
 ·rw [show qU p=2 by unfold qU nF; simp [a2]];simp only [simprocAttr,-ZA,↓zU,↓zD,zV,zT,zW,a1,a2];exact .dv
 have hfe:nF p=if 4<p.see.length\/16<p.init.length\/8<p.xF.length\/p.code.any (fun l=>decide (6<l.length))= true then 8 else
   if p.see.length=0\/p.init.length=0\/p.code.length≠p.see.length\/p.init.any (aNh p)= true\/p.see.any (aNh p)= true then 3 else
   if bYp p.init=false\/p.xF.any (fun s=>!aDo s)= true then 9 else 0:=by
  unfold nF; rw [if_neg (by omega)]
 by_cases a3:4<p.see.length
 ·rw [show qU p=8 by unfold qU; simp [hfe,a3]];have a3':(4:Int)<(p.see.length:Int):=by omega
  simp only [simprocAttr,-ZA,↓zU,↓zD,zV,zT,zW,a1,a2,a3',xK];exact .dv
 have a3':¬ (4:Int)<(p.see.length:Int):=by omega
 by_cases a4:16<p.init.length
 ·rw [show qU p=8 by unfold qU; simp [hfe,a4]];have a4':(16:Int)<(p.init.length:Int):=by omega
  simp only [simprocAttr,-ZA,↓zU,↓zD,zV,zT,zW,a1,a2,a3',a4',xK];exact .dv
 have a4':¬ (16:Int)<(p.init.length:Int):=by omega
 by_cases a5:8<p.xF.length
 ·rw [show qU p=8 by unfold qU; simp [hfe,a5]];have a5':(8:Int)<(p.xF.length:Int):=by omega
  simp only [simprocAttr,-ZA,↓zU,↓zD,zV,zT,zW,a1,a2,a3',a4',a5',xK,qM];exact .dv
 have a5':¬ (8:Int)<(p.xF.length:Int):=by omega
 simp only [simprocAttr,-ZA,↓zU,↓zD,zV,zT,zW,a1,a2,a3',a4',a5',xK,qM];refine .go hlong ?_;cases a6:p.code.any fun l=>decide (6<l.length)
 case true=> rw [show qU p=8 by unfold qU; simp [hfe,a6]];simp only [simprocAttr,-ZA,↓zU,↓zD,zV,zT,zW];exact .dv
 by_cases b1:p.see.length=0
 ·rw [show qU p=3 by unfold qU; simp [hfe,a4,a5,a6,b1]];have b1':((p.see.length:Int)== 0)= true:=by rw [b1]; rfl
  simp only [simprocAttr,-ZA,↓zU,↓zD,zV,zT,zW,xK,b1'];exact .dv
 have b1':((p.see.length:Int)== 0)= false:=by rw [beq_eq_false_iff_ne]; omega
 by_cases b2:p.init.length=0
 ·rw [show qU p=3 by unfold qU; simp [hfe,a3,a5,a6,b2]];have b2':((p.init.length:Int)== 0)= true:=by rw [b2]; rfl
  simp only [simprocAttr,-ZA,↓zU,↓zD,zV,zT,zW,xK,b1',b2'];exact .dv
 have b2':((p.init.length:Int)== 0)= false:=by rw [beq_eq_false_iff_ne]; omega
 by_cases b3:p.code.length=p.see.length
 case neg=>
  rw [show qU p=3 by unfold qU; simp [hfe,a3,a4,a5,a6,b3]];have b3':((p.code.length:Int) != (p.see.length:Int))= true:=by rw [bne_iff_ne]; omega
  simp only [simprocAttr,-ZA,↓zU,↓zD,zV,zT,zW,xK,b1',b2',tJ,b3'];exact .dv
 have b3':((p.code.length:Int) != (p.see.length:Int))= false:=by rw [b3]; exact bne_self_eq_false _
 simp only [simprocAttr,-ZA,↓zU,↓zD,zV,zT,zW,xK,b1',b2',tJ,b3'];refine .go (hout (by omega) p.init (by omega)) ?_;cases b4:p.init.any (aNh p)
 case true=> rw [show qU p=3 by unfold qU; simp [hfe,a3,a4,a5,a6,b4]];simp only [simprocAttr,-ZA,↓zU,↓zD,zV,zT,zW];exact .dv
 simp only [simprocAttr,-ZA,↓zU,↓zD,zV,zT,zW];refine .go (hout (by omega) p.see (by omega)) ?_;cases b5:p.see.any (aNh p)
 case true=> rw [show qU p=3 by unfold qU; simp [hfe,a3,a4,a5,a6,b5]];simp only [simprocAttr,-ZA,↓zU,↓zD,zV,zT,zW];exact .dv
 simp only [simprocAttr,-ZA,↓zU,↓zD,zV,zT,zW];refine .go (cr hai) ?_;have hau:aI4 (p.init.map ui)= bYp p.init:=rfl;rw [hau]
 have hf2:nF p=if bYp p.init=false\/p.xF.any (fun s=>!aDo s)= true then 9 else 0:=by rw [hfe,if_neg (by simp [a3,a4,a5,a6]),if_neg (by simp [b1,b2,b3,b4,b5])]
 cases c1:bYp p.init
 case false=> rw [show qU p=9 by unfold qU; simp [hf2,c1]];simp only [simprocAttr,-ZA,↓zU,↓zD,zV,zT,zW];exact .dv
 simp only [simprocAttr,-ZA,↓zU,↓zD,zV,zT,zW];refine .go (hasc (by omega) fun x hx=>by rw [List.append_nil]; exact xY.yM (bU6 x (sm.mv x hx)) (by simp [D.xU,D.xL])) ?_;cases c2:p.xF.any (fun s=>!aDo s)
 case true=> rw [show qU p=9 by unfold qU; simp [hf2,c2]];simp only [simprocAttr,-ZA,↓zU,↓zD,zV,zT,zW];exact .dv
 have hf0:nF p=0:=by rw [hf2,c1,c2]; rfl
 have hch:qU p=if sE (sE (asE p)) p.xF≠0 then sE (sE (asE p)) p.xF else sE (sE (clE p)) p.code:=by unfold qU; rw [hf0,if_neg (by simp)]
 simp only [simprocAttr,-ZA,↓zU,↓zD,zV,zT,zW];refine .go (xY.yM (hM (by omega) sm.mv) (by simp [D.xU,D.xL])) ?_;by_cases d1:sE (sE (asE p)) p.xF=0
 case neg=>
  have d1':(sE (sE (asE p)) p.xF != 0)= true:=by simpa using d1
  rw [hch,if_pos d1];simp only [simprocAttr,-ZA,↓zU,↓zD,zV,zT,zW,d1'];exact .dv
 rw [hch,d1,if_neg (by simp)];simp only [simprocAttr,-ZA,↓zU,↓zD,zV,zT,zW,tJ]
 refine xQ (fun k:Nat=>[(92,.int .i64 k),(91,.int .i64 p.code.length),(90,.sl 1 (cdR p.code)),(1,.ref 0 5 0 0)]) (fun _=>⟨1,[(0,⟨5,[p.cells]⟩)]⟩)
  (fun k=>k<=p.code.length/\sE (sE (clE p)) p.code=sE (sE (clE p)) (p.code.drop k)) (fun k=>p.code.length-k) 0 ⟨Nat.zero_le _,rfl⟩ ?_ ?_
 ·unfold PrA.cells; (refine xM.same ?_; simp [xP,Fr.get])
 intro k ⟨hk,hi⟩;refine xN mixed ?_;by_cases hkl:k<p.code.length
 case neg=>
  have hd:¬ ((k:Int)<(p.code.length:Int)):=by omega
  rw [hi,List.drop_eq_nil_of_le (by omega)];simp only [simprocAttr,-ZA,↓zU,↓zD,zV,zT,zW,hd];exact .drop (by simp) (by simp [vw,sE])
 have hd:((k:Int)<(p.code.length:Int)):=by omega
 rw [kR (d:=[]) _ hkl] at hi;have hg:=aU8 p.code hkl
 have hs:(p.code.getD k []).length<=6:=by have:=List.any_eq_false.1 a6 _ (xS (d:=[]) hkl);simpa using this
 generalize p.code.getD k []=s at hi hg hs;unfold PrA.cells;simp only [simprocAttr,-ZA,↓zU,↓zD,zV,zT,zW,hd,tJ,hg,jM]
 (repeat refine sd ?_)
 refine xQ (fun j:Nat=>[(98,.int .i64 j),(97,.int .i64 s.length),(96,.sl 2 (clR s)),(92,.int .i64 k),(91,.int .i64 p.code.length),(90,.sl 1 (cdR p.code)),(1,.ref 0 5 0 0)]) (fun _=>⟨1,[(0,⟨5,[p.cells]⟩)]⟩)
  (fun j=>j<=s.length/\sE (clE p) s=sE (clE p) (s.drop j)) (fun j=>s.length-j) 0 ⟨Nat.zero_le _,rfl⟩ ?_ ?_
 ·unfold PrA.cells; (refine xM.same ?_; simp [xP,Fr.get])
 intro j ⟨hj,hi2⟩;refine xN mixed ?_;by_cases hjl:j<s.length
 case neg=>
  have hd2:¬ ((j:Int)<(s.length:Int)):=by omega
  have h0:sE (clE p) s=0:=by rw [hi2,List.drop_eq_nil_of_le (by omega)]; rfl
  rw [h0,if_neg (by simp)] at hi;unfold PrA.cells;simp only [simprocAttr,-ZA,↓zU,↓zD,zV,zT,zW,hd2];refine⟨k+1,⟨by omega,hi⟩,?_,by omega⟩
  (refine xM.same ?_; simp only [xP,Fr.get,simprocAttr,-ZA,zS])
  exact wrap_i64 (by omega)
 have hd2:((j:Int)<(s.length:Int)):=by omega
 rw [kR (d:=cl0) _ hjl] at hi2;have hg2:=aLl s hjl;unfold ClA.row at hg2;generalize s.getD j cl0=c at hi2 hg2;have hend:clE p c≠0->sE (sE (clE p)) p.code=clE p c:=fun h=>by rw [hi,hi2,if_pos h,if_pos h]
 unfold PrA.cells;simp only [simprocAttr,-ZA,↓zU,↓zD,zV,zT,zW,hd2,jM,hg2]
 (repeat refine sd ?_)
 refine .go (cr (hF c.test)) ?_;by_cases e1:fmE p c.test 15=0
 case neg=>
  have e1':(fmE p c.test 15 != 0)= true:=by simpa using e1
  have e:clE p c=fmE p c.test 15:=by unfold clE; rw [if_pos e1]
  rw [hend (by rw [e]; exact e1),e];simp only [simprocAttr,-ZA,↓zU,↓zD,zV,zT,zW,e1'];exact .dv
 have e1':(fmE p c.test 15 != 0)= false:=by simpa using e1
 by_cases e2:c.mv < -1
 ·have e:clE p c=2:=by unfold clE; rw [e1,if_neg (by simp),if_pos (.inl e2)]
  rw [hend (by rw [e]; decide),e];simp only [simprocAttr,-ZA,↓zU,↓zD,zV,zT,zW,e1',e2];exact .dv
 by_cases e3:(p.xF.length:Int)<=c.mv
 ·have e:clE p c=2:=by unfold clE; rw [e1,if_neg (by simp),if_pos (.inr e3)]
  rw [hend (by rw [e]; decide),e];simp only [simprocAttr,-ZA,↓zU,↓zD,zV,zT,zW,e1',e2,qM,e3];exact .dv
 have e:clE p c=0:=by unfold clE; rw [e1,if_neg (by simp),if_neg (by omega)]
 rw [e,if_neg (by simp)] at hi2;simp only [simprocAttr,-ZA,↓zU,↓zD,zV,zT,zW,e1',e2,qM,e3];refine⟨j+1,⟨by omega,hi2⟩,?_,by omega⟩
 (refine xM.ren [] [0] (by simp) (by simp) (by decide) ?_; simp only [yK,vwL,vw,vwF,sw,St.get,St.look,Fr.get,simprocAttr,-ZA,exists_eq_left',ne_eq,zR])
 exact wrap_i64 (by omega)
open Rs Fm Ru Kb
open Rs Fm Ru Kb
namespace Kb
structure ChA where
 ag:Int
 seen:List (BitVec 64)
 mv:Int
end Kb
end Go.Pd
