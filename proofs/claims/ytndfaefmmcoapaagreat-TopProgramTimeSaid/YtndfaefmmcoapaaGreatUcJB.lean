/- Part JB. -/
import Derived.Test.YtndfaefmmcoapaaGreatUcKG
import Derived.Test.YtndfaefmmcoapaaGreatUcPQ
import Derived.Test.YtndfaefmmcoapaaGreatUcX6
set_option linter.unusedSectionVars false
set_option linter.unusedVariables false
set_option linter.unusedSimpArgs false
set_option linter.defProp false
set_option maxRecDepth 20000
set_option maxHeartbeats 1000000
open Go.Proofs.Tryz
open List renaming take_append_of_le_length->γ,getElem?_append_left->δ,mem_range->ε,getElem?_append_right->ζ,getElem?_eq_getElem->η,getElem?_cons_succ->θ,take_length_add_append->κ,mem_map->μ,mem_of_mem_take->ν,take_succ_cons->ξ,length_range->ο,getElem_mem->π,any_eq_true->τ,all_eq_true->υ,length_map->χ,map_congr_left->ω,length_cons->Aa,ext_getElem->Ab,map_cons->Ac,mem_singleton->Ad,length_append->Ae,take_length->Af,isEmpty_nil->Ag,cons_append->Ah,nil_append->Ai,foldl_cons->Aj,take_append_drop->Ak,length_pos_iff->Al,filterMap_cons->Am,mem_filterMap->An,getElem_range->Ao,length_take->Ap,getElem_set->Aq,getElem_map->Ar
open Bool renaming true_and->As,and_eq_true->Au,false_and->Av,eq_iff_iff->Aw,or_false->Ax,or_eq_true->Ay,or_eq_false_iff->Az,and_true->A0,false_eq_true->A3,and_false->A4,eq_false_iff->A5
open BitVec renaming getLsbD_and->A6,getLsbD_zero->A7,getLsbD_not->A8,getLsbD_or->A9,eq_of_getLsbD_eq->Ba,getLsbD_of_ge->Bb
open Nat renaming lt_or_ge->Bc,lt_trichotomy->Bd,le_refl->Be,shiftRight_eq_div_pow->Bf,pow_le_pow_right->Bg,lt_of_lt_of_le->Bh,zero_le->Bi,exists_eq_add_of_le->Bj,testBit_lt_two_pow->Bk,mul_pos->Bl
open Int renaming toNat_natCast->Bm,eq_ofNat_of_zero_le->Bn
open Option renaming bind_eq_some_iff->Bo,getD_some->Bp,map_some->Bq,bind_eq_bind->Br
namespace Go.Pd
open Go Go.Proofs
open BitVec renaming isValue -> ZA
section
open Rs Fm Ru Te
namespace Te
theorem Lo {g a:Nat} (hg:g<2 ^ 60) (ha:a<=60):tY .and .i64 (fb .i64 (g:Int) (a:Int)) 1=if g.testBit a then 1 else 0:=by
 have h2:g / 2 ^ a<=g:=Nat.div_le_self _ _;rw [gR _ _ ha,NV (by omega),Nat.testBit_eq_decide_div_mod_eq];have:=Nat.mod_two_eq_zero_or_one (g / 2 ^ a)
 rcases this with h | h
 ·rw [h]; rfl
 ·rw [h]; rfl
end Te
end
section
open Rs Fm Ru Te
namespace Te
end Te
end
section
open Rs Fm Ru Te
end
section
open Rs Fm Ru Te
namespace Te
end Te
end
section
open Rs Fm Ru Te
namespace Te
theorem Lk (s:BitVec 64) (k:Nat):((s >>> k)&&& 1#64==1#64)= s.getLsbD k:=by
 rw [Aw,beq_iff_eq]
 constructor
 ·intro h;have:=congrArg (λv=>v.getLsbD 0) h;simpa using this
 ·intro h;refine Ba λi hi=>?_;simp only [A6,BitVec.getLsbD_ushiftRight,BitVec.getLsbD_one]
  by_cases h0:i=0
  ·subst h0; simp [h]
  ·simp [h0]
structure VM (d : D) : Prop where
 c:d.cells=some [d]
 o:d.one=true
theorem VM.sl (n:Nat) (e:List (List D)):VM (.sl n e):=⟨rfl,rfl⟩
theorem VM.xO : VM .xO:=⟨rfl,rfl⟩
structure VN (n : Nd) (R T : Nat) (x y : nI) (xd yd : D) : Prop where
 hx:(xW n.op).1.x=true->xd = .sl 1 (tD R T x)
 hy:(xW n.op).1.y=true->yd = .sl 1 (tD R T y)
end Te
theorem Lc {nx k5 k4 k6 k7 kc:Nat} {xZ:List (Nat × Ob)} {rs:List xC} {A F T:Nat} {l:List (Nat × Nat)} {same xd yd:D} {n:Nd} {x y:Nat × Nat->Bool} (ok:jH rs A F T) (ho:VN n rs.length T x y xd yd) (hi3:n.op=3->0<=n.i)
  (h5:St.look xZ k5=some ⟨6,[n.row]⟩) (h4:St.look xZ k4=some ⟨1,[[.ref kc 6 0 0]]⟩) (h6:St.look xZ k6=some ⟨1,[[xd]]⟩) (h7:St.look xZ k7=some ⟨1,[[yd]]⟩)
  (hc:St.look xZ kc=some ⟨6,[[.int .i64 (A:Int),.int .i64 (F:Int),.int .i64 (T:Int),.sl 2 (zK rs),.sl 2 (pF l),same]]⟩) {i t:Nat} (hi:i<rs.length) (ht:t<T) :
  xY prog 168 ([.agg [.int .i64 (i:Int),.int .i64 (t:Int)]] ++ [.ref k5 6 0 0,.ref k4 1 0 0,.ref k6 1 0 0,.ref k7 1 0 0]) ⟨nx,xZ⟩ (.bool (bR rs n x y (i,t))) ⟨nx,xZ⟩:=by
 obtain⟨T1,T16⟩:=ok.hT;obtain⟨R1,R64⟩:=ok.hR;refine xY.gS ⟨_,func168,by kernel_rfl,by kernel_rfl⟩ λhu=>xY.clean ?_;have y5:¬ nx=k5:=by have:=(hu k5 _ h5).1; simp only at this; omega
 have y4:¬ nx=k4:=by have:=(hu k4 _ h4).1; simp only at this; omega
 have y6:¬ nx=k6:=by have:=(hu k6 _ h6).1; simp only at this; omega
 have y7:¬ nx=k7:=by have:=(hu k7 _ h7).1; simp only at this; omega
 have yc:¬ nx=kc:=by have:=(hu kc _ hc).1; simp only at this; omega
 have hend:∀ (ob:Ob) (d:Bool),d=bR rs n x y (i,t)->pC nx ⟨nx+1,(nx,ob) :: xZ⟩ (.bool d) ⟨nx,YG xZ⟩ (.bool (bR rs n x y (i,t))):=λob d hd=>.gone hu (λk o hk=>by have:=(hu k o hk).1;simp only at this;show St.look (_ :: _) k=_;rw [xX,if_neg (by omega)]; exact hk) (by simp only [vw,hd])
 obtain⟨hx,hy⟩:=ho
 have hbp:bR rs n x y (i,t)= (if n.op=1 then true else if n.op=3 then(cA rs (i,t)).getLsbD n.i.toNat else if n.op=4 then !x (i,t) else if n.op=5 then x (i,t)&& y (i,t) else if n.op=6 then x (i,t) || y (i,t)
  else if n.op=7 then !x (i,t) || y (i,t) else if n.op=8 then x (i,t)== y (i,t) else false):=rfl
 rw [Nd.row] at h5;obtain⟨op,ni,ne,ng,nx_,ny⟩:=n;simp only at hx hy hi3 h5 hbp;have hm:=xL (d:=uX) hi;have hgr:=pL rs hi;have hf:=ok.nW _ hm;have hfa:(rs.getD i uX).nW.getD t 0=cA rs (i,t):=rfl;generalize rs.getD i uX=r at hgr hf hfa;have hg2:=vX r.nW (show t<r.nW.length by omega);rw [hfa] at hg2;generalize cA rs (i,t)= fa at hg2 hbp;have f1:=sq (T:=T) (φ:=x) hi;have f2:=bw (i:=i) (φ:=x) ht;have g1:=sq (T:=T) (φ:=y) hi;have g2:=bw (i:=i) (φ:=y) ht;refine xY.xN mixed func168 Ip (by simp) λhf=>?_
 by_cases e1:op=1
 ·subst e1;simp only [simprocAttr,-ZA,↓zU,↓zD,zV,zT,zW,h5,y5];exact hend _ _ (by rw [hbp]; rfl)
 have c1:(op==1)= false:=by simpa using e1
 rw [if_neg e1] at hbp
 by_cases e3:op=3
 ·subst e3;have hn:=hi3 rfl;simp only [simprocAttr,-ZA,↓zU,↓zD,zV,zT,zW,h5,h4,hc,y5,y4,yc,c1,wP,hgr,xC.row,xI,hg2,hn]
  (repeat refine sd ?_)
  exact hend _ _ (by rw [hbp,Lk]; rfl)
 have c3:(op==3)= false:=by simpa using e3
 rw [if_neg e3] at hbp
 by_cases e4:op=4
 ·subst e4;rw [hx rfl] at h6;simp only [simprocAttr,-ZA,↓zU,↓zD,zV,zT,zW,h5,h6,y5,y6,c1,c3,mW,f1,f2,fJ,χ,ο]
  (repeat refine sd ?_)
  exact hend _ _ (by rw [hbp]; rfl)
 have c4:(op==4)= false:=by simpa using e4
 rw [if_neg e4] at hbp
 by_cases e5:op=5
 ·subst e5;rw [hx rfl] at h6;rw [hy rfl] at h7;generalize x (i,t)= bx at f2 hbp;cases bx <;> (simp only [simprocAttr,-ZA,↓zU,↓zD,zV,zT,zW,h5,h6,h7,y5,y6,y7,c1,c3,c4,mW,f1,f2,g1,g2,fJ,χ,ο]; (repeat refine sd ?_); refine hend _ _ ?_; rw [hbp]; rfl)
 have c5:(op==5)= false:=by simpa using e5
 rw [if_neg e5] at hbp
 by_cases e6:op=6
 ·subst e6;rw [hx rfl] at h6;rw [hy rfl] at h7;generalize x (i,t)= bx at f2 hbp;cases bx <;> (simp only [simprocAttr,-ZA,↓zU,↓zD,zV,zT,zW,h5,h6,h7,y5,y6,y7,c1,c3,c4,c5,mW,f1,f2,g1,g2,fJ,χ,ο]; (repeat refine sd ?_); refine hend _ _ ?_; rw [hbp]; rfl)
 have c6:(op==6)= false:=by simpa using e6
 rw [if_neg e6] at hbp
 by_cases e7:op=7
 ·subst e7;rw [hx rfl] at h6;rw [hy rfl] at h7;generalize x (i,t)= bx at f2 hbp;cases bx <;> (simp only [simprocAttr,-ZA,↓zU,↓zD,zV,zT,zW,h5,h6,h7,y5,y6,y7,c1,c3,c4,c5,c6,mW,f1,f2,g1,g2,fJ,χ,ο]; (repeat refine sd ?_); refine hend _ _ ?_; rw [hbp]; rfl)
 have c7:(op==7)= false:=by simpa using e7
 rw [if_neg e7] at hbp
 by_cases e8:op=8
 ·subst e8;rw [hx rfl] at h6;rw [hy rfl] at h7;generalize x (i,t)= bx at f2 hbp;cases bx <;> (simp only [simprocAttr,-ZA,↓zU,↓zD,zV,zT,zW,h5,h6,h7,y5,y6,y7,c1,c3,c4,c5,c6,c7,mW,f1,f2,g1,g2,fJ,χ,ο]; (repeat refine sd ?_); refine hend _ _ ?_; rw [hbp]; rfl)
 have c8:(op==8)= false:=by simpa using e8
 rw [if_neg e8] at hbp;simp only [simprocAttr,-ZA,↓zU,↓zD,zV,zT,zW,h5,y5,c1,c3,c4,c5,c6,c7,c8];exact hend _ _ (by rw [hbp])
theorem SZ {nx kc:Nat} {xZ:List (Nat × Ob)} {rs:List xC} {A F T:Nat} {same xd yd:D} {n:Nd} {x y:Nat × Nat->Bool} (ok:jH rs A F T) (ho:VN n rs.length T x y xd yd) (hi3:n.op=3->0<=n.i) (hxd:VM xd) (hyd:VM yd)
  (hc:St.look xZ kc=some ⟨6,[[.int .i64 (A:Int),.int .i64 (F:Int),.int .i64 (T:Int),.sl 2 (zK rs),.sl 2 (pF (rO T (rs.length*T))),same]]⟩) :
  xY prog 105 [.ref kc 6 0 0,.agg n.row,xd,yd] ⟨nx,xZ⟩ (.sl 1 (tD rs.length T (bR rs n x y))) ⟨nx,xZ⟩:=by
 refine xY.gS ⟨_,func105,by kernel_rfl,by kernel_rfl⟩ λhu=>xY.clean ?_;have hkc:=(hu kc _ hc).1;simp only at hkc
 have hkeep:∀ (a b c d:Ob) k o,St.look xZ k=some o->St.look ((nx+1+1+1,a) :: (nx+1+1,b) :: (nx+1,c) :: (nx,d) :: xZ) k=some o:=λa b c d k o hk=>by have:=(hu k o hk).1;simp only at this;rw [xX,if_neg (by omega),xX,if_neg (by omega),xX,if_neg (by omega),xX,if_neg (by omega)]; exact hk
 have hfill:=Sa (nx:=nx+1+1+1+1) (kc:=kc) (xZ:=(nx+1+1+1,⟨1,[[yd]]⟩) :: (nx+1+1,⟨1,[[xd]]⟩) :: (nx+1,⟨6,[n.row]⟩) :: (nx,⟨1,[[.ref kc 6 0 0]]⟩) :: xZ) (g:=168) (caps:=[.ref (nx+1) 6 0 0,.ref nx 1 0 0,.ref (nx+1+1) 1 0 0,.ref (nx+1+1+1) 1 0 0]) (φ:=bR rs n x y) ok (hkeep _ _ _ _ _ _ hc) (λnx1 objs1 i t h1 h2 hi ht=> Lc ok ho hi3 (by rw [h2 _ (by omega),xX,if_neg (by omega),xX,if_neg (by omega),xX,if_pos rfl]) (by rw [h2 _ (by omega),xX,if_neg (by omega),xX,if_neg (by omega),xX,if_neg (by omega),xX,if_pos rfl]) (by rw [h2 _ (by omega),xX,if_neg (by omega),xX,if_pos rfl]) (by rw [h2 _ (by omega),xX,if_pos rfl]) (by rw [h2 _ (by omega)]; exact hkeep _ _ _ _ _ _ hc) hi ht)
 have y1:¬ nx+1=nx:=by omega
 have y2:¬ nx+1+1=nx:=by omega
 have y3:¬ nx+1+1+1=nx:=by omega
 rw [Nd.row] at hfill ⊢;refine xY.xN mixed func105 I9 (by simp) λhf=>?_;obtain⟨p1,p2⟩:=hxd;obtain⟨q1,q2⟩:=hyd;simp only [simprocAttr,-ZA,↓zU,↓zD,zV,zT,zW,y1,y2,y3,p1,p2,q1,q2]
 (repeat refine sd ?_)
 refine .go hfill ?_;simp only [simprocAttr,-ZA,↓zU,↓zD,zV,zT,zW];exact .gone hu (hkeep _ _ _ _) (by simp only [vw]; exact⟨trivial,trivial⟩)
end
open Rs Fm Ru Te
theorem Q1 (s:BitVec 64) (l:List (BitVec 64)) (hl:l.length<=1000):xY prog 122 [.sl 1 (us (s :: l))] gY (.yM 0 1 (l.length+1)) ⟨1,[(0,⟨1,us (s :: l)⟩)]⟩:=by
 refine xY.xN mixed func122 Km (by simp) λhf=>?_;have hln:(us (s :: l)).length=l.length+1:=by simp [us]
 have h1:=Y7 (s :: l);have e:us (s :: l)= [.int .u64 (ui s)] :: us l:=rfl;rw [e] at hln h1 ⊢;simp only [simprocAttr,-ZA,↓zU,↓zD,zV,zT,zW];have hp:=pP (s :: l);rw [e] at hp;exact⟨by simp,h1,by omega,by omega,pC.name (n:=0) (by simp) hp (by simp [vw])⟩
theorem Z5 {k sz:Nat} {a b:List (List D)} (h:a.length=b.length):xB k sz a=xB k sz b:=by
 cases a with
 | nil=>cases b with
  | nil=>rfl
  | cons e r=>simp at h
 | cons e r=>cases b with
  | nil=>simp at h
  | cons e' r'=>simp only [Aa] at h; simp [xB,h]
theorem V0 (c:Nat) (l:List (BitVec 64)):(us l).map (D.wH c)= us l:=fZ c (pP l)
theorem YX {n:Nat} {xZ:List (Nat × Ob)} (l:List (BitVec 64)) (h:l ≠ []) (hl:l.length<=1000):xY prog 122 [.sl 1 (us l)] ⟨n,xZ⟩ (xB n 1 (us l)) ⟨n+1,yZ n 1 (us l)++ xZ⟩:=by
 cases l with
 | nil=>exact absurd rfl h
 | cons s l=> have:=xY.own (σ:=⟨n,xZ⟩) (Q1 s l (by simp at hl; omega)) (by simp [D.xR,D.xD]);simp only [D.shift,zN,Ob.shift,V0,Ah,Ai,Nat.add_zero] at this;simp only [cu,pb,pc,xI,Ah,Ai];exact this
namespace Ru
def Pc (meet:Bool) (a b:BitVec 64):BitVec 64:=if meet=true then a &&& b else a ||| b
def nm (meet:Bool) (acc r:List (BitVec 64)):List (BitVec 64):=(List.range acc.length).map λi=>Pc meet (acc.getD i 0) (r.getD i 0)
def nF (R:List (List (BitVec 64))) (G:Nat) (meet:Bool):Nat->List (BitVec 64)
 | 0=>[]
 | k+1=>if G.testBit k then(if (nF R G meet k).isEmpty then R.getD k [] else nm meet (nF R G meet k) (R.getD k [])) else nF R G meet k
def wF (m:tZ) (G:Nat) (meet:Bool):List (BitVec 64):=nF m.R G meet m.R.length
def eG (meet:Bool) (acc r:List (BitVec 64)) (w:Nat):List (BitVec 64):=(List.range acc.length).map λi=>if i<w then Pc meet (acc.getD i 0) (r.getD i 0) else acc.getD i 0
theorem UL (meet:Bool) (acc r:List (BitVec 64)):eG meet acc r 0=acc:=by refine Ab (by simp [eG]) λi h1 h2=>?_;simp [eG,List.getD,h2]
theorem QR (meet:Bool) (acc r:List (BitVec 64)):eG meet acc r acc.length=nm meet acc r:=by unfold eG nm;refine ω λi hi=>?_;rw [ε] at hi;rw [if_pos hi]
theorem Xh (meet:Bool) (acc r:List (BitVec 64)) (w:Nat):(eG meet acc r w).length=acc.length:=by simp [eG]
theorem OI {meet:Bool} {acc r:List (BitVec 64)} {w:Nat} (h:w<acc.length):(eG meet acc r w).getD w 0=acc.getD w 0:=by simp [eG,List.getD,h]
theorem QS {meet:Bool} {acc r:List (BitVec 64)} {w:Nat} (h:w<acc.length):(eG meet acc r w).set w (Pc meet (acc.getD w 0) (r.getD w 0))= eG meet acc r (w+1):=by
 refine Ab (by simp [eG]) λi h1 h2=>?_;simp only [Aq,eG,Ar,Ao]
 by_cases e:w=i
 ·subst e; simp
 ·rw [if_neg e]
  by_cases e2:i<w
  ·rw [if_pos e2,if_pos (by omega)]
  ·rw [if_neg e2,if_neg (by omega)]
theorem ql {m:tZ} {W:Nat} (ok:lW m W) (G:Nat) (meet:Bool):∀ k,k<=m.R.length->nF m.R G meet k = []\/(nF m.R G meet k).length=W
 | 0,_=>.inl rfl
 | k+1,hk=>by
  have hr:=ok.row _ (xL (d:=[]) (show k<m.R.length by omega));rw [nF]
  split
  ·split
   ·exact .inr hr
   ·rcases ql ok G meet k (by omega) with h | h
    ·rename_i hn; rw [h] at hn; exact absurd rfl hn
    ·exact .inr (by simp [nm,h])
  ·exact ql ok G meet k (by omega)
theorem fj (R:List (List (BitVec 64))) (G:Nat) (meet:Bool) (k:Nat):nF R G meet (k+1)= if G.testBit k then(if (nF R G meet k).isEmpty then R.getD k [] else nm meet (nF R G meet k) (R.getD k [])) else nF R G meet k:=rfl
end Ru
theorem gy {m:tZ} {W:Nat} (ok:lW m W) {g:Nat} (hg:1<=g/\g<2 ^ m.R.length) (meet:Bool) (f:FuncId) (hop:∀ a b,yU prog f [.int .u64 (ui a),.int .u64 (ui b)] (.int .u64 (ui (Pc meet a b)))):yU prog 252 [m.d,.int .i64 (g:Int),.fn f []] (.sl 1 (us (wF m g meet))):=by
 have hc:=cP ok;have h4:=ok.hR;obtain⟨W1,W64⟩:=ok.hW;have hsh:=cm (k:=m.R.length) (by omega);have h2:¬ (g:Int)<1:=by omega
 have h3:¬ ((2 ^ m.R.length:Nat):Int)<=(g:Int):=by omega
 have hg60:g<2 ^ 60:=Bh hg.2 (Bg (by decide) (by omega));have hall:nF m.R g meet m.R.length=wF m g meet:=rfl;unfold tZ.d at hc ⊢;refine xY.xN mixed func252 JS (by simp) λhf=>?_;simp only [simprocAttr,-ZA,↓zU,↓zD,zV,zT,zW]
 (repeat refine sd ?_)
 refine .go (cr hc) ?_;simp only [simprocAttr,-ZA,↓zU,↓zD,zV,zT,zW,h2,h3,hsh,zE]
 (repeat refine sd ?_)
 refine xP (λk:Nat=>[(29,.int .i64 k),(28,.int .i64 m.R.length),(27,.sl 1 (rr m.R)),(7,xB 1 1 (us (nF m.R g meet k))),(2,.fn f []),(1,.int .i64 g)])
  (λk=>⟨2,yZ 1 1 (us (nF m.R g meet k))⟩) (λk=>k<=m.R.length) (λk=>m.R.length-k) 0 (Bi _) ?_ ?_
 ·(refine xT.tP [] [1,0] (by simp) (by simp) (by decide) ?_; simp only [yQ,zQ,simprocAttr,-ZA,exists_eq_left',ne_eq,zR,nF,wS,wR,Ai,vI])
 intro k hk;refine xM mixed ?_
 by_cases h:k<m.R.length
 ·have hd:((k:Int)<(m.R.length:Int)):=by omega
  have hu:=vP (k:=k) (by omega);have hrl:=ok.row _ (xL (d:=[]) h);have hbr:=Lo hg60 (show k<=60 by omega);have hs:=fj m.R g meet k;have hL:=ql ok g meet k hk;have hrg:=nC m.R h;generalize nF m.R g meet k=acc at hs hL ⊢;generalize m.R.getD k []=r at hrl hs hrg
  cases hb:g.testBit k with
  | false=>
   rw [hb] at hbr hs;simp only [simprocAttr,-ZA,↓zU,↓zD,zV,zT,zW,hd,hbr,hu,hrg,zE]
   (repeat refine sd ?_)
   refine⟨k+1,by omega,?_,by omega⟩;rw [hs,if_neg (by simp)]
   (refine xT.same ?_; simp only [xS,Fr.get,simprocAttr,-ZA,zS])
  | true=>
   rw [hb] at hbr hs;rw [if_pos rfl] at hs hbr
   by_cases he:acc = []
   ·subst he;rw [Ag,if_pos rfl] at hs;simp only [simprocAttr,-ZA,↓zU,↓zD,zV,zT,zW,hd,hbr,hu,hrg,zE,Ag]
    (repeat refine sd ?_)
    have hrne:r ≠ []:=by rintro rfl; simp at hrl; omega
    refine .go (YX r hrne (by omega)) ?_;simp only [simprocAttr,-ZA,↓zU,↓zD,zV,zT,zW,hu];refine⟨k+1,by omega,?_,by omega⟩;rw [hs]
    (refine xT.tP [(1,2)] [1] (by simp) (by simp) (by decide) ?_; simp only [yQ,zQ,simprocAttr,-ZA,exists_eq_left',ne_eq,zR])
   ·have hie:acc.isEmpty=false:=by simpa using he
    have hiu:(us acc).isEmpty=false:=by cases acc with | nil=>exact absurd rfl he | cons a l=>rfl
    rw [hie,if_neg (by simp)] at hs;have hL1:acc.length=W:=hL.resolve_left he;simp only [simprocAttr,-ZA,↓zU,↓zD,zV,zT,zW,hd,hbr,hu,hrg,zE,hiu]
    (repeat refine sd ?_)
    refine xP (λw:Nat=>[(45,.int .i64 w),(44,.int .i64 acc.length),(29,.int .i64 k),(28,.int .i64 m.R.length),(27,.sl 1 (rr m.R)),(9,.sl 1 (us r)),(7,xB 1 1 (us acc)),(2,.fn f []),(1,.int .i64 g)])
     (λw=>⟨2,yZ 1 1 (us (eG meet acc r w))⟩) (λw=>w<=acc.length) (λw=>acc.length-w) 0 (Bi _) ?_ ?_
    ·rw [UL]
     (refine xT.same ?_; simp [xS,Fr.get])
    intro w hw;refine xM mixed ?_
    by_cases h4:w<acc.length
    ·have hd4:((w:Int)<(acc.length:Int)):=by omega
     have hw4:=vP (k:=w) (by omega);have hx:w<r.length:=by omega
     have hx':(w:Int)<(r.length:Int):=by omega
     have hma:=OI (meet:=meet) (r:=r) h4;have hms:=QS (meet:=meet) (r:=r) h4;have hml:=Xh meet acc r w;have hmw:w<(eG meet acc r w).length:=by omega
     generalize eG meet acc r w=z at *;simp only [simprocAttr,-ZA,↓zU,↓zD,zV,zT,zW,hd4,hw4,vX _ hmw,vX _ hx,hma,hml,xI]
     (repeat refine sd ?_)
     refine .go (xY.yH (hop (acc.getD w 0) (r.getD w 0)) rfl) ?_;simp only [simprocAttr,-ZA,↓zU,↓zD,zV,zT,zW,hd4,hw4,vX _ hmw,lA,hma,hml,hms,xI]
     (repeat refine sd ?_)
     refine⟨w+1,by omega,?_,by omega⟩;rw [qe (by rw [xI,xI,Xh,hml])]
     (refine xT.same ?_; simp only [xS,Fr.get,simprocAttr,-ZA,zS])
    ·have hd4:¬ ((w:Int)<(acc.length:Int)):=by omega
     have hw':w=acc.length:=by omega
     subst hw';rw [QR];simp only [simprocAttr,-ZA,↓zU,↓zD,zV,zT,zW,hd4,hu];refine⟨k+1,by omega,?_,by omega⟩;rw [hs,Z5 (show (us acc).length=(us (nm meet acc r)).length by simp [us,nm])]
     (refine xT.same ?_; simp only [xS,Fr.get,simprocAttr,-ZA,zS])
 ·have hd:¬ ((k:Int)<(m.R.length:Int)):=by omega
  have hk':k=m.R.length:=by omega
  subst hk';rw [hall];simp only [simprocAttr,-ZA,↓zU,↓zD,zV,zT,zW,hd]
  (repeat refine sd ?_)
  refine .drop (by simp) ?_;simp only [yQ,zQ,simprocAttr,-ZA,exists_eq_left',ne_eq,zR]
theorem OD (a b:BitVec 64):yU prog 254 [.int .u64 (ui a),.int .u64 (ui b)] (.int .u64 (ui (Pc false a b))):=by refine xY.xN mixed func254 JU (by simp) λhf=>?_;simp only [simprocAttr,-ZA,↓zU,↓zD,zV,zT,zW];exact .same
theorem OC (a b:BitVec 64):yU prog 253 [.int .u64 (ui a),.int .u64 (ui b)] (.int .u64 (ui (Pc true a b))):=by refine xY.xN mixed func253 JT (by simp) λhf=>?_;simp only [simprocAttr,-ZA,↓zU,↓zD,zV,zT,zW];exact .same
theorem Yx {m:tZ} {W:Nat} (ok:lW m W) {g:Nat} (hg:1<=g/\g<2 ^ m.R.length):yU prog 217 [m.d,.int .i64 (g:Int)] (.sl 1 (us (wF m g false))):=by
 have h:=gy ok hg false 254 OD;unfold tZ.d at h ⊢;refine xY.xN mixed func217 JH (by simp) λhf=>?_;simp only [simprocAttr,-ZA,↓zU,↓zD,zV,zT,zW]
 (repeat refine sd ?_)
 refine .go (cr h) ?_;simp only [simprocAttr,-ZA,↓zU,↓zD,zV,zT,zW];exact .dv
theorem NS {m:tZ} {W:Nat} (ok:lW m W) {g:Nat} (hg:1<=g/\g<2 ^ m.R.length):yU prog 216 [m.d,.int .i64 (g:Int)] (.sl 1 (us (wF m g true))):=by
 have h:=gy ok hg true 253 OC;unfold tZ.d at h ⊢;refine xY.xN mixed func216 JG (by simp) λhf=>?_;simp only [simprocAttr,-ZA,↓zU,↓zD,zV,zT,zW]
 (repeat refine sd ?_)
 refine .go (cr h) ?_;simp only [simprocAttr,-ZA,↓zU,↓zD,zV,zT,zW];exact .dv
open Rs Fm Ru Te
namespace Ru
def pZ (r:List (BitVec 64)) (a c s:BitVec 64):Nat->BitVec 64
 | 0=>a
 | n+1=>gV r (a &&& ~~~c ||| s &&& pZ r a c s n)
theorem gg {r:List (BitVec 64)} {a c s:BitVec 64} {n:Nat} (h:pZ r a c s (n+1)= pZ r a c s n):∀ m,pZ r a c s (n+m)= pZ r a c s n
 | 0=>rfl
 | m+1=>by show gV r (a &&& ~~~c ||| s &&& pZ r a c s (n+m))= _;rw [gg h m];exact h
theorem O8 {n:Nat} (hn:n<=64) {x:BitVec 64} (h:eH n x=false) {i:Nat} (hi:x.getLsbD i=true):i<n:=by
 unfold eH at h;rw [Bool.not_eq_false',decide_eq_true_iff] at h;have h64:i<64:=Decidable.byContradiction λhh=>by rw [Bb _ _ (by omega)] at hi; cases hi
 have:=congrArg (·.getLsbD i) h;simp only [A6,A8,oG hn h64,hi,h64,A7] at this;simpa using this
def ur (R:List (List (BitVec 64))) (G:Nat) (meet:Bool) (k w v:Nat):Bool:= if meet=true then(List.range k).all λa=>!G.testBit a || ((R.getD a []).getD w 0).getLsbD v else(List.range k).any λa=>G.testBit a&&((R.getD a []).getD w 0).getLsbD v
theorem Oh (meet:Bool) (a b:BitVec 64) (v:Nat):(Pc meet a b).getLsbD v=if meet=true then(a.getLsbD v&&b.getLsbD v) else(a.getLsbD v || b.getLsbD v):=by unfold Pc;cases meet <;> simp
theorem zz (R:List (List (BitVec 64))) (G:Nat) (meet:Bool) (k w v:Nat):ur R G meet (k+1) w v=if G.testBit k=true then(if meet=true then(ur R G meet k w v&&((R.getD k []).getD w 0).getLsbD v) else(ur R G meet k w v || ((R.getD k []).getD w 0).getLsbD v)) else ur R G meet k w v:=by unfold ur;simp only [List.range_succ,List.any_append,List.all_append,List.any_cons,List.any_nil,List.all_cons,List.all_nil,Ax,A0];cases meet <;> cases hG:G.testBit k <;> simp
theorem fi {m:tZ} {W:Nat} (ok:lW m W) (G:Nat) (meet:Bool):∀ k,k<=m.R.length->((∀ a,a<k->G.testBit a=false)/\ nF m.R G meet k = [])\/((∃ a,a<k/\G.testBit a=true)/\ (nF m.R G meet k).length=W/\∀ w,w<W->∀ v,((nF m.R G meet k).getD w 0).getLsbD v=ur m.R G meet k w v)
 | 0,_=>.inl ⟨λa h=>by omega,rfl⟩
 | k + 1,hk=>by
  have hr:=ok.row _ (xL (d:=[]) (show k<m.R.length by omega));rw [fj];have ih:=fi ok G meet k (by omega)
  cases hb:G.testBit k with
  | false=>
   rw [if_neg (by simp)]
   rcases ih with ⟨h1,h2⟩ | ⟨⟨a,h1,h2⟩,h3,h4⟩
   ·refine .inl ⟨λa ha=>?_,h2⟩
    by_cases e:a=k
    ·rw [e]; exact hb
    ·exact h1 a (by omega)
   ·refine .inr ⟨⟨a,by omega,h2⟩,h3,λw hw v=>?_⟩;rw [zz,hb,h4 w hw v]; rfl
  | true=>
   rw [if_pos rfl];refine .inr ⟨⟨k,by omega,hb⟩,?_⟩
   rcases ih with ⟨h1,h2⟩ | ⟨_,h3,h4⟩
   ·rw [h2,Ag,if_pos rfl];refine⟨hr,λw hw v=>?_⟩;rw [zz,hb,if_pos rfl]
    have hz:ur m.R G meet k w v=meet:=by
     unfold ur
     cases meet
     ·simp only [A3,↓reduceIte,List.any_eq_false,ε];intro a ha;rw [h1 a ha]; simp
     ·simp only [↓reduceIte,υ,ε];intro a ha;rw [h1 a ha]; simp
    rw [hz];cases meet <;> simp
   ·have hne:(nF m.R G meet k).isEmpty=false:=by
     cases hc:nF m.R G meet k with
     | nil=>rw [hc] at h3; have:=ok.hW; simp at h3; omega
     | cons a b=>rfl
    rw [hne,if_neg (by simp)];refine⟨by simp [nm,h3],λw hw v=>?_⟩;rw [zz,hb,if_pos rfl,<- h4 w hw v]
    have:(nm meet (nF m.R G meet k) (m.R.getD k [])).getD w 0=Pc meet ((nF m.R G meet k).getD w 0) ((m.R.getD k []).getD w 0):=by simp [nm,List.getD,h3,hw]
    rw [this,Oh]
theorem wy {m:tZ} {W:Nat} (ok:lW m W) {g:Nat} (hg:1<=g/\g<2 ^ m.R.length) (meet:Bool):(∃ a,a<m.R.length/\g.testBit a=true)/\ (wF m g meet).length=W/\∀ w,w<W->∀ v,((wF m g meet).getD w 0).getLsbD v=ur m.R g meet m.R.length w v:=by
 rcases fi ok g meet m.R.length (Be _) with ⟨h1,_⟩ | h
 ·exfalso
  have:g=0:=by
   refine Nat.eq_of_testBit_eq λi=>?_;rw [Nat.zero_testBit]
   by_cases hi:i<m.R.length
   ·exact h1 i hi
   ·exact Bk (Bh hg.2 (Bg (by decide) (by omega)))
  omega
 ·exact h
theorem Sn {m:tZ} {W:Nat} (ok:lW m W) {a:Nat} (ha:a<m.R.length):jv (m.R.getD a []):=by have hm:=xL (d:=[]) ha;have:=ok.hW;refine⟨by rw [ok.row _ hm]; omega,λx hx=>?_⟩;rw [ok.row _ hm];exact ok.rel _ hm x hx
theorem qz {m:tZ} {W:Nat} (ok:lW m W) {g:Nat} (hg:1<=g/\g<2 ^ m.R.length) (meet:Bool):jv (wF m g meet):=by
 obtain⟨⟨a,ha,hb⟩,hl,hv⟩:=wy ok hg meet;have hW:=ok.hW;refine⟨by rw [hl]; omega,λx hx=>?_⟩;rw [hl];obtain⟨w,hw,rfl⟩:=List.mem_iff_getElem.1 hx;refine bq hW.2 λv h=>?_;have hw':w<W:=by omega
 have e:(wF m g meet)[w]=(wF m g meet).getD w 0:=by simp [List.getD,hw]
 rw [e,hv w hw' v] at h
 have key:∀ b,b<m.R.length->((m.R.getD b []).getD w 0).getLsbD v=true->v<W:=λb hb' h'=>by have hm:=xL (d:=[]) hb';exact O8 hW.2 (ok.rel _ hm _ (xL (d:=0) (by rw [ok.row _ hm]; exact hw'))) h'
 unfold ur at h
 split at h
 ·rw [υ] at h;have:=h a (ε.2 ha);rw [hb] at this;exact key a ha (by simpa using this)
 ·rw [τ] at h;obtain⟨b,hb1,hb2⟩:=h;rw [Au] at hb2;exact key b (ε.1 hb1) hb2.2
end Ru
theorem Ts {r:List (BitVec 64)} (ok:jv r) {a c s:BitVec 64} {N:Nat} (hN:pZ r a c s (N+1)= pZ r a c s N):yU prog 218 [.sl 1 (us r),.int .u64 (ui a),.int .u64 (ui c),.int .u64 (ui s)] (.int .u64 (ui (pZ r a c s N))):=by
 have hb:=λx=>tj ok x;refine xY.xN mixed func218 JI (by simp) λhf=>?_;simp only [simprocAttr,-ZA,↓zU,↓zD,zV,zT,zW]
 refine xP (λn:Nat=>[(9,.int .u64 (ui (pZ r a c s n))),(3,.int .u64 (ui s)),(2,.int .u64 (ui c)),(1,.int .u64 (ui a)),(0,.sl 1 (us r))]) (λ_=>⟨0,[]⟩) (λn=>n<=N) (λn=>N-n) 0 (Bi _) ?_ ?_
 ·(refine xT.same ?_; simp [xS,Fr.get])
  rfl
 intro n hn;refine xM mixed ?_;have hs:pZ r a c s (n+1)= gV r (a &&& ~~~c ||| s &&& pZ r a c s n):=rfl;simp only [simprocAttr,-ZA,↓zU,↓zD,zV,zT,zW];refine .go (xY.yH (hb (a &&& ~~~c ||| s &&& pZ r a c s n)) (by simp [D.xR,D.xD])) ?_;rw [<- hs]
 by_cases e:pZ r a c s (n+1)= pZ r a c s n
 ·obtain⟨k,hk⟩:=Bj hn;have hst:=gg e k;rw [hk,hst];have e':(pZ r a c s (n+1)== pZ r a c s n)= true:=by rw [e]; simp
  simp only [simprocAttr,-ZA,↓zU,↓zD,zV,zT,zW,e'];exact .same
 ·have e':(pZ r a c s (n+1)== pZ r a c s n)= false:=by rw [beq_eq_false_iff_ne]; exact e
  have hlt:n<N:=Decidable.byContradiction λh=>e (by rw [show n=N by omega]; exact hN);simp only [simprocAttr,-ZA,↓zU,↓zD,zV,zT,zW,e'];refine⟨n+1,by omega,?_,by omega⟩
  (refine xT.same ?_; simp only [xS,Fr.get,simprocAttr,-ZA,zS])
open Rs Fm Ru Te
namespace Ru
def tE (m:tZ) (W:Nat) (n:Nd) (x y:BitVec 64):BitVec 64 × Bool:=
 if n.op=1 then(sL W,true) else if n.op=2 then(0#64,true) else if n.op=3 then(if n.i<m.V.length then(m.V.getD n.i.toNat 0,true) else(0#64,false)) else if n.op=4 then(sL W &&& ~~~x,true)
 else if n.op=5 then(x &&& y,true) else if n.op=6 then(x ||| y,true) else if n.op=7 then(sL W &&& ~~~x ||| y,true) else if n.op=8 then(sL W &&& ~~~(x ^^^ y),true)
 else if n.op=9 then(if n.i<m.R.length then(gV (m.R.getD n.i.toNat []) x,true) else(0#64,false)) else if n.op=10 then(if n.i<m.R.length then(VQ (m.R.getD n.i.toNat []) x,true) else(0#64,false))
 else if n.op=11 then(if n.g<(2 ^ m.R.length:Nat) then(gV (wF m n.g.toNat false) x,true) else(0#64,false)) else if n.op=12 then(if n.g<(2 ^ m.R.length:Nat) then(gV (wF m n.g.toNat true) x,true) else(0#64,false))
 else if n.op=13 then(if n.g<(2 ^ m.R.length:Nat) then(pZ (wF m n.g.toNat false) (sL W) x y W,true) else(0#64,false)) else(0#64,false)
theorem Pn {W:Nat} (h1:1<=W) (h2:W<=64):18446744073709551615#64 >>> (64-W)= sL W:=by
 have:∀ W,W<65->1<=W->18446744073709551615#64 >>> (64-W)= sL W:=by decide
 exact this W (by omega) h1
end Ru
theorem PB {m:tZ} {W:Nat} (ok:lW m W) {n:Nd} {k:Int} (hn:zY n k=0) {x y:BitVec 64} (hcom:n.op=13->n.g<(2 ^ m.R.length:Nat)->pZ (wF m n.g.toNat false) (sL W) x y (W+1)= pZ (wF m n.g.toNat false) (sL W) x y W) :
  yU prog 177 [m.d,.agg n.row,.int .u64 (ui x),.int .u64 (ui y)] (.wK [.int .u64 (ui (tE m W n x y).1),.bool (tE m W n x y).2]):=by
 obtain⟨W1,W64⟩:=ok.hW;have hR4:=ok.hR;have hV8:=ok.hV;have hw:IntKind.i64.wrap (64-m.W)= ((64-W:Nat):Int):=by rw [ok.w,wrap_i64 (by omega)]; omega
 have hfull:(18446744073709551615:Int)= ui 18446744073709551615#64:=rfl;have hall:=Pn W1 W64
 have hi0:n.op=3\/n.op=9\/n.op=10->0<=n.i:=λh=>by
  rcases h with h | h | h
  ·exact(lP hn (by rw [h]; rfl)).1
  ·exact(sF hn (by rw [h]; rfl)).1
  ·exact(sF hn (by rw [h]; rfl)).1
 have hg0:n.op=11\/n.op=12\/n.op=13->1<=n.g/\n.g<=15:=λh=>by
  have hgr:(xW n.op).1.gr=true:=by rcases h with h | h | h <;> rw [h] <;> rfl
  have h1:=(vN.1 hn).2.2.2.2;simp only [Az,hgr,xH,As,decide_eq_false_iff_not] at h1;omega
 have hsh:=cm (k:=m.R.length) (by omega);obtain⟨op,i,e,g,a,b⟩:=n;simp only at hi0 hg0 hcom;have hrow:(Nd.row ⟨op,i,e,g,a,b⟩)= [.int .i64 op,.int .i64 i,.int .i64 e,.int .i64 g,.int .i64 a,.int .i64 b]:=rfl;rw [hrow];unfold tZ.d
 rcases sG op with rfl | rfl | rfl | rfl | rfl | rfl | rfl | rfl | rfl | rfl | rfl | rfl | rfl | rfl | rfl | rfl | rfl | rfl | rfl | rfl | rfl | h | h
 ·rw [show tE m W ⟨1,i,e,g,a,b⟩ x y=(sL W,true) from rfl,<- hall];refine xY.xN mixed func177 pY (by simp) λhf=>?_;simp only [simprocAttr,-ZA,↓zU,↓zD,zV,zT,zW,hw]
  (repeat refine sd ?_)
  exact .drop (by simp) (by simp [vw,vI])
 ·rw [show tE m W ⟨2,i,e,g,a,b⟩ x y=(0#64,true) from rfl];refine xY.xN mixed func177 pY (by simp) λhf=>?_;simp only [simprocAttr,-ZA,↓zU,↓zD,zV,zT,zW,hw]
  (repeat refine sd ?_)
  exact .drop (by simp) (by simp [vw,vI])
 ·have h0:=hi0 (.inl rfl)
  by_cases hlt:i<(m.V.length:Int)
  ·have hv:tE m W ⟨3,i,e,g,a,b⟩ x y=(m.V.getD i.toNat 0,true):=if_pos hlt;have hge:¬ (m.V.length:Int)<=i:=by omega
   obtain⟨j,rfl⟩:=Bn h0;have hg:=vX m.V (show j<m.V.length by omega);rw [Bm] at hv;rw [hv];generalize m.V.getD j 0=z at hg;refine xY.xN mixed func177 pY (by simp) λhf=>?_;simp only [simprocAttr,-ZA,↓zU,↓zD,zV,zT,zW,hw,xI,hge,hg]
   (repeat refine sd ?_)
   exact .drop (by simp) (by simp [vw,vI])
  ·have hv:tE m W ⟨3,i,e,g,a,b⟩ x y=(0#64,false):=if_neg hlt;have hge:(m.V.length:Int)<=i:=by omega
   rw [hv];refine xY.xN mixed func177 pY (by simp) λhf=>?_;simp only [simprocAttr,-ZA,↓zU,↓zD,zV,zT,zW,hw,xI,hge]
   (repeat refine sd ?_)
   exact .drop (by simp) (by simp [vw,vI])
 ·rw [show tE m W ⟨4,i,e,g,a,b⟩ x y=(sL W &&& ~~~x,true) from rfl,<- hall];refine xY.xN mixed func177 pY (by simp) λhf=>?_;simp only [simprocAttr,-ZA,↓zU,↓zD,zV,zT,zW,hw]
  (repeat refine sd ?_)
  exact .drop (by simp) (by simp [vw,vI])
 ·rw [show tE m W ⟨5,i,e,g,a,b⟩ x y=(x &&& y,true) from rfl];refine xY.xN mixed func177 pY (by simp) λhf=>?_;simp only [simprocAttr,-ZA,↓zU,↓zD,zV,zT,zW,hw]
  (repeat refine sd ?_)
  exact .drop (by simp) (by simp [vw,vI])
 ·rw [show tE m W ⟨6,i,e,g,a,b⟩ x y=(x ||| y,true) from rfl];refine xY.xN mixed func177 pY (by simp) λhf=>?_;simp only [simprocAttr,-ZA,↓zU,↓zD,zV,zT,zW,hw]
  (repeat refine sd ?_)
  exact .drop (by simp) (by simp [vw,vI])
 ·rw [show tE m W ⟨7,i,e,g,a,b⟩ x y=(sL W &&& ~~~x ||| y,true) from rfl,<- hall];refine xY.xN mixed func177 pY (by simp) λhf=>?_;simp only [simprocAttr,-ZA,↓zU,↓zD,zV,zT,zW,hw]
  (repeat refine sd ?_)
  exact .drop (by simp) (by simp [vw,vI])
 ·rw [show tE m W ⟨8,i,e,g,a,b⟩ x y=(sL W &&& ~~~(x ^^^ y),true) from rfl,<- hall];refine xY.xN mixed func177 pY (by simp) λhf=>?_;simp only [simprocAttr,-ZA,↓zU,↓zD,zV,zT,zW,hw]
  (repeat refine sd ?_)
  exact .drop (by simp) (by simp [vw,vI])
 ·have h0:=hi0 (.inr (.inl rfl))
  by_cases hlt:i<(m.R.length:Int)
  ·have hv:tE m W ⟨9,i,e,g,a,b⟩ x y=(gV (m.R.getD i.toNat []) x,true):=if_pos hlt;have hge:¬ (m.R.length:Int)<=i:=by omega
   obtain⟨j,rfl⟩:=Bn h0;have hg:=nC m.R (show j<m.R.length by omega);have hc:=tj (Sn ok (show j<m.R.length by omega)) x;rw [Bm] at hv;rw [hv];generalize m.R.getD j []=z at hg hc;refine xY.xN mixed func177 pY (by simp) λhf=>?_;simp only [simprocAttr,-ZA,↓zU,↓zD,zV,zT,zW,hw,zE,hge,hg]
   (repeat refine sd ?_)
   refine .go (cr hc) ?_;simp only [simprocAttr,-ZA,↓zU,↓zD,zV,zT,zW];exact .drop (by simp) (by simp [vw,vI])
  ·have hv:tE m W ⟨9,i,e,g,a,b⟩ x y=(0#64,false):=if_neg hlt;have hge:(m.R.length:Int)<=i:=by omega
   rw [hv];refine xY.xN mixed func177 pY (by simp) λhf=>?_;simp only [simprocAttr,-ZA,↓zU,↓zD,zV,zT,zW,hw,zE,hge]
   (repeat refine sd ?_)
   exact .drop (by simp) (by simp [vw,vI])
 ·have h0:=hi0 (.inr (.inr rfl))
  by_cases hlt:i<(m.R.length:Int)
  ·have hv:tE m W ⟨10,i,e,g,a,b⟩ x y=(VQ (m.R.getD i.toNat []) x,true):=if_pos hlt;have hge:¬ (m.R.length:Int)<=i:=by omega
   obtain⟨j,rfl⟩:=Bn h0;have hg:=nC m.R (show j<m.R.length by omega);have hc:=Wg (Sn ok (show j<m.R.length by omega)) x;rw [Bm] at hv;rw [hv];generalize m.R.getD j []=z at hg hc;refine xY.xN mixed func177 pY (by simp) λhf=>?_;simp only [simprocAttr,-ZA,↓zU,↓zD,zV,zT,zW,hw,zE,hge,hg]
   (repeat refine sd ?_)
   refine .go (cr hc) ?_;simp only [simprocAttr,-ZA,↓zU,↓zD,zV,zT,zW];exact .drop (by simp) (by simp [vw,vI])
  ·have hv:tE m W ⟨10,i,e,g,a,b⟩ x y=(0#64,false):=if_neg hlt;have hge:(m.R.length:Int)<=i:=by omega
   rw [hv];refine xY.xN mixed func177 pY (by simp) λhf=>?_;simp only [simprocAttr,-ZA,↓zU,↓zD,zV,zT,zW,hw,zE,hge]
   (repeat refine sd ?_)
   exact .drop (by simp) (by simp [vw,vI])
 ·have h0:=hg0 (.inl rfl)
  by_cases hlt:g<((2 ^ m.R.length:Nat):Int)
  ·have hv:tE m W ⟨11,i,e,g,a,b⟩ x y=(gV (wF m g.toNat false) x,true):=if_pos hlt;have hge:¬ ((2 ^ m.R.length:Nat):Int)<=g:=by omega
   obtain⟨j,rfl⟩:=Bn (show 0<=g by omega);have hj:1<=j/\j<2 ^ m.R.length:=by omega
   have hc:=Yx ok hj;have hb:=tj (qz ok hj false) x;rw [Bm] at hv;rw [hv];unfold tZ.d at hc;generalize wF m j false=z at hc hb ⊢;refine xY.xN mixed func177 pY (by simp) λhf=>?_;simp only [simprocAttr,-ZA,↓zU,↓zD,zV,zT,zW,hw,zE,hge,hsh]
   (repeat refine sd ?_)
   refine .go (cr hc) ?_;simp only [simprocAttr,-ZA,↓zU,↓zD,zV,zT,zW];refine .go (cr hb) ?_;simp only [simprocAttr,-ZA,↓zU,↓zD,zV,zT,zW];exact .drop (by simp) (by simp [vw,vI])
  ·have hv:tE m W ⟨11,i,e,g,a,b⟩ x y=(0#64,false):=if_neg hlt;have hge:((2 ^ m.R.length:Nat):Int)<=g:=by omega
   rw [hv];refine xY.xN mixed func177 pY (by simp) λhf=>?_;simp only [simprocAttr,-ZA,↓zU,↓zD,zV,zT,zW,hw,zE,hge,hsh]
   (repeat refine sd ?_)
   exact .drop (by simp) (by simp [vw,vI])
 ·have h0:=hg0 (.inr (.inl rfl))
  by_cases hlt:g<((2 ^ m.R.length:Nat):Int)
  ·have hv:tE m W ⟨12,i,e,g,a,b⟩ x y=(gV (wF m g.toNat true) x,true):=if_pos hlt;have hge:¬ ((2 ^ m.R.length:Nat):Int)<=g:=by omega
   obtain⟨j,rfl⟩:=Bn (show 0<=g by omega);have hj:1<=j/\j<2 ^ m.R.length:=by omega
   have hc:=NS ok hj;have hb:=tj (qz ok hj true) x;rw [Bm] at hv;rw [hv];unfold tZ.d at hc;generalize wF m j true=z at hc hb ⊢;refine xY.xN mixed func177 pY (by simp) λhf=>?_;simp only [simprocAttr,-ZA,↓zU,↓zD,zV,zT,zW,hw,zE,hge,hsh]
   (repeat refine sd ?_)
   refine .go (cr hc) ?_;simp only [simprocAttr,-ZA,↓zU,↓zD,zV,zT,zW];refine .go (cr hb) ?_;simp only [simprocAttr,-ZA,↓zU,↓zD,zV,zT,zW];exact .drop (by simp) (by simp [vw,vI])
  ·have hv:tE m W ⟨12,i,e,g,a,b⟩ x y=(0#64,false):=if_neg hlt;have hge:((2 ^ m.R.length:Nat):Int)<=g:=by omega
   rw [hv];refine xY.xN mixed func177 pY (by simp) λhf=>?_;simp only [simprocAttr,-ZA,↓zU,↓zD,zV,zT,zW,hw,zE,hge,hsh]
   (repeat refine sd ?_)
   exact .drop (by simp) (by simp [vw,vI])
 ·have h0:=hg0 (.inr (.inr rfl))
  by_cases hlt:g<((2 ^ m.R.length:Nat):Int)
  ·have hv:tE m W ⟨13,i,e,g,a,b⟩ x y=(pZ (wF m g.toNat false) (sL W) x y W,true):=if_pos hlt;have hge:¬ ((2 ^ m.R.length:Nat):Int)<=g:=by omega
   have hcm:=hcom rfl hlt;obtain⟨j,rfl⟩:=Bn (show 0<=g by omega);have hj:1<=j/\j<2 ^ m.R.length:=by omega
   have hc:=Yx ok hj;have hb:=Ts (qz ok hj false) (by rw [Bm] at hcm; exact hcm);rw [Bm] at hv;rw [hv];unfold tZ.d at hc;generalize wF m j false=z at hc hb ⊢;refine xY.xN mixed func177 pY (by simp) λhf=>?_;simp only [simprocAttr,-ZA,↓zU,↓zD,zV,zT,zW,hw,zE,hge,hsh]
   (repeat refine sd ?_)
   refine .go (cr hc) ?_;simp only [simprocAttr,-ZA,↓zU,↓zD,zV,zT,zW,hall];refine .go (cr hb) ?_;simp only [simprocAttr,-ZA,↓zU,↓zD,zV,zT,zW];exact .drop (by simp) (by simp [vw,vI])
  ·have hv:tE m W ⟨13,i,e,g,a,b⟩ x y=(0#64,false):=if_neg hlt;have hge:((2 ^ m.R.length:Nat):Int)<=g:=by omega
   rw [hv];refine xY.xN mixed func177 pY (by simp) λhf=>?_;simp only [simprocAttr,-ZA,↓zU,↓zD,zV,zT,zW,hw,zE,hge,hsh]
   (repeat refine sd ?_)
   exact .drop (by simp) (by simp [vw,vI])
 ·rw [show tE m W ⟨14,i,e,g,a,b⟩ x y=(0#64,false) from rfl];refine xY.xN mixed func177 pY (by simp) λhf=>?_;simp only [simprocAttr,-ZA,↓zU,↓zD,zV,zT,zW,hw]
  (repeat refine sd ?_)
  exact .drop (by simp) (by simp [vw,vI])
 ·rw [show tE m W ⟨15,i,e,g,a,b⟩ x y=(0#64,false) from rfl];refine xY.xN mixed func177 pY (by simp) λhf=>?_;simp only [simprocAttr,-ZA,↓zU,↓zD,zV,zT,zW,hw]
  (repeat refine sd ?_)
  exact .drop (by simp) (by simp [vw,vI])
 ·rw [show tE m W ⟨16,i,e,g,a,b⟩ x y=(0#64,false) from rfl];refine xY.xN mixed func177 pY (by simp) λhf=>?_;simp only [simprocAttr,-ZA,↓zU,↓zD,zV,zT,zW,hw]
  (repeat refine sd ?_)
  exact .drop (by simp) (by simp [vw,vI])
 ·rw [show tE m W ⟨17,i,e,g,a,b⟩ x y=(0#64,false) from rfl];refine xY.xN mixed func177 pY (by simp) λhf=>?_;simp only [simprocAttr,-ZA,↓zU,↓zD,zV,zT,zW,hw]
  (repeat refine sd ?_)
  exact .drop (by simp) (by simp [vw,vI])
 ·rw [show tE m W ⟨18,i,e,g,a,b⟩ x y=(0#64,false) from rfl];refine xY.xN mixed func177 pY (by simp) λhf=>?_;simp only [simprocAttr,-ZA,↓zU,↓zD,zV,zT,zW,hw]
  (repeat refine sd ?_)
  exact .drop (by simp) (by simp [vw,vI])
 ·rw [show tE m W ⟨19,i,e,g,a,b⟩ x y=(0#64,false) from rfl];refine xY.xN mixed func177 pY (by simp) λhf=>?_;simp only [simprocAttr,-ZA,↓zU,↓zD,zV,zT,zW,hw]
  (repeat refine sd ?_)
  exact .drop (by simp) (by simp [vw,vI])
 ·rw [show tE m W ⟨20,i,e,g,a,b⟩ x y=(0#64,false) from rfl];refine xY.xN mixed func177 pY (by simp) λhf=>?_;simp only [simprocAttr,-ZA,↓zU,↓zD,zV,zT,zW,hw]
  (repeat refine sd ?_)
  exact .drop (by simp) (by simp [vw,vI])
 ·rw [show tE m W ⟨21,i,e,g,a,b⟩ x y=(0#64,false) from rfl];refine xY.xN mixed func177 pY (by simp) λhf=>?_;simp only [simprocAttr,-ZA,↓zU,↓zD,zV,zT,zW,hw]
  (repeat refine sd ?_)
  exact .drop (by simp) (by simp [vw,vI])
 ·have hv:tE m W ⟨op,i,e,g,a,b⟩ x y=(0#64,false):=by unfold tE; simp only; repeat rw [if_neg (by omega)]
  have q1:(op==1)= false:=by rw [beq_eq_false_iff_ne]; omega
  have q2:(op==2)= false:=by rw [beq_eq_false_iff_ne]; omega
  have q3:(op==3)= false:=by rw [beq_eq_false_iff_ne]; omega
  have q4:(op==4)= false:=by rw [beq_eq_false_iff_ne]; omega
  have q5:(op==5)= false:=by rw [beq_eq_false_iff_ne]; omega
  have q6:(op==6)= false:=by rw [beq_eq_false_iff_ne]; omega
  have q7:(op==7)= false:=by rw [beq_eq_false_iff_ne]; omega
  have q8:(op==8)= false:=by rw [beq_eq_false_iff_ne]; omega
  have q9:(op==9)= false:=by rw [beq_eq_false_iff_ne]; omega
  have q10:(op==10)= false:=by rw [beq_eq_false_iff_ne]; omega
  have q11:(op==11)= false:=by rw [beq_eq_false_iff_ne]; omega
  have q12:(op==12)= false:=by rw [beq_eq_false_iff_ne]; omega
  have q13:(op==13)= false:=by rw [beq_eq_false_iff_ne]; omega
  rw [hv];refine xY.xN mixed func177 pY (by simp) λhf=>?_;simp only [simprocAttr,-ZA,↓zU,↓zD,zV,zT,zW,hw,q1,q2,q3,q4,q5,q6,q7,q8,q9,q10,q11,q12,q13]
  (repeat refine sd ?_)
  exact .drop (by simp) (by simp [vw,vI])
 ·have hv:tE m W ⟨op,i,e,g,a,b⟩ x y=(0#64,false):=by unfold tE; simp only; repeat rw [if_neg (by omega)]
  have q1:(op==1)= false:=by rw [beq_eq_false_iff_ne]; omega
  have q2:(op==2)= false:=by rw [beq_eq_false_iff_ne]; omega
  have q3:(op==3)= false:=by rw [beq_eq_false_iff_ne]; omega
  have q4:(op==4)= false:=by rw [beq_eq_false_iff_ne]; omega
  have q5:(op==5)= false:=by rw [beq_eq_false_iff_ne]; omega
  have q6:(op==6)= false:=by rw [beq_eq_false_iff_ne]; omega
  have q7:(op==7)= false:=by rw [beq_eq_false_iff_ne]; omega
  have q8:(op==8)= false:=by rw [beq_eq_false_iff_ne]; omega
  have q9:(op==9)= false:=by rw [beq_eq_false_iff_ne]; omega
  have q10:(op==10)= false:=by rw [beq_eq_false_iff_ne]; omega
  have q11:(op==11)= false:=by rw [beq_eq_false_iff_ne]; omega
  have q12:(op==12)= false:=by rw [beq_eq_false_iff_ne]; omega
  have q13:(op==13)= false:=by rw [beq_eq_false_iff_ne]; omega
  rw [hv];refine xY.xN mixed func177 pY (by simp) λhf=>?_;simp only [simprocAttr,-ZA,↓zU,↓zD,zV,zT,zW,hw,q1,q2,q3,q4,q5,q6,q7,q8,q9,q10,q11,q12,q13]
  (repeat refine sd ?_)
  exact .drop (by simp) (by simp [vw,vI])
section
open Rs Fm Ru Te
namespace Te
structure Zu (n : Nd) (A : Nat) : Prop where
 ag:n.op=9\/n.op=10->∃ a:Nat,a<A/\n.i=a
 gr:n.op=11\/n.op=12\/n.op=13->∃ g:Nat,g<2 ^ 60/\n.g=g
theorem K7 {nx:Nat} {xZ:List (Nat × Ob)} (hu:vh ⟨nx,xZ⟩) (nx':Nat) (ob:Ob):∀ k o,St.look xZ k=some o->St.get ⟨nx',(nx,ob) :: xZ⟩ k=some o:=λk o hk=>by have:=(hu k o hk).1;simp only at this;show St.look (_ :: _) k=_;rw [xX,if_neg (by omega)]; exact hk
end Te
theorem MD {nx kc ks:Nat} {km:Nat->Nat} {xZ:List (Nat × Ob)} {rs:List xC} {A F T:Nat} {n:Nd} {x y:nI} {xd yd:D} (ok:jH rs A F T) (hS:jD rs A F T kc ks km xZ) (ho:VN n rs.length T x y xd yd) (hn:Zu n A) (he:n.op=9) :
  xY prog 150 [.ref kc 6 0 0,.agg n.row,xd,yd] ⟨nx,xZ⟩ (.sl 1 (tD rs.length T (rG rs A T n x y))) ⟨nx,xZ⟩:=by
 refine xY.gS ⟨_,func150,by kernel_rfl,by kernel_rfl⟩ λhu=>xY.clean ?_;have hk:=K7 hu (nx+1);have hS1:=λob=>hS.mono (hk ob);have hp:rG rs A T n x y=nE rs T n.i.toNat x:=by unfold rG; rw [he]; simp
 rw [hp];have hxy:=ho;obtain⟨h1,h2⟩:=ho;rw [he] at h1 h2;have yc:¬ nx=kc:=by have:=(hu _ _ hS.c).1; simp only at this; omega
 rw [Nd.row];rw [h1 (by decide)];obtain⟨a,ha,hi⟩:=hn.ag (.inl he);rw [hi,Bm];refine xY.xN mixed func150 Il (by simp) λhf=>?_;simp only [simprocAttr,-ZA,↓zU,↓zD,zV,zT,zW,yc]
 (repeat refine sd ?_)
 refine .go (Lq ok (hS1 _) ha) ?_;simp only [simprocAttr,-ZA,↓zU,↓zD,zV,zT,zW];exact .gone hu (hk _) (by simp only [vw]; exact⟨trivial,trivial⟩)
end
section
open Rs Fm Ru Te
end
section
open Rs Fm Ru Te
theorem oD (c:Nat):∀ {l:List (Nat × Ob)} {k:Nat} {o:Ob},St.look l k=some o->St.look (zN c l) (c+k)= some (o.shift c)
 | [],k,o,h=>by cases h
 | (j,ob) :: r,k,o,h=>by
  rw [xX] at h;show St.look ((c+j,ob.shift c) :: zN c r) _=_;rw [xX]
  by_cases e:j=k
  ·rw [if_pos e] at h; rw [if_pos (by omega)]; cases h; rfl
  ·rw [if_neg e] at h; rw [if_neg (by omega)]; exact oD c h
namespace Te
def dR (s:tB) (f:List Nd):Int:=if lY s≠0 then lY s else if yT f≠0 then yT f else if (tY .andNot .i64 (wT f:Int) 271 != 0)= true then 10 else if tU f s.ag s.fa=false then 2 else 0
theorem si {s:tB} {f:List Nd} (h:dR s f=0):lY s=0/\yT f=0:=by
 unfold dR at h
 by_cases c1:lY s≠0
 ·rw [if_pos c1] at h; exact absurd h c1
 rw [if_neg c1] at h
 by_cases c2:yT f≠0
 ·rw [if_pos c2] at h; exact absurd h c2
 exact⟨by simpa using c1,by simpa using c2⟩
def cB : List Int:=[9,10,11,12,13,18,20,19,21]
def kX : List (List D):=[[.int .i64 9,.fn 150 []],[.int .i64 10,.fn 152 []],[.int .i64 11,.fn 156 []],[.int .i64 12,.fn 158 []],[.int .i64 13,.fn 160 []],[.int .i64 18,.fn 162 []],[.int .i64 20,.fn 164 []],[.int .i64 19,.fn 165 []],[.int .i64 21,.fn 167 []]]
theorem qj (m:Nd->Nat) (b:Nat):∀ (l:List Nd) (a:Nat),(l.foldl (λa p=>a ||| m p) a).testBit b=(a.testBit b || l.any λp=>(m p).testBit b)
 | [],a=>by simp
 | p :: r,a=>by rw [Aj,qj m b r,Nat.testBit_or,List.any_cons,Bool.or_assoc]
theorem Zm {m:Nd->Nat} {b:Nat} {c:List Nd} {p:Nd} (hp:p ∈ c) (h:(m p).testBit b=true):(zZ m c).testBit b=true:=by have:=qj m b c 0;rw [τ.2 ⟨p,hp,h⟩,Bool.or_true] at this;exact this
theorem TZ {c:List Nd} {n:Nat} (h:zZ vY c / 2 ^ n=0):∀ p ∈ c,(xW p.op).1.ag=true->p.i.toNat<n:=by
 intro p hp ha;refine Decidable.byContradiction λhge=>?_;have h1:(vY p).testBit p.i.toNat=true:=by unfold vY; rw [if_pos ha]; exact Nat.testBit_two_pow_self
 have h2:=Zm hp h1
 have h3:zZ vY c<2 ^ n:=by
  rcases Nat.div_eq_zero_iff.1 h with h | h
  ·have:=Nat.two_pow_pos n; omega
  ·exact h
 have h4:=Bk (Bh h3 (Bg (by decide) (show n<=p.i.toNat by omega)));rw [h4] at h2;cases h2
theorem OU {s:tB} {f:List Nd} (h:dR s f=0) {A:Nat} (hA:s.ag=A) (hA4:A<=4):∀ p ∈ yY f,Zu p A/\(p.op=3->0<=p.i):=by
 unfold dR at h
 by_cases c1:lY s≠0
 ·rw [if_pos c1] at h; exact absurd h c1
 rw [if_neg c1] at h
 by_cases c2:yT f≠0
 ·rw [if_pos c2] at h; exact absurd h c2
 rw [if_neg c2] at h
 by_cases c3:(tY .andNot .i64 (wT f:Int) 271 != 0)= true
 ·rw [if_pos c3] at h; cases h
 rw [if_neg c3] at h
 by_cases c4:tU f s.ag s.fa=false
 ·rw [if_pos c4] at h; cases h
 have c4':tU f s.ag s.fa=true:=by simpa using c4
 unfold tU at c4';simp only [Au] at c4';have hb:=c4'.1.2;unfold kT at hb;simp only [Ay,decide_eq_true_eq] at hb;rw [hA] at hb
 have hb2:qX f / 2 ^ A=0:=by
  rcases hb with hb | hb
  ·omega
  ·simpa using hb
 intro p hp;obtain⟨k,hk⟩:=kY (jC f _) hp
 refine⟨⟨λho=>?_,λho=>?_⟩,λho=>?_⟩
 ·have hag:(xW p.op).1.ag=true:=by rcases ho with e | e <;> rw [e] <;> decide
  have h1:=sF hk hag;have h2:=TZ hb2 p hp hag;exact⟨p.i.toNat,h2,by omega⟩
 ·have h1:=jS hk;exact⟨p.g.toNat,by omega,by omega⟩
 ·have hfa:(xW p.op).1.fa=true:=by rw [ho]; decide
  exact(lP hk hfa).1
theorem pw {rs:List xC} {A T:Nat} {n:Nd} {x y:nI} (h:n.op ∉ cB):rG rs A T n x y=bR rs n x y:=by simp only [cB,List.mem_cons,List.not_mem_nil,or_false,not_or] at h;obtain⟨h1,h2,h3,h4,h5,h6,h7,h8,h9⟩:=h;unfold rG;rw [if_neg h1,if_neg h2,if_neg h3,if_neg h4,if_neg h5,if_neg h6,if_neg h7,if_neg h8,if_neg h9]
def r8 (rs:List xC) (A T:Nat) (n:Nd) (x y:nI) (j:Nat):D:=if n.op ∈ cB.take j then .sl 1 (tD rs.length T (rG rs A T n x y)) else .xO
theorem ic {rs:List xC} {A T:Nat} {n:Nd} {x y:nI} {j:Nat} (h:j<9):r8 rs A T n x y (j+1)= if n.op=cB.getD j 0 then .sl 1 (tD rs.length T (rG rs A T n x y)) else r8 rs A T n x y j:=by
 unfold r8
 have e:cB.take (j+1)= cB.take j ++ [cB.getD j 0]:=by rw [List.take_add_one];congr 1;simp [List.getD,show j<cB.length from h]
 rw [e]
 by_cases h1:n.op=cB.getD j 0
 ·rw [if_pos h1,if_pos (by simp [h1])]
 ·rw [if_neg h1]
  by_cases h2:n.op ∈ cB.take j
  ·rw [if_pos h2,if_pos (by simp [h2])]
  ·rw [if_neg h2,if_neg (by rw [List.mem_append,Ad,not_or]; exact⟨h2,h1⟩)]
end Te
theorem WI : yU prog 104 [] (.sl 2 kX):=by
 refine xY.xN mixed func104 I8 (by simp) λhf=>?_;simp only [simprocAttr,-ZA,↓zU,↓zD,zV,zT,zW]
 (repeat refine sd ?_)
 exact .same
structure Te.MY (A nb kc ks : Nat) (km : Nat -> Nat) : Prop where
 c:kc<nb
 s:ks<nb
 m:∀ i,i<A->km i<nb
theorem Te.jD.frame {rs:List xC} {A F T kc ks nb:Nat} {km:Nat->Nat} {xZ objs':List (Nat × Ob)} (h:jD rs A F T kc ks km xZ) (hb:MY A nb kc ks km) (hl:∀ k,k<nb->St.look objs' k=St.look xZ k):jD rs A F T kc ks km objs':=⟨by rw [hl _ hb.c]; exact h.c,λa=>by rw [hl _ hb.s]; exact h.s a,λi hi=>by rw [hl _ (hb.m i hi)]; exact h.m i hi⟩
theorem Te.jD.N8 {rs:List xC} {A F T kc ks nb nx2:Nat} {km:Nat->Nat} {xZ:List (Nat × Ob)} (h:jD rs A F T kc ks km xZ) (hb:MY A nb kc ks km) (hn:nb<=nx2) (ob:Ob):jD rs A F T kc ks km ((nx2,ob) :: xZ):= h.frame hb λk hk=>by rw [xX,if_neg (by omega)]
theorem Jv {rs:List xC} {A F T:Nat} (hz:lY ⟨A,F,T,rs⟩= 0) (ok:jH rs A F T) (σ:St):∃ nx' objs',xY prog 102 [sD A F T rs] σ (.ref (σ.nx+1) 6 0 0) ⟨nx',objs'⟩/\ MY A nx' (σ.nx+1) (σ.nx+2) (λi=>σ.nx+(3+i))/\ jD rs A F T (σ.nx+1) (σ.nx+2) (λi=>σ.nx+(3+i)) objs':=by
 have h:=xY.own (σ:=σ) (ZM hz ok) rfl;refine⟨_,_,h,⟨by omega,by omega,λi hi=>by omega⟩,?_⟩;have hS:=jD.start (rs:=rs) (A:=A) (F:=F) (T:=T);have hl:∀ {k:Nat} {o:Ob},St.look (lC rs A F T A) k=some o->St.look (zN σ.nx (lC rs A F T A)++ σ.xZ) (σ.nx+k)= some (o.shift σ.nx):=λh=>by rw [mQ,oD _ h]; rfl
 refine⟨?_,λha=>?_,λi hi=>?_⟩
 ·rw [hl hS.c];simp only [Ob.shift,Ac,List.map_nil,D.wH,D.shift];congr 8;generalize List.range A=l;cases l <;> simp [xB,D.shift]
 ·rw [hl (hS.s ha)];simp only [Ob.shift,List.map_map];rfl
 ·rw [hl (hS.m i hi)];simp only [Ob.shift];congr 2;unfold uA mG;simp only [List.map_map];rfl
end
section
open Rs Fm Ru Te
namespace Te
def T6 (rs:List xC) (A T:Nat) (f:List Nd):nI:=(wC rs A T (yY f) (yY f).length).getD ((yY f).length-1) λ_=>false
def dg (s:tB) (f:List Nd):List (List D):=if dR s f≠0 then [] else tD s.rs.length s.ln.toNat (T6 s.rs s.ag.toNat s.ln.toNat f)
def sK (rs:List xC) (A T:Nat) (c:List Nd) (k:Nat):List (List D):=(wC rs A T c k).map λx=>[.sl 1 (tD rs.length T x)]
theorem eW (rs:List xC) (A T:Nat) (c:List Nd) (k:Nat):(sK rs A T c k).length=k:=by simp [sK,xh]
theorem xj {rs:List xC} {A T:Nat} {c:List Nd} {k i:Nat} (h:i<k):(sK rs A T c k).getD i [] = [.sl 1 (tD rs.length T ((wC rs A T c k).getD i λ_=>false))]:=by have:=xh rs A T c k;simp [sK,List.getD,this,h]
theorem Zo (rs:List xC) (A T:Nat) (c:List Nd) (k:Nat):sK rs A T c (k+1)= sK rs A T c k ++ [[.sl 1 (tD rs.length T (rG rs A T (c.getD k wA) ((wC rs A T c k).getD (c.getD k wA).x.toNat λ_=>false) ((wC rs A T c k).getD (c.getD k wA).y.toNat λ_=>false)))]]:=by simp [sK,wC]
theorem jr {R T:Nat} (h:1<=R) (φ:nI):∃ e r,tD R T φ=e :: r:=by
 cases hh:tD R T φ with
 | nil=>have:=mW R T φ; rw [hh] at this; simp at this; omega
 | cons e r=>exact⟨e,r,rfl⟩
theorem ib {rs:List xC} {A T:Nat} {n:Nd} {x y:nI}:r8 rs A T n x y 9=if n.op ∈ cB then .sl 1 (tD rs.length T (rG rs A T n x y)) else .xO:=rfl
end Te
end
open Rs Fm Ru Te
namespace Te
def pt (T p:Nat):Nat × Nat:=(p / T,p % T)
def lF (rs:List xC) (g:Nat) (m:Bool) (p q:Nat × Nat) (a:Nat):Bool:=(List.range a).all λb=>!g.testBit b || (decide (yV rs b p=yV rs b q)== m)
end Te
end Go.Pd

/- Part S9. -/
namespace Go.Pd
open Go Go.Proofs
open Ru
namespace Ru
def uo : tZ:=⟨0,[],[]⟩
def qF (rs:List xC) (l:List (Nat × Nat)) (A F:Nat):tZ:=⟨(l.length:Int),qE rs l F,uY rs l A⟩
def zM (R t:Nat):List (Nat × Nat):=(List.range R).map λr=>(r,t)
theorem qN (R t:Nat):(zM R t).length=R:=by simp [zM]
theorem Zj (R t:Nat):zM (R+1) t=zM R t ++ [(R,t)]:=by unfold zM; rw [List.range_succ,List.map_append]; rfl
theorem Rj {rs:List xC} {T t R:Nat} (ht:t<T) (hR:R<=rs.length):NG rs T (zM R t):=λp hp=>by simp only [zM,μ,ε] at hp;obtain⟨i,hi,rfl⟩:=hp;exact⟨by omega,ht⟩
def xt (s:tB) (t:Int):tZ × Int:= if lY s≠0 then(uo,lY s) else if t<0\/s.ln<=t then(uo,2) else(qF s.rs (zM s.rs.length t.toNat) s.ag.toNat s.fa.toNat,0)
theorem oI {k:Nat} (hk:k<64) (i:Nat):(1#64 <<< k).getLsbD i=decide (i=k):=by
 by_cases hi:i<64
 ·have:∀ k,k<64->∀ i,i<64->(1#64 <<< k).getLsbD i=decide (i=k):=by decide
  exact this k hk i hi
 ·rw [Bb _ _ (by omega)];exact(decide_eq_false (by omega)).symm
theorem tf {rs:List xC} {l:List (Nat × Nat)} {f:Nat}:∀ (k i:Nat),k<=64->(tO rs l f k).getLsbD i=(decide (i<k)&& (cA rs (l.getD i (0,0))).getLsbD f)
 | 0,i,_=>by simp [tO]
 | k+1,i,hk=>by
  unfold tO;rw [A9,tf k i (by omega)]
  by_cases e:i=k
  ·subst e
   cases hb:(cA rs (l.getD i (0,0))).getLsbD f
   ·simp
   ·rw [if_pos rfl,oI (by omega)];simp
  ·have h2:(if (cA rs (l.getD k (0,0))).getLsbD f=true then 1#64 <<< k else 0#64).getLsbD i=false:=by
    split
    ·rw [oI (by omega)]; exact decide_eq_false e
    ·exact A7
   rw [h2,Ax];congr 1;rw [Aw,decide_eq_true_iff,decide_eq_true_iff]; omega
theorem mS {rs:List xC} {l:List (Nat × Nat)} {a:Nat} {x:Int}:∀ (k i:Nat),k<=64->(lF rs l a x k).getLsbD i=(decide (i<k)&& decide (yV rs a (l.getD i (0,0))= x))
 | 0,i,_=>by simp [lF]
 | k+1,i,hk=>by
  unfold lF;rw [A9,mS k i (by omega)]
  by_cases e:i=k
  ·subst e
   by_cases hb:yV rs a (l.getD i (0,0))= x
   ·rw [if_pos hb,oI (by omega),decide_eq_true hb];simp
   ·rw [if_neg hb,decide_eq_false hb];simp
  ·have h2:(if yV rs a (l.getD k (0,0))= x then 1#64 <<< k else 0#64).getLsbD i=false:=by
    split
    ·rw [oI (by omega)]; exact decide_eq_false e
    ·exact A7
   rw [h2,Ax];congr 1;rw [Aw,decide_eq_true_iff,decide_eq_true_iff]; omega
theorem vp {rs:List xC} {A F T:Nat} (ok:jH rs A F T) {l:List (Nat × Nat)} (h1:1<=l.length) (h2:l.length<=64):lW (qF rs l A F) l.length where
 w:=rfl
 hW:=⟨h1,h2⟩
 hV:=by have:=ok.hF; simp [qF,qE]; exact this
 hR:=by have:=ok.hA; simp [qF,uY]; exact this
 row:=λr hr=>by simp only [qF,uY,μ] at hr;obtain⟨a,_,rfl⟩:=hr;simp [uL]
 val:=λx hx=>by simp only [qF,qE,μ] at hx;obtain⟨f,_,rfl⟩:=hx;refine bq h2 λi hi=>?_;rw [tf _ _ h2,Au] at hi;exact of_decide_eq_true hi.1
 rel:=λr hr x hx=>by simp only [qF,uY,μ] at hr;obtain⟨a,_,rfl⟩:=hr;simp only [uL,μ] at hx;obtain⟨p,_,rfl⟩:=hx;refine bq h2 λi hi=>?_;rw [mS _ _ h2,Au] at hi;exact of_decide_eq_true hi.1
end Ru
open Rs Fm Ru Te
namespace Te
end Te
namespace Te
end Te
open Rs Fm Ru Te
namespace Te
def Pb (rs:List xC) (A T:Nat):Tr->nI
 | .nil=>λ_=>false
 | .nd op i e g x y=>rG rs A T ⟨op,i,e,g,0,0⟩ (Pb rs A T x) (Pb rs A T y)
theorem UT {rs:List xC} {A T:Nat} {n m:Nd} {x y x' y':nI} (h1:n.op=m.op) (h2:n.i=m.i) (h3:n.g=m.g) (hx:(xW n.op).1.x=true->x=x') (hy:(xW n.op).1.y=true->y=y') :
  rG rs A T n x y=rG rs A T m x' y':=by
 obtain⟨op,i,e,g,a,b⟩:=n;obtain⟨op',i',e',g',a',b'⟩:=m;simp only at h1 h2 h3 hx hy;subst h1 h2 h3;rcases sG op with rfl | rfl | rfl | rfl | rfl | rfl | rfl | rfl | rfl | rfl | rfl | rfl | rfl | rfl | rfl | rfl | rfl | rfl | rfl | rfl | rfl | h | h
 all_goals first
  | (have hx':=hx rfl; have hy':=hy rfl; subst hx' hy'; rfl)
  | (have hx':=hx rfl; subst hx'; rfl)
  | rfl
  | (unfold rG bR; simp only; funext p; repeat rw [if_neg (by omega)])
def LC (A F:Nat) (p:Nd):Bool:=decide (rF p &&& 3824=0)&& decide (vY p / 2 ^ A=0)&& decide (rE p / 2 ^ F=0)
theorem mL {m:Nd->Nat} {φ:Nat->Nat} (h0:φ 0=0) (h:∀ a b,φ (a ||| b)= φ a ||| φ b) (l:List Nd):φ (zZ m l)= zZ (λp=>φ (m p)) l:=by
 have key:∀ (l:List Nd) (a:Nat),φ (l.foldl (λa p=>a ||| m p) a)= l.foldl (λa p=>a ||| φ (m p)) (φ a):=by
  intro l
  induction l with
  | nil=>intro a; rfl
  | cons p r ih=>intro a; rw [Aj,Aj,ih,h]
 unfold zZ;rw [key,h0]
theorem qw {n:Nat} (h:n<4096):(tY .andNot .i64 (n:Int) 271 != 0)= !decide (n &&& 3824=0):=by
 have:∀ n:Fin 4096,(tY .andNot .i64 ((n.val:Nat):Int) 271 != 0)= !decide (n.val &&& 3824=0):=by decide +kernel
 exact this ⟨n,h⟩
theorem Ot {s:tB} {A F T:Nat} {rs:List xC} (hs:s=⟨A,F,T,rs⟩) (hz:lY s=0) (ok:jH rs A F T) {f:List Nd} (hc:yT f=0):dR s f=0 ↔ ∀ p ∈ yY f,LC A F p=true:=by
 have hlt:wT f<4096:=by refine nK λp _=>?_;have:=fO p.op;unfold rF; omega
 have e1:(wT f &&& 3824=0) ↔ ∀ p ∈ yY f,rF p &&& 3824=0:=by unfold wT;rw [mL (φ:=λn=>n &&& 3824) (by decide) (λa b=>Nat.and_or_distrib_right a b 3824),oF]
 have dv:∀ n a b:Nat,(a ||| b)/ 2 ^ n=a / 2 ^ n ||| b / 2 ^ n:=λn a b=>by rw [<- Bf,<- Bf,<- Bf,Nat.shiftRight_or_distrib]
 have e2:qX f / 2 ^ A=0 ↔ ∀ p ∈ yY f,vY p / 2 ^ A=0:=by unfold qX;rw [mL (φ:=λn=>n / 2 ^ A) (by simp) (dv A),oF]
 have e3:kV f / 2 ^ F=0 ↔ ∀ p ∈ yY f,rE p / 2 ^ F=0:=by unfold kV;rw [mL (φ:=λn=>n / 2 ^ F) (by simp) (dv F),oF]
 have hA:=ok.hA;have hF:=ok.hF
 have ef:tU f s.ag s.fa=true ↔ qX f / 2 ^ A=0/\kV f / 2 ^ F=0:=by
  subst hs;unfold tU kT;simp only [Au,Ay,decide_eq_true_eq,Bm]
  constructor
  ·rintro ⟨⟨_,h1⟩,h2⟩; exact⟨h1.resolve_left (by omega),h2.resolve_left (by omega)⟩
  ·rintro ⟨h1,h2⟩; exact⟨⟨hc,.inr h1⟩,.inr h2⟩
 unfold dR;rw [if_neg (by simpa using hz),if_neg (by simpa using hc),qw hlt]
 constructor
 ·intro h p hp
  by_cases c:wT f &&& 3824=0
  ·rw [if_neg (by simp [c])] at h
   cases h2:tU f s.ag s.fa with
   | false=>rw [h2,if_pos rfl] at h; cases h
   | true=> have h3:=ef.1 h2;unfold LC;simp only [Au,decide_eq_true_eq];exact⟨⟨e1.1 c p hp,e2.1 h3.1 p hp⟩,e3.1 h3.2 p hp⟩
  ·rw [if_pos (by simp [c])] at h; cases h
 ·intro h;have h':∀ p ∈ yY f,(rF p &&& 3824=0/\vY p / 2 ^ A=0)/\ rE p / 2 ^ F=0:=λp hp=>by simpa [LC] using h p hp
  have c:wT f &&& 3824=0:=e1.2 λp hp=>(h' p hp).1.1;rw [if_neg (by simp [c]),ef.2 ⟨e2.2 λp hp=>(h' p hp).1.2,e3.2 λp hp=>(h' p hp).2⟩,if_neg (by decide)]
end Te
namespace Fm
end Fm
namespace Te
end Te
open Rs Fm Ru Te
namespace Te
def TL (φ:Nat->Bool):Nat->BitVec 64
 | 0=>0#64
 | k+1=>TL φ k ||| (if φ k=true then 1#64 <<< k else 0#64)
theorem Xl {φ:Nat->Bool}:∀ (k i:Nat),k<=64->(TL φ k).getLsbD i=(decide (i<k)&& φ i)
 | 0,i,_=>by simp [TL]
 | k+1,i,hk=>by
  unfold TL;rw [A9,Xl k i (by omega)]
  by_cases e:i=k
  ·subst e
   cases hb:φ i
   ·simp
   ·rw [if_pos rfl,oI (by omega)];simp
  ·have h2:(if φ k=true then 1#64 <<< k else 0#64).getLsbD i=false:=by
    split
    ·rw [oI (by omega)]; exact decide_eq_false e
    ·exact A7
   rw [h2,Ax];congr 1;exact decide_eq_decide.2 (by omega)
def rW (T W:Nat) (x:nI):BitVec 64:=TL (λw=>x (pt T w)) W
theorem yE {T W:Nat} {x:nI} (hW:W<=64) (i:Nat):(rW T W x).getLsbD i=(decide (i<W)&& x (pt T i)):=Xl W i hW
theorem fA {a b:BitVec 64} (h:∀ i,i<64->a.getLsbD i=b.getLsbD i):a=b:=Ba h
theorem XL (r:List (BitVec 64)) (s:BitVec 64):∀ (k i:Nat),k<=64->(xz r s k).getLsbD i=(decide (i<k)&& (r.getD i 0 &&& ~~~s==0#64))
 | 0,i,_=>by simp [xz]
 | k+1,i,hk=>by
  unfold xz
  have e1:(if (r.getD k 0 &&& ~~~s==0#64)= true then xz r s k ||| 1#64 <<< k else xz r s k)= xz r s k ||| (if (r.getD k 0 &&& ~~~s==0#64)= true then 1#64 <<< k else 0#64):=by
   split
   ·rfl
   ·exact BitVec.or_zero.symm
  rw [e1,A9,XL r s k i (by omega)]
  by_cases e:i=k
  ·subst e
   cases hb:(r.getD i 0 &&& ~~~s==0#64)
   ·simp
   ·rw [if_pos rfl,oI (by omega)];simp
  ·have h2:(if (r.getD k 0 &&& ~~~s==0#64)= true then 1#64 <<< k else 0#64).getLsbD i=false:=by
    split
    ·rw [oI (by omega)]; exact decide_eq_false e
    ·exact A7
   rw [h2,Ax];congr 1;exact decide_eq_decide.2 (by omega)
theorem WJ {a s:BitVec 64}:(a &&& ~~~s==0#64)= true ↔ ∀ v,v<64->a.getLsbD v=true->s.getLsbD v=true:=by
 rw [beq_iff_eq]
 constructor
 ·intro h v hv ha;have:=congrArg (·.getLsbD v) h;simp only [A6,A8,ha,hv,A7] at this;simpa using this
 ·intro h;refine fA λv hv=>?_;rw [A6,A8,A7]
  cases ha:a.getLsbD v
  ·rfl
  ·rw [h v hv ha]; simp
theorem Y3 {rs:List xC} {T v:Nat} (h:v<rs.length*T):(wD rs T).getD v (0,0)= pt T v:=bu T h
theorem NU {rs:List xC} {T:Nat} {P:Nat × Nat->Bool}:(wD rs T).all P=true ↔ ∀ v,v<rs.length*T->P (pt T v)= true:=by
 rw [υ]
 constructor
 ·intro h v hv;refine h _ ?_;unfold wD rO;exact μ.2 ⟨v,ε.2 hv,rfl⟩
 ·intro h q hq;unfold wD rO at hq;obtain⟨v,hv,rfl⟩:=μ.1 hq;exact h v (ε.1 hv)
def Y9 (rs:List xC) (T:Nat) (r:List (BitVec 64)) (ρ:Nat × Nat->Nat × Nat->Bool):Prop:= r.length=rs.length*T/\∀ w,w<rs.length*T->∀ v,(r.getD w 0).getLsbD v=(decide (v<rs.length*T)&& ρ (pt T w) (pt T v))
theorem bD {rs:List xC} {T:Nat} (hW:rs.length*T<=64) {r:List (BitVec 64)} {ρ:Nat × Nat->Nat × Nat->Bool} (h:Y9 rs T r ρ) {s:BitVec 64} {x:nI} (hs:∀ v,v<rs.length*T->s.getLsbD v=x (pt T v)) :
  gV r s=rW T (rs.length*T) λp=>(wD rs T).all λq=>!ρ p q || x q:=by
 obtain⟨hl,hr⟩:=h;refine fA λi _=>?_;rw [yE hW,gV,XL r s _ i (by omega),hl]
 by_cases hi:i<rs.length*T
 ·rw [decide_eq_true hi,As,As,Aw,WJ,NU]
  constructor
  ·intro h v hv
   cases e:ρ (pt T i) (pt T v) with
   | false=>rfl
   | true=> have:=h v (by omega) (by rw [hr i hi v,decide_eq_true hv,e]; rfl);rw [hs v hv] at this;simpa using this
  ·intro h v _ ha;rw [hr i hi v,Au] at ha;have hv:=of_decide_eq_true ha.1;have:=h v hv;rw [ha.2] at this;rw [hs v hv];simpa using this
 ·rw [decide_eq_false hi,Av,Av]
section
variable {rs : List xC} {A F T : Nat}
theorem Xy {a:Nat} (ha:a<A) (hW:rs.length*T<=64):Y9 rs T ((qF rs (wD rs T) A F).R.getD a []) λp q=>decide (yV rs a q=yV rs a p):=by
 have hl:(wD rs T).length=rs.length*T:=rV T _
 have hg:(qF rs (wD rs T) A F).R.getD a []=uL rs (wD rs T) a:=by show (uY rs (wD rs T) A).getD a []=_;simp [uY,List.getD,ha]
 rw [hg];refine⟨by simp [uL,hl],λw hw v=>?_⟩
 have hw':(uL rs (wD rs T) a).getD w 0=Ru.lF rs (wD rs T) a (yV rs a (pt T w)) (rs.length*T):=by
  have h1:w<(wD rs T).length:=by omega
  have h2:=Y3 (rs:=rs) hw;rw [List.getD,η h1] at h2;simp only [Bp] at h2;simp only [uL,List.getD,List.getElem?_map,η h1,Bq,Bp,h2,hl]
 rw [hw',mS _ _ hW]
 by_cases hv:v<rs.length*T
 ·rw [decide_eq_true hv,Y3 hv]
 ·rw [decide_eq_false hv,Av,Av]
theorem yo {m:tZ} {W:Nat} (ok:lW m W) (hW:rs.length*T=W) (hR:m.R.length=A) {g:Nat} (hg:1<=g/\g<2 ^ m.R.length) (meet:Bool) (hk:∀ a,a<A->Y9 rs T (m.R.getD a []) λp q=>decide (yV rs a q=yV rs a p)) :
  Y9 rs T (wF m g meet) λp q=>if meet=true then PX rs A g p q else YD rs A g p q:=by
 obtain⟨⟨a0,ha0,hb0⟩,hl,hv⟩:=wy ok hg meet;refine⟨by rw [hl,hW],λw hw v=>?_⟩;rw [hv w (by omega) v];unfold ur;rw [hR] at ha0 ⊢
 have hbit:∀ a,a<A->((m.R.getD a []).getD w 0).getLsbD v=(decide (v<rs.length*T)&& decide (yV rs a (pt T w)= yV rs a (pt T v))):=λa ha=>by rw [(hk a ha).2 w hw v];congr 1;exact decide_eq_decide.2 ⟨λh=>h.symm,λh=>h.symm⟩
 cases meet with
 | true=>
  show _=(decide (v<rs.length*T)&& PX rs A g (pt T w) (pt T v));rw [if_pos rfl];unfold PX
  by_cases hvw:v<rs.length*T
  ·rw [decide_eq_true hvw,As];refine aq λa ha=>?_;rw [hbit a (ε.1 ha),decide_eq_true hvw,As]
  ·rw [decide_eq_false hvw,Av];refine A5.2 λh=>?_;rw [υ] at h;have:=h a0 (ε.2 ha0);rw [hb0,hbit a0 ha0,decide_eq_false hvw] at this;simp at this
 | false=>
  show _=(decide (v<rs.length*T)&& YD rs A g (pt T w) (pt T v));rw [if_neg (by decide)];unfold YD
  by_cases hvw:v<rs.length*T
  ·rw [decide_eq_true hvw,As,Aw,τ,τ]
   constructor
   ·rintro ⟨a,ha,h⟩;refine⟨a,ha,?_⟩
    rwa [hbit a (ε.1 ha),decide_eq_true hvw,As] at h
   ·rintro ⟨a,ha,h⟩;refine⟨a,ha,?_⟩
    rwa [hbit a (ε.1 ha),decide_eq_true hvw,As]
  ·rw [decide_eq_false hvw,Av];refine A5.2 λh=>?_;rw [τ] at h;obtain⟨a,ha,h⟩:=h;rw [hbit a (ε.1 ha),decide_eq_false hvw] at h;simp at h
theorem gm {g:Nat} {x:nI} {p:Nat × Nat}:mY rs A T g x p=(wD rs T).all λq=>!YD rs A g p q || x q:=by
 rw [Aw,Z1,υ]
 constructor
 ·intro h q hq
  cases e:YD rs A g p q with
  | false=>rfl
  | true=>rw [h q hq e]; rfl
 ·intro h q hq e;have:=h q hq;rw [e] at this;simpa using this
theorem XB {W T:Nat} (hW:W<=64):sL W=rW T W λ_=>true:=by refine fA λi hi=>?_;rw [oG hW hi,yE hW,A0]
theorem iL {m:tZ} {W:Nat} (ok:lW m W) (hW:rs.length*T=W) (hR:m.R.length=A) {g:Nat} (hg:1<=g/\g<2 ^ m.R.length) (hk:∀ a,a<A->Y9 rs T (m.R.getD a []) λp q=>decide (yV rs a q=yV rs a p)) (x y:nI) :
  ∀ n,pZ (wF m g false) (sL W) (rW T W x) (rW T W y) n=rW T W (lX rs A T g x y n)
 | 0=>by have:=ok.hW; exact XB this.2
 | n+1=>by
  have hW64:=ok.hW.2;show gV _ _=_;rw [iL ok hW hR hg hk x y n];have hrel:=yo ok hW hR hg false hk
  rw [bD (by omega) hrel (x:=λq=>!x q || (y q&&lX rs A T g x y n q)) λv hv=>?_]
  ·rw [hW];congr 1;funext p;simp only [A3,↓reduceIte];rw [<- gm];rfl
  ·rw [hW] at hv;simp only [A9,A6,A8,oG hW64 (show v<64 by omega),yE hW64,decide_eq_true hv,decide_eq_true (show v<64 by omega),As]
end
end Te
open Rs Fm Ru Te
namespace Te
def pG (A F:Nat) (n:Nd):Bool:= if n.op<1 then false else if n.op=3 then decide (n.i<(F:Int)) else if n.op<=8 then true else if n.op<=10 then decide (n.i<(A:Int)) else if n.op<=13 then decide (n.g<((2 ^ A:Nat):Int)) else false
theorem Rb {A F:Nat} {n:Nd} (h:n.op<1\/21<n.op):pG A F n=false:=by rcases h with h | h <;> unfold pG <;> repeat (first | rw [if_pos (by omega)] | rw [if_neg (by omega)])
theorem PA {m:tZ} {W:Nat} {n:Nd} {x y:BitVec 64} (h:n.op<1\/21<n.op):tE m W n x y=(0#64,false):=by unfold tE; repeat rw [if_neg (by omega)]
theorem pv {T W:Nat} {x y:nI} (h:∀ v,v<W->x (pt T v)= y (pt T v)) (hW:W<=64):rW T W x=rW T W y:=by
 refine fA λi _=>?_;rw [yE hW,yE hW]
 by_cases hi:i<W
 ·rw [h i hi]
 ·rw [decide_eq_false hi,Av,Av]
theorem Om {rs:List xC} {T v:Nat} (hv:v<rs.length*T):pt T v ∈ wD rs T:=by unfold wD rO;exact μ.2 ⟨v,ε.2 hv,rfl⟩
theorem Q3 (rs:List xC) (A T g:Nat) (x y:nI) {p:Nat × Nat} (hp:p ∈ wD rs T):lX rs A T g x y (rs.length*T+1) p=lX rs A T g x y (rs.length*T) p:=by obtain⟨n,h1,h2⟩:=Q2 (rs:=rs) (A:=A) (T:=T) g x y;obtain⟨m,hm⟩:=Bj h1;rw [hm,yf h2 m p hp,show n+m+1=n+(m+1) by omega,yf h2 (m+1) p hp]
section
variable {rs : List xC} {A F T : Nat}
theorem Nj (ok:jH rs A F T) (hW:rs.length*T<=64) {g:Nat} (hg:1<=g/\g<2 ^ A) (x y:nI) :
  pZ (wF (qF rs (wD rs T) A F) g false) (sL (rs.length*T)) (rW T (rs.length*T) x) (rW T (rs.length*T) y) (rs.length*T+1)= pZ (wF (qF rs (wD rs T) A F) g false) (sL (rs.length*T)) (rW T (rs.length*T) x) (rW T (rs.length*T) y) (rs.length*T):=by
 have hl:(wD rs T).length=rs.length*T:=rV T _;have h1:1<=rs.length*T:=Bl ok.hR.1 ok.hT.1;have hm:=vp (F:=F) ok (l:=wD rs T) (by omega) (by omega);rw [hl] at hm;have hRl:(qF rs (wD rs T) A F).R.length=A:=by show (uY rs (wD rs T) A).length=A; simp [uY]
 have hk:∀ a,a<A->Y9 rs T ((qF rs (wD rs T) A F).R.getD a []) λp q=>decide (yV rs a q=yV rs a p):=λa ha=>Xy ha hW;rw [iL hm rfl hRl (by rw [hRl]; exact hg) hk,iL hm rfl hRl (by rw [hRl]; exact hg) hk];exact pv (λv hv=>Q3 rs A T g x y (Om hv)) hW
theorem Rt (ok:jH rs A F T) (hW:rs.length*T<=64) {n:Nd} {k:Int} (hn:zY n k=0) {x y:BitVec 64} {tx ty:nI} (hx:(xW n.op).1.x=true->x=rW T (rs.length*T) tx) (hy:(xW n.op).1.y=true->y=rW T (rs.length*T) ty) :
  tE (qF rs (wD rs T) A F) (rs.length*T) n x y=if pG A F n=true then(rW T (rs.length*T) (rG rs A T n tx ty),true) else(0#64,false):=by
 have hl:(wD rs T).length=rs.length*T:=rV T _;have h1:1<=rs.length*T:=Bl ok.hR.1 ok.hT.1;have hm:=vp (F:=F) ok (l:=wD rs T) (by omega) (by omega);rw [hl] at hm;have hRl:(qF rs (wD rs T) A F).R.length=A:=by show (uY rs (wD rs T) A).length=A; simp [uY]
 have hVl:(qF rs (wD rs T) A F).V.length=F:=by show (qE rs (wD rs T) F).length=F; simp [qE]
 have hk:∀ a,a<A->Y9 rs T ((qF rs (wD rs T) A F).R.getD a []) λp q=>decide (yV rs a q=yV rs a p):=λa ha=>Xy ha hW
 have hVg:∀ f,f<F->∀ i,((qF rs (wD rs T) A F).V.getD f 0).getLsbD i=(decide (i<rs.length*T)&& (cA rs (pt T i)).getLsbD f):=λf hf i=>by
  have e:(qF rs (wD rs T) A F).V.getD f 0=tO rs (wD rs T) f (wD rs T).length:=by show (qE rs (wD rs T) F).getD f 0=_;simp [qE,List.getD,hf]
  rw [e,hl,tf _ _ hW]
  by_cases hi:i<rs.length*T
  ·rw [Y3 hi]
  ·rw [decide_eq_false hi,Av,Av]
 have hi0:n.op=3\/n.op=9\/n.op=10->0<=n.i:=λh=>by
  rcases h with h | h | h
  ·exact(lP hn (by rw [h]; rfl)).1
  ·exact(sF hn (by rw [h]; rfl)).1
  ·exact(sF hn (by rw [h]; rfl)).1
 have hg0:n.op=11\/n.op=12\/n.op=13->1<=n.g/\n.g<=15:=λh=>by
  have hgr:(xW n.op).1.gr=true:=by rcases h with h | h | h <;> rw [h] <;> rfl
  have h1:=(vN.1 hn).2.2.2.2;simp only [Az,hgr,xH,As,decide_eq_false_iff_not] at h1;omega
 obtain⟨op,i,e,g,a,b⟩:=n;simp only at hi0 hg0 hx hy;generalize hm':qF rs (wD rs T) A F=m at *;generalize hWW:rs.length*T=W at *;have fin:∀ {p q:BitVec 64},(∀ v,v<64->p.getLsbD v=q.getLsbD v)->(p,true)= (q,true):=λh=>by rw [fA h]
 rcases sG op with rfl | rfl | rfl | rfl | rfl | rfl | rfl | rfl | rfl | rfl | rfl | rfl | rfl | rfl | rfl | rfl | rfl | rfl | rfl | rfl | rfl | h | h
 ·show (sL W,true)= (rW T W λ_=>true,true);rw [XB hW]
 ·show (0#64,true)= (rW T W λ_=>false,true);refine fin λv _=>?_;rw [yE hW,A4,A7]
 ·have h0:=hi0 (.inl rfl);show (if i<(m.V.length:Int) then(m.V.getD i.toNat 0,true) else(0#64,false))= if decide (i<(F:Int))= true then(rW T W λp=>(cA rs p).getLsbD i.toNat,true) else(0#64,false);rw [hVl]
  by_cases hlt:i<(F:Int)
  ·rw [if_pos hlt,if_pos (decide_eq_true hlt)];refine fin λv _=>?_;rw [hVg i.toNat (by omega),yE hW]
  ·rw [if_neg hlt,if_neg (by simpa using hlt)]
 ·have hx:=hx rfl;show (sL W &&& ~~~x,true)= (rW T W λp=>!tx p,true);refine fin λv hv=>?_;rw [hx,A6,A8,oG hW hv,yE hW,yE hW,decide_eq_true hv];cases decide (v<W) <;> simp
 ·have hx:=hx rfl;have hy:=hy rfl;show (x &&& y,true)= (rW T W λp=>tx p&&ty p,true);refine fin λv hv=>?_;rw [hx,hy,A6,yE hW,yE hW,yE hW];cases decide (v<W) <;> simp
 ·have hx:=hx rfl;have hy:=hy rfl;show (x ||| y,true)= (rW T W λp=>tx p || ty p,true);refine fin λv hv=>?_;rw [hx,hy,A9,yE hW,yE hW,yE hW];cases decide (v<W) <;> simp
 ·have hx:=hx rfl;have hy:=hy rfl;show (sL W &&& ~~~x ||| y,true)= (rW T W λp=>!tx p || ty p,true);refine fin λv hv=>?_;rw [hx,hy,A9,A6,A8,oG hW hv,yE hW,yE hW,yE hW,decide_eq_true hv];cases decide (v<W) <;> simp
 ·have hx:=hx rfl;have hy:=hy rfl;show (sL W &&& ~~~(x ^^^ y),true)= (rW T W λp=>tx p==ty p,true);refine fin λv hv=>?_;rw [hx,hy,A6,A8,BitVec.getLsbD_xor,oG hW hv,yE hW,yE hW,yE hW,decide_eq_true hv];cases decide (v<W) <;> cases tx (pt T v) <;> cases ty (pt T v) <;> rfl
 ·have h0:=hi0 (.inr (.inl rfl));have hx:=hx rfl;show (if i<(m.R.length:Int) then(gV (m.R.getD i.toNat []) x,true) else(0#64,false))= if decide (i<(A:Int))= true then(rW T W (nE rs T i.toNat tx),true) else(0#64,false);rw [hRl]
  by_cases hlt:i<(A:Int)
  ·rw [if_pos hlt,if_pos (decide_eq_true hlt)];have:=bD (by omega) (hk i.toNat (by omega)) (s:=x) (x:=tx) λv hv=>by rw [hx,yE hW,decide_eq_true (by omega),As]
   rw [this,hWW];rfl
  ·rw [if_neg hlt,if_neg (by simpa using hlt)]
 ·have h0:=hi0 (.inr (.inr rfl));have hx:=hx rfl;show (if i<(m.R.length:Int) then(VQ (m.R.getD i.toNat []) x,true) else(0#64,false))= if decide (i<(A:Int))= true then(rW T W λp=>!nE rs T i.toNat (λq=>!tx q) p,true) else(0#64,false);rw [hRl]
  by_cases hlt:i<(A:Int)
  ·rw [if_pos hlt,if_pos (decide_eq_true hlt)];have hkk:=hk i.toNat (by omega);have:=bD (by omega) hkk (s:= ~~~x) (x:=λq=>!tx q) λv hv=>by rw [hx,A8,yE hW,decide_eq_true (show v<64 by omega),decide_eq_true (show v<W by omega),As,As]
   unfold VQ;rw [this,hkk.1,hWW];refine fin λv hv=>?_;rw [A6,A8,oG hW hv,yE hW,yE hW,decide_eq_true hv];show (decide (v<W)&& (true&&!(decide (v<W)&& nE rs T i.toNat (λq=>!tx q) (pt T v))))= _;cases decide (v<W) <;> simp
  ·rw [if_neg hlt,if_neg (by simpa using hlt)]
 ·have h0:=hg0 (.inl rfl);have hx:=hx rfl;show (if g<((2 ^ m.R.length:Nat):Int) then(gV (wF m g.toNat false) x,true) else(0#64,false))= if decide (g<((2 ^ A:Nat):Int))= true then(rW T W (mY rs A T g.toNat tx),true) else(0#64,false);rw [hRl]
  by_cases hlt:g<((2 ^ A:Nat):Int)
  ·rw [if_pos hlt,if_pos (decide_eq_true hlt)];have hrel:=yo hm hWW hRl (g:=g.toNat) (by rw [hRl]; omega) false hk;have:=bD (by omega) hrel (s:=x) (x:=tx) λv hv=>by rw [hx,yE hW,decide_eq_true (by omega),As]
   rw [this,hWW];refine congrArg (λz=>(z,true)) (pv (λv _=>?_) hW);rw [gm];rfl
  ·rw [if_neg hlt,if_neg (by simpa using hlt)]
 ·have h0:=hg0 (.inr (.inl rfl));have hx:=hx rfl;show (if g<((2 ^ m.R.length:Nat):Int) then(gV (wF m g.toNat true) x,true) else(0#64,false))= if decide (g<((2 ^ A:Nat):Int))= true then(rW T W (N4 rs A T g.toNat tx),true) else(0#64,false);rw [hRl]
  by_cases hlt:g<((2 ^ A:Nat):Int)
  ·rw [if_pos hlt,if_pos (decide_eq_true hlt)];have hrel:=yo hm hWW hRl (g:=g.toNat) (by rw [hRl]; omega) true hk;have:=bD (by omega) hrel (s:=x) (x:=tx) λv hv=>by rw [hx,yE hW,decide_eq_true (by omega),As]
   rw [this,hWW];rfl
  ·rw [if_neg hlt,if_neg (by simpa using hlt)]
 ·have h0:=hg0 (.inr (.inr rfl));have hx:=hx rfl;have hy:=hy rfl;show (if g<((2 ^ m.R.length:Nat):Int) then(pZ (wF m g.toNat false) (sL W) x y W,true) else(0#64,false))= if decide (g<((2 ^ A:Nat):Int))= true then(rW T W (aw rs A T g.toNat tx ty),true) else(0#64,false);rw [hRl]
  by_cases hlt:g<((2 ^ A:Nat):Int)
  ·rw [if_pos hlt,if_pos (decide_eq_true hlt),hx,hy,iL hm hWW hRl (by rw [hRl]; omega) hk];unfold aw;rw [hWW]
  ·rw [if_neg hlt,if_neg (by simpa using hlt)]
 all_goals first
  | rfl
  | (rw [Rb (by first | exact .inl h | exact .inr h),if_neg (by decide)]; exact PA (by first | exact .inl h | exact .inr h))
end
end Te
end Go.Pd

/- Part C7. -/
namespace Go.Pd
open Go Go.Proofs
open BitVec renaming isValue -> ZA
open Rs Fm Ru Te
namespace Te
def nG {α:Type} (L:Nat) (g h:Nat->α) (k:Nat):List α:=(List.range L).map λi=>if i<k then g i else h i
theorem Xf {α:Type} (L:Nat) (g h:Nat->α) (k:Nat):(nG L g h k).length=L:=by simp [nG]
theorem aV {α:Type} {L:Nat} (g h:Nat->α) (k:Nat) {i:Nat} (hi:i<L) (d:α):(nG L g h k).getD i d=if i<k then g i else h i:=by simp [nG,List.getD,hi]
theorem Xg {α:Type} (L:Nat) (g h:Nat->α) (k:Nat):(nG L g h k).set k (g k)= nG L g h (k+1):=by
 refine Ab (by simp [nG]) λi h1 h2=>?_;rw [Aq];simp only [nG,Ar,Ao]
 by_cases e:k=i
 ·subst e; rw [if_pos rfl,if_pos (by omega)]
 ·rw [if_neg e]
  by_cases hk:i<k
  ·rw [if_pos hk,if_pos (by omega)]
  ·rw [if_neg hk,if_neg (by omega)]
theorem iz {α:Type} {L:Nat} {g h:Nat->α} {k:Nat} (e:g k=h k):nG L g h k=nG L g h (k+1):=by
 unfold nG;refine ω λi _=>?_
 by_cases hk:i<k
 ·rw [if_pos hk,if_pos (by omega)]
 ·rw [if_neg hk]
  by_cases e2:i=k
  ·subst e2; rw [if_pos (by omega),e]
  ·rw [if_neg (by omega)]
theorem iy {α:Type} (L:Nat) (g:Nat->α) (c:α):nG L g (λ_=>c) 0=List.replicate L c:=by refine Ab (by simp [nG]) λi h1 h2=>by simp [nG]
theorem Xe {α:Type} (L:Nat) (g h:Nat->α):nG L g h L=(List.range L).map g:=by refine ω λf hf=>?_;rw [if_pos (ε.1 hf)]
def mw (op:Int):Bool:=(decide (5<=op)&& decide (op<=8)) || decide (op=13)
def okF (f:List Nd) (fv:Nat->Bool) (k:Nat):Bool:=(if 4<=(f.getD k wA).op then fv (f.getD k wA).x.toNat else true)&& (if mw (f.getD k wA).op=true then fv (f.getD k wA).y.toNat else true)
end Te
theorem LY {m:tZ} {f:List Nd} (hc:yT f=0) (hreq:yU prog 176 [m.d,.sl 6 (zB f)] (.int .i64 0)) {sv:Nat->BitVec 64} {fv:Nat->Bool}
  (hcall:∀ k,k<f.length->okF f fv k=true->∀ x y,((xW (f.getD k wA).op).1.x=true->x=sv (f.getD k wA).x.toNat)->((xW (f.getD k wA).op).1.y=true->y=sv (f.getD k wA).y.toNat) ->
   yU prog 177 [m.d,.agg (f.getD k wA).row,.int .u64 (ui x),.int .u64 (ui y)] (.wK [.int .u64 (ui (sv k)),.bool (fv k)]))
  (hno:∀ k,k<f.length->okF f fv k=false->sv k=0#64/\fv k=false) :
  yU prog 113 [m.d,.sl 6 (zB f)] (.wK [.sl 1 (us ((List.range f.length).map sv)),.int .i64 0]):=by
 obtain⟨c1,c2,c3⟩:=vB hc;have hn:0<f.length:=Al.2 c1;unfold tZ.d at hreq hcall ⊢;refine xY.xN mixed func113 IH (by simp) λhf=>?_;simp only [simprocAttr,-ZA,↓zU,↓zD,zV,zT,zW]
 (repeat refine sd ?_)
 refine .go (cr hreq) ?_;simp only [simprocAttr,-ZA,↓zU,↓zD,zV,zT,zW,xG]
 (repeat refine sd ?_)
 refine xP (λk:Nat=>[(26,.int .i64 k),(25,.int .i64 f.length),(24,.sl 6 (zB f)),(8,.yM 2 1 f.length),(7,.yM 1 1 f.length),(2,.ref 0 3 0 0)])
  (λk=>⟨3,[(2,⟨1,rb (nG f.length fv (λ_=>false) k)⟩),(1,⟨1,us (nG f.length sv (λ_=>0#64) k)⟩),(0,⟨3,[[.int .i64 m.W,.sl 1 (us m.V),.sl 1 (rr m.R)]]⟩)]⟩)
  (λk=>k<=f.length) (λk=>f.length-k) 0 (Bi _) ?_ ?_
 ·rw [iy,iy,<- aM,<- z7]
  (refine xT.same ?_; simp [xS,Fr.get])
 intro k hk;refine xM mixed ?_;by_cases hkl:k<f.length
 case neg=>
  have hd:¬ ((k:Int)<(f.length:Int)):=by omega
  have hke:k=f.length:=by omega
  subst hke;rw [Xe,Xe];have hlen:((List.range f.length).map sv).length=f.length:=by simp
  generalize (List.range f.length).map sv=l at hlen ⊢;simp only [simprocAttr,-ZA,↓zU,↓zD,zV,zT,zW,hd];refine .drop (by simp) ?_;simp only [vw,vI];exact⟨rfl,⟨trivial,by decide,by simp,⟨1,us l⟩,rfl,rfl,by simp only [xI]; omega,by rw [<- hlen,<- xI,Af],pP l⟩,trivial,trivial⟩
 have hd:((k:Int)<(f.length:Int)):=by omega
 have hcall:=hcall k hkl;have hno:=hno k hkl;have hnd:=c3 k hkl;have hg:=sT f hkl;have hux:=Ss (f.getD k wA).op;obtain⟨hox,hoy⟩:=mR hnd;obtain⟨⟨x,hx,hxk⟩,⟨y,hy,hyk⟩⟩:=W7 hnd;unfold okF at hcall hno;generalize f.getD k wA=p at hcall hno hnd hg hux hox hoy hx hy;obtain⟨op,i,e,g,px,py⟩:=p;simp only at hx hy;subst hx hy;have hrow:(Nd.row ⟨op,i,e,g,x,y⟩)= [.int .i64 op,.int .i64 i,.int .i64 e,.int .i64 g,.int .i64 x,.int .i64 y]:=rfl;rw [hrow] at hg hcall;have hxl:x<f.length:=by omega
 have hyl:y<f.length:=by omega
 have hxl':((x:Int)<(f.length:Int)):=by omega
 have hyl':((y:Int)<(f.length:Int)):=by omega
 have hSx:=aV sv (λ_=>0#64) k hxl 0#64;have hSy:=aV sv (λ_=>0#64) k hyl 0#64;have hBx:=aV fv (λ_=>false) k hxl false;have hBy:=aV fv (λ_=>false) k hyl false;have hSl:=Xf f.length sv (λ_=>0#64) k;have hBl:=Xf f.length fv (λ_=>false) k;have hSs:=Xg f.length sv (λ_=>0#64) k;have hBs:=Xg f.length fv (λ_=>false) k;have hSk:sv k=0#64->nG f.length sv (λ_=>0#64) k=nG f.length sv (λ_=>0#64) (k+1):=λh=>iz h;have hBk:fv k=false->nG f.length fv (λ_=>false) k=nG f.length fv (λ_=>false) (k+1):=λh=>iz h;generalize nG f.length sv (λ_=>0#64) k=S at hSx hSy hSl hSs hSk ⊢;generalize nG f.length fv (λ_=>false) k=B at hBx hBy hBl hBs hBk ⊢;simp only [Bm] at hcall hno hux hox hoy;have gSx:=vX S (show x<S.length by omega);have gSy:=vX S (show y<S.length by omega);have gBx:=Y4 B (show x<B.length by omega);have gBy:=Y4 B (show y<B.length by omega)
 have hop:1<=op/\op<=21:=by have h2:=(vN.1 hnd).1;simp only at h2;refine Decidable.byContradiction λhh=>?_;rw [vS (by omega)] at h2;cases h2
 have hxu:(xW op).1.x=true->S.getD x 0#64=sv x:=λh=>by rw [hSx,if_pos (by have:=hox h; omega)]
 have hyu:(xW op).1.y=true->S.getD y 0#64=sv y:=λh=>by rw [hSy,if_pos (by have:=hoy h; omega)]
 have hfx:4<=op->B.getD x false=fv x:=λh=>by
  have hu:(xW op).1.x=true:=by rw [hux,decide_eq_true h,decide_eq_true hop.2]; rfl
  rw [hBx,if_pos (by have:=hox hu; omega)]
 have hby:mw op=true->(xW op).1.y=true:=λh=>by
  unfold mw at h;simp only [Ay,Au,decide_eq_true_eq] at h;have:op=5\/op=6\/op=7\/op=8\/op=13:=by omega
  rcases this with rfl | rfl | rfl | rfl | rfl <;> rfl
 have hfy:mw op=true->B.getD y false=fv y:=λh=>by rw [hBy,if_pos (by have:=hoy (hby h); omega)]
 have hc':=λh=>hcall h (S.getD x 0#64) (S.getD y 0#64) hxu hyu;clear hcall hxu hyu hSx hSy hBx hBy;generalize S.getD x 0#64=sx at gSx hc';generalize S.getD y 0#64=sy at gSy hc';generalize B.getD x false=bx at gBx hfx;generalize B.getD y false=by' at gBy hfy
 have hwu:IntKind.i64.wrap ((k:Int)+ 1)= ((k+1:Nat):Int):=wrap_i64 (by omega);have gSk:=vX S (show k<S.length by omega);have gBk:=Y4 B (show k<B.length by omega);by_cases h4:4<=op
 case neg=>
  have h5:¬ (5:Int)<=op:=by omega
  have h13:(op==13)= false:=by rw [beq_eq_false_iff_ne]; omega
  have hb:mw op=false:=by unfold mw; rw [decide_eq_false h5,decide_eq_false (show ¬ op=13 by omega)]; rfl
  simp only [simprocAttr,-ZA,↓zU,↓zD,zV,zT,zW,hd,hwu,xG,hg,xI,rJ,hSl,hBl,hxl',hyl',gSx,gSy,gBx,gBy,gSk,gBk,eI,h4,h5,h13]
  (repeat refine sd ?_)
  refine .go (xY.yH (hc' (by rw [if_neg h4,hb]; rfl)) (by simp [D.xR,D.xD])) ?_;simp only [simprocAttr,-ZA,↓zU,↓zD,zV,zT,zW,hd,hwu,xG,hg,xI,rJ,hSl,hBl,hxl',hyl',gSx,gSy,gBx,gBy,gSk,gBk,eI,h4,h5,h13,lA,uc,hSs,hBs]
  (repeat refine sd ?_)
  refine⟨k+1,by omega,?_,by omega⟩
  (refine xT.tP [] [2,1,0] (by simp) (by simp) (by decide) ?_; simp only [yQ,zQ,simprocAttr,-ZA,exists_eq_left',ne_eq,zR,yJ,sH])
 have hfx:=hfx h4;subst hfx;rw [if_pos h4] at hc' hno
 cases hb:mw op with
 | false=>
  rw [hb,if_neg (by decide),A0] at hc' hno
  have h13:(op==13)= false:=by rw [beq_eq_false_iff_ne]; rintro rfl; cases hb
  have h58:¬ (5<=op/\op<=8):=by rintro ⟨z1,z2⟩; unfold mw at hb; rw [decide_eq_true z1,decide_eq_true z2] at hb; cases hb
  by_cases h5:5<=op
  ·have h8:¬ op<=8:=by omega
   cases hf:fv x with
   | true=>
    simp only [simprocAttr,-ZA,↓zU,↓zD,zV,zT,zW,hd,hwu,xG,hg,xI,rJ,hSl,hBl,hxl',hyl',gSx,gSy,gBx,gBy,gSk,gBk,eI,h4,h5,h8,h13,hf]
    (repeat refine sd ?_)
    refine .go (cr (hc' hf)) ?_;simp only [simprocAttr,-ZA,↓zU,↓zD,zV,zT,zW,hd,hwu,xG,hg,xI,rJ,hSl,hBl,hxl',hyl',gSx,gSy,gBx,gBy,gSk,gBk,eI,h4,h5,h8,h13,hf,lA,uc,hSs,hBs]
    (repeat refine sd ?_)
    refine⟨k+1,by omega,?_,by omega⟩
    (refine xT.tP [] [2,1,0] (by simp) (by simp) (by decide) ?_; simp only [yQ,zQ,simprocAttr,-ZA,exists_eq_left',ne_eq,zR,yJ,sH])
   | false=>
    simp only [simprocAttr,-ZA,↓zU,↓zD,zV,zT,zW,hd,hwu,xG,hg,xI,rJ,hSl,hBl,hxl',hyl',gSx,gSy,gBx,gBy,gSk,gBk,eI,h4,h5,h8,h13,hf]
    (repeat refine sd ?_)
    obtain⟨q1,q2⟩:=hno hf;rw [hSk q1,hBk q2];refine⟨k+1,by omega,?_,by omega⟩
    (refine xT.tP [] [2,1,0] (by simp) (by simp) (by decide) ?_; simp only [yQ,zQ,simprocAttr,-ZA,exists_eq_left',ne_eq,zR,yJ,sH])
  ·cases hf:fv x with
   | true=>
    simp only [simprocAttr,-ZA,↓zU,↓zD,zV,zT,zW,hd,hwu,xG,hg,xI,rJ,hSl,hBl,hxl',hyl',gSx,gSy,gBx,gBy,gSk,gBk,eI,h4,h5,h13,hf]
    (repeat refine sd ?_)
    refine .go (cr (hc' hf)) ?_;simp only [simprocAttr,-ZA,↓zU,↓zD,zV,zT,zW,hd,hwu,xG,hg,xI,rJ,hSl,hBl,hxl',hyl',gSx,gSy,gBx,gBy,gSk,gBk,eI,h4,h5,h13,hf,lA,uc,hSs,hBs]
    (repeat refine sd ?_)
    refine⟨k+1,by omega,?_,by omega⟩
    (refine xT.tP [] [2,1,0] (by simp) (by simp) (by decide) ?_; simp only [yQ,zQ,simprocAttr,-ZA,exists_eq_left',ne_eq,zR,yJ,sH])
   | false=>
    simp only [simprocAttr,-ZA,↓zU,↓zD,zV,zT,zW,hd,hwu,xG,hg,xI,rJ,hSl,hBl,hxl',hyl',gSx,gSy,gBx,gBy,gSk,gBk,eI,h4,h5,h13,hf]
    (repeat refine sd ?_)
    obtain⟨q1,q2⟩:=hno hf;rw [hSk q1,hBk q2];refine⟨k+1,by omega,?_,by omega⟩
    (refine xT.tP [] [2,1,0] (by simp) (by simp) (by decide) ?_; simp only [yQ,zQ,simprocAttr,-ZA,exists_eq_left',ne_eq,zR,yJ,sH])
 | true=>
  have hfy:=hfy hb;subst hfy;rw [hb,if_pos rfl] at hc' hno
  by_cases h13:op=13
  ·subst h13
   cases hf:fv x with
   | false=>
    simp only [simprocAttr,-ZA,↓zU,↓zD,zV,zT,zW,hd,hwu,xG,hg,xI,rJ,hSl,hBl,hxl',hyl',gSx,gSy,gBx,gBy,gSk,gBk,eI,hf]
    (repeat refine sd ?_)
    obtain⟨q1,q2⟩:=hno (by rw [hf]; rfl);rw [hSk q1,hBk q2];refine⟨k+1,by omega,?_,by omega⟩
    (refine xT.tP [] [2,1,0] (by simp) (by simp) (by decide) ?_; simp only [yQ,zQ,simprocAttr,-ZA,exists_eq_left',ne_eq,zR,yJ,sH])
   | true=>
    cases hf2:fv y with
    | true=>
     simp only [simprocAttr,-ZA,↓zU,↓zD,zV,zT,zW,hd,hwu,xG,hg,xI,rJ,hSl,hBl,hxl',hyl',gSx,gSy,gBx,gBy,gSk,gBk,eI,hf,hf2]
     (repeat refine sd ?_)
     refine .go (xY.yH (hc' (by rw [hf,hf2]; rfl)) (by simp [D.xR,D.xD])) ?_;simp only [simprocAttr,-ZA,↓zU,↓zD,zV,zT,zW,hd,hwu,xG,hg,xI,rJ,hSl,hBl,hxl',hyl',gSx,gSy,gBx,gBy,gSk,gBk,eI,hf,hf2,lA,uc,hSs,hBs]
     (repeat refine sd ?_)
     refine⟨k+1,by omega,?_,by omega⟩
     (refine xT.tP [] [2,1,0] (by simp) (by simp) (by decide) ?_; simp only [yQ,zQ,simprocAttr,-ZA,exists_eq_left',ne_eq,zR,yJ,sH])
    | false=>
     simp only [simprocAttr,-ZA,↓zU,↓zD,zV,zT,zW,hd,hwu,xG,hg,xI,rJ,hSl,hBl,hxl',hyl',gSx,gSy,gBx,gBy,gSk,gBk,eI,hf,hf2]
     (repeat refine sd ?_)
     obtain⟨q1,q2⟩:=hno (by rw [hf,hf2]; rfl);rw [hSk q1,hBk q2];refine⟨k+1,by omega,?_,by omega⟩
     (refine xT.tP [] [2,1,0] (by simp) (by simp) (by decide) ?_; simp only [yQ,zQ,simprocAttr,-ZA,exists_eq_left',ne_eq,zR,yJ,sH])
  ·have h58:5<=op/\op<=8:=by unfold mw at hb; rw [decide_eq_false h13,Ax,Au] at hb; exact⟨of_decide_eq_true hb.1,of_decide_eq_true hb.2⟩
   have h5:=h58.1;have h8:=h58.2
   cases hf:fv x with
   | false=>
    simp only [simprocAttr,-ZA,↓zU,↓zD,zV,zT,zW,hd,hwu,xG,hg,xI,rJ,hSl,hBl,hxl',hyl',gSx,gSy,gBx,gBy,gSk,gBk,eI,h4,h5,h8,hf]
    (repeat refine sd ?_)
    obtain⟨q1,q2⟩:=hno (by rw [hf]; rfl);rw [hSk q1,hBk q2];refine⟨k+1,by omega,?_,by omega⟩
    (refine xT.tP [] [2,1,0] (by simp) (by simp) (by decide) ?_; simp only [yQ,zQ,simprocAttr,-ZA,exists_eq_left',ne_eq,zR,yJ,sH])
   | true=>
    cases hf2:fv y with
    | true=>
     simp only [simprocAttr,-ZA,↓zU,↓zD,zV,zT,zW,hd,hwu,xG,hg,xI,rJ,hSl,hBl,hxl',hyl',gSx,gSy,gBx,gBy,gSk,gBk,eI,h4,h5,h8,hf,hf2]
     (repeat refine sd ?_)
     refine .go (xY.yH (hc' (by rw [hf,hf2]; rfl)) (by simp [D.xR,D.xD])) ?_;simp only [simprocAttr,-ZA,↓zU,↓zD,zV,zT,zW,hd,hwu,xG,hg,xI,rJ,hSl,hBl,hxl',hyl',gSx,gSy,gBx,gBy,gSk,gBk,eI,h4,h5,h8,hf,hf2,lA,uc,hSs,hBs]
     (repeat refine sd ?_)
     refine⟨k+1,by omega,?_,by omega⟩
     (refine xT.tP [] [2,1,0] (by simp) (by simp) (by decide) ?_; simp only [yQ,zQ,simprocAttr,-ZA,exists_eq_left',ne_eq,zR,yJ,sH])
    | false=>
     simp only [simprocAttr,-ZA,↓zU,↓zD,zV,zT,zW,hd,hwu,xG,hg,xI,rJ,hSl,hBl,hxl',hyl',gSx,gSy,gBx,gBy,gSk,gBk,eI,h4,h5,h8,hf,hf2]
     (repeat refine sd ?_)
     obtain⟨q1,q2⟩:=hno (by rw [hf,hf2]; rfl);rw [hSk q1,hBk q2];refine⟨k+1,by omega,?_,by omega⟩
     (refine xT.tP [] [2,1,0] (by simp) (by simp) (by decide) ?_; simp only [yQ,zQ,simprocAttr,-ZA,exists_eq_left',ne_eq,zR,yJ,sH])
open Rs Fm Ru Te
theorem Ul {m:tZ} {W:Nat} (ok:lW m W) {f:List Nd} (hc:yT f=0) (hfr:(tY .andNot .i64 (wT f:Int) 15 != 0)= false) (hft:tU f m.R.length m.V.length=true):yU prog 176 [m.d,.sl 6 (zB f)] (.int .i64 0):=by
 have h1:=cP ok;have h2:=jR f;have h3:=ao f;have h4:=Zt f m.R.length m.V.length;rw [hc] at h2;rw [hft] at h4;unfold tZ.d at h1 ⊢;refine xY.xN mixed func176 Iu (by simp) λhf=>?_;simp only [simprocAttr,-ZA,↓zU,↓zD,zV,zT,zW]
 (repeat refine sd ?_)
 refine .go (cr h1) ?_;simp only [simprocAttr,-ZA,↓zU,↓zD,zV,zT,zW];refine .go (cr h2) ?_;simp only [simprocAttr,-ZA,↓zU,↓zD,zV,zT,zW];refine .go (cr h3) ?_;simp only [simprocAttr,-ZA,↓zU,↓zD,zV,zT,zW,hfr,zE,xI]
 (repeat refine sd ?_)
 refine .go (cr h4) ?_;simp only [simprocAttr,-ZA,↓zU,↓zD,zV,zT,zW];exact .dv
namespace Te
def rN (A F:Nat):Tr->Bool
 | .nil=>true
 | .nd op i e g x y=>pG A F ⟨op,i,e,g,0,0⟩&& (rN A F x&&rN A F y)
def aE (rs:List xC) (A F T:Nat) (t:Tr):BitVec 64:=if rN A F t=true then rW T (rs.length*T) (Pb rs A T t) else 0#64
def PY (rs:List xC) (A F T:Nat) (t:Tr):nI:=if rN A F t=true then Pb rs A T t else λ_=>false
theorem RV (rs:List xC) (A F T:Nat) (hW:rs.length*T<=64) (t:Tr):aE rs A F T t=rW T (rs.length*T) (PY rs A F T t):=by
 unfold aE PY
 split
 ·rfl
 ·refine fA λi _=>?_;rw [yE hW,A4,A7]
theorem k8 {A F:Nat} {op i e g:Int} (h:pG A F ⟨op,i,e,g,0,0⟩= true):1<=op/\op<=13:=by
 unfold pG at h;simp only at h
 refine⟨Decidable.byContradiction λhh=>?_,Decidable.byContradiction λhh=>?_⟩
 ·rw [if_pos (by omega)] at h; cases h
 ·rw [if_neg (by omega),if_neg (by omega),if_neg (by omega),if_neg (by omega),if_neg (by omega)] at h; cases h
theorem XJ {op:Int} (h1:1<=op) (h2:op<=13):(xW op).1.y=mw op/\(xW op).1.x=decide (4<=op):=by
 have:op=1\/op=2\/op=3\/op=4\/op=5\/op=6\/op=7\/op=8\/op=9\/op=10\/op=11\/op=12\/op=13:=by omega
 rcases this with rfl | rfl | rfl | rfl | rfl | rfl | rfl | rfl | rfl | rfl | rfl | rfl | rfl <;> exact⟨rfl,rfl⟩
end Te
theorem XM {rs:List xC} {A F T:Nat} (ok:jH rs A F T) (hW:rs.length*T<=64) {f:List Nd} (hc:yT f=0) (hfr:(tY .andNot .i64 (wT f:Int) 15 != 0)= false) (hft:tU f A F=true) :
  yU prog 54 [(qF rs (wD rs T) A F).d,.sl 6 (zB f)] (.wK [.int .u64 (ui (aE rs A F T (iD f))),.int .i64 0]):=by
 have hl:(wD rs T).length=rs.length*T:=rV T _;have h1:1<=rs.length*T:=Bl ok.hR.1 ok.hT.1;have hm:=vp (F:=F) ok (l:=wD rs T) (by omega) (by omega);rw [hl] at hm;have hRl:(qF rs (wD rs T) A F).R.length=A:=by show (uY rs (wD rs T) A).length=A; simp [uY]
 have hVl:(qF rs (wD rs T) A F).V.length=F:=by show (qE rs (wD rs T) F).length=F; simp [qE]
 obtain⟨c1,c2,c3⟩:=vB hc;have hn:0<f.length:=Al.2 c1;have hreq:=Ul hm hc hfr (by rw [hRl,hVl]; exact hft);have hS:=LY (sv:=λk=>aE rs A F T (tree f k)) (fv:=λk=>rN A F (tree f k)) hc hreq (λk hk hok x y hx hy=>?_) λk hk hno=>?_
 rotate_left
 ·have hnd:=c3 k hk;have ht:=rA c3 hk;unfold okF at hok;dsimp only at hok;generalize f.getD k wA=n at hnd ht hok hx hy ⊢;rw [RV rs A F T hW] at hx hy
  have hcom:n.op=13->n.g<(2 ^ (qF rs (wD rs T) A F).R.length:Nat)->pZ (wF (qF rs (wD rs T) A F) n.g.toNat false) (sL (rs.length*T)) x y (rs.length*T+1)= pZ (wF (qF rs (wD rs T) A F) n.g.toNat false) (sL (rs.length*T)) x y (rs.length*T):=λh13 hg=>by
   have hu:(xW n.op).1.x=true/\(xW n.op).1.y=true/\(xW n.op).1.gr=true:=by rw [h13]; exact⟨rfl,rfl,rfl⟩
   have h1:=(vN.1 hnd).2.2.2.2;simp only [Az,hu.2.2,xH,As,decide_eq_false_iff_not] at h1;rw [hRl] at hg;rw [hx hu.1,hy hu.2.1];exact Nj ok hW (by omega) _ _
  have hv:=PB hm hnd (x:=x) (y:=y) hcom;have hs:=Rt ok hW (F:=F) hnd hx hy
  have key:(tE (qF rs (wD rs T) A F) (rs.length*T) n x y)= (aE rs A F T (tree f k),rN A F (tree f k)):=by
   rw [hs,ht];unfold aE;show _=(if (pG A F ⟨n.op,n.i,n.e,n.g,0,0⟩&& (rN A F (if (xW n.op).1.x=true then tree f n.x.toNat else .nil)&& rN A F (if (xW n.op).1.y=true then tree f n.y.toNat else .nil)))= true then _ else _,pG A F ⟨n.op,n.i,n.e,n.g,0,0⟩&& (rN A F (if (xW n.op).1.x=true then tree f n.x.toNat else .nil)&& rN A F (if (xW n.op).1.y=true then tree f n.y.toNat else .nil)));have hst:pG A F ⟨n.op,n.i,n.e,n.g,0,0⟩= pG A F n:=rfl;rw [hst]
   cases hst2:pG A F n with
   | false=>rfl
   | true=>
    obtain⟨o1,o2⟩:=k8 (hst.trans hst2);obtain⟨uy,ux⟩:=XJ o1 o2;rw [<- uy] at hok
    have fx:(xW n.op).1.x=true->rN A F (tree f n.x.toNat)= true:=λh=>by rw [ux,decide_eq_true_iff] at h;rw [if_pos h,Au] at hok;exact hok.1
    have fy:(xW n.op).1.y=true->rN A F (tree f n.y.toNat)= true:=λh=>by rw [if_pos h,Au] at hok;exact hok.2
    have fx':rN A F (if (xW n.op).1.x=true then tree f n.x.toNat else .nil)= true:=by
     split
     ·rename_i h; exact fx h
     ·rfl
    have fy':rN A F (if (xW n.op).1.y=true then tree f n.y.toNat else .nil)= true:=by
     split
     ·rename_i h; exact fy h
     ·rfl
    rw [fx',fy',if_pos rfl,if_pos (show (true&&(true&&true))= true from rfl)];refine Prod.ext ?_ rfl;refine congrArg (rW T (rs.length*T)) ?_;show _=rG rs A T ⟨n.op,n.i,n.e,n.g,0,0⟩ _ _
    refine UT rfl rfl rfl (λh=>?_) λh=>?_
    ·rw [if_pos h,PY,if_pos (fx h)]
    ·rw [if_pos h,PY,if_pos (fy h)]
  rw [key] at hv;exact hv
 ·have ht:=rA c3 hk;unfold okF at hno;dsimp only at hno;generalize f.getD k wA=n at ht hno
  have hf:rN A F (tree f k)= false:=by
   rw [ht];show (pG A F ⟨n.op,n.i,n.e,n.g,0,0⟩&& (rN A F (if (xW n.op).1.x=true then tree f n.x.toNat else .nil)&& rN A F (if (xW n.op).1.y=true then tree f n.y.toNat else .nil)))= false
   cases hst:pG A F ⟨n.op,n.i,n.e,n.g,0,0⟩ with
   | false=>rfl
   | true=>
    obtain⟨o1,o2⟩:=k8 hst;obtain⟨uy,ux⟩:=XJ o1 o2;rw [<- uy] at hno;rw [As]
    by_cases h4:4<=n.op
    ·rw [if_pos h4] at hno;rw [if_pos (by rw [ux,decide_eq_true h4])]
     cases hy:(xW n.op).1.y with
     | true=>rw [hy,if_pos rfl] at hno; rw [if_pos rfl]; exact hno
     | false=>rw [hy,if_neg (by decide),A0] at hno; rw [hno]; rfl
    ·rw [if_neg h4] at hno
     cases hy:(xW n.op).1.y with
     | true=>rw [hy,if_pos rfl,As] at hno; rw [if_pos rfl,hno,A4]
     | false=>rw [hy] at hno; cases hno
  exact⟨by unfold aE; rw [hf,if_neg (by decide)],hf⟩
 have hlast:((List.range f.length).map λk=>aE rs A F T (tree f k)).getD (f.length-1) 0=aE rs A F T (iD f):=by
  have:f.length-1<f.length:=by omega
  simp [List.getD,this,iD]
 have hlen:((List.range f.length).map λk=>aE rs A F T (tree f k)).length=f.length:=by simp
 generalize ((List.range f.length).map λk=>aE rs A F T (tree f k))= l at hS hlast hlen;have hg:=vX l (show f.length-1<l.length by omega);rw [hlast] at hg;have hw:IntKind.i64.wrap ((l.length:Int)-1)= ((f.length-1:Nat):Int):=by rw [hlen,wrap_i64 (by omega)]; omega
 have hlt:((f.length-1:Nat):Int)<(l.length:Int):=by omega
 unfold tZ.d at hS ⊢;refine xY.xN mixed func54 FT (by simp) λhf=>?_;simp only [simprocAttr,-ZA,↓zU,↓zD,zV,zT,zW]
 (repeat refine sd ?_)
 refine .go (cr hS) ?_;simp only [simprocAttr,-ZA,↓zU,↓zD,zV,zT,zW,xI,hw,hg,hlt]
 (repeat refine sd ?_)
 exact .drop (by simp) (by simp [vw,vI])
open Rs Fm Ru Te
namespace Te
def PU (rs:List xC) (t:Nat):List xC:=rs.map λr=>⟨[r.loc.getD t []],[r.nW.getD t 0]⟩
section
variable {rs : List xC} {A F T t : Nat}
theorem OY {i:Nat} (hi:i<rs.length):(PU rs t).getD i uX=⟨[(rs.getD i uX).loc.getD t []],[(rs.getD i uX).nW.getD t 0]⟩:=by simp [PU,List.getD,hi]
theorem Oa {a i:Nat} (hi:i<rs.length):yV (PU rs t) a (i,0)= yV rs a (i,t):=by unfold yV;simp only [OY hi];rfl
theorem jP {R i:Nat} (hi:i<R):(zM R t).getD i (0,0)= (i,t):=by simp [zM,List.getD,hi]
theorem lQ (a:Nat) (x:Int):∀ k,k<=rs.length->Ru.lF (PU rs t) (zM rs.length 0) a x k=Ru.lF rs (zM rs.length t) a x k
 | 0,_=>rfl
 | k+1,h=>by unfold Ru.lF;rw [lQ a x k (by omega),jP (by omega),jP (by omega),Oa (by omega)]
end
end Te
open Rs Fm Ru Te Kb
namespace Kb
def tA (sts:List (List (BitVec 64))) (i:Nat):List (BitVec 64):=sts.getD i []
def kM (xK:List (BitVec 64)) (sts:List (List (BitVec 64))) (t a w:Nat):Nat:=(List.range sts.length).findIdx λv=>decide (rM xK (tA sts v) a t=rM xK (tA sts w) a t)
def vV (xK:List (BitVec 64)) (sts:List (List (BitVec 64))) (t:Nat):List xC:=(List.range sts.length).map λw=>⟨[(List.range xK.length).map λa=>((kM xK sts t a w:Nat):Int)],[(tA sts w).getD t 0]⟩
section
variable {xK : List (BitVec 64)} {sts : List (List (BitVec 64))} {t : Nat}
theorem eV : (vV xK sts t).length=sts.length:=by simp [vV]
theorem xi {i:Nat} (hi:i<sts.length):(vV xK sts t).getD i uX=⟨[(List.range xK.length).map λa=>((kM xK sts t a i:Nat):Int)],[(tA sts i).getD t 0]⟩:=by simp [vV,List.getD,hi]
theorem mf {n:Nat} {q:Nat->Bool} (h:∃ i,i<n/\q i=true):(List.range n).findIdx q<n/\q ((List.range n).findIdx q)= true:=by obtain⟨i,hi,hq⟩:=h;have h1:(List.range n).findIdx q<(List.range n).length:=List.findIdx_lt_length.2 ⟨i,ε.2 hi,hq⟩;refine⟨by simpa using h1,?_⟩;have:=List.findIdx_getElem (p:=q) (w:=h1);simpa using this
theorem iu {a w:Nat} (hw:w<sts.length):kM xK sts t a w<sts.length/\rM xK (tA sts (kM xK sts t a w)) a t=rM xK (tA sts w) a t:=by have:=mf (n:=sts.length) (q:=λv=>decide (rM xK (tA sts v) a t=rM xK (tA sts w) a t)) ⟨w,hw,by simp⟩;refine⟨this.1,?_⟩;have h2:=this.2;simp only [decide_eq_true_eq] at h2;exact h2
theorem QO {a v w:Nat} (hv:v<sts.length) (hw:w<sts.length):kM xK sts t a v=kM xK sts t a w ↔ rM xK (tA sts v) a t=rM xK (tA sts w) a t:=by
 constructor
 ·intro h;rw [<- (iu (xK:=xK) (t:=t) (a:=a) hv).2,<- (iu (xK:=xK) (t:=t) (a:=a) hw).2,h]
 ·intro h;unfold kM;rw [h]
theorem sr {a v w:Nat} (ha:a<xK.length) (hv:v<sts.length) (hw:w<sts.length):yV (vV xK sts t) a (v,0)= yV (vV xK sts t) a (w,0) ↔ rM xK (tA sts v) a t=rM xK (tA sts w) a t:=by unfold yV;simp only [xi hv,xi hw];rw [<- QO hv hw];simp [List.getD,ha];omega
theorem Rk {w:Nat} (hw:w<sts.length):cA (vV xK sts t) (w,0)= (tA sts w).getD t 0:=by unfold cA;simp only [xi hw];rfl
theorem Rl : wD (vV xK sts t) 1=zM sts.length 0:=by unfold wD rO zM;rw [eV,Nat.mul_one];refine ω λi _=>?_;rw [Nat.div_one,Nat.mod_one]
theorem P4 {F:Nat} (hA:xK.length<=4) (hF:F<=8) (hR:1<=sts.length/\sts.length<=64) (hv:∀ w,w<sts.length->(tA sts w).getD t 0 >>> F=0#64):jH (vV xK sts t) xK.length F 1 where
 hA:=hA
 hF:=hF
 hT:=⟨by omega,by omega⟩
 hR:=by rw [eV]; exact hR
 hP:=by rw [eV]; omega
 loc:=λr hr=>by simp only [vV,μ] at hr;obtain⟨i,_,rfl⟩:=hr;rfl
 nW:=λr hr=>by simp only [vV,μ] at hr;obtain⟨i,_,rfl⟩:=hr;rfl
 row:=λr hr l hl=>by simp only [vV,μ] at hr;obtain⟨i,_,rfl⟩:=hr;simp only [Ad] at hl;subst hl;simp
 val:=λr hr x hx=>by simp only [vV,μ,ε] at hr;obtain⟨i,hi,rfl⟩:=hr;simp only [Ad] at hx;subst hx;exact hv i hi
end
def Wc (xK:List (BitVec 64)) (sts:List (List (BitVec 64))) (t F:Nat):D:=ez (vV xK sts t) (zM sts.length 0) xK.length F
end Kb
theorem O5 {xK:List (BitVec 64)} {sts:List (List (BitVec 64))} {t a v w:Nat} (ha:a<xK.length) (hv:v<sts.length) (hw:w<sts.length) :
  decide ((rM xK (tA sts w) a t).map ui=(rM xK (tA sts v) a t).map ui)= decide (yV (vV xK sts t) a (v,0)= yV (vV xK sts t) a (w,0)):=by
 have h1:=sr (xK:=xK) (sts:=sts) (t:=t) ha hv hw
 have h2:(rM xK (tA sts w) a t).map ui=(rM xK (tA sts v) a t).map ui ↔ rM xK (tA sts v) a t=rM xK (tA sts w) a t:=⟨λh=>((List.map_inj_right λx y=>Sq.1).1 h).symm,λh=>by rw [h]⟩
 rw [Aw,decide_eq_true_eq,decide_eq_true_eq,h2,h1]
end Go.Pd

/- Part XA. -/
namespace Go.Pd
open Go
section
variable [uM]
def TV (pre:List yX) (o1:Option Nat) (dx:D) (mid1:List yX) (o2:Option Nat) (dy:D) (mid2:List yX):List yX:=pre++⟨o1,none,.mv (.c dx)⟩ :: (mid1++⟨o2,none,.mv (.c dy)⟩ :: mid2)
def Wa (C:Cx) (pre:List yX) (m1:yX) (mid1:List yX) (m2:yX) (mid2 post:List yX) (free:List Nat) (f:Fr) (σ:St) (K:Fr->St->Prop):Prop:=
 wL C σ pre f λf1=>sR C σ (rB f1) m1.k λdx σ1=>wL C σ1 mid1 (f1.put m1.dst dx) λf2=>sR C σ1 (rB f2) m2.k λdy σ2=>wL C σ2 mid2 (f2.put m2.dst dy) λf3=>
  wL C σ (TV pre m1.dst dx mid1 m2.dst dy mid2) f (λg=>g=f3)/\ wL C σ1 (TV pre m1.dst dx mid1 m2.dst dy mid2) f (λg=>g=f3)/\ wL C σ2 (TV pre m1.dst dx mid1 m2.dst dy mid2) f (λg=>g=f3)/\
  sR C σ (rB f) m2.k λdA σA=>wL C σA pre f λg1=>sR C σA (rB g1) m1.k λdz σB=>wL C σB (mid1++⟨m2.dst,none,.mv (.c dA)⟩ :: mid2) (g1.put m1.dst dz) λg3=>
   wL C σA (TV pre m1.dst dz mid1 m2.dst dA mid2) f (λg=>g=g3)/\ wL C σB (TV pre m1.dst dz mid1 m2.dst dA mid2) f (λg=>g=g3)/\
   tS C post f3 σ2 λf4 σ4=>tS C post g3 σB λg4 σ5=>(∀ t ∈ free,f4.get t=g4.get t)/\ xT C g4 σ5 f4 σ4/\K f4 σ4
theorem qk : ∀ {ds ds':List yX} {t:List (D × St)} {f:Fr},ds.map (·.dst)= ds'.map (·.dst)->vW ds t f=vW ds' t f
 | [],[],_,_,_=>rfl
 | [],_ :: _,_,_,h=>by simp at h
 | _ :: _,[],_,_,h=>by simp at h
 | o :: ds,o' :: ds',[],f,_=>rfl
 | o :: ds,o' :: ds',p :: t,f,h=>by simp only [Ac,List.cons.injEq] at h;simp only [vW];rw [h.1];exact qk h.2
theorem ou {l l':List yX} (h:l.map (·.dst)= l'.map (·.dst)):vF l=vF l':=by
 unfold vF;rw [h];have e:∀ l:List yX,(l.all λo=>o.dst.isSome)= (l.map (·.dst)).all (·.isSome):=λl=>by rw [List.all_map]; rfl
 rw [e l,e l',h]
theorem fK {C:Cx} {hd qs:List yX} {f:Fr} {t:List (D × St)} {st:St} (hdst:qs.map (·.dst)= hd.map (·.dst)) (hok:vF hd=true) (hl:t.length=hd.length) (h:wL C st qs f λg=>g=vW hd t f) {i:Nat} {dop:yX} (hi:qs[i]?=some dop) :
  yF dop (vW (hd.take i) (t.take i) f) (sR C st (rB (vW (hd.take i) (t.take i) f)) dop.k λx y=>x=vR t i/\y=st) (.tF=vR t i):=by
 obtain⟨t',q1,q2,q3,q4⟩:=zP _ _ h;have hlen:qs.length=hd.length:=by have:=congrArg List.length hdst; simpa using this
 have hv:=oV ((ou hdst).trans hok) q3 (by omega:t.length=qs.length) (q2.trans (qk hdst.symm));have:=uV q1 q3 hv q4 hi
 rwa [qk (ds:=qs.take i) (ds':=hd.take i) (by rw [List.map_take,List.map_take,hdst])] at this
theorem yz : ∀ {l:List yX},(l.filterMap (·.dst)).Nodup->∀ {i j t:Nat},vQ l i=some t->vQ l j=some t->i=j
 | [],_,i,j,t,h,_=>by simp [vQ] at h
 | o :: l,hn,i,j,t,hi,hj=>by
  have hm:∀ k,vQ l k=some t->t ∈ l.filterMap (·.dst):=λk hk=>by unfold vQ at hk;obtain⟨d,h1,h2⟩:=Bo.1 hk;exact An.2 ⟨d,List.mem_of_getElem? h1,h2⟩
  have hn2:(l.filterMap (·.dst)).Nodup/\∀ d,o.dst=some d->d ∉ l.filterMap (·.dst):=by
   rw [Am] at hn
   cases e:o.dst with
   | none=>rw [e] at hn; exact⟨hn,λd h=>by cases h⟩
   | some d=>rw [e] at hn; exact⟨(List.nodup_cons.1 hn).2,λd' h=>by cases h; exact(List.nodup_cons.1 hn).1⟩
  match i,j with
  | 0,0=>rfl
  | 0,j+1=>exact absurd (hm j hj) (hn2.2 t hi)
  | i+1,0=>exact absurd (hm i hi) (hn2.2 t hj)
  | i+1,j+1=>exact congrArg (·+1) (yz (l:=l) hn2.1 hi hj)
theorem Ve {ds:List yX} {tr:List (D × St)} {f:Fr} (hl:tr.length=ds.length) (hn:(ds.filterMap (·.dst)).Nodup) {j t:Nat} (hj:j<ds.length) (hd:vQ ds j=some t):(vW ds tr f).get t=vR tr j:=by have:=iW (f:=f) hl ds.length (Be _) t;rw [Af,<- hl,Af,hl] at this;rw [this];exact iV rfl hd ds.length hj λk h1 h2 h3=>by have:=yz hn hd h3; omega
theorem Vg {ds ds':List yX} {tr tr':List (D × St)} {f:Fr} {T T':Nat->Bool} {t:Nat} (hd:∀ j,vQ ds' j=vQ ds j):∀ (n:Nat),(∀ j,j<n->vQ ds j=some t->T' j=T j/\(T j=true->vR tr' j=vR tr j))->LV ds' tr' f T' n t=LV ds tr f T n t
 | 0,_=>rfl
 | n+1,h=>by
  simp only [LV,hd];rw [Vg hd n λj hj=>h j (by omega)]
  by_cases e:vQ ds n=some t
  ·obtain⟨h1,h2⟩:=h n (by omega) e;rw [h1]
   split
   ·rename_i hc; rw [h2 hc.1]
   ·rfl
  ·rw [if_neg (λh=>e h.2),if_neg (λh=>e h.2)]
theorem QZ {P:Program} {N:Nat} {own:List Nat} {code:Code} {pre:List yX} {m1:yX} {mid1:List yX} {m2:yX} {mid2 post:List yX} {free:List Nat} (h:tT P N own code=some (.dC pre m1 mid1 m2 mid2 post free)) :
  ∃ id ops l,code = .region id ops true/\vG (jE P N own ops) ops.toList=some l/\own.contains 77777=false/\post=l.drop (tV own l)/\ Kh own ops.toList l (tV own l) pre m1 mid1 m2 mid2 free:=by
 cases code with
 | region id ops draw=>
  simp only [tT] at h
  split at h
  ·rename_i d hd;cases h
   rcases iQ hd with ⟨_,h2 | h2 | h2⟩ | ⟨_,h2,_⟩
   ·obtain⟨_,_,_,_,_,_,_,_,_,_,_,_,_,_,_,e⟩:=rR h2; cases e
   ·obtain⟨_,_,_,_,_,_,_,_,_,_,_,_,_,_,e⟩:=jN h2; cases e
   ·obtain⟨_,_,_,_,_,_,_,_,_,_,_,e⟩:=jM h2; cases e
   ·obtain⟨_,_,_,_,_,_,_,_,_,_,_,_,_,_,_,e⟩:=rR h2; cases e
  ·simp only [Br,Bo] at h;obtain⟨l,hl,h⟩:=h
   split at h
   ·rename_i hdr
    split at h
    ·split at h
     ·rename_i d hv;cases h;obtain⟨_,_,_,_,_,_,e,_⟩:=iS hv;cases e
     ·rcases lK h with ⟨e,_⟩ | ⟨_,_,_,_,_,e,_⟩ | ⟨_,_,_,_,_,_,_,_,_,_,_,e,_⟩ <;> cases e
    ·split at h
     ·rename_i hq;obtain⟨_,_,_,_,_,_,_,e,hp,hR⟩:=iR h;cases e;subst hdr;exact⟨id,ops,l,rfl,hl,hq,hp,hR⟩
     ·cases h
   ·simp at h
 | rangeFunc g0 ps0 a c=> simp [tT,Bo] at h
 | seq a b=> simp only [tT,zO] at h;obtain⟨dx,hx,dy,hy,h⟩:=h;rcases vZ dx dy with e | ⟨_,_,_,_,_,_,_,_,_,_,_,_,e,_⟩ <;> rw [e] at h <;> cases h
 | _=>simp [tT,Bo] at h
theorem Yg {k:DK} (h:vm k=true):k.YC = []/\k.wN=false:=by cases k <;> simp_all [vm,DK.YC,DK.wN]
theorem de {A B:List yX} {b c:yX} {i:Nat} (h:i≠A.length):(A++b :: B)[i]?=(A++c :: B)[i]?:=by
 rcases Bc i A.length with h1 | h1
 ·rw [δ h1,δ h1]
 ·obtain⟨k,rfl⟩:∃ k,i=A.length+(k+1):=⟨i-A.length-1,by omega⟩;rw [ζ (by omega),ζ (by omega),show A.length+(k+1)-A.length=k+1 by omega,θ,θ]
theorem Zz {α:Type} {A B:List α} {b:α}:(A++b :: B)[A.length]?=some b:=by rw [ζ (Be _),Nat.sub_self]; rfl
theorem Wi {a b x:yX} (hd:a.dst=b.dst) (hn:a.names=b.names):kR a x=kR b x:=by unfold kR; rw [hd,hn]
theorem YT {a b x:yX} (hd:a.dst=b.dst) (hn:a.names=b.names):kR x a=kR x b:=by unfold kR; rw [hd,hn]
theorem Ry {C:Cx} (hm:C.P.follows .mixedOrders=true) {pre:List yX} {m1:yX} {mid1:List yX} {m2:yX} {mid2 post:List yX} {free:List Nat} {f:Fr} {σ:St} {Q:Exit->Fr->St->Prop}
  (h:Wa C pre m1 mid1 m2 mid2 post free f σ (Q .normal)):wpS C (.dC pre m1 mid1 m2 mid2 post free) f σ Q:=by
 intro code hc E a w G;obtain⟨id,ops,l,rfl,hd,hq,hpost,R⟩:=QZ hc;have hg1:=qI R.n2;have hg2:=qI R.n4;obtain⟨hal,hal2⟩:=Yg R.alloc;unfold Wa at h;obtain⟨t1,a1,h,a3,a4⟩:=zP _ _ h;obtain⟨dx,σ1,hx,h⟩:=nB hq h;obtain⟨t2,b1,h,b3,b4⟩:=zP _ _ h;obtain⟨dy,σ2,hy,h⟩:=nB hq h;obtain⟨t3,c1,h,c3,c4⟩:=zP _ _ h;obtain⟨q0,q1,q2,h⟩:=h;obtain⟨dA,σA,hA,h⟩:=nB hq h;obtain⟨u1,d1,h,d3,d4⟩:=zP _ _ h;obtain⟨dz,σB,hz,h⟩:=nB hq h;obtain⟨u2,e1,h,e3,e4⟩:=zP _ _ h;obtain⟨qA,qB,h⟩:=h;obtain⟨t4,f1,h,f3⟩:=qU hq _ _ _ h;obtain⟨u4,g1,h,g3⟩:=qU hq _ _ _ h;obtain⟨hfree,hweak,hQ⟩:=h;have s0:vL t1 σ=σ:=wX a4;have s1:vL t2 σ1=σ1:=wX b4;have s2:vL t3 σ2=σ2:=wX c4;have sA:vL u1 σA=σA:=wX d4;have sB:vL u2 σB=σB:=wX e4
 have hls:l=pre++m1 :: (mid1++m2 :: (mid2++post)):=by
  conv=>lhs; rw [<- Ak (tV C.own l) l,R.eq,<- hpost]
  simp
 have hsl:tV C.own l<=l.length:=by
  have:∀ ks:List yX,tV C.own ks<=ks.length:=by
   intro ks
   induction ks with
   | nil=>simp [tV]
   | cons k ks ih=>simp only [tV]; split <;> simp <;> omega
  exact this l
 have hs:tV C.own l=pre.length+1+mid1.length+1+mid2.length:=by have:=congrArg List.length R.eq;rw [Ap,Nat.min_eq_left hsl] at this;simp at this; omega
 generalize tV C.own l=s at *;obtain⟨x,hx0⟩:∃ x,x=pre.length:=⟨_,rfl⟩;obtain⟨y,hy0⟩:∃ y,y=pre.length+1+mid1.length:=⟨_,rfl⟩;have T3:Trace C (mid2++post) _ σ2 (t3++t4)/\ _/\_:=Trace.append c1 c3 (by rw [s2]; exact f1);have T2:Trace C (m2 :: (mid2++post)) (vW mid1 t2 ((vW pre t1 f).put m1.dst dx)) (vL t2 σ1) ((dy,σ2) :: (t3++t4)):=.cons (by simp only [yF,hg2]; rw [s1]; exact hy) T3.1;have T1:=Trace.append b1 b3 T2;have T0:Trace C (m1 :: (mid1++m2 :: (mid2++post))) (vW pre t1 f) (vL t1 σ) ((dx,σ1) :: (t2++(dy,σ2) :: (t3++t4))):=.cons (by simp only [yF,hg1]; rw [s0]; exact hx) T1.1;obtain⟨k1,k2,k3⟩:=Trace.append a1 a3 T0
 have k2':vW l (t1++(dx,σ1) :: (t2++(dy,σ2) :: (t3++t4))) f=vW post t4 (vW mid2 t3 ((vW mid1 t2 ((vW pre t1 f).put m1.dst dx)).put m2.dst dy)):=by rw [hls,k2];show vW (mid1++m2 :: (mid2++post)) _ _=_;rw [T1.2.1];exact T3.2.1
 have k3':vL (t1++(dx,σ1) :: (t2++(dy,σ2) :: (t3++t4))) σ=vL t4 σ2:=by rw [k3,s0];show vL (t2++(dy,σ2) :: (t3++t4)) σ1=_;rw [T1.2.2,s1];show vL (t3++t4) σ2=_;rw [T3.2.2,s2]
 rw [<- hls] at k1;have U2:Trace C ((mid1++⟨m2.dst,none,.mv (.c dA)⟩ :: mid2)++ post) _ σB (u2++u4)/\ _/\_:=Trace.append e1 e3 (by rw [sB]; exact g1);have U0:Trace C (m1 :: ((mid1++⟨m2.dst,none,.mv (.c dA)⟩ :: mid2)++ post)) (vW pre u1 f) (vL u1 σA) ((dz,σB) :: (u2++u4)):=.cons (by simp only [yF,hg1]; rw [sA]; exact hz) U2.1;obtain⟨j1,j2,j3⟩:=Trace.append d1 d3 U0;obtain⟨l',hl'⟩:∃ l',l'=pre++m1 :: ((mid1++⟨m2.dst,none,.mv (.c dA)⟩ :: mid2)++ post):=⟨_,rfl⟩
 have j2':vW l' (u1++(dz,σB) :: (u2++u4)) f=vW post u4 (vW (mid1++⟨m2.dst,none,.mv (.c dA)⟩ :: mid2) u2 ((vW pre u1 f).put m1.dst dz)):=by rw [hl',j2];show vW ((mid1++⟨m2.dst,none,.mv (.c dA)⟩ :: mid2)++ post) _ _=_;exact U2.2.1
 have j3':vL (u1++(dz,σB) :: (u2++u4)) σA=vL u4 σB:=by rw [j3,sA];show vL (u2++u4) σB=_;rw [U2.2.2,sB]
 rw [<- hl'] at j1;rw [<- k2',<- j2'] at hfree;rw [<- k2',<- k3',<- j2',<- j3'] at hweak;rw [<- k2',<- k3'] at hQ
 have hlen:(t1++(dx,σ1) :: (t2++(dy,σ2) :: (t3++t4))).length=l.length:=by rw [hls]; simp only [Ae,Aa,a3,b3,c3,f3]
 have hlen':(u1++(dz,σB) :: (u2++u4)).length=l'.length:=by rw [hl']; simp only [Ae,Aa,d3,e3,g3]
 have hll:l'.length=l.length:=by rw [hl',hls]; simp only [Ae,Aa,List.append_assoc,Ah]
 have hx:x<s:=by omega
 have hy:y<s:=by omega
 have hxy:x<y:=by omega
 obtain⟨hd_,hhd⟩:∃ hd_,hd_=pre++m1 :: (mid1++m2 :: mid2):=⟨_,rfl⟩;obtain⟨tr,htr⟩:∃ tr,tr=t1++(dx,σ1) :: (t2++(dy,σ2) :: (t3++t4)):=⟨_,rfl⟩;obtain⟨th,hth⟩:∃ th,th=t1++(dx,σ1) :: (t2++(dy,σ2) :: t3):=⟨_,rfl⟩;obtain⟨tr',htr'⟩:∃ tr',tr'=u1++(dz,σB) :: (u2++u4):=⟨_,rfl⟩;obtain⟨th',hth'⟩:∃ th',th'=u1++(dz,σB) :: u2:=⟨_,rfl⟩;obtain⟨hd',hhd'⟩:∃ hd',hd'=pre++m1 :: (mid1++⟨m2.dst,none,.mv (.c dA)⟩ :: mid2):=⟨_,rfl⟩;rw [<- htr] at k1 hfree hweak hQ hlen;rw [<- htr'] at j1 hfree hweak hlen';have lhd:l=hd_++post:=by rw [hls,hhd]; simp
 have lhd':l'=hd'++post:=by rw [hl',hhd']; simp
 have tth:tr=th++t4:=by rw [htr,hth]; simp
 have tth':tr'=th'++u4:=by rw [htr',hth']; simp
 have nhd:hd_.length=s:=by rw [hhd]; simp; omega
 have nhd':hd'.length=s:=by rw [hhd']; simp; omega
 have nth:th.length=s:=by rw [hth]; simp [a3,b3,c3]; omega
 have nth':th'.length=s:=by rw [hth']; simp [d3,e3]; omega
 have hF3:vW hd_ th f=vW mid2 t3 ((vW mid1 t2 ((vW pre t1 f).put m1.dst dx)).put m2.dst dy):=by rw [hhd,hth,nO _ _ _ a3];show vW (mid1++m2 :: mid2) (t2++(dy,σ2) :: t3) _=_;rw [nO _ _ _ b3]; rfl
 have hG3:vW hd' th' f=vW (mid1++⟨m2.dst,none,.mv (.c dA)⟩ :: mid2) u2 ((vW pre u1 f).put m1.dst dz):=by rw [hhd',hth',nO _ _ _ d3]; rfl
 rw [<- hF3] at q0 q1 q2;rw [<- hG3] at qA qB;have dq:∀ dx dy,(TV pre m1.dst dx mid1 m2.dst dy mid2).map (·.dst)= hd_.map (·.dst):=λdx dy=>by rw [hhd]; simp [TV]
 have dq':∀ dx dy,(TV pre m1.dst dx mid1 m2.dst dy mid2).map (·.dst)= hd'.map (·.dst):=λdx dy=>by rw [hhd']; simp [TV]
 have dok:vF hd_=true:=by have:=R.I3; rw [R.eq,<- hhd] at this; exact this
 have dok':vF hd'=true:=(ou ((dq' dx dy).symm.trans (dq dx dy))).trans dok
 have qat:∀ dx dy i,i≠x->i≠y->(TV pre m1.dst dx mid1 m2.dst dy mid2)[i]?=hd_[i]?:=λdx dy i h1 h2=>by rw [hhd];show (pre++_ :: (mid1++_ :: mid2))[i]?=_;rw [de (c:=m1) (by omega),show pre++m1 :: (mid1++⟨m2.dst,none,DK.mv (.c dy)⟩ :: mid2)= (pre++m1 :: mid1)++ ⟨m2.dst,none,DK.mv (.c dy)⟩ :: mid2 by simp,de (c:=m2) (by simp; omega)];simp
 have hat:∀ i,i≠y->hd'[i]?=hd_[i]?:=λi h2=>by rw [hhd,hhd',show pre++m1 :: (mid1++⟨m2.dst,none,DK.mv (.c dA)⟩ :: mid2)= (pre++m1 :: mid1)++ ⟨m2.dst,none,DK.mv (.c dA)⟩ :: mid2 by simp,de (c:=m2) (by simp; omega)];simp
 have lat:∀ i,i≠y->l'[i]?=l[i]?:=λi h2=>by rw [hls,hl',show pre++m1 :: ((mid1++⟨m2.dst,none,DK.mv (.c dA)⟩ :: mid2)++ post)= (pre++m1 :: mid1)++ ⟨m2.dst,none,DK.mv (.c dA)⟩ :: (mid2++post) by simp,de (c:=m2) (by simp; omega)];simp
 have ly:l[y]?=some m2:=by have:=Zz (A:=pre++m1 :: mid1) (B:=mid2++post) (b:=m2);rw [hls,hy0];rw [show (pre++m1 :: mid1).length=pre.length+1+mid1.length by simp; omega] at this;rw [<- this]; simp
 have ly':l'[y]?=some ⟨m2.dst,none,.mv (.c dA)⟩:=by have:=Zz (A:=pre++m1 :: mid1) (B:=mid2++post) (b:=(⟨m2.dst,none,.mv (.c dA)⟩:yX));rw [hl',hy0];rw [show (pre++m1 :: mid1).length=pre.length+1+mid1.length by simp; omega] at this;rw [<- this]; simp
 have lx:l[x]?=some m1:=by rw [hls,hx0]; exact Zz
 have ldst:∀ j,vQ l' j=vQ l j:=λj=>by
  unfold vQ
  by_cases h:j=y
  ·subst h; rw [ly,ly']; rfl
  ·rw [lat j h]
 have tdy:vR tr' y=dA:=by have hjt:=j1.at y _ ly';obtain⟨d,σ',h1,h2⟩:=hjt;simp only [yF,sR,pW,rB] at h2;simp only [vR,h1,Bq,Bp];exact h2.1.symm
 have muh:∀ i,i<s->(qG C.own l i=true ↔ i=x\/i=y):=λi hi=>by
  have hli:l[i]?=hd_[i]?:=by rw [lhd,δ (by omega)]
  rcases Bd i x with h | h | h
  ·have:hd_[i]?=pre[i]?:=by rw [hhd,δ (by omega)]
   rw [uH (hli.trans (this.trans (η (by omega)))),R.n1 _ (π _)];simp; omega
  ·subst h; rw [uH lx,R.n2]; simp
  ·rcases Bd i y with g | g | g
   ·obtain⟨k,rfl⟩:∃ k,i=pre.length+(k+1):=⟨i-pre.length-1,by omega⟩
    have:hd_[pre.length+(k+1)]?=mid1[k]?:=by rw [hhd,ζ (by omega),show pre.length+(k+1)-pre.length=k+1 by omega,θ,δ (by omega)]
    rw [uH (hli.trans (this.trans (η (by omega)))),R.n3 _ (π _)];simp; omega
   ·subst g; rw [uH ly,R.n4]; simp
   ·obtain⟨k,rfl⟩:∃ k,i=pre.length+1+mid1.length+(k+1):=⟨i-(pre.length+1+mid1.length)-1,by omega⟩
    have:hd_[pre.length+1+mid1.length+(k+1)]?=mid2[k]?:=by rw [hhd,ζ (by omega),show pre.length+1+mid1.length+(k+1)-pre.length=(mid1.length+(k+1))+ 1 by omega,θ,ζ (by omega),show mid1.length+(k+1)-mid1.length=k+1 by omega,θ]
    rw [uH (hli.trans (this.trans (η (by omega)))),R.n5 _ (π _)];simp; omega
 have st0:∀ p,p<=x->vL (tr.take p) σ=σ:=λp hp=>by rw [htr,γ (by omega)];exact wX λx hx=>a4 x (ν hx)
 have st1:∀ p,x<p->p<=y->vL (tr.take p) σ=σ1:=λp h1 h2=>by obtain⟨k,rfl⟩:∃ k,p=t1.length+(k+1):=⟨p-t1.length-1,by omega⟩;rw [htr,κ,ξ,γ (by omega),oO];exact wX (t:=t2.take k) λx hx=>b4 x (ν hx)
 have st2:∀ p,y<p->p<=s->vL (tr.take p) σ=σ2:=λp h1 h2=>by obtain⟨k,rfl⟩:∃ k,p=t1.length+((t2.length+(k+1))+ 1):=⟨p-t1.length-1-t2.length-1,by omega⟩;rw [htr,κ,ξ,κ,ξ,γ (by omega),oO];show vL (t2++(dy,σ2) :: t3.take k) σ1=σ2;rw [oO];exact wX (t:=t3.take k) λx hx=>c4 x (ν hx)
 have stA:∀ p,p<=x->vL (tr'.take p) σA=σA:=λp hp=>by rw [htr',γ (by omega)];exact wX λx hx=>d4 x (ν hx)
 have stB:∀ p,x<p->p<=s->vL (tr'.take p) σA=σB:=λp h1 h2=>by
  have hu2:u2.length=mid1.length+1+mid2.length:=by rw [e3]; simp; omega
  obtain⟨k,rfl⟩:∃ k,p=u1.length+(k+1):=⟨p-u1.length-1,by omega⟩;rw [htr',κ,ξ,γ (by omega),oO];exact wX (t:=u2.take k) λx hx=>e4 x (ν hx)
 have sp:Zs ops l s (qG C.own l) (λi j=>i==pre.length&&j==pre.length+1+mid1.length):=wt R.ok;have bk:Zr ops:=wq R.ok;have hal3:m2.names=(⟨m2.dst,none,.mv (.c dA)⟩:yX).names:=by unfold yX.names; rw [hal,hg2]; rfl
 obtain⟨hdl,hdg⟩:=vM hd;have hdl2:l.length=ops.size:=by simpa using hdl
 have G':Good C E a { w with drawn:=w.drawn+1 } f σ:=by obtain⟨ι,G⟩:=G;have hk:Kept w w.drew λ_=>False:=(Kept.refl _ _).drew;have hS:=G.nL.ext hk;exact⟨ι,⟨G.size,G.defers.yD rfl (Be _) λD hD=>hD,G.nx,G.kept.drew,hS,G.sO,G.rH,G.stay,G.fr.yD (λb hb _=>rfl) (λ_ _ h=>h) hk.shape (λ_ _=>rfl) (Be _)⟩⟩
 have hf0:∀ j,(Array.replicate ops.size false).getD j false=false:=getD_replicate_false ops.size
 refine wpIn_region_any hm (qt (ds:=l) (tr:=tr) (s:=s) (mu:=qG C.own l) (f:=f) (σ:=σ) (xo:=λi j=>i==pre.length&&j==pre.length+1+mid1.length) (l0:=λ_=>false) hdl (λi o h=>by obtain⟨dop,h1,h2⟩:=hdg i o h; exact⟨dop,h1,λ_=>h2⟩) sp bk (λi j h=>by simp at h; omega) k1 hlen hsl (λm hms hmm=>?_) (λi hi him=>?_) (λi dop p his him hps hdop hns hor=>?_) (λa w G'=>⟨_,_,G',hQ⟩) (λfuel listed a w i j hfew I hi hxo hlj=>?_) _ _ _ _ ?_ ⟨by simp,(λ_ j _ h=>by rw [hf0] at h; cases h),(λ_ h=>by cases h),(λj o _ hT=>by rw [hf0] at hT; cases hT),f,λt=>?_,?_⟩)
 ·rcases(muh m hms).1 hmm with rfl | rfl
  ·rw [uE lx]; exact R.TH
  ·rw [uE ly]; exact hal2
 ·have hne:i≠x/\i≠y:=by
   refine⟨λh=>?_,λh=>?_⟩
   ·rw [(muh i hi).2 (.inl h)] at him; cases him
   ·rw [(muh i hi).2 (.inr h)] at him; cases him
  rcases Bc i x with h | h
  ·rw [st0 (i+1) (by omega),st0 i (by omega)]
  ·rcases Bc i y with g | g
   ·rw [st1 (i+1) (by omega) (by omega),st1 i (by omega) (by omega)]
   ·rw [st2 (i+1) (by omega) (by omega),st2 i (by omega) (by omega)]
 ·have hne:i≠x/\i≠y:=by
   refine⟨λh=>?_,λh=>?_⟩
   ·rw [(muh i his).2 (.inl h)] at him; cases him
   ·rw [(muh i his).2 (.inr h)] at him; cases him
  have z1:l.take i=hd_.take i:=by rw [lhd,γ (by omega)]
  have z2:tr.take i=th.take i:=by rw [tth,γ (by omega)]
  have z3:vR tr i=vR th i:=by unfold vR; rw [tth,δ (by omega)]
  have z4:hd_[i]?=some dop:=by rw [<- hdop,lhd,δ (by omega)]
  rw [z1,z2,z3]
  rcases Bc x p with h | h
  ·rcases Bc y p with g | g
   ·rw [st2 p g hps]; exact fK (dq dx dy) dok (by omega) q2 ((qat dx dy i hne.1 hne.2).trans z4)
   ·rw [st1 p h g]; exact fK (dq dx dy) dok (by omega) q1 ((qat dx dy i hne.1 hne.2).trans z4)
  ·rw [st0 p h]; exact fK (dq dx dy) dok (by omega) q0 ((qat dx dy i hne.1 hne.2).trans z4)
 ·-- THE OBJECT COMES FIRST
  simp only [Au,beq_iff_eq] at hxo;obtain⟨rfl,rfl⟩:j=x/\i=y:=by omega
  obtain⟨hun,o,ho,hall⟩:=mem_ready.1 hi;have hlt:i<ops.size:=(Array.getElem?_eq_some_iff.1 ho).1;have hTi:listed.getD i false=false:=getD_both hun;have hol:ops.toList[i]?=some o:=by simpa using ho
  obtain⟨dop,hdop,hmk⟩:=hdg i o hol;obtain rfl:dop=m2:=by rw [ly] at hdop; exact(Option.some.inj hdop).symm
  have hTlen:∀ j,listed.getD j false=true->j<ops.toList.length:=by
   intro j hj
   rcases Bc j listed.size with h | h
   ·simp; rw [<- I.size]; exact h
   ·simp [Array.getElem?_eq_none h] at hj
  have late:∀ k,listed.getD k false=false->∀ m,ordered (wW ops.toList []) k m=true->listed.getD m false=false:=by
   intro k hk m hm2
   by_cases h:listed.getD m false=true
   ·have this:listed.getD k false=true:=pJ (T:=λj=>listed.getD j false) I.closed hTlen m h k hm2;rw [hk] at this;cases this
   ·simpa using h
  have hopsj:∀ j,j<l.length->ops.toList[j]?=some (ops.toList.getD j o):=λj hj=>by
   have:j<ops.toList.length:=by omega
   simp only [List.getD,η this,Bp]
  have hdsj:∀ j,j<l.length->l[j]?=some (l.getD j dop):=λj hj=>by simp [List.getD,hj]
  have post0:∀ k,k<l.length->s<=k->vH l k=false->listed.getD k false=false:=by
   intro k hk hks hns;rw [uE (hdsj k hk)] at hns
   rcases sp (hopsj k hk) (hdsj k hk) ly (by omega:i<k) with h | ⟨_,h | h | h | h⟩
   ·exact late i hTi k h
   ·omega
   ·rw [hal2] at h; cases h
   ·rw [hns] at h; cases h
   ·simp at h; omega
  have hT':∀ k,(listed.setIfInBounds i true).getD k false=if i=k then true else listed.getD k false:=by
   intro k
   by_cases h:i=k
   ·subst h;have:i<listed.size:=by rw [I.size]; exact hlt
    simp [this]
   ·rw [if_neg h];exact getD_set_ne false h
  obtain⟨g,hg,G2⟩:=I.TG
  have hsil:∀ (ds:List yX) (tr:List (D × St)) (f:Fr) (σ:St) (mu:Nat->Bool),Trace C ds f σ tr->(∀ i,i<s->mu i=false->vL (tr.take (i+1)) σ=vL (tr.take i) σ)->∀ j,j<ds.length->quiet ds mu s j=true->vL (tr.take (j+1)) σ=vL (tr.take j) σ:=by
   intro ds tr f σ mu ht hpre j hj hs
   by_cases hsj:vH ds j=true
   ·have ho:ds[j]?=some ds[j]:=η hj;obtain⟨d,σ',h1,h2⟩:=ht.at j _ ho;rw [aO tr σ j _ h1];simp only [vH,ho,Bq,Bp] at hsj;unfold yF at h2
    split at h2
    ·exact(mK hsj h2).1
    ·split at h2
     ·exact(Classical.em _).elim (λhbw=>(mK hsj ((uQ h2).1 hbw)).1) (λhbw=>((uQ h2).2 hbw).2)
     ·exact h2.2
     ·exact h2.elim
   ·simp only [quiet,Ay,hsj,false_or,Au,decide_eq_true_eq,A3,Bool.not_eq_true'] at hs;exact hpre j hs.1 hs.2
  have preT:∀ i',i'<s->qG C.own l i'=false->vL (tr.take (i'+1)) σ=vL (tr.take i') σ:=λk hk him=>by
   have hne:k≠j/\k≠i:=by
    refine⟨λh=>?_,λh=>?_⟩
    ·rw [(muh k hk).2 (.inl h)] at him; cases him
    ·rw [(muh k hk).2 (.inr h)] at him; cases him
   rcases Bc k j with h | h
   ·rw [st0 (k+1) (by omega),st0 k (by omega)]
   ·rcases Bc k i with g | g
    ·rw [st1 (k+1) (by omega) (by omega),st1 k (by omega) (by omega)]
    ·rw [st2 (k+1) (by omega) (by omega),st2 k (by omega) (by omega)]
  have hst:SV (quiet l (qG C.own l) s) tr σ (λi=>listed.getD i false) l.length=σ:=by
   rw [cT (i:=0) (hsil l tr f σ _ k1 preT) l.length (Be _) λk hk hq=>⟨λhT=>?_,λh=>by omega⟩]
   ·simp [vL]
   ·exfalso;obtain⟨h1,h2⟩:=uD.1 hq
    rcases Bc k s with h | h
    ·rcases(muh k h).1 (h2.resolve_right (by omega)) with rfl | rfl
     ·rw [hlj] at hT; cases hT
     ·rw [hTi] at hT; cases hT
    ·rw [post0 k hk h h1] at hT; cases hT
  rw [hst] at G2
  have key:yF dop g (sR C σ (rB g) dop.k λx y=>x=dA/\y=σA) (D.tF=dA/\σ=σA):=by simp only [yF,hg2];exact eT (λx hx=>by rw [hal] at hx; cases hx) hA
  have hstep:=yx (next:=wpAnyIn C.F 0 C.P .any ops (LQ C E Q) fuel (listed.setIfInBounds i true)) (Q:=LQ C E Q) (K:=λx y=>x=dA/\y=σA) hmk G2 (qH key (λh=>h) (λh=>h)) (λa' w' d' σ'' G3 hk=>by
   obtain⟨rfl,rfl⟩:=hk
   refine qt (ds:=l') (tr:=tr') (s:=s) (mu:=λi=>decide (i=j)) (f:=f) (σ:=σ'') (xo:=λ_ _=>false) (l0:=λk=>decide (k=i)) (by omega) (λk o' h=>?_) (λ{i1 j1 oj di dj} h1 h2 h3 h4=>?_) bk (λ_ _ h=>by cases h) j1 hlen' (by omega) (λm hms hmm=>?_) (λk hk him=>?_) (λk dop2 p his him hps hdq hns hor=>?_) (λa w G'=>⟨_,_,hweak E a w G',hQ⟩) (λ_ _ _ _ _ _ _ _ _ h=>by cases h) _ _ _ _ hfew ⟨by simp [I.size],(λ_ _ h=>by cases h),λk hk=>?_,λk ok hk hT e he hb=>?_,g.put dop.dst d',λt=>?_,?_⟩
   ·obtain⟨dop3,g1,g2⟩:=hdg k o' h
    by_cases hki:k=i
    ·subst hki; exact⟨_,ly',λh=>by simp at h⟩
    ·exact⟨dop3,(lat k hki).trans g1,λ_=>g2⟩
   ·by_cases hj1:j1=i
    ·subst hj1;rw [ly'] at h2; cases h2;rw [lat i1 (by omega)] at h3
     rcases sp h1 ly h3 h4 with h | ⟨h,_⟩
     ·exact .inl h
     ·exact .inr ⟨(YT (a:=⟨dop.dst,none,.mv (.c d')⟩) (b:=dop) rfl hal3.symm).trans h,.inr (.inr (.inl rfl))⟩
    ·rw [lat j1 hj1] at h2
     by_cases hi1:i1=i
     ·subst hi1;rw [ly'] at h3; cases h3
      rcases sp h1 h2 ly h4 with h | ⟨h,_⟩
      ·exact .inl h
      ·exact .inr ⟨(Wi (a:=⟨dop.dst,none,.mv (.c d')⟩) (b:=dop) rfl hal3.symm).trans h,.inr (.inl rfl)⟩
     ·rw [lat i1 hi1] at h3
      rcases sp h1 h2 h3 h4 with h | ⟨h,h5 | h5 | h5 | h5⟩
      ·exact .inl h
      ·exact .inr ⟨h,.inl ⟨h5.1,λ⟨q1,q2⟩=>by simp at q1 q2; omega⟩⟩
      ·exact .inr ⟨h,.inr (.inl h5)⟩
      ·exact .inr ⟨h,.inr (.inr (.inl h5))⟩
      ·simp at h5; omega
   ·obtain rfl:m=j:=by simpa using hmm
    rw [uE ((lat m (by omega)).trans lx)]; exact R.TH
   ·have hkj:k≠j:=by simpa using him
    rcases Bc k j with h | h
    ·rw [stA (k+1) (by omega),stA k (by omega)]
    ·rw [stB (k+1) (by omega) (by omega),stB k (by omega) (by omega)]
   ·have hkj:k≠j:=by simpa using him
    have hki:k≠i:=λh=>by subst h; rw [ly'] at hdq; cases hdq; cases hns
    have z1:l'.take k=hd'.take k:=by rw [lhd',γ (by omega)]
    have z2:tr'.take k=th'.take k:=by rw [tth',γ (by omega)]
    have z3:vR tr' k=vR th' k:=by unfold vR; rw [tth',δ (by omega)]
    have z4:hd_[k]?=some dop2:=by rw [<- hat k hki,<- hdq,lhd',δ (by omega)]
    rw [z1,z2,z3]
    rcases Bc j p with h | h
    ·rw [stB p h hps]; exact fK (dq' dz d') dok' (by omega) qB ((qat dz d' k hkj hki).trans z4)
    ·rw [stA p h]; exact fK (dq' dz d') dok' (by omega) qA ((qat dz d' k hkj hki).trans z4)
   ·obtain rfl:k=i:=by simpa using hk
    rw [hT',if_pos rfl]
   ·by_cases h:i=k
    ·subst h;rw [hol] at hk;simp at hk; subst hk;exact getD_set_true (hall e he hb)
    ·rw [hT',if_neg h] at hT;exact getD_set_true (I.closed k ok hk hT e he hb)
   ·have hnd:(l'.filterMap (·.dst)).Nodup:=by
     have:l'.filterMap (·.dst)= l.filterMap (·.dst):=by rw [hls,hl']; simp [List.filterMap_append,Am]
     rw [this]; exact R.nodup
    by_cases hdt:dop.dst=some t
    ·rw [hdt,Fr.fE,if_pos rfl,iV (i:=i) (by rw [hT' i]; simp) (by rw [ldst,vQ,ly]; exact hdt) l'.length (by omega) λk h1 h2 h3=>?_]
     ·exact tdy.symm
     ·have:=yz hnd h3 (by rw [ldst,vQ,ly]; exact hdt:vQ l' i=some t);omega
    ·have e1:(g.put dop.dst d').get t=g.get t:=by
      cases hdd:dop.dst with
      | none=>rfl
      | some u=>rw [Fr.fE,if_neg (λe=>by subst e; exact hdt hdd)]
     rw [e1,hg t,hll];refine(Vg ldst l.length λk hk hkt=>?_).symm;have hki:k≠i:=λe=>by subst e; rw [vQ,ly] at hkt; exact hdt hkt
     refine⟨by rw [hT',if_neg (λe=>hki e.symm)],λhT=>?_⟩;have hkj:k≠j:=λe=>by subst e; rw [hlj] at hT; cases hT
     have hfr:t ∈ free:=by
      rw [R.fr];unfold T4;refine An.2 ⟨k,ε.2 hk,?_⟩
      have o1:ordered (wW ops.toList []) pre.length k=false:=by
       cases h:ordered (wW ops.toList []) pre.length k with
       | false=>rfl
       | true=>rw [<- hx0] at h; rw [late j hlj k h] at hT; cases hT
      have o2:ordered (wW ops.toList []) (pre.length+1+mid1.length) k=false:=by
       cases h:ordered (wW ops.toList []) (pre.length+1+mid1.length) k with
       | false=>rfl
       | true=>rw [<- hy0] at h; rw [late i hTi k h] at hT; cases hT
      rw [if_neg (by simp [o1,o2]; omega)];exact hkt
     have:=hfree t hfr;rw [Ve hlen R.nodup hk hkt,Ve hlen' hnd (by omega:k<l'.length) ((ldst k).trans hkt)] at this;exact this.symm
   ·have:SV (quiet l' (λi=>decide (i=j)) s) tr' σ'' (λk=>(listed.setIfInBounds i true).getD k false) l'.length=σ'':=by
     rw [cT (i:=0) (hsil l' tr' f σ'' _ j1 (λk hk him=>by
      have hkj:k≠j:=by simpa using him
      rcases Bc k j with h | h
      ·rw [stA (k+1) (by omega),stA k (by omega)]
      ·rw [stB (k+1) (by omega) (by omega),stB k (by omega) (by omega)])) l'.length (Be _) λk hk hq=>⟨λhT=>?_,λh=>by omega⟩]
     ·simp [vL]
     ·exfalso;obtain⟨h1,h2⟩:=uD.1 hq;have hki:k≠i:=λh=>by subst h; rw [uE ly'] at h1; cases h1
      rw [hT',if_neg (λh=>hki h.symm)] at hT
      rcases h2 with h2 | h2
      ·obtain rfl:k=j:=by simpa using h2
       rw [hlj] at hT; cases hT
      ·rw [post0 k (by omega) h2 (by unfold vH at h1 ⊢; rw [<- lat k hki]; exact h1)] at hT; cases hT
    rw [this];exact G3)
  unfold wpOpIn;simp only [ho];exact hstep
 ·exact Nat.le_trans (List.length_filter_le _ _) (by simp)
 ·rw [tm (i:=0) l.length λj _ _=>⟨(λh=>by rw [hf0] at h; cases h),λh=>by omega⟩];simp [LV]
 ·have:SV (quiet l (qG C.own l) s) tr σ (λi=>(Array.replicate ops.size false).getD i false) l.length=σ:=by refine(Zw (k:=0) _ λj _ _ (hT:(Array.replicate ops.size false).getD j false=true)=>by rw [hf0] at hT; cases hT).trans (if_neg λh=>?_);have h2:(Array.replicate ops.size false).getD 0 false=true:=h.2.1;rw [hf0] at h2; cases h2
  rw [this];exact G'
def gN : List Nat->Fr->Fr->Prop
 | [],_,_=>True
 | t :: r,f,g=>f.get t=g.get t/\gN r f g
theorem pa : ∀ {l:List Nat} {f g:Fr},gN l f g=∀ t ∈ l,f.get t=g.get t
 | [],f,g=>by simp [gN]
 | t :: r,f,g=>by simp [gN,pa (l:=r)]
theorem iN (f g:Fr):gN [] f g=True:=rfl
theorem lI (t:Nat) (r:List Nat) (f g:Fr):gN (t :: r) f g=(f.get t=g.get t/\gN r f g):=rfl
def uz (C:Cx) (σ:St) (pre:List yX) (o1:Option Nat) (dx:D) (mid1:List yX) (o2:Option Nat) (dy:D) (mid2:List yX) (g f:Fr):Prop:= rZ C σ pre (rZ C σ (⟨o1,none,.mv (.c dx)⟩ :: mid1) (rZ C σ (⟨o2,none,.mv (.c dy)⟩ :: mid2) (Pg g))) f
def LJ (C:Cx) (free:List Nat) (K:Fr->St->Prop) (f4:Fr) (σ4:St) (g4:Fr) (σ5:St):Prop:=gN free f4 g4/\xT C g4 σ5 f4 σ4/\K f4 σ4
def LI (C:Cx) (post:List yX) (free:List Nat) (K:Fr->St->Prop) (g3:Fr) (σB:St) (f4:Fr) (σ4:St):Prop:=cC C post (LJ C free K f4 σ4) g3 σB
def LH (C:Cx) (pre:List yX) (o1:Option Nat) (dz:D) (mid1:List yX) (o2:Option Nat) (dA:D) (mid2 post:List yX) (free:List Nat) (K:Fr->St->Prop) (f f3:Fr) (σ2 σA σB:St) (g3:Fr):Prop:= uz C σA pre o1 dz mid1 o2 dA mid2 g3 f/\uz C σB pre o1 dz mid1 o2 dA mid2 g3 f/\cC C post (LI C post free K g3 σB) f3 σ2
def LG (C:Cx) (pre:List yX) (o1:Option Nat) (mid1:List yX) (o2:Option Nat) (dA:D) (mid2 post:List yX) (free:List Nat) (K:Fr->St->Prop) (f f3:Fr) (σ2 σA:St) (g1:Fr) (dz:D) (σB:St):Prop:= rZ C σB mid1 (rZ C σB (⟨o2,none,.mv (.c dA)⟩ :: mid2) (LH C pre o1 dz mid1 o2 dA mid2 post free K f f3 σ2 σA σB)) (g1.put o1 dz)
def LF (C:Cx) (pre:List yX) (o1:Option Nat) (k1:DK) (mid1:List yX) (o2:Option Nat) (mid2 post:List yX) (free:List Nat) (K:Fr->St->Prop) (f f3:Fr) (σ2:St) (dA:D) (σA:St):Prop:= rZ C σA pre (nD C k1 (LG C pre o1 mid1 o2 dA mid2 post free K f f3 σ2 σA) σA) f
def LD (C:Cx) (pre:List yX) (o1:Option Nat) (k1:DK) (dx:D) (mid1:List yX) (o2:Option Nat) (k2:DK) (dy:D) (mid2 post:List yX) (free:List Nat) (K:Fr->St->Prop) (f:Fr) (σ σ1 σ2:St) (f3:Fr):Prop:= uz C σ pre o1 dx mid1 o2 dy mid2 f3 f/\uz C σ1 pre o1 dx mid1 o2 dy mid2 f3 f/\uz C σ2 pre o1 dx mid1 o2 dy mid2 f3 f/\ns C σ (rB f) k2 (LF C pre o1 k1 mid1 o2 mid2 post free K f f3 σ2)
def VY (C:Cx) (pre:List yX) (o1:Option Nat) (k1:DK) (dx:D) (mid1:List yX) (o2:Option Nat) (k2:DK) (mid2 post:List yX) (free:List Nat) (K:Fr->St->Prop) (f:Fr) (σ σ1:St) (f2:Fr) (dy:D) (σ2:St):Prop:= rZ C σ2 mid2 (LD C pre o1 k1 dx mid1 o2 k2 dy mid2 post free K f σ σ1 σ2) (f2.put o2 dy)
def VZ (C:Cx) (pre:List yX) (o1:Option Nat) (k1:DK) (mid1:List yX) (o2:Option Nat) (k2:DK) (mid2 post:List yX) (free:List Nat) (K:Fr->St->Prop) (f:Fr) (σ:St) (f1:Fr) (dx:D) (σ1:St):Prop:= rZ C σ1 mid1 (nD C k2 (VY C pre o1 k1 dx mid1 o2 k2 mid2 post free K f σ σ1) σ1) (f1.put o1 dx)
def p7 (C:Cx) (pre:List yX) (o1:Option Nat) (k1:DK) (mid1:List yX) (o2:Option Nat) (k2:DK) (mid2 post:List yX) (free:List Nat) (K:Fr->St->Prop) (f:Fr) (σ:St):Prop:= rZ C σ pre (nD C k1 (VZ C pre o1 k1 mid1 o2 k2 mid2 post free K f σ) σ) f
theorem sV {C:Cx} {σ:St} {l:List yX} {f:Fr} {K K':Fr->Prop} (h:∀ g,K g=K' g):rZ C σ l K f=wL C σ l f K':=by rw [oP,rU,funext h]
theorem ub {C:Cx} {σ:St} {ev:uO->D} {k:DK} {K K':D->St->Prop} (h:∀ d σ',K d σ'=K' d σ'):ns C σ ev k K=sR C σ ev k K':=by rw [ua,show K=K' from funext λd=>funext λσ'=>h d σ']
theorem bp {C:Cx} {l:List yX} {f:Fr} {σ:St} {K K':Fr->St->Prop} (h:∀ g s,K g s=K' g s):cC C l K f σ=tS C l f σ K':=by rw [lR,jA,show K=K' from funext λd=>funext λσ'=>h d σ']
theorem oE {C:Cx} {σ:St} {K:Fr->Prop} {l2:List yX}:∀ {l1:List yX} {f:Fr},wL C σ (l1++l2) f K=wL C σ l1 f λg=>wL C σ l2 g K
 | [],f=>rfl
 | o :: r,f=>by have ih:(λg=>wL C σ (r++l2) g K)= λg=>wL C σ r g λg=>wL C σ l2 g K:=funext λg=>oE (l1:=r);show wL C σ (o :: (r++l2)) f K=_;simp only [wL];have:∀ g,wL C σ (r++l2) g K=wL C σ r g λg=>wL C σ l2 g K:=λg=>congrFun ih g;simp only [this]
theorem bN {C:Cx} {σ:St} {pre:List yX} {o1:Option Nat} {dx:D} {mid1:List yX} {o2:Option Nat} {dy:D} {mid2:List yX} {g f:Fr}:uz C σ pre o1 dx mid1 o2 dy mid2 g f=wL C σ (TV pre o1 dx mid1 o2 dy mid2) f λx=>x=g:=by unfold uz TV;rw [oE];refine sV λg1=>?_;rw [show (⟨o1,none,DK.mv (.c dx)⟩:yX) :: (mid1++⟨o2,none,DK.mv (.c dy)⟩ :: mid2)= (⟨o1,none,DK.mv (.c dx)⟩ :: mid1)++ ⟨o2,none,DK.mv (.c dy)⟩ :: mid2 from rfl,oE];exact sV λg2=>sV λg3=>rfl
theorem RF {C:Cx} {pre:List yX} {o1:Option Nat} {g1:Option (Nat × Bool)} {k1:DK} {mid1:List yX} {o2:Option Nat} {g2:Option (Nat × Bool)} {k2:DK} {mid2 post:List yX} {free:List Nat} {K:Fr->St->Prop} {f:Fr} {σ:St} :
  p7 C pre o1 k1 mid1 o2 k2 mid2 post free K f σ=Wa C pre ⟨o1,g1,k1⟩ mid1 ⟨o2,g2,k2⟩ mid2 post free f σ K:=by
 unfold p7 Wa;refine sV λf1=>ub λdx σ1=>?_;unfold VZ;refine sV λf2=>ub λdy σ2=>?_;unfold VY;refine sV λf3=>?_;unfold LD;refine congr (congrArg And bN) (congr (congrArg And bN) (congr (congrArg And bN) (ub λdA σA=>?_)));unfold LF;refine sV λh1=>ub λdz σB=>?_;unfold LG;rw [oE];refine sV λh2=>sV λg3=>?_;unfold LH;refine congr (congrArg And bN) (congr (congrArg And bN) (bp λf4 σ4=>?_));unfold LI;refine bp λg4 σ5=>?_;unfold LJ;rw [pa]
theorem jt {C:Cx} (hm:C.P.follows .mixedOrders=true) {pre:List yX} {o1:Option Nat} {g1:Option (Nat × Bool)} {k1:DK} {mid1:List yX} {o2:Option Nat} {g2:Option (Nat × Bool)} {k2:DK} {mid2 post:List yX} {free:List Nat} {f:Fr} {σ:St} {Q:Exit->Fr->St->Prop}
  (h:p7 C pre o1 k1 mid1 o2 k2 mid2 post free (kG Q) f σ):wpS C (.dC pre ⟨o1,g1,k1⟩ mid1 ⟨o2,g2,k2⟩ mid2 post free) f σ Q:=
 Ry hm (RF ▸ h)
theorem o6 {C:Cx} {pre:List yX} {m1:yX} {mid1:List yX} {m2:yX} {mid2 post:List yX} {free:List Nat} {f:Fr} {σ:St} {Q:Exit->Fr->St->Prop}:vf C (.dC pre m1 mid1 m2 mid2 post free) Q f σ=wpS C (.dC pre m1 mid1 m2 mid2 post free) f σ Q:=by rw [rK]; rfl
def gU : List Bool->List yX->Fr->List yX
 | true :: fl,o :: r,f1=>⟨o.dst,none,.mv (.c (match o.dst with | some t=>f1.get t | none=>.top))⟩ :: gU fl r f1
 | false :: fl,o :: r,f1=>o :: gU fl r f1
 | [],l,_=>l
 | _,[],_=>[]
theorem xe : ∀ {fl:List Bool} {l:List yX} {f1:Fr},(gU fl l f1).map (·.dst)= l.map (·.dst)
 | true :: fl,o :: r,f1=>by simp only [gU,Ac,xe (l:=r)]
 | false :: fl,o :: r,f1=>by simp only [gU,Ac,xe (l:=r)]
 | [],l,f1=>by cases l <;> rfl
 | true :: fl,[],f1=>rfl
 | false :: fl,[],f1=>rfl
theorem sf : ∀ {fl:List Bool} {l:List yX} {f1:Fr} {i:Nat},fl.getD i false=false->(gU fl l f1)[i]?=l[i]?
 | true :: fl,o :: r,f1,0,h=>by simp at h
 | false :: fl,o :: r,f1,0,h=>rfl
 | true :: fl,o :: r,f1,i+1,h=>by simp only [gU,θ]; exact sf (by simpa using h)
 | false :: fl,o :: r,f1,i+1,h=>by simp only [gU,θ]; exact sf (by simpa using h)
 | [],l,f1,i,h=>by cases l <;> rfl
 | true :: fl,[],f1,i,h=>rfl
 | false :: fl,[],f1,i,h=>rfl
def Wb (C:Cx) (pre:List yX) (m:yX) (mid:List yX) (un:Bool) (post:List yX) (fl:List Bool) (f:Fr) (σ:St) (K:Fr->St->Prop):Prop:= wL C σ pre f λf1=>sR C σ (rB f1) m.k λd σ1=>wL C σ1 (gU fl pre f1) f (λg=>g=f1)/\ wL C σ1 mid (f1.put m.dst d) λf2=>(if un=true then wL C σ mid (f1.put m.dst d) (λg=>g=f2) else True)/\ tS C post f2 σ1 K
theorem QY {P:Program} {N:Nat} {own:List Nat} {code:Code} {pre:List yX} {m:yX} {mid:List yX} {un:Bool} {post:List yX} {fl:List Bool} (h:tT P N own code=some (.cE pre m mid un post fl)) :
  ∃ id ops l,code = .region id ops true/\vG (jE P N own ops) ops.toList=some l/\own.contains 77777=false/\tp ops.toList l (tV own l) (qG own l)= true/\post=l.drop (tV own l)/\ Ki own ops.toList l (tV own l) pre m mid un fl:=by
 cases code with
 | region id ops draw=>
  simp only [tT] at h
  split at h
  ·rename_i d hd;cases h
   rcases iQ hd with ⟨_,h2 | h2 | h2⟩ | ⟨_,h2,_⟩
   ·obtain⟨_,_,_,_,_,_,_,_,_,_,_,_,_,_,_,e⟩:=rR h2; cases e
   ·obtain⟨_,_,_,_,_,_,_,_,_,_,_,_,_,_,e⟩:=jN h2; cases e
   ·obtain⟨_,_,_,_,_,_,_,_,_,_,_,e⟩:=jM h2; cases e
   ·obtain⟨_,_,_,_,_,_,_,_,_,_,_,_,_,_,_,e⟩:=rR h2; cases e
  ·simp only [Br,Bo] at h;obtain⟨l,hl,h⟩:=h
   split at h
   ·rename_i hdr
    split at h
    ·rename_i hok
     split at h
     ·rename_i d hv;cases h;obtain⟨_,_,_,_,_,_,e,hp,hR⟩:=iS hv;cases e;subst hdr;exact⟨id,ops,l,rfl,hl,hok.1,hok.2,hp,hR⟩
     ·rcases lK h with ⟨e,_⟩ | ⟨_,_,_,_,_,e,_⟩ | ⟨_,_,_,_,_,_,_,_,_,_,_,e,_⟩ <;> cases e
    ·split at h
     ·obtain⟨_,_,_,_,_,_,_,e,_⟩:=iR h;cases e
     ·cases h
   ·simp at h
 | rangeFunc g0 ps0 a c=> simp [tT,Bo] at h
 | seq a b=> simp only [tT,zO] at h;obtain⟨dx,hx,dy,hy,h⟩:=h;rcases vZ dx dy with e | ⟨_,_,_,_,_,_,_,_,_,_,_,_,e,_⟩ <;> rw [e] at h <;> cases h
 | _=>simp [tT,Bo] at h
theorem Rx {C:Cx} (hm:C.P.follows .mixedOrders=true) {pre:List yX} {o:yX} {mid:List yX} {un:Bool} {post:List yX} {fl:List Bool} {f:Fr} {σ:St} {Q:Exit->Fr->St->Prop}
  (h:Wb C pre o mid un post fl f σ (Q .normal)):wpS C (.cE pre o mid un post fl) f σ Q:=by
 intro code hc E a w G;obtain⟨id,ops,l,rfl,hd,hq,hok,hpost,R⟩:=QY hc;obtain⟨⟨heq,d1,d2,n1,n2,n3,hloud⟩,hw,hfl⟩:=R;have hg:=qI n2
 have hsl:tV C.own l<=l.length:=by
  have:∀ ks:List yX,tV C.own ks<=ks.length:=by
   intro ks
   induction ks with
   | nil=>simp [tV]
   | cons k ks ih=>simp only [tV]; split <;> simp <;> omega
  exact this l
 have hl:l=pre++o :: (mid++post):=by
  conv=>lhs; rw [<- Ak (tV C.own l) l,heq,<- hpost]
  simp
 have hs:tV C.own l=pre.length+1+mid.length:=by have:=congrArg List.length heq;rw [Ap,Nat.min_eq_left hsl] at this;simp at this; omega
 generalize tV C.own l=s at *;unfold Wb at h;obtain⟨t1,h1,h2,h3,h4⟩:=zP _ _ h;obtain⟨d,σ1,g1,p1,p2⟩:=nB hq h2;obtain⟨t3,r1,r2,r3,r4⟩:=zP _ _ p2;obtain⟨ru,r2⟩:=r2;obtain⟨t2,s1,s2,s3⟩:=qU hq _ _ _ r2;have e0:vL t1 σ=σ:=wX h4;have e3:vL t3 σ1=σ1:=wX r4;have c2:Trace C (mid++post) ((vW pre t1 f).put o.dst d) σ1 (t3++t2)/\ _/\_:=Trace.append r1 r3 (by rw [e3]; exact s1);have c1:Trace C (o :: (mid++post)) (vW pre t1 f) (vL t1 σ) ((d,σ1) :: (t3++t2)):=.cons (by simp only [yF,hg]; rw [e0]; exact g1) c2.1;obtain⟨k1,k2,k3⟩:=Trace.append h1 h3 c1;rw [<- hl] at k1 k2
 have hlen:(t1++(d,σ1) :: (t3++t2)).length=l.length:=by rw [hl]; simp [h3,r3,s3]
 have lpre:∀ i,i<pre.length->l[i]?=pre[i]?:=λi hi=>by rw [hl,δ hi]
 have lo:l[pre.length]?=some o:=by rw [hl,ζ (by omega),Nat.sub_self]; rfl
 have lmid:∀ k,k<mid.length->l[pre.length+1+k]?=mid[k]?:=λk hk=>by rw [hl,ζ (by omega),show pre.length+1+k-pre.length=k+1 by omega,θ,δ hk]
 have mpre:∀ i,i<pre.length->qG C.own l i=false:=λi hi=>by rw [uH ((lpre i hi).trans (η hi))]; exact n1 _ (π _)
 have mo:qG C.own l pre.length=true:=by rw [uH lo]; exact n2
 have mmid:∀ k,k<mid.length->qG C.own l (pre.length+1+k)= false:=λk hk=>by rw [uH ((lmid k hk).trans (η hk))]; exact n3 _ (π _)
 have st0:∀ p,p<=pre.length->vL ((t1++(d,σ1) :: (t3++t2)).take p) σ=σ:=λp hp=>by rw [γ (by omega)];exact wX λx hx=>h4 x (ν hx)
 have st1:∀ k,k<=mid.length->vL ((t1++(d,σ1) :: (t3++t2)).take (pre.length+1+k)) σ=σ1:=λk hk=>by rw [<- h3,show t1.length+1+k=t1.length+(k+1) by omega,κ,ξ,γ (by omega),oO];exact wX λx hx=>r4 x (ν hx)
 refine iM (mu:=qG C.own l) (E:=E) (Q:=LQ C E Q) hm hd hok k1 hlen (by omega) (λm hms hmm=>?_) (λi hi him=>?_) (λi dop p his him hps hdop hns hor=>?_) (λa w G'=>⟨_,_,G',?_⟩) G
 ·rcases Bd m pre.length with h | h | h
  ·rw [mpre m h] at hmm; cases hmm
  ·subst h; rw [uE lo]; exact hloud
  ·obtain⟨k,rfl⟩:∃ k,m=pre.length+1+k:=⟨m-(pre.length+1),by omega⟩;rw [mmid k (by omega)] at hmm; cases hmm
 ·rcases Bd i pre.length with h | h | h
  ·rw [st0 (i+1) (by omega),st0 i (by omega)]
  ·subst h; rw [mo] at him; cases him
  ·obtain⟨k,rfl⟩:∃ k,i=pre.length+1+k:=⟨i-(pre.length+1),by omega⟩;rw [show pre.length+1+k+1=pre.length+1+(k+1) by omega,st1 (k+1) (by omega),st1 k (by omega)]
 ·have hor:=hor pre.length (by omega) mo
  have hp:(p<=pre.length/\vL ((t1++(d,σ1) :: (t3++t2)).take p) σ=σ)\/(pre.length<p/\vL ((t1++(d,σ1) :: (t3++t2)).take p) σ=σ1):=by
   rcases Bc pre.length p with h | h
   ·obtain⟨k,rfl⟩:∃ k,p=pre.length+1+k:=⟨p-(pre.length+1),by omega⟩;exact .inr ⟨h,st1 k (by omega)⟩
   ·exact .inl ⟨h,st0 p h⟩
  rcases Bd i pre.length with h | h | h
  ·have hdp:pre[i]?=some dop:=(lpre i h).symm.trans hdop;have x5:vR (t1++(d,σ1) :: (t3++t2)) i=vR t1 i:=by simp only [vR]; rw [δ (by omega)]
   have x6:vW (l.take i) ((t1++(d,σ1) :: (t3++t2)).take i) f=vW (pre.take i) (t1.take i) f:=by rw [hl,γ (by omega),γ (by omega)]
   rw [x5,x6]
   rcases hp with ⟨_,hp⟩ | ⟨hp0,hp⟩
   ·rw [hp]; exact uV h1 h3 rfl h4 hdp
   ·rw [hp]
    have hfi:fl.getD i false=false:=by
     cases hx:fl.getD i false with
     | false=>rfl
     | true=>have:=hfl i hx; rw [hor.1 hp0] at this; cases this
    exact fK xe d1 h3 p1 ((sf hfi).trans hdp)
  ·subst h; rw [mo] at him; cases him
  ·obtain⟨k,rfl⟩:∃ k,i=pre.length+1+k:=⟨i-(pre.length+1),by omega⟩;have hk:k<mid.length:=by omega
   have hdp:mid[k]?=some dop:=(lmid k hk).symm.trans hdop
   have x5:vR (t1++(d,σ1) :: (t3++t2)) (pre.length+1+k)= vR t3 k:=by simp only [vR];rw [ζ (by omega),h3,show pre.length+1+k-pre.length=k+1 by omega,θ,δ (by omega)]
   have x6:vW (l.take (pre.length+1+k)) ((t1++(d,σ1) :: (t3++t2)).take (pre.length+1+k)) f=vW (mid.take k) (t3.take k) ((vW pre t1 f).put o.dst d):=by
    have y1:l.take (pre.length+1+k)= pre++o :: mid.take k:=by rw [hl,show pre.length+1+k=pre.length+(k+1) by omega,κ,ξ,γ (by omega)]
    have y2:(t1++(d,σ1) :: (t3++t2)).take (pre.length+1+k)= t1++(d,σ1) :: t3.take k:=by rw [<- h3,show t1.length+1+k=t1.length+(k+1) by omega,κ,ξ,γ (by omega)]
    rw [y1,y2,nO _ _ _ h3]; rfl
   rw [x5,x6]
   rcases hp with ⟨hp0,hp⟩ | ⟨_,hp⟩
   ·rw [hp]
    cases un with
    | false=> exfalso;have h2:=rP (hw rfl) k dop hdp hns;rw [hor.2 hp0] at h2; cases h2
    | true=> simp only [if_true] at ru;obtain⟨t3',u1,u2,u3,u4⟩:=zP _ _ ru;exact uV u1 u3 (oV d2 u3 r3 u2) u4 hdp
   ·rw [hp]; exact uV r1 r3 rfl r4 hdp
 ·rw [k2,k3,e0];show Q .normal (vW (mid++post) (t3++t2) ((vW pre t1 f).put o.dst d)) (vL (t3++t2) σ1);rw [c2.2.1,c2.2.2,e3];exact s2
def uv (C:Cx) (σ1:St) (f1:Fr):List Bool->List yX->(Fr->Prop)->Fr->Prop
 | true :: fl,o :: r,K,f=>uv C σ1 f1 fl r K (f.put o.dst (match o.dst with | some t=>f1.get t | none=>.top))
 | false :: fl,o :: r,K,f=>rZ C σ1 [o] (uv C σ1 f1 fl r K) f
 | [],l,K,f=>rZ C σ1 l K f
 | _,[],K,f=>K f
theorem bt {C:Cx} {σ1:St} {f1:Fr}:∀ {fl:List Bool} {l:List yX} {K:Fr->Prop} {f:Fr},uv C σ1 f1 fl l K f=wL C σ1 (gU fl l f1) f K
 | true :: fl,o :: r,K,f=>by show uv C σ1 f1 fl r K _=_;rw [bt]; rfl
 | false :: fl,o :: r,K,f=>by show rZ C σ1 [o] (uv C σ1 f1 fl r K) f=wL C σ1 ([o]++gU fl r f1) f K;rw [oE];exact sV λg=>bt
 | [],l,K,f=>by cases l <;> exact sV λg=>rfl
 | true :: fl,[],K,f=>rfl
 | false :: fl,[],K,f=>rfl
theorem jd {C:Cx} {σ1:St} {f1:Fr} {fl:List Bool} {t:Nat} {g:Option (Nat × Bool)} {k:DK} {r:List yX} {K:Fr->Prop} {f:Fr}:uv C σ1 f1 (true :: fl) (⟨some t,g,k⟩ :: r) K f=uv C σ1 f1 fl r K (f.put (some t) (f1.get t)):=rfl
theorem qb {C:Cx} {σ1:St} {f1:Fr} {fl:List Bool} {o:yX} {r:List yX} {K:Fr->Prop} {f:Fr}:uv C σ1 f1 (false :: fl) (o :: r) K f=rZ C σ1 [o] (uv C σ1 f1 fl r K) f:=rfl
theorem Xr {C:Cx} {σ1:St} {f1:Fr} {K:Fr->Prop} {f:Fr}:uv C σ1 f1 [] [] K f=K f:=by show rZ C σ1 [] K f=K f;rw [Xs]
def L1 (C:Cx) (pre:List yX) (dst:Option Nat) (mid:List yX) (un:Bool) (post:List yX) (fl:List Bool) (K:Fr->St->Prop) (f:Fr) (σ:St) (f1:Fr) (d:D) (σ1:St):Prop:= uv C σ1 f1 fl pre (Pg f1) f/\rZ C σ1 mid (LK C un mid (f1.put dst d) σ (cC C post K) σ1) (f1.put dst d)
theorem VF {C:Cx} (hm:C.P.follows .mixedOrders=true) {pre:List yX} {dst:Option Nat} {g1:Option (Nat × Bool)} {k1:DK} {mid:List yX} {un:Bool} {post:List yX} {fl:List Bool} {f:Fr} {σ:St} {Q:Exit->Fr->St->Prop}
  (h:rZ C σ pre (nD C k1 (L1 C pre dst mid un post fl (kG Q) f σ) σ) f):wpS C (.cE pre ⟨dst,g1,k1⟩ mid un post fl) f σ Q:=by
 refine Rx hm ?_
 have:rZ C σ pre (nD C k1 (L1 C pre dst mid un post fl (kG Q) f σ) σ) f=Wb C pre ⟨dst,g1,k1⟩ mid un post fl f σ (kG Q):=by
  unfold Wb;refine sV λf1=>ub λd σ1=>?_;unfold L1;refine congr (congrArg And bt) (sV λf2=>?_);unfold LK;refine congr (congrArg And ?_) (bp λ_ _=>rfl)
  split
  ·exact sV λg=>rfl
  ·rfl
 exact this ▸ h
theorem SH {C:Cx} {pre:List yX} {m:yX} {mid:List yX} {un:Bool} {post:List yX} {fl:List Bool} {f:Fr} {σ:St} {Q:Exit->Fr->St->Prop}:vf C (.cE pre m mid un post fl) Q f σ=wpS C (.cE pre m mid un post fl) f σ Q:=by rw [rK]; rfl
end
end Go.Pd
