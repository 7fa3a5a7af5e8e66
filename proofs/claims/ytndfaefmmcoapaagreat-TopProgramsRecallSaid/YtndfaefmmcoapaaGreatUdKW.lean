/- Part KW. -/
import Derived.Test.YtndfaefmmcoapaaGreatUdKU
import Derived.Test.YtndfaefmmcoapaaGreatUdXR
set_option linter.unusedSectionVars false
set_option linter.unusedVariables false
set_option linter.unusedSimpArgs false
set_option linter.defProp false
set_option maxRecDepth 20000
set_option maxHeartbeats 1000000
namespace Go.Pd
open Go Go.Proofs
open BitVec renaming isValue -> ZA
open Rs Fm Ru Te Kb
theorem aT6 (l:List ClA):yB Tryz.prog 132 [.sl 2 (clR l)] (.fn 191 [.ptr [.sl 2 (clR l)]]):=by
 refine xY.xR mixed Tryz.func132 bRn (by simp) fun hf=>?_;simp only [simprocAttr,-ZA,↓zU,↓zD,zV,zT,zW]
 (repeat refine sd ?_)
 exact .drop (by simp) (by simp [vw,vwL,D.xU,D.xL]; exact⟨_,rfl,rfl,rfl⟩)
namespace Kb
def aV3 (R:Nat) (g h:Nat->Int) (i:Nat):List Int:=(List.range R).map fun w=>if w<i then g w else h w
theorem aF3 (R:Nat) (g h:Nat->Int) (i:Nat):(aV3 R g h i).length=R:=by simp [aV3]
theorem aJe (R:Nat) (g h:Nat->Int):aV3 R g h 0=(List.range R).map h:=by simp [aV3]
theorem aF4 (R:Nat) (g h:Nat->Int) {i:Nat} (hi:R<=i):aV3 R g h i=(List.range R).map g:=by refine List.map_congr_left fun f hf=>?_;rw [if_pos (by have:=List.mem_range.1 hf; omega)]
theorem aF2 (R:Nat) (g h:Nat->Int) (i:Nat):(aV3 R g h i).set i (g i)= aV3 R g h (i+1):=by
 refine List.ext_getElem (by simp [aV3]) fun k h1 h2=>?_;rw [List.getElem_set];simp only [aV3,List.getElem_map,List.getElem_range]
 by_cases e:i=k
 ·subst e; rw [if_pos rfl,if_pos (by omega)]
 ·rw [if_neg e]
  by_cases hk:k<i
  ·rw [if_pos hk,if_pos (by omega)]
  ·rw [if_neg hk,if_neg (by omega)]
theorem aJf (R:Nat) {g h:Nat->Int} {i:Nat} (e:g i=h i):aV3 R g h (i+1)= aV3 R g h i:=by
 refine List.map_congr_left fun w _=>?_
 by_cases hw:w=i
 ·subst hw; rw [if_pos (by omega),if_neg (by omega)]; exact e
 ·by_cases h1:w<i
  ·rw [if_pos (by omega),if_pos h1]
  ·rw [if_neg (by omega),if_neg h1]
def pmO (R:Nat) (V:List (BitVec 64)) (RR:List (List (BitVec 64))):Ob:=⟨3,[[.int .i64 (R:Int),.sl 1 (us V),.sl 1 (rr RR)]]⟩
def mvF (p:PrA) (sts:List (List (BitVec 64))) (t a j:Nat):List Int:=(List.range sts.length).map fun w=>sU p.see sts t a w ((p.code.getD a []).drop j)
def mvE (p:PrA) (sts:List (List (BitVec 64))) (t a:Nat):List (List (List D)):=(List.range a).map fun b=>rows .i64 (mvF p sts t b 0)
theorem fT (p:PrA) (sts:List (List (BitVec 64))) (t a:Nat):(mvE p sts t a).length=a:=by simp [mvE]
theorem aRq (p:PrA) (sts:List (List (BitVec 64))) (t a:Nat):mvE p sts t (a+1)= mvE p sts t a ++ [rows .i64 (mvF p sts t a 0)]:=by unfold mvE; rw [List.range_succ,List.map_append]; rfl
theorem aAm (p:PrA) (sts:List (List (BitVec 64))) (t:Nat):mvE p sts t p.see.length=(nH p sts t).map (rows .i64):=by simp only [mvE,nH,List.map_map];rfl
structure QP where
 a:Nat
 nx:Nat
 kO:Nat
 ks:List Nat
 xZ:List (Nat × Ob)
structure IP (p : PrA) (sts : List (List (BitVec 64))) (t : Nat) (mO : Ob) (x : QP) : Prop where
 ha:x.a<=p.see.length
 n0:1<=x.nx
 h0:St.look x.xZ 0=some mO
 kO:0<x.kO/\x.kO<x.nx\/x.a=0
 kl:x.ks.length=x.a
 ks:∀ k ∈ x.ks,0<k/\k<x.nx
 nd:x.ks.Nodup
 no:x.a≠0->x.kO ∉ x.ks
 nst:x.a≠0->Nst x.xZ x.kO x.ks (mvE p sts t x.a)
def aV2 (kO a:Nat):D:=if a=0 then .xO else .osl kO 1 a
theorem IP.step {p:PrA} {sts:List (List (BitVec 64))} {t:Nat} {mO:Ob} {x:QP} (h:IP p sts t mO x) (hal:x.a<p.see.length) {m:Nat} {ob:List (Nat × Ob)} (hm:x.nx+3<=m) (hout:St.look ob (m+1)= some ⟨1,pU (x.ks ++ [x.nx+1]) (mvE p sts t (x.a+1))⟩)
  (hnew:St.look ob (x.nx+1)= some ⟨1,rows .i64 (mvF p sts t x.a 0)⟩) (hold:∀ k,k<x.nx->(x.a=0\/k≠x.kO)->St.look ob k=St.look x.xZ k):IP p sts t mO ⟨x.a+1,m+1+1,m+1,x.ks ++ [x.nx+1],ob⟩ where
 ha:=by show x.a+1<=_; omega
 n0:=by show 1<=m+1+1; omega
 h0:=by have:=h.n0;show St.look ob 0=_;rw [hold 0 (by omega) (by have:=h.kO; omega)];exact h.h0
 kO:=.inl ⟨by show 0<m+1; omega,by show m+1<m+1+1; omega⟩
 kl:=by simp [h.kl]
 ks:=fun k hk=>by
  rcases List.mem_append.1 hk with hk | hk
  ·have:=h.ks k hk;exact⟨this.1,by show k<m+1+1; omega⟩
  ·rw [List.mem_singleton.1 hk]; exact⟨by omega,by show x.nx+1<m+1+1; omega⟩
 nd:=by refine List.nodup_append.2 ⟨h.nd,by simp,fun k hk j hj e=>?_⟩;have:=h.ks k hk;rw [List.mem_singleton.1 hj] at e;omega
 no:=fun _ hk=>by
  have hk:m+1 ∈ x.ks ++ [x.nx+1]:=hk
  rcases List.mem_append.1 hk with hk | hk
  ·have:=h.ks _ hk; omega
  ·have:=List.mem_singleton.1 hk; omega
 nst :=fun _=>{
  out:=hout
  len:=by rw [fT]; simp [h.kl]
  each:=fun i hi=>by
   rw [fT] at hi;have hi:i<x.a+1:=hi;show St.look ob ((x.ks ++ [x.nx+1]).getD i 0)= some ⟨1,(mvE p sts t (x.a+1)).getD i []⟩;rw [aRq]
   by_cases e:i=x.a
   ·subst e;have e1:(x.ks ++ [x.nx+1]).getD x.a 0=x.nx+1:=by simp [List.getD,<- h.kl]
    have e2:(mvE p sts t x.a ++ [rows .i64 (mvF p sts t x.a 0)]).getD x.a []=rows .i64 (mvF p sts t x.a 0):=by have:=fT p sts t x.a;simp [List.getD,List.getElem?_append,this]
    rw [e1,e2]; exact hnew
   ·have hia:i<x.ks.length:=by rw [h.kl]; omega
    have hia2:i<(mvE p sts t x.a).length:=by rw [fT]; omega
    have e1:(x.ks ++ [x.nx+1]).getD i 0=x.ks.getD i 0:=by simp [List.getD,List.getElem?_append_left hia]
    have e2:(mvE p sts t x.a ++ [rows .i64 (mvF p sts t x.a 0)]).getD i []=(mvE p sts t x.a).getD i []:=by simp [List.getD,List.getElem?_append_left hia2]
    rw [e1,e2];have hmem:=uI hia;have hlt:=h.ks _ hmem;have ha0:x.a≠0:=by omega
    rw [hold _ hlt.2 (.inr fun e=>h.no ha0 (e ▸ hmem))];exact(h.nst ha0).each i hia2 }
end Kb
theorem aPr {n:Nat} (hn:1<=n/\n<=64) (σ:St):xY Tryz.prog 131 [.sl 1 [[.int .i64 (-1)]],.int .i64 (n:Int)] σ (.osl σ.nx 1 n) ⟨σ.nx+1,(σ.nx,⟨1,rows .i64 (List.replicate n (-1))⟩) :: σ.xZ⟩:=by have h:=aKv (d:=.int .i64 (-1)) rfl rfl hn;rw [aAi] at h;exact xY.bUm h rfl (uG _ _)
theorem aVn {p:PrA} {F:Nat} (hv:PrV p F) {sts:List (List (BitVec 64))} {t:Nat} (ok:PlG p F sts t) :
  xY Tryz.prog 76 [plD p sts,.int .i64 t] St0 (.osl 0 1 p.see.length) ⟨1+p.see.length,aNi ((nH p sts t).map (rows .i64))⟩:=by
 have hm:=aFw ok.ok;have hH:=fun f hE=>aA3 ok (f:=f) hE;have hK:=fun a w (ha:a<p.see.length) (hw:w<sts.length) f=>aGf ok ha hw f;have hR:=ok.hR;have hA:=ok.hA;have hll:(vA sts.length 0).length=sts.length:=aZu _ _;have hRl:(mA (vP p.see sts t) (vA sts.length 0) p.see.length).length=p.see.length:=by simp [mA]
 have hRg:∀ a,a<p.see.length->(mA (vP p.see sts t) (vA sts.length 0) p.see.length).getD a []=kE (vP p.see sts t) (vA sts.length 0) a:=fun a ha=>by simp [mA,List.getD,ha]
 have hrl:∀ a,(kE (vP p.see sts t) (vA sts.length 0) a).length=sts.length:=fun a=>by simp [kE,hll]
 have hrg:∀ a w,w<sts.length->(kE (vP p.see sts t) (vA sts.length 0) a).getD w 0=Ru.aF (vP p.see sts t) (vA sts.length 0) a (yQ (vP p.see sts t) a (w,0)) sts.length:=fun a w hw=>by simp [kE,vA,List.getD,hw]
 unfold aI9 bYj at hm hH;rw [hll] at hm hH;generalize aH (vP p.see sts t) (vA sts.length 0) F=V at *;generalize mA (vP p.see sts t) (vA sts.length 0) p.see.length=RR at *;unfold plD plC at *;refine xY.xR mixed Tryz.func76 k76 (by simp) fun hf=>?_;simp only [simprocAttr,-ZA,↓zU,↓zD,zV,zT,zW];refine .go (cr hm) ?_;simp only [simprocAttr,-ZA,↓zU,↓zD,zV,zT,zW,tJ,hv.hC]
 (repeat refine sd ?_)
 refine xQ (fun x:QP=>[(24,.int .i64 x.a),(23,.int .i64 p.see.length),(22,.sl 1 (cdR p.code)),(6,aV2 x.kO x.a),(5,.ref 0 3 0 0)]) (fun x=>⟨x.nx,x.xZ⟩)
  (IP p sts t (pmO sts.length V RR)) (fun x=>p.see.length-x.a) ⟨0,1,0,[],[(0,pmO sts.length V RR)]⟩ ⟨Nat.zero_le _,Nat.le_refl _,rfl,.inr rfl,rfl,by simp,.nil,fun h=>absurd rfl h,fun h=>absurd rfl h⟩ ?_ ?_
 ·unfold pmO aV2
  (refine xM.same ?_; simp [xP,Fr.get])
 rintro ⟨a,nx,kO,ks,xZ⟩ hI;obtain⟨ha,n0,h0,hkO,hkl,hks,hnd,hno,hnst⟩:=hI;simp only at ha n0 h0 hkO hkl hks hnd hno hnst;refine xN mixed ?_;by_cases hal:a<p.see.length
 case neg=>
  have hd:¬ ((a:Int)<(p.see.length:Int)):=by omega
  obtain rfl:a=p.see.length:=by omega
  have ha0:p.see.length≠0:=by omega
  unfold aV2;rw [if_neg ha0];simp only [simprocAttr,-ZA,↓zU,↓zD,zV,zT,zW,hd];have hn:=hnst ha0;rw [aAm] at hn;have hl2:((nH p sts t).map (rows .i64)).length=p.see.length:=by simp [nH]
  have hr:=iT.nst (nx:=nx) hn hl2.symm hnd (hno ha0) fun e he r hr=>by simp only [List.mem_map] at he;obtain⟨m,_,rfl⟩:=he;exact uG _ _ r hr
  rw [hl2] at hr;exact hr
 have hd:((a:Int)<(p.see.length:Int)):=by omega
 have hac:a<p.code.length:=by rw [hv.hC]; exact hal
 have hdc:((a:Int)<(p.code.length:Int)):=by omega
 have hg:=aU8 p.code hac;have hmem:=xS (d:=[]) hac;have hbw:=aT6 (p.code.getD a [])
 have hF0:mvF p sts t a (p.code.getD a []).length=List.replicate sts.length (-1):=by unfold mvF;rw [List.drop_length];refine List.eq_replicate_iff.2 ⟨by simp,fun x hx=>?_⟩;simp only [List.mem_map] at hx;obtain⟨w,_,rfl⟩:=hx;rfl
 have hF1:∀ j w,j<(p.code.getD a []).length->sU p.see sts t a w ((p.code.getD a []).drop j)= if knT p.see sts t a ((p.code.getD a []).getD j cl0).test w=true then((p.code.getD a []).getD j cl0).mv else sU p.see sts t a w ((p.code.getD a []).drop (j+1)):=fun j w hj=>by rw [drop_cons (d:=cl0) hj]; rfl
 have hFm:∀ j,mvF p sts t a j=(List.range sts.length).map fun w=>sU p.see sts t a w ((p.code.getD a []).drop j):=fun j=>rfl;have hsu:=aRq p sts t a
 have hE:∀ j,j<(p.code.getD a []).length->fmE p ((p.code.getD a []).getD j cl0).test 15=0:=fun j hj=>by
  have:=hv.code _ hmem _ (xS (d:=cl0) hj);unfold clE at this
  split at this
  ·rename_i h1; exact absurd this h1
  ·rename_i h1; simpa using h1
 have hl6:=hv.cl _ hmem;generalize p.code.getD a []=cl at *;have c0:¬ (nx=0):=by omega
 simp only [simprocAttr,-ZA,↓zU,↓zD,zV,zT,zW,hd,hdc,tJ,hg,h0,pmO,c0]
 (repeat refine sd ?_)
 refine .go (aPr ⟨hR.1,by omega⟩ _) ?_;simp only [simprocAttr,-ZA,↓zU,↓zD,zV,zT,zW]
 (repeat refine sd ?_)
 refine .go (cr hbw) ?_;simp only [simprocAttr,-ZA,↓zU,↓zD,zV,zT,zW]
 refine aHp rfl bU3 rfl (.inl rfl) ⟨by decide,by decide⟩ (fun k σk=>∃ m ob,σk=⟨m,ob⟩/\ nx+3<=m/\St.look ob (nx+1+1)= some ⟨1,[[.osl (nx+1) 1 sts.length]]⟩/\ St.look ob (nx+1)= some ⟨1,rows .i64 (mvF p sts t a (cl.length-k))⟩/\ St.look ob nx=some ⟨1,[[.int .i64 a]]⟩/\ ∀ k,k<nx->St.look ob k=St.look xZ k) ?_ ?_ ?_
 ·refine⟨_,_,rfl,Nat.le_refl _,?_,?_,?_,fun k hk=>?_⟩
  ·rw [xX,if_pos rfl]
  ·rw [xX,if_neg (by omega),xX,if_pos rfl,Nat.sub_zero,hF0]
  ·rw [xX,if_neg (by omega),xX,if_neg (by omega),xX,if_pos rfl]
  ·rw [xX,if_neg (by omega),xX,if_neg (by omega),xX,if_neg (by omega)]
 ·intro l k σk hk ⟨m,ob,e0,hm3,h2,h1,hx,hold⟩;subst e0;rw [jM] at hk ⊢;have hj:cl.length-1-k<cl.length:=by omega
  have hg1:=aLl cl hj;have hE1:=hE _ hj;have hF2:=fun w=>hF1 (cl.length-1-k) w hj;rw [show cl.length-1-k+1=cl.length-k by omega] at hF2;have e1:cl.length-(k+1)= cl.length-1-k:=by omega
  rw [e1];have hm1:=hFm (cl.length-k);have hm2:=hFm (cl.length-1-k);generalize cl.length-1-k=j at *;generalize cl.length-k=j1 at *;have hH1:=hH _ hE1;generalize cl.getD j cl0=c at *;unfold ClA.row at hg1;have h0':St.look ob 0=some (pmO sts.length V RR):=by rw [hold 0 (by omega)]; exact h0
  unfold pmO at h0';have q1:¬ (m=nx+1+1):=by omega
  have q2:¬ (m=nx+1):=by omega
  have q3:¬ (m=nx):=by omega
  have q4:¬ (m=0):=by omega
  refine xN mixed ?_;simp only [simprocAttr,-ZA,↓zU,↓zD,zV,zT,zW,hg1]
  (repeat refine sd ?_)
  refine xN mixed ?_;simp only [simprocAttr,-ZA,↓zU,↓zD,zV,zT,zW,q1,q2,q3,q4,h0',h1,h2,hx]
  (repeat refine sd ?_)
  refine .go (cr hH1) ?_;simp only [simprocAttr,-ZA,↓zU,↓zD,zV,zT,zW,q1,q2,q3,q4,h0',h1,h2,hx]
  (repeat refine sd ?_)
  have hga:=nD RR (show a<RR.length by omega);rw [hRg a hal] at hga;have hla:=hrl a;have hda:((a:Int)<(RR.length:Int)):=by omega
  refine xQ (fun x:Nat × List (Nat × Ob)=>[(46,.int .i64 x.1),(45,.int .i64 sts.length),(12,.int .u64 (ui (bVi p.see sts t c.test))),(11,.ref m 2 0 0),(9,.ref (nx+1+1) 1 0 0),(7,.ref nx 1 0 0),(5,.ref 0 3 0 0)]) (fun x=>⟨m+1,x.2⟩)
   (fun x=>x.1<=sts.length/\St.look x.2 m=some ⟨2,[[.sl 6 (ndR c.test),.int .i64 c.mv]]⟩/\ St.look x.2 (nx+1)= some ⟨1,rows .i64 (aV3 sts.length (fun w=>sU p.see sts t a w (cl.drop j)) (fun w=>sU p.see sts t a w (cl.drop j1)) x.1)⟩/\ ∀ k,k<m->k≠nx+1->St.look x.2 k=St.look ob k)
   (fun x=>sts.length-x.1) (0,(m,⟨2,[[.sl 6 (ndR c.test),.int .i64 c.mv]]⟩) :: ob) ⟨Nat.zero_le _,by rw [xX,if_pos rfl],by rw [xX,if_neg (by omega),h1,hm1,aJe],fun k hk _=>by rw [xX,if_neg (by omega)]⟩ ?_ ?_
  ·(refine xM.same ?_; simp [xP,Fr.get])
  rintro ⟨w,ob'⟩ ⟨hw,g1,g2,g3⟩;simp only at hw g1 g2 g3;have g4:St.look ob' (nx+1+1)= some ⟨1,[[.osl (nx+1) 1 sts.length]]⟩:=by rw [g3 _ (by omega) (by omega)]; exact h2
  have g5:St.look ob' nx=some ⟨1,[[.int .i64 a]]⟩:=by rw [g3 _ (by omega) (by omega)]; exact hx
  have g6:St.look ob' 0=some ⟨3,[[.int .i64 (sts.length:Int),.sl 1 (us V),.sl 1 (rr RR)]]⟩:=by rw [g3 _ (by omega) (by omega)]; exact h0'
  refine xN mixed ?_;by_cases hwl:w<sts.length
  case neg=>
   have hd3:¬ ((w:Int)<(sts.length:Int)):=by omega
   rw [aF4 _ _ _ (by omega),<- hm2] at g2;simp only [simprocAttr,-ZA,↓zU,↓zD,zV,zT,zW,hd3];exact⟨[],⟨m+1,ob'⟩,xM.same trivial,m+1,ob',rfl,by omega,g4,g2,g5,fun k hk=>by rw [g3 k (by omega) (by omega)]; exact hold k hk⟩
  have hd3:((w:Int)<(sts.length:Int)):=by omega
  have hgw:=uW (kE (vP p.see sts t) (vA sts.length 0) a) (show w<_ by rw [hla]; exact hwl);rw [hrg a w hwl] at hgw;have hkn:=hK a w hal hwl c.test;generalize Ru.aF (vP p.see sts t) (vA sts.length 0) a (yQ (vP p.see sts t) a (w,0)) sts.length=xr at hgw hkn;have hF3:=hF2 w;have hms:=aF2 sts.length (fun w=>sU p.see sts t a w (cl.drop j)) (fun w=>sU p.see sts t a w (cl.drop j1)) w;have hml:=aF3 sts.length (fun w=>sU p.see sts t a w (cl.drop j)) (fun w=>sU p.see sts t a w (cl.drop j1)) w;have hme:=@aJf sts.length (fun w=>sU p.see sts t a w (cl.drop j)) (fun w=>sU p.see sts t a w (cl.drop j1)) w
  cases hc:knT p.see sts t a c.test w with
  | false=>
   rw [hc] at hkn hF3;rw [if_neg (by simp)] at hF3;simp only [simprocAttr,-ZA,↓zU,↓zD,zV,zT,zW,hd3,g1,g2,g4,g5,g6,hda,hga,hla,hgw,hkn,zP,xK]
   (repeat refine sd ?_)
   refine⟨(w+1,ob'),⟨by show w+1<=_; omega,g1,by show St.look ob' _=some ⟨1,rows .i64 (aV3 _ _ _ (w+1))⟩; rw [hme hF3]; exact g2,g3⟩,?_,by show sts.length-(w+1)<sts.length-w; omega⟩
   (refine xM.same ?_; simp only [xP,Fr.get,simprocAttr,-ZA,zS])
   exact wrap_i64 (by omega)
  | true=>
   rw [hc] at hkn hF3;rw [if_pos rfl] at hF3;rw [hF3] at hms;generalize aV3 sts.length (fun w=>sU p.see sts t a w (cl.drop j)) (fun w=>sU p.see sts t a w (cl.drop j1)) w=M at *;have hgM:=yX .i64 M (show w<M.length by omega);simp only [simprocAttr,-ZA,↓zU,↓zD,zV,zT,zW,hd3,g1,g2,g4,g5,g6,hda,hga,hla,hgw,hkn,zP,xK,yW,hml,hgM,aGn,hms]
   (repeat refine sd ?_)
   refine⟨(w+1,uR ob' (nx+1) ⟨1,rows .i64 (aV3 sts.length (fun w=>sU p.see sts t a w (cl.drop j)) (fun w=>sU p.see sts t a w (cl.drop j1)) (w+1))⟩),⟨by show w+1<=_; omega,?_,?_,fun k hk hk2=>?_⟩,?_,by show sts.length-(w+1)<sts.length-w; omega⟩
   ·show St.look (uR _ _ _) _=_;rw [xV,if_neg (by omega)]; exact g1
   ·show St.look (uR _ _ _) _=_;rw [xV,if_pos rfl,g2]; rfl
   ·show St.look (uR _ _ _) _=_;rw [xV,if_neg (fun e=>hk2 e.symm)]; exact g3 k hk hk2
   ·(refine xM.same ?_; simp only [xP,Fr.get,simprocAttr,-ZA,zS])
    exact wrap_i64 (by omega)
 ·intro σ' ⟨m,ob,e0,hm3,h2,h1,hx,hold⟩;subst e0;rw [jM,Nat.sub_self] at h1;have hI:IP p sts t (pmO sts.length V RR) ⟨a,nx,kO,ks,xZ⟩:=⟨ha,n0,h0,hkO,hkl,hks,hnd,hno,hnst⟩;have hRl2:(mvF p sts t a 0).length=sts.length:=by simp [mvF]
  have q1:¬ (m=nx+1+1):=by omega
  by_cases ha0:a=0
  ·subst ha0;unfold aV2;simp only [simprocAttr,-ZA,↓zU,↓zD,zV,zT,zW,h2,q1]
   (repeat refine sd ?_)
   refine⟨⟨0+1,m+1+1,m+1,ks ++ [nx+1],(m+1,⟨1,[[.osl (nx+1) 1 sts.length]]⟩) :: (m,⟨1,[[.osl (nx+1) 1 sts.length]]⟩) :: ob⟩,IP.step hI hal hm3 ?_ ?_ ?_,?_,by show p.see.length-(0+1)<_; omega⟩
   ·rw [xX,if_pos rfl];show _=some (Ob.mk 1 (pU (ks ++ [nx+1]) (mvE p sts t (0+1))));obtain rfl:ks = []:=List.eq_nil_of_length_eq_zero hkl;rw [hsu];simp [pU,mvE,yW,hRl2]
   ·rw [xX,if_neg (by show ¬ m+1=nx+1; omega),xX,if_neg (by show ¬ m=nx+1; omega)];exact h1
   ·intro k hk _;have hk:k<nx:=hk;rw [xX,if_neg (by omega),xX,if_neg (by omega)];exact hold k hk
   ·simp only [Nat.zero_add,Nat.one_ne_zero,↓reduceIte]
    (refine xM.same ?_; simp only [xP,Fr.get,simprocAttr,-ZA,zS])
    all_goals rfl
  ·have hkO2:0<kO/\kO<nx:=by rcases hkO with h | h <;> omega
   have hn:=hnst ha0;have ho:=hn.out;unfold aV2;rw [if_neg ha0];have ho2:St.look ob kO=some ⟨1,pU ks (mvE p sts t a)⟩:=by rw [hold kO hkO2.2]; exact ho
   have q2:¬ (m=kO):=by omega
   have hnl:=tW hn.len;rw [fT] at hnl;have htk:(pU ks (mvE p sts t a)).take a=pU ks (mvE p sts t a):=List.take_of_length_le (by omega);simp only [simprocAttr,-ZA,↓zU,↓zD,zV,zT,zW,h2,q1,q2,ho2,hnl,htk]
   (repeat refine sd ?_)
   refine⟨⟨a+1,m+1+1,m+1,ks ++ [nx+1],(m+1,⟨1,pU ks (mvE p sts t a)++ [[.osl (nx+1) 1 sts.length]]⟩) :: (m,⟨1,[[.osl (nx+1) 1 sts.length]]⟩) :: yF ob kO⟩,IP.step hI hal hm3 ?_ ?_ ?_,?_,by show p.see.length-(a+1)<_; omega⟩
   ·rw [xX,if_pos rfl];show _=some (Ob.mk 1 (pU (ks ++ [nx+1]) (mvE p sts t (a+1))));have:=aWb hn.len (nx+1) (rows .i64 (mvF p sts t a 0));rw [yW,hRl2] at this;rw [this,hsu]
   ·rw [xX,if_neg (by show ¬ m+1=nx+1; omega),xX,if_neg (by show ¬ m=nx+1; omega),xG,if_neg (by show ¬ kO=nx+1; omega)];exact h1
   ·intro k hk hk2;have hk:k<nx:=hk;have hk2:k≠kO:=hk2.resolve_left ha0;rw [xX,if_neg (by omega),xX,if_neg (by omega),xG,if_neg (fun e=>hk2 e.symm)];exact hold k hk
   ·simp only [Nat.add_one_ne_zero,↓reduceIte]
    (refine xM.same ?_; simp only [xP,Fr.get,simprocAttr,-ZA,zS])
    exact wrap_i64 (by omega)
end Go.Pd
