/- Part CF. -/
import Derived.Test.YtccobgpcnfjbhaaZcCC
import Derived.Test.YtccobgpcnfjbhaaZcXA
set_option linter.unusedSectionVars false
set_option linter.unusedVariables false
set_option linter.unusedSimpArgs false
set_option linter.defProp false
set_option maxRecDepth 20000
set_option maxHeartbeats 1000000
open Go.Proofs.Try
open Nat renaming le_refl->γ,mul_comm->δ,zero_le->ε
open List renaming length_map->ζ,map_congr_left->η,getElem_mem->θ,ext_getElem->μ
namespace Go.Pd
open Go Go.Proofs
open BitVec renaming isValue -> ZA
open Ru
namespace Ru
def vP (rs:List xN) (b:Bool):Nat->Nat × Nat->List Int:=if b=true then lN rs else oZ rs
end Ru
theorem eR {rs:List xN} {A F T:Nat} (ok:lS rs A F T) (hA0:0<A) (b:Bool):yA prog 57 [sD A F T rs,.bool b] (sD A F T (mG rs A T (vP rs b))):=by
 have hP:=iV ⟨A,F,T,rs⟩;obtain⟨T1,T16⟩:=ok.hT;obtain⟨R1,R64⟩:=ok.hR;have hz:=nH ok;have ep:kJ ⟨A,F,T,rs⟩= oE T (rs.length*T):=by unfold kJ; rw [if_neg (by simpa using hz)]; rfl
 rw [ep] at hP;have hD:wQ.d ⟨A,F,T,rs⟩= .agg [.int .i64 (A:Int),.int .i64 (F:Int),.int .i64 (T:Int),.sl 2 (xK rs)]:=rfl;rw [hD] at hP;have hA:=ok.hA;have hin:Tn rs T (oE T (rs.length*T)):=ft T1 (γ _);have hln:=hE T (rs.length*T);have hlg:∀ w,w<rs.length*T->(oE T (rs.length*T)).getD w (0,0)= (w / T,w % T):=λw h=>pk T h;have hRT:=ok.hP;have hRT1:1<=rs.length*T:=Nat.mul_le_mul R1 T1;have hm1:rs.length*(T+1)<=600:=by rw [Nat.mul_add]; omega
 have hC2:=oh ok hA0 2 [(1,⟨4,[[.int .i64 0,.int .i64 0,.int .i64 0,.xZ]]⟩),(0,⟨4,[[.int .i64 (A:Int),.int .i64 (F:Int),.int .i64 (T:Int),.sl 2 (xK rs)]]⟩)];have hC3:=oh ok hA0 3 [(2,⟨4,[[.int .i64 0,.int .i64 0,.int .i64 0,.xZ]]⟩),(1,⟨4,[[.int .i64 0,.int .i64 0,.int .i64 0,.xZ]]⟩),(0,⟨4,[[.int .i64 (A:Int),.int .i64 (F:Int),.int .i64 (T:Int),.sl 2 (xK rs)]]⟩)];have hgn:=@Wk 2 rs A T (rD rs) [(1,⟨4,[[.int .i64 0,.int .i64 0,.int .i64 0,.xZ]]⟩),(0,⟨4,[[.int .i64 (A:Int),.int .i64 (F:Int),.int .i64 (T:Int),.sl 2 (xK rs)]]⟩)] (by omega) rfl (by omega);have o20:=hgn.lb 0 (by omega);have o21:=hgn.lb 1 (by omega)
 have hlow:∀ k,k<3->St.look (sE 3 rs A T (rD rs)++ [(2,⟨4,[[.int .i64 0,.int .i64 0,.int .i64 0,.xZ]]⟩),(1,⟨4,[[.int .i64 0,.int .i64 0,.int .i64 0,.xZ]]⟩),(0,⟨4,[[.int .i64 (A:Int),.int .i64 (F:Int),.int .i64 (T:Int),.sl 2 (xK rs)]]⟩)]) k=St.look [(2,⟨4,[[.int .i64 0,.int .i64 0,.int .i64 0,.xZ]]⟩),(1,⟨4,[[.int .i64 0,.int .i64 0,.int .i64 0,.xZ]]⟩),(0,⟨4,[[.int .i64 (A:Int),.int .i64 (F:Int),.int .i64 (T:Int),.sl 2 (xK rs)]]⟩)] k:=λk hk=>by rw [vH,eX (.inl hk)]; rfl
 have o30:=hlow 0 (by omega);have o31:=hlow 1 (by omega);have o32:=hlow 2 (by omega)
 have hn3:∀ k,3<=k->k<3+(1+rs.length*(T+1))->St.look (sE 3 rs A T (rD rs)++ [(2,⟨4,[[.int .i64 0,.int .i64 0,.int .i64 0,.xZ]]⟩),(1,⟨4,[[.int .i64 0,.int .i64 0,.int .i64 0,.xZ]]⟩),(0,⟨4,[[.int .i64 (A:Int),.int .i64 (F:Int),.int .i64 (T:Int),.sl 2 (xK rs)]]⟩)]) k=St.look (sE 3 rs A T (rD rs)) k:=λk h1 h2=>by rw [vH,xU (by omega),xU (by omega),xU (by omega)]; exact Option.or_none
 simp only [yZ,reduceIte,Nat.reduceEqDiff] at o20 o21 o30 o31 o32
 have h2m:∀ q ∈ sE 2 rs A T (rD rs)++ [(1,⟨4,[[.int .i64 0,.int .i64 0,.int .i64 0,.xZ]]⟩),(0,⟨4,[[.int .i64 (A:Int),.int .i64 (F:Int),.int .i64 (T:Int),.sl 2 (xK rs)]]⟩)],q ∈ sE 2 rs A T (rD rs)\/q=(1,⟨4,[[.int .i64 0,.int .i64 0,.int .i64 0,.xZ]]⟩)\/q=(0,⟨4,[[.int .i64 (A:Int),.int .i64 (F:Int),.int .i64 (T:Int),.sl 2 (xK rs)]]⟩):=λq hq=>by
  rcases List.mem_append.1 hq with h | h
  ·exact .inl h
  ·exact .inr (by simpa using h)
 have hkb:∀ q ∈ sE 2 rs A T (rD rs),2<=q.1/\q.1<2+(1+rs.length*(T+1)):=λq hq=>by
  rcases xw q hq with rfl | ⟨i,u,hi,hu,rfl⟩
  ·exact⟨γ _,by show 2<_; omega⟩
  ·exact⟨by show 2<=kC 2 T i u; unfold kC; omega,nQ hi hu⟩
 have hst:=λ{σ σ':St} {ρ:Nat->Nat}=>@jw 3 2 rs A T (rD rs) σ σ' ρ;generalize sE 3 rs A T (rD rs)++ [(2,(⟨4,[[.int .i64 0,.int .i64 0,.int .i64 0,.xZ]]⟩:Ob)),(1,⟨4,[[.int .i64 0,.int .i64 0,.int .i64 0,.xZ]]⟩),(0,⟨4,[[.int .i64 (A:Int),.int .i64 (F:Int),.int .i64 (T:Int),.sl 2 (xK rs)]]⟩)]=O3 at *;generalize sE 2 rs A T (rD rs)++ [(1,(⟨4,[[.int .i64 0,.int .i64 0,.int .i64 0,.xZ]]⟩:Ob)),(0,⟨4,[[.int .i64 (A:Int),.int .i64 (F:Int),.int .i64 (T:Int),.sl 2 (xK rs)]]⟩)]=O2 at *;generalize hM:1+rs.length*(T+1)= M at *;have hM2:1<=M/\M<=601:=by omega
 unfold mG;generalize oE T (rs.length*T)= l at hP hin hln hlg ⊢;unfold sD;refine zL func57 Tu λhf=>?_;simp only [simprocAttr,-ZA,↓zU,↓zD,zV,zT,zW,↓ye]
 (refine cA mixed ?_; unfold yq; simp only [simprocAttr,-ZA,↓zU,↓zD,zV,zT,zW,↓gS,↓gT,↓im,↓iq,↓ir,↓iu,↓iv,↓iw,↓mS,vR,vC])
 refine jC.go hC2 ?_;have w1:¬ 2+M=0:=by omega
 have w2:¬ 2+M=1:=by omega
 have hP':∀ σ:St,xS prog 108 [.agg [.int .i64 A,.int .i64 F,.int .i64 T,.sl 2 (xK rs)]] σ (.sl 2 (mT l)) σ:=λσ=>xS.vV hP rfl
 (simp only [simprocAttr,-ZA,↓zU,↓zD,zV,zT,zW,↓gS,↓gT,↓im,↓iq,↓ir,↓iu,↓iv,↓iw,↓mS,vR,vC,o20,o21,w1,w2])
 repeat (first | (refine lG.go (hP' _) ?_; (simp only [simprocAttr,-ZA,↓zU,↓zD,zV,zT,zW,↓gS,↓gT,↓im,↓iq,↓ir,↓iu,↓iv,↓iw,↓mS,vR,vC,o20,o21,o30,o31,o32,w1,w2])) | (refine jC.go hC3 ?_; (simp only [simprocAttr,-ZA,↓zU,↓zD,zV,zT,zW,↓gS,↓gT,↓im,↓iq,↓ir,↓iu,↓iv,↓iw,↓mS,vR,vC,o20,o21,o30,o31,o32,w1,w2])) | (refine And.intro (lG.go (hP' _) (by(simp only [simprocAttr,-ZA,↓zU,↓zD,zV,zT,zW,↓gS,↓gT,↓im,↓iq,↓ir,↓iu,↓iv,↓iw,↓mS,vR,vC,o20,o21,o30,o31,o32,w1,w2]))) ?_))
 refine And.intro ?_ ?_
 ·have hkm:∀ q ∈ (2+M,(⟨4,[[.int .i64 A,.int .i64 F,.int .i64 T,.yW 2 2 rs.length]]⟩:Ob)) :: O2,q.1<2+M+1:=λq hq=>by
   rcases List.mem_cons.1 hq with rfl | hq
   ·show 2+M<2+M+1; omega
   ·rcases h2m q hq with h | rfl | rfl
    ·have:=hkb q h; omega
    ·show 1<2+M+1; omega
    ·show 0<2+M+1; omega
  obtain⟨ρ,r0,r1,r2,rM,rk,ri⟩:∃ ρ:Nat->Nat,ρ 0=0/\ρ 1=1/\ρ 2=3/\ρ (2+M)= 2/\(∀ k,k<M->ρ (2+k)= 3+k)/\ ∀ j k,j<2+M+1->k<2+M+1->ρ j=ρ k->j=k:=
   ⟨λk=>if k=2+M then 2 else if 2<=k then k+1 else k,by show (if 0=2+M then 2 else if 2<=0 then 0+1 else 0)= 0; rw [if_neg (by omega),if_neg (by omega)],by show (if 1=2+M then 2 else if 2<=1 then 1+1 else 1)= 1; rw [if_neg (by omega),if_neg (by omega)],by show (if 2=2+M then 2 else if 2<=2 then 2+1 else 2)= 3; rw [if_neg (by omega),if_pos (by omega)],if_pos rfl,λk hk=>by
    show (if 2+k=2+M then 2 else if 2<=2+k then 2+k+1 else 2+k)= 3+k;rw [if_neg (by omega),if_pos (by omega)]; omega,λj k hj hk h=>by
    simp only at h;split at h <;> split at h <;> (try split at h) <;> (try split at h) <;> omega⟩
  refine yO.view ρ (ε _) (λk hk=>absurd hk (Nat.not_lt_zero _)) ?_ ?_ λp hp q hq e=>ri p.1 q.1 (hkm p hp) (hkm q hq) e
  ·simp only [vX,zQ,simprocAttr,-ZA,exists_eq_left',ne_eq,zR,r0,r1,r2,rM];exact⟨by omega,by omega⟩
  ·intro q hq;refine⟨hkm q hq,?_⟩
   rcases List.mem_cons.1 hq with rfl | hq
   ·refine⟨⟨4,[[.int .i64 A,.int .i64 F,.int .i64 T,.yW 3 2 rs.length]]⟩,?_,rfl,.cons rfl ?_ .nil⟩
    ·show St.look (zJ O3 2 _) (ρ (2+M))= _;rw [rM]; exact uN o32
    ·simp only [tV,vw,r2,and_true,true_and];omega
   ·rcases h2m q hq with h | rfl | rfl
    ·exact(hst (σ:=⟨3+M,zJ O3 2 ⟨4,[[.int .i64 A,.int .i64 F,.int .i64 T,.yW 3 2 rs.length]]⟩⟩) (σ':=⟨2+M+1,(2+M,⟨4,[[.int .i64 A,.int .i64 F,.int .i64 T,.yW 2 2 rs.length]]⟩) :: O2⟩) (by show 2+M<=2+M+1; omega) rk (λk h1 h2=>by show St.look (zJ O3 2 _) k=_; rw [xG,if_neg (by omega),hn3 k h1 h2]) q h).2
    ·refine⟨⟨4,[[.int .i64 0,.int .i64 0,.int .i64 0,.xZ]]⟩,?_,rfl,.same (by simp [D.xT,D.xJ])⟩;show St.look (zJ O3 2 _) (ρ 1)= _;rw [r1,xG,if_neg (by omega)]; exact o31
    ·refine⟨⟨4,[[.int .i64 (A:Int),.int .i64 (F:Int),.int .i64 (T:Int),.sl 2 (xK rs)]]⟩,?_,rfl,.same (by simp [D.xT,D.xJ])⟩;show St.look (zJ O3 2 _) (ρ 0)= _;rw [r0,xG,if_neg (by omega)]; exact o30
 clear hlow o30 o31 o32 hC3 hC2 hst hn3 h2m;have hloc:∀ i t,i<rs.length->t<T->(rD rs i t).length=A:=λi t hi ht=>ok.row _ (yX hi) _ (yX (by rw [ok.loc _ (yX hi)]; exact ht))
 have hgn2:GN (T+1) (rW rs T) (jd A T (uI rs (yB (vP rs b) l) A T 0 0)) 2 (2+M) rs.length 2 (kC 2 T) [(1,⟨4,[[.int .i64 0,.int .i64 0,.int .i64 0,.xZ]]⟩),(0,⟨4,[[.int .i64 (A:Int),.int .i64 (F:Int),.int .i64 (T:Int),.sl 2 (xK rs)]]⟩)] ((2+M,⟨4,[[.int .i64 A,.int .i64 F,.int .i64 T,.yW 2 2 rs.length]]⟩) :: O2):=by
  refine(hgn.frame (λk hk=>xU (by omega)) (by rw [xU (by omega)]; exact hgn.fr)).val λi u hi hu=>?_
  cases u with
  | zero=>rfl
  | succ t=> show (⟨1,rows .i64 (rD rs i t)⟩:Ob)= ⟨1,rows .i64 (uI rs _ A T 0 0 i t)⟩;rw [<- nq (hloc i t hi (by omega))]
 clear hgn
 refine rI (λa:Nat × Nat × List (Nat × Ob)=>[(7,.int .i64 a.1),(6,.sl 2 (mT l)),(5,.ref (2+M) 4 0 0),(4,.ref 1 4 0 0),(2,.ref 0 4 0 0),(1,.bool b)]) (λa=>⟨a.2.1,a.2.2⟩)
  (λa=>a.1<=A/\2+M+1<=a.2.1/\a.2.1<=2+M+1+600*a.1/\GN (T+1) (rW rs T) (jd A T (uI rs (yB (vP rs b) l) A T a.1 0)) 2 (2+M) rs.length 2 (kC 2 T) [(1,⟨4,[[.int .i64 0,.int .i64 0,.int .i64 0,.xZ]]⟩),(0,⟨4,[[.int .i64 (A:Int),.int .i64 (F:Int),.int .i64 (T:Int),.sl 2 (xK rs)]]⟩)] a.2.2/\St.look a.2.2 (2+M)= some ⟨4,[[.int .i64 A,.int .i64 F,.int .i64 T,.yW 2 2 rs.length]]⟩) (λa=>A-a.1)
  (0,2+M+1,(2+M,⟨4,[[.int .i64 A,.int .i64 F,.int .i64 T,.yW 2 2 rs.length]]⟩) :: O2) ⟨ε _,γ _,by simp,hgn2,by simp [yZ]⟩ ?_ ?_
 ·exact wI
 clear hgn2 o20 o21;intro ⟨a,nx,xW⟩ ⟨ha,x1,x2,hI,ho⟩;simp only at ha x1 x2 hI ho ⊢;have b0:=hI.lb 0 (by omega);have b1:=hI.lb 1 (by omega);simp only [yZ,reduceIte,Nat.reduceEqDiff] at b0 b1;refine xE mixed ?_;by_cases hal:a<A
 case neg=>
  have hd:¬ ((a:Int)<(A:Int)):=by omega
  obtain rfl:A=a:=by omega
  have hren:rU rs A T (yB (vP rs b) l)= (List.range rs.length).map λi=>⟨(List.range T).map (uI rs (yB (vP rs b) l) A T A 0 i),(rs.getD i yF).zM⟩:=by unfold rU;refine η λi _=>?_;congr 1;exact η λt _=>(dn _ _ _ _ _ _).symm
  have hrl':(xK (rU rs A T (yB (vP rs b) l))).length=rs.length:=by simp [xK,rU]
  generalize rU rs A T (yB (vP rs b) l)= rs' at hren hrl' ⊢;refine uA hd b0 ?_;refine .go _ _ ((Sm (F:=F) hI rfl (by omega) (by omega) (by omega) ho b1 (λi t _ _=>fV _ _ _ _ _ _ _ _) (by simp [Fr.get]) (by simp [Fr.get])).trans (Sn (rs':=rs') rfl (by omega) hM (λi _=>by simp [rl]) hren)) ?_;unfold VN;have z1:¬ 2+M=1:=by omega
  have z2:¬ 2+M=2:=by omega
  refine uA z1 z2 ?_
  (refine rT.uz [] [] (by simp) (by simp) (by decide) ?_; simp only [vX,zQ,simprocAttr,-ZA,exists_eq_left',ne_eq,zR,yY,hrl'])
  exact⟨λ_ h=>h.elim,⟨2,xK rs'⟩,by rw [if_neg z2],rfl,by rw [hrl']; exact γ _,(uH hrl'.symm).symm,rH _⟩
 have hd:((a:Int)<(A:Int)):=by omega
 have hll:l.length<=512:=by omega
 refine uA hd b0 ?_
 refine xO (λw:Nat × Nat × List (Nat × Ob) × Nat=>[(9,.int .i64 w.1),(8,xI w.2.2.2 1 (rl ((l.map (vP rs b a)).take w.1))),(7,.int .i64 a),(6,.sl 2 (mT l)),(5,.ref (2+M) 4 0 0),(4,.ref 1 4 0 0),(2,.ref 0 4 0 0),(1,.bool b)]) (λw=>⟨w.2.1,w.2.2.1⟩)
  (λw=>w.1<=l.length/\nx<=w.2.1/\w.2.1<=nx+w.1/\St.look w.2.2.1 w.2.2.2=zN 1 (rl ((l.map (vP rs b a)).take w.1))/\ ((nx<=w.2.2.2/\w.2.2.2<w.2.1)\/w.2.2.2=1000000)/\ (∀ k,k<nx->St.look w.2.2.1 k=St.look xW k)/\ St.look w.2.2.1 1000000=none) (λw=>l.length-w.1)
  (0,nx,xW,1000000) ⟨ε _,γ _,by simp,hI.fr,.inr rfl,λk _=>rfl,hI.fr⟩ ?_ ?_
 ·(refine yO.same ?_; simp [wZ,Fr.get,xI,rl])
 intro ⟨w,nx1,objs1,kk⟩ ⟨hw,p1,p2,lk,hkk,uD,fr⟩;simp only at hw p1 p2 lk hkk uD fr ⊢;have c0:=uD 0 (by omega);rw [b0] at c0;refine xE mixed ?_
 by_cases hwl:w<l.length
 ·have hd2:((w:Int)<(l.length:Int)):=by omega
  have hp:=hin _ (yX (d:=(0,0)) hwl);have hpg:=hU l hwl
  have hS:(l.map (vP rs b a)).take (w+1)= (l.map (vP rs b a)).take w ++ [vP rs b a (l.getD w (0,0))]:=by rw [yD (d:=[]) (by rw [ζ]; exact hwl)];congr 2;simp [List.getD,hwl]
  have htl:((l.map (vP rs b a)).take w).length=w:=by rw [List.length_take,ζ]; omega
  have hH:=mg ok hal hp;have hL:=ot ok hal hp
  have hkf:vP rs b a (l.getD w (0,0))= if b=true then lN rs a (l.getD w (0,0)) else [((l.getD w (0,0)).2:Int),iH rs a (l.getD w (0,0))]:=by unfold vP oZ;split <;> rfl
  generalize l.getD w (0,0)= p at hp hpg hS hH hL hkf;obtain⟨i,t⟩:=p;simp only at hp hpg hH hL hkf;rw [hkf] at hS;unfold sD at hH hL;generalize lN rs a (i,t)= hh at *;generalize iH rs a (i,t)= lo at *;generalize (l.map (vP rs b a)).take w=ks at hS htl lk ⊢
  have hG:∀ x:List Int,(l.map (vP rs b a)).take (w+1)= ks ++ [x]->(w+1<=l.length/\nx<=nx1+1/\nx1+1<=nx+(w+1)/\ St.look (xM nx1 1 (rl ks ++ [[D.sl 1 (rows .i64 x)]])++ yH objs1 kk) nx1=zN 1 (rl ((l.map (vP rs b a)).take (w+1)))/\ ((nx<=nx1/\nx1<nx1+1)\/nx1=1000000)/\ (∀ k,k<nx->St.look (xM nx1 1 (rl ks ++ [[D.sl 1 (rows .i64 x)]])++ yH objs1 kk) k=St.look xW k)/\ St.look (xM nx1 1 (rl ks ++ [[D.sl 1 (rows .i64 x)]])++ yH objs1 kk) 1000000=none):=λx hx=>by
   have hpos:0<(rl ks ++ [[D.sl 1 (rows .i64 x)]]).length:=by simp
   refine⟨by omega,by omega,by omega,?_,.inl ⟨by omega,by omega⟩,λk hk=>?_,?_⟩
   ·rw [hx,<- qM,xQ,if_pos rfl,yQ hpos]; rfl
   ·rw [xQ,if_neg (by omega),xH,if_neg (by omega),uD k hk]
   ·rw [xQ,if_neg (by omega),xH]
    split
    ·rfl
    ·exact fr
  cases b with
  | true=>
   rw [if_pos rfl] at hS;refine uv hd2 uC hpg c0 ?_;refine .go (cr hH) ?_;refine yz lk xP htl ?_;refine⟨(w+1,nx1+1,_,nx1),hG _ hS,?_,by show l.length-(w+1)<l.length-w; omega⟩;simp only [hS,<- qM]
   (refine yO.same ?_; simp only [wZ,Fr.get,simprocAttr,-ZA,zS])
   exact wrap_i64 (by omega)
  | false=>
   rw [if_neg (by simp)] at hS;refine uv hd2 uC hpg c0 ?_;refine .go (cr hL) ?_;refine yz lk xP htl ?_;refine⟨(w+1,nx1+1,_,nx1),hG _ hS,?_,by show l.length-(w+1)<l.length-w; omega⟩;have hr2:rows .i64 [(t:Int),lo] = [[.int .i64 (t:Int)],[.int .i64 lo]]:=rfl;simp only [hS,<- qM,hr2]
   (refine yO.same ?_; simp only [wZ,Fr.get,simprocAttr,-ZA,zS])
   exact wrap_i64 (by omega)
 have hd2:¬ ((w:Int)<(l.length:Int)):=by omega
 have hmp:(l.map (vP rs b a)).take w=l.map (vP rs b a):=uH (by rw [ζ]; omega);rw [hmp] at lk ⊢;have hLl:(l.map (vP rs b a)).length=l.length:=ζ _
 have hnums:(l.map (vP rs b a)).map (λx=>((pU (p9 (l.map (vP rs b a))) x (p9 (l.map (vP rs b a))).length:Nat):Int))= l.map (yB (vP rs b) l a):=by rw [List.map_map];refine η λp _=>?_;show ((pU _ _ _:Nat):Int)= ((below _ _:Nat):Int);rw [<- jj];unfold pU below;rw [List.take_length]
 have hrk:=Yl (l.map (vP rs b a)) (by omega) (by omega);rw [hnums,hLl] at hrk;have hNl:(l.map (yB (vP rs b) l a)).length=l.length:=ζ _;have hNg:∀ w,w<l.length->(l.map (yB (vP rs b) l a)).getD w 0=yB (vP rs b) l a (l.getD w (0,0)):=λw hw=>by simp [List.getD,hw]
 generalize hLe:l.map (vP rs b a)= L at lk hrk hLl ⊢;generalize l.map (yB (vP rs b) l a)= N at hrk hNl hNg;have hgk:xI kk 1 (rl L)= .yW kk 1 L.length:=by rw [sY (by rw [xP]; omega),xP]
 rw [yQ (by rw [xP]; omega)] at lk
 have hcall:xS prog 111 [.yW kk 1 L.length] ⟨nx1,objs1⟩ (.yW nx1 1 l.length) ⟨nx1+1,(nx1,⟨1,rows .i64 N⟩) :: objs1⟩:=by
  have h:=xS.Wt (σ:=⟨nx1,objs1⟩) (args:=[.yW kk 1 L.length]) hrk ⟨Seen.rows lk (by simp) (by decide) (xP L).symm (λe he=>by simp only [rl,List.mem_map] at he; obtain⟨x,_,rfl⟩:=he; rfl) (lC L),trivial⟩ (by simp [D.fl]) (λp hp e he=>by simp only [List.mem_singleton] at hp;subst hp;simp only [rows,List.mem_map] at he;obtain⟨x,_,rfl⟩:=he;simp [D.r9,D.fl])
  simp only [D.shift,yN,Nat.add_zero,Ob.shift,List.cons_append,List.nil_append] at h;rw [nP nx1 (vK .i64 N)] at h;exact h
 have hI2:=hI.frame (objs':=(nx1,⟨1,rows .i64 N⟩) :: objs1) (λk hk=>by rw [xU (by omega),uD k (by omega)]) (by rw [xU (by omega)]; exact fr);have ho2:St.look ((nx1,⟨1,rows .i64 N⟩) :: objs1) (2+M)= some ⟨4,[[.int .i64 A,.int .i64 F,.int .i64 T,.yW 2 2 rs.length]]⟩:=by rw [xU (by omega),uD _ (by omega)]; exact ho
 have hn2:St.look ((nx1,⟨1,rows .i64 N⟩) :: objs1) nx1=some ⟨1,rows .i64 N⟩:=by rw [yZ,if_pos rfl]
 refine cX hd2 uC hgk ?_;refine .go hcall ?_;generalize (nx1,(⟨1,rows .i64 N⟩:Ob)) :: objs1=objs2 at hI2 ho2 hn2 ⊢;refine wU ?_
 refine xO (λw:Nat × List (Nat × Ob)=>[(11,.int .i64 w.1),(10,.yW nx1 1 l.length),(7,.int .i64 a),(6,.sl 2 (mT l)),(5,.ref (2+M) 4 0 0),(4,.ref 1 4 0 0),(2,.ref 0 4 0 0),(1,.bool b)]) (λw=>⟨nx1+1,w.2⟩)
  (λw=>w.1<=l.length/\GN (T+1) (rW rs T) (jd A T (uI rs (yB (vP rs b) l) A T a w.1)) 2 (2+M) rs.length 2 (kC 2 T) [(1,⟨4,[[.int .i64 0,.int .i64 0,.int .i64 0,.xZ]]⟩),(0,⟨4,[[.int .i64 (A:Int),.int .i64 (F:Int),.int .i64 (T:Int),.sl 2 (xK rs)]]⟩)] w.2/\St.look w.2 (2+M)= some ⟨4,[[.int .i64 A,.int .i64 F,.int .i64 T,.yW 2 2 rs.length]]⟩/\ St.look w.2 nx1=some ⟨1,rows .i64 N⟩) (λw=>l.length-w.1)
  (0,objs2) ⟨ε _,hI2,ho2,hn2⟩ ?_ ?_
 ·exact wI
 clear hI hI2 ho ho2 hn2 hcall lk uD;intro ⟨w,objs3⟩ ⟨hw,hI,ho,hn⟩;simp only at hw hI ho hn ⊢;refine xE mixed ?_
 by_cases hwl:w<l.length
 ·have hd3:((w:Int)<(l.length:Int)):=by omega
  have hp:=hin _ (yX (d:=(0,0)) hwl);have hpg:=hU l hwl;have hpe:=hlg w (by omega);have hNw:=hNg w hwl;have hwe:(w / T)* T+w % T=w:=by rw [δ]; exact Nat.div_add_mod w T
  rw [hpe] at hp hpg hNw;generalize w / T=i at hp hpg hwe hNw;generalize w % T=t at hp hpg hwe hNw;simp only at hp hpg;obtain⟨hp1,hp2⟩:=hp;have hng:=yU .i64 N (show w<N.length by omega);rw [hNw] at hng;obtain⟨a1,a2,a3,a4⟩:=hI.le i 0 hp1 (by omega);obtain⟨c1,c2,c3,c4⟩:=hI.le i (t+1) hp1 (by omega);have a4:St.look objs3 (kC 2 T i 0)= some ⟨1,vQ A (λt=>kC 2 T i (t+1)) T⟩:=a4;have c4:St.look objs3 (kC 2 T i (t+1))= some ⟨1,rows .i64 (uI rs (yB (vP rs b) l) A T a w i t)⟩:=c4;have lr:=hI.lr;rw [yQ (by rw [tP]; omega)] at lr;have hrow:(zC (rW rs T) (kC 2 T) rs.length).getD i [] = [.yW (kC 2 T i 0) 1 T,.sl 1 (us (rs.getD i yF).zM)]:=mi (rW rs T) (kC 2 T) hp1;have hrowL:=zo A (λt=>kC 2 T i (t+1)) hp2;have hvl:=fV rs (yB (vP rs b) l) A T a w i t;have hvs:=dp (rs:=rs) (num:=yB (vP rs b) l) (A:=A) (a:=a) hwe;have hset:=zq .i64 (uI rs (yB (vP rs b) l) A T a w i t) a (yB (vP rs b) l a (i,t));rw [hvs] at hset;have hvg:=yU .i64 (uI rs (yB (vP rs b) l) A T a w i t) (show a<_ by rw [hvl]; exact hal)
  have hne:∀ j u,j<rs.length->u<T->¬ (j=i/\u=t)->uI rs (yB (vP rs b) l) A T a w j u=uI rs (yB (vP rs b) l) A T a (w+1) j u:=λj u hj hu hne=>Yx (λe=>hne (by
   have h1:(j*T+u)/ T=j:=by rw [δ,Nat.mul_add_div (by omega),Nat.div_eq_of_lt hu]; rfl
   have h2:(i*T+t)/ T=i:=by rw [δ,Nat.mul_add_div (by omega),Nat.div_eq_of_lt hp2]; rfl
   have h3:(j*T+u) % T=u:=by rw [δ,Nat.mul_add_mod,Nat.mod_eq_of_lt hu]
   have h4:(i*T+t) % T=t:=by rw [δ,Nat.mul_add_mod,Nat.mod_eq_of_lt hp2]
   rw [e] at h1 h3;rw [hwe] at h2 h4;exact⟨by omega,by omega⟩))
  generalize yB (vP rs b) l a (i,t)= nm at hng hset hvs;generalize hV:uI rs (yB (vP rs b) l) A T a w i t=V at c4 hvl hset hvg;generalize kC 2 T i 0=k0 at *;simp only [simprocAttr,-ZA,↓zU,↓zD,zV,zT,zW,hd3,uC,hpg,ho,lr,hrow,a4,hrowL,c4,hn,hng,hNl,hvl,tP,uT,xF]
  (repeat refine sd ?_)
  have hsg:(rows .i64 V).set a (((rows .i64 V).getD a []).set 0 (D.int .i64 nm))= rows .i64 (uI rs (yB (vP rs b) l) A T a (w+1) i t):=by rw [hvg]; exact hset
  simp only [hsg];refine⟨(w+1,?zd),?ze1,?ze2,by show l.length-(w+1)<l.length-w; omega⟩
  case ze2=>
   (refine yO.same ?_; simp only [wZ,Fr.get,simprocAttr,-ZA,zS])
   exact wrap_i64 (by omega)
  case ze1=>
   refine⟨by show w+1<=l.length; omega,?_,?_,?_⟩
   ·refine hI.Tz hp1 (show t+1<T+1 by omega) (λj u hj hu hn=>?_) ?_ (λk hk1 hk2=>?_) ?_
    ·cases u with
     | zero=>rfl
     | succ u=> show (⟨1,rows .i64 (uI rs _ A T a w j u)⟩:Ob)= ⟨1,rows .i64 (uI rs _ A T a (w+1) j u)⟩;rw [hne j u hj (by omega) (λe=>hn ⟨e.1,by omega⟩)]
    ·show St.look (zJ _ _ _) _=some ⟨1,rows .i64 (uI rs _ A T a (w+1) i t)⟩;exact uN c4
    ·show St.look (zJ _ _ _) _=_;rw [xG,if_neg (λe=>hk2 e.symm)]
    ·show St.look (zJ _ _ _) _=_;rw [xG,if_neg (by omega)]; exact hI.fr
   ·show St.look (zJ _ _ _) _=_;rw [xG,if_neg (by omega)]; exact ho
   ·show St.look (zJ _ _ _) _=_;rw [xG,if_neg (by omega)]; exact hn
 have hd3:¬ ((w:Int)<(l.length:Int)):=by omega
 refine lR hd3 uC ?_
 refine⟨(a+1,nx1+1,objs3),⟨by show a+1<=A; omega,by show 2+M+1<=nx1+1; omega,by show nx1+1<=2+M+1+600*(a+1); omega,hI.val λi u hi hu=>?_,ho⟩,?_,by show A-(a+1)<A-a; omega⟩
 ·cases u with
  | zero=>rfl
  | succ t=>
   show (⟨1,rows .i64 (uI rs _ A T a w i t)⟩:Ob)= ⟨1,rows .i64 (uI rs _ A T (a+1) 0 i t)⟩
   rw [dh (by have:=Nat.mul_le_mul_right T (show i+1<=rs.length from hi);rw [Nat.succ_mul] at this;omega)]
 (refine yO.same ?_; simp only [wZ,Fr.get,simprocAttr,-ZA,zS])
 exact wrap_i64 (by omega)
open Ru
namespace Ru
theorem bQ {rs:List xN} {F T:Nat} (ok:lS rs 0 F T) (num:Nat->Nat × Nat->Int):rU rs 0 T num=rs:=by
 refine μ (by simp [rU]) λi h1 h2=>?_;have hm:rs[i] ∈ rs:=θ h2;have hl:=ok.loc _ hm;have hr:=ok.row _ hm;have hg:rs.getD i yF=rs[i]:=by simp [List.getD,h2]
 have e:(rU rs 0 T num)[i]=⟨(List.range T).map λt=>(List.range 0).map λa=>num a (i,t),(rs.getD i yF).zM⟩:=by simp [rU]
 rw [e,hg];generalize rs[i]=r at hl hr;obtain⟨loc,zM⟩:=r;simp only at hl hr;congr 1;refine μ (by simp [hl]) λt h3 h4=>?_;have:=hr _ (θ h4);simp only [List.getElem_map,List.range_zero,List.map_nil];exact(List.length_eq_zero_iff.1 this).symm
end Ru
theorem iX {rs:List xN} {F T:Nat} (ok:lS rs 0 F T) (b:Bool):yA prog 57 [sD 0 F T rs,.bool b] (sD 0 F T rs):=by
 have hP:=iV ⟨(0:Nat),F,T,rs⟩;have hD:wQ.d ⟨(0:Nat),F,T,rs⟩= .agg [.int .i64 ((0:Nat):Int),.int .i64 (F:Int),.int .i64 (T:Int),.sl 2 (xK rs)]:=rfl;rw [hD] at hP;have hC:=λn xW=>oi ok n xW;generalize kJ ⟨(0:Nat),F,T,rs⟩= l at hP;have hP':∀ σ:St,xS prog 108 [.agg [.int .i64 ((0:Nat):Int),.int .i64 F,.int .i64 T,.sl 2 (xK rs)]] σ (.sl 2 (mT l)) σ:=λσ=>xS.vV hP rfl;unfold sD;refine zL func57 Tu λhf=>?_;simp only [simprocAttr,-ZA,↓zU,↓zD,zV,zT,zW,↓ye]
 (refine cA mixed ?_; unfold yq; simp only [simprocAttr,-ZA,↓zU,↓zD,zV,zT,zW,↓gS,↓gT,↓im,↓iq,↓ir,↓iu,↓iv,↓iw,↓mS,vR,vC])
 repeat (first | (refine lG.go (hP' _) ?_; (simp only [simprocAttr,-ZA,↓zU,↓zD,zV,zT,zW,↓gS,↓gT,↓im,↓iq,↓ir,↓iu,↓iv,↓iw,↓mS,vR,vC])) | (refine jC.go (hC _ _) ?_; (simp only [simprocAttr,-ZA,↓zU,↓zD,zV,zT,zW,↓gS,↓gT,↓im,↓iq,↓ir,↓iu,↓iv,↓iw,↓mS,vR,vC])) | (refine And.intro (lG.go (hP' _) (by(simp only [simprocAttr,-ZA,↓zU,↓zD,zV,zT,zW,↓gS,↓gT,↓im,↓iq,↓ir,↓iu,↓iv,↓iw,↓mS,vR,vC]))) ?_))
 refine And.intro ?_ ?_
 ·exact aU [(2,3),(3,2)] [3,2,1,0] yY
 have hgR:(xK rs).length=rs.length:=xV rs
 refine xO (λ_:Nat=>[(7,.int .i64 0),(5,.ref 3 4 0 0),(4,.ref 1 4 0 0),(2,.ref 0 4 0 0)]) (λ_=>⟨4,[(3,⟨4,[[.int .i64 ((0:Nat):Int),.int .i64 F,.int .i64 T,.yW 2 2 rs.length]]⟩),(2,⟨2,xK rs⟩),(1,⟨4,[[.int .i64 0,.int .i64 0,.int .i64 0,.xZ]]⟩),(0,⟨4,[[.int .i64 ((0:Nat):Int),.int .i64 (F:Int),.int .i64 (T:Int),.sl 2 (xK rs)]]⟩)]⟩) (λ_=>True) (λ_=>0) 0 trivial ?_ ?_
 ·exact wI
 intro _ _;refine xE mixed ?_;have hd:¬ ((0:Int)<((0:Nat):Int)):=by omega
 refine vY hd ?_
 (refine rT.uz [] [] (by simp) (by simp) (by decide) ?_; simp only [vX,zQ,simprocAttr,-ZA,exists_eq_left',ne_eq,zR,yY,hgR])
 exact⟨λ_ h=>h.elim,γ _,(uH hgR.symm).symm,rH _⟩
theorem cj {rs:List xN} {A F T:Nat} (ok:lS rs A F T):yA prog 16 [sD A F T rs] (.yE [sD A F T (mG rs A T (oZ rs)),.int .i64 0]):=by
 have h:yA prog 57 [sD A F T rs,.bool false] (sD A F T (mG rs A T (oZ rs))):=by
  by_cases hA:0<A
  ·exact eR ok hA false
  ·obtain rfl:A=0:=by omega
   unfold mG;rw [bQ ok];exact iX ok false
 have hC:=uR ⟨A,F,T,rs⟩;rw [nH ok] at hC;generalize mG rs A T (oZ rs)= rs' at h ⊢;unfold wQ.d wQ.cells at hC;unfold sD at h ⊢;refine zL func16 Tq λhf=>?_;refine uB ?_;refine .go (cq hC) ?_;refine wU ?_;refine .go (cq h) ?_;refine wU ?_;exact .drop (by simp) (by simp [vw,tV])
theorem vt {rs:List xN} {A F T:Nat} (ok:lS rs A F T):yA prog 18 [sD A F T rs] (.yE [sD A F T (mG rs A T (lN rs)),.int .i64 0]):=by
 have h:yA prog 57 [sD A F T rs,.bool true] (sD A F T (mG rs A T (lN rs))):=by
  by_cases hA:0<A
  ·exact eR ok hA true
  ·obtain rfl:A=0:=by omega
   unfold mG;rw [bQ ok];exact iX ok true
 have hC:=uR ⟨A,F,T,rs⟩;rw [nH ok] at hC;generalize mG rs A T (lN rs)= rs' at h ⊢;unfold wQ.d wQ.cells at hC;unfold sD at h ⊢;refine zL func18 Ts λhf=>?_;refine uB ?_;refine .go (cq hC) ?_;refine wU ?_;refine .go (cq h) ?_;refine wU ?_;exact .drop (by simp) (by simp [vw,tV])
theorem iY {s:wQ} (h:uJ s≠0) (g:FuncId):xS prog 53 [.agg [.int .i64 s.ag,.int .i64 s.fa,.int .i64 s.ln,.sl 2 (xK s.rs)],.fn g [.ref 0 4 0 0]] ⟨2,[(1,⟨4,[[.int .i64 0,.int .i64 0,.int .i64 0,.xZ]]⟩),(0,⟨4,[[.int .i64 s.ag,.int .i64 s.fa,.int .i64 s.ln,.sl 2 (xK s.rs)]]⟩)]⟩
   (.yE [.agg [.int .i64 0,.int .i64 0,.int .i64 0,.xZ],.int .i64 (uJ s)]) ⟨2,[(1,⟨4,[[.int .i64 0,.int .i64 0,.int .i64 0,.xZ]]⟩),(0,⟨4,[[.int .i64 s.ag,.int .i64 s.fa,.int .i64 s.ln,.sl 2 (xK s.rs)]]⟩)]⟩:=by
 have hC:=nC s;have e:(uJ s != 0)= true:=by simpa using h
 have hD:s.d = .agg [.int .i64 s.ag,.int .i64 s.fa,.int .i64 s.ln,.sl 2 (xK s.rs)]:=rfl;rw [hD] at hC;refine zL func53 Tt λhf=>?_;refine uB ?_;refine .go (cq hC) ?_;refine pZ e ?_
 (refine rT.uz [] [1,0] (by simp) (by simp) (by decide) ?_; simp only [vX,zQ,simprocAttr,-ZA,exists_eq_left',ne_eq,zR])
theorem v7 {s:wQ} (h:uJ s≠0):yA prog 15 [s.d] (.yE [.agg [.int .i64 0,.int .i64 0,.int .i64 0,.xZ],.int .i64 (uJ s)]):=by have hD:s.d = .agg [.int .i64 s.ag,.int .i64 s.fa,.int .i64 s.ln,.sl 2 (xK s.rs)]:=rfl;rw [hD];refine zL func15 Tp λhf=>?_;refine wU ?_;refine .go (iY h _) ?_;refine wU ?_;exact .drop (by simp) (by simp [vw,tV])
theorem vu {s:wQ} (h:uJ s≠0):yA prog 17 [s.d] (.yE [.agg [.int .i64 0,.int .i64 0,.int .i64 0,.xZ],.int .i64 (uJ s)]):=by have hD:s.d = .agg [.int .i64 s.ag,.int .i64 s.fa,.int .i64 s.ln,.sl 2 (xK s.rs)]:=rfl;rw [hD];refine zL func17 Tr λhf=>?_;refine wU ?_;refine .go (iY h _) ?_;refine wU ?_;exact .drop (by simp) (by simp [vw,tV])
theorem mf {s:wQ} (h:uJ s≠0):yA prog 16 [s.d] (.yE [.agg [.int .i64 0,.int .i64 0,.int .i64 0,.xZ],.int .i64 (uJ s)]):=by
 have hC:=uR s;have e:(uJ s != 0)= true:=by simpa using h
 have hD:s.d = .agg [.int .i64 s.ag,.int .i64 s.fa,.int .i64 s.ln,.sl 2 (xK s.rs)]:=rfl;rw [hD] at hC ⊢;refine zL func16 Tq λhf=>?_;refine uB ?_;refine .go (cq hC) ?_;refine vY e ?_;exact .drop (by simp) (by simp [vw,tV])
theorem xi {s:wQ} (h:uJ s≠0):yA prog 18 [s.d] (.yE [.agg [.int .i64 0,.int .i64 0,.int .i64 0,.xZ],.int .i64 (uJ s)]):=by
 have hC:=uR s;have e:(uJ s != 0)= true:=by simpa using h
 have hD:s.d = .agg [.int .i64 s.ag,.int .i64 s.fa,.int .i64 s.ln,.sl 2 (xK s.rs)]:=rfl;rw [hD] at hC ⊢;refine zL func18 Ts λhf=>?_;refine uB ?_;refine .go (cq hC) ?_;refine vY e ?_;exact .drop (by simp) (by simp [vw,tV])
theorem Sp {s:wQ} (h:uJ s≠0) (n:Int):yA prog 19 [s.d,.int .i64 n] (.yE [.agg [.int .i64 0,.int .i64 0,.int .i64 0,.xZ],.int .i64 (uJ s)]):=by
 have hC:=nC s;have e:(uJ s != 0)= true:=by simpa using h
 have hD:s.d = .agg [.int .i64 s.ag,.int .i64 s.fa,.int .i64 s.ln,.sl 2 (xK s.rs)]:=rfl;rw [hD] at hC ⊢;refine zL func19 VR λhf=>?_;refine uB ?_;refine .go (cq hC) ?_;refine vY e ?_;exact .drop (by simp) (by simp [vw,tV])
theorem Yn {s:wQ} (h:uJ s≠0) (n:Int):yA prog 20 [s.d,.int .i64 n] (.yE [.agg [.int .i64 0,.int .i64 0,.int .i64 0,.xZ],.int .i64 (uJ s)]):=by
 have hC:=uR s;have e:(uJ s != 0)= true:=by simpa using h
 have hD:s.d = .agg [.int .i64 s.ag,.int .i64 s.fa,.int .i64 s.ln,.sl 2 (xK s.rs)]:=rfl;rw [hD] at hC ⊢;refine zL func20 VS λhf=>?_;refine uB ?_;refine .go (cq hC) ?_;refine vY e ?_;exact .drop (by simp) (by simp [vw,tV])
theorem Sq {s:wQ} (h:uJ s=0) {n:Int} (hn:n<1\/s.ln<n):yA prog 19 [s.d,.int .i64 n] (.yE [.agg [.int .i64 0,.int .i64 0,.int .i64 0,.xZ],.int .i64 2]):=by
 have hC:=nC s;rw [h] at hC;have hD:s.d = .agg [.int .i64 s.ag,.int .i64 s.fa,.int .i64 s.ln,.sl 2 (xK s.rs)]:=rfl;rw [hD] at hC ⊢;refine zL func19 VR λhf=>?_;refine uB ?_;refine .go (cq hC) ?_
 by_cases h1:n<1
 ·refine vY h1 ?_;exact .drop (by simp) (by simp [vw,tV])
 ·have h2:s.ln<n:=by omega
  refine uA h1 h2 ?_;exact .drop (by simp) (by simp [vw,tV])
theorem Yo {s:wQ} (h:uJ s=0) {n:Int} (hn:n<1\/s.ln<n):yA prog 20 [s.d,.int .i64 n] (.yE [.agg [.int .i64 0,.int .i64 0,.int .i64 0,.xZ],.int .i64 2]):=by
 have hC:=uR s;rw [h] at hC;have hD:s.d = .agg [.int .i64 s.ag,.int .i64 s.fa,.int .i64 s.ln,.sl 2 (xK s.rs)]:=rfl;rw [hD] at hC ⊢;refine zL func20 VS λhf=>?_;refine uB ?_;refine .go (cq hC) ?_
 by_cases h1:n<1
 ·refine vY h1 ?_;exact .drop (by simp) (by simp [vw,tV])
 ·have h2:s.ln<n:=by omega
  refine uA h1 h2 ?_;exact .drop (by simp) (by simp [vw,tV])
end Go.Pd
