/- Part PP. -/
import Derived.Test.YtndfaefmmcoapaaGreatGePI
import Derived.Test.YtndfaefmmcoapaaGreatGeKZ
import Derived.Test.YtndfaefmmcoapaaGreatGeLF
set_option linter.unusedSectionVars false
set_option linter.unusedVariables false
set_option linter.unusedSimpArgs false
set_option linter.defProp false
set_option maxRecDepth 20000
set_option maxHeartbeats 1000000
open Go.Proofs.Tryz
open List renaming mem_range->γ,take_of_length_le->δ,length_map->ε,mem_map->ζ,length_take->η,nil_append->θ,take_zero->κ,all_eq_true->μ,drop_eq_nil_of_le->ν,map_congr_left->ξ,length_append->ο,any_eq_true->π
open Nat renaming zero_le->τ,add_sub_cancel->υ,le_refl->χ,not_lt_zero->ψ
open Int renaming toNat_natCast->ω
namespace Go.Pd
open Go Go.Proofs
open BitVec renaming isValue -> ZA
open Rs Fm Ru Te Kb
theorem UR {p:yT} {F:Nat} (hv:zz p F) {sts:List (List (BitVec 64))} {T:Nat} (hT:1<=T/\T<=16) (hR:1<=sts.length/\sts.length<=16) (hl:∀ st ∈ sts,st.length=T) :
  xA prog 71 [p.d,.sl 1 (rr sts),.int .i64 T] (sD p.xV.length F T (kG p.xV sts T)):=by
 have hA:=hv.hA;have hF:=hv.hF
 have hh:∀ r a t,r<sts.length->a<p.xV.length->t<T->xA prog 79 [p.d,.sl 1 (us (vK sts r)),.int .i64 a,.int .i64 t] (.sl 1 (rows .u64 (tN p.xV sts a (r,t)))):=λr a t hr ha ht=>by have:=rS (qk p ha (show t<(vK sts r).length by have:=hl _ (xK (d:=[]) hr); unfold vK; omega) (by omega));rw [rN (vG _ _ _ _)] at this;exact this
 have hist:=λa (ha:a<p.xV.length)=>Oy (p:=p) (sts:=sts) (T:=T) ha hT.2 hR λst hs=>by rw [hl st hs]; exact χ _
 simp only [VZ hT.1] at hist
 have hMl:∀ a,a<p.xV.length->(oL p.xV sts T a).length<=256:=λa _=>by rw [<- VZ hT.1];have:=pf (tN p.xV sts a) sts.length T;have:sts.length*T<=16*16:=Nat.mul_le_mul hR.2 hT.2;omega
 have hSg:=λi (hi:i<sts.length)=>qc (xV:=p.xV) (T:=T) hi;have hSl:=qd p.xV sts T;have hD:p.d = .agg [.int .i64 p.F,.sl 1 (us p.init),.sl 1 (us p.xV),.sl 1 (uK p.xO),.sl 1 (uJ p.code)]:=rfl;rw [hD] at hh hist ⊢;rw [hv.fe] at hh hist ⊢;generalize tN p.xV sts=kf at *;generalize oL p.xV sts T=ak at *;generalize kG p.xV sts T=sy at *;generalize hB:[D.int IntKind.i64 F,.sl 1 (us p.init),.sl 1 (us p.xV),.sl 1 (uK p.xO),.sl 1 (uJ p.code)]=box at *;unfold sD;subst hB;refine xI func71 FX λhf=>?_;refine vR xT ?_
 refine sP (λa:Nat=>[(9,.int .i64 a),(8,xB 3 1 (aM ((List.range a).map ak))),(7,.ref 2 4 0 0),(6,.ref 1 4 0 0),(3,.ref 0 5 0 0),(2,.int .i64 T),(1,.sl 1 (rr sts))])
  (λa=>⟨4,yX 3 1 (aM ((List.range a).map ak))++ [(2,⟨4,[[.int .i64 p.xV.length,.int .i64 F,.int .i64 T,.xL]]⟩),(1,⟨4,[[.int .i64 0,.int .i64 0,.int .i64 0,.xL]]⟩),(0,⟨5,[[.int .i64 F,.sl 1 (us p.init),.sl 1 (us p.xV),.sl 1 (uK p.xO),.sl 1 (uJ p.code)]]⟩)]⟩)
  (λa=>a<=p.xV.length) (λa=>p.xV.length-a) 0 (τ _) ?_ ?_
 ·(refine rZ [] [2,1,0] ?_; simp only [wR,zQ,simprocAttr,-ZA,exists_eq_left',ne_eq,zR,List.range_zero,List.map_nil,Vo,zK,zL,θ])
 intro a ha;refine xN mixed ?_;by_cases hal:a<p.xV.length
 case pos=>
  have hd:((a:Int)<(p.xV.length:Int)):=by omega
  have hs:(List.range (a+1)).map ak=(List.range a).map ak ++ [ak a]:=by rw [List.range_succ,List.map_append]; rfl
  have hlen:((List.range a).map ak).length=a:=by simp
  generalize (List.range a).map ak=acc at *;have hu:=wK (k:=a) (by omega);have hc:=hist a hal;generalize ak a=m at *;refine nQ hd xT ?_;refine .go (cr hc) ?_;refine rF hu xw hlen ?_;refine⟨a+1,by omega,?_,by omega⟩;rw [hs];exact qN [(3,4)] [3,2,1,0] cS Xc
 have hd:¬ ((a:Int)<(p.xV.length:Int)):=by omega
 obtain rfl:a=p.xV.length:=by omega
 have hAg:∀ a,a<p.xV.length->((List.range p.xV.length).map ak).getD a []=ak a:=λa ha=>by simp [List.getD,ha]
 have hAl:((List.range p.xV.length).map ak).length=p.xV.length:=by simp
 generalize (List.range p.xV.length).map ak=all at *;refine yO hd xT ?_
 refine .go [(8,.sl 1 (aM all)),(7,.ref 2 4 0 0),(6,.ref 1 4 0 0),(3,.ref 0 5 0 0),(2,.int .i64 T),(1,.sl 1 (rr sts))]
  ⟨3,[(2,⟨4,[[.int .i64 p.xV.length,.int .i64 F,.int .i64 T,.xL]]⟩),(1,⟨4,[[.int .i64 0,.int .i64 0,.int .i64 0,.xL]]⟩),(0,⟨5,[[.int .i64 F,.sl 1 (us p.init),.sl 1 (us p.xV),.sl 1 (uK p.xO),.sl 1 (uJ p.code)]]⟩)]⟩ ?_ ?_
 ·exact bj [] [2,1,0] cS
 refine xJ ?_
 refine xU (λi:Nat=>[(10,.int .i64 i),(8,.sl 1 (aM all)),(7,.ref 2 4 0 0),(6,.ref 1 4 0 0),(3,.ref 0 5 0 0),(2,.int .i64 T),(1,.sl 1 (rr sts))])
  (λi=>⟨4,yX 3 2 (sY (sy.take i))++ [(2,⟨4,[[.int .i64 p.xV.length,.int .i64 F,.int .i64 T,xB 3 2 (sY (sy.take i))]]⟩),(1,⟨4,[[.int .i64 0,.int .i64 0,.int .i64 0,.xL]]⟩),(0,⟨5,[[.int .i64 F,.sl 1 (us p.init),.sl 1 (us p.xV),.sl 1 (uK p.xO),.sl 1 (uJ p.code)]]⟩)]⟩)
  (λi=>i<=sts.length) (λi=>sts.length-i) 0 (τ _) ?_ ?_
 ·(refine rZ [] [2,1,0] ?_; simp only [wR,zQ,simprocAttr,-ZA,exists_eq_left',ne_eq,zR,κ,Xh,zK,zL,θ])
 intro i hi;refine xN mixed ?_;by_cases hil:i<sts.length
 case neg=>
  have hd2:¬ ((i:Int)<(sts.length:Int)):=by omega
  rw [δ (by omega)];refine yO hd2 yZ ?_
  (refine sH.VB [] [] (by simp) (by simp) (by decide) ?_; simp only [wR,zQ,simprocAttr,-ZA,exists_eq_left',ne_eq,zR,wB])
 have hd2:((i:Int)<(sts.length:Int)):=by omega
 have hg:=tZ sts hil;have hSy:=hSg i hil;have hst:=lJ (d:=pG) (show i<sy.length by omega);have hstl:=hl _ (xK (d:=[]) hil);have hh:=λa t ha ht=>hh i a t hil ha ht;rw [hSy] at hst;rw [show sts.getD i []=vK sts i from rfl] at hg hstl;have hrl:(sy.take i).length=i:=by rw [η]; omega
 generalize sy.take i=acc at *;generalize vK sts i=st at *;have hrow:∀ t,t<T->((List.range T).map λt=>(List.range p.xV.length).map λa=>((below (ak a) (kf a (i,t)):Nat):Int)).getD t []=(List.range p.xV.length).map λa=>((below (ak a) (kf a (i,t)):Nat):Int):=λt ht=>by simp [List.getD,ht]
 have hLl:((List.range T).map λt=>(List.range p.xV.length).map λa=>((below (ak a) (kf a (i,t)):Nat):Int)).length=T:=by simp
 generalize ((List.range T).map λt=>(List.range p.xV.length).map λa=>((below (ak a) (kf a (i,t)):Nat):Int))= L at *;refine nQ hd2 yZ ?_
 refine sP (λt:Nat=>[(12,.int .i64 t),(11,.ref 4 2 0 0),(10,.int .i64 i),(8,.sl 1 (aM all)),(7,.ref 2 4 0 0),(6,.ref 1 4 0 0),(3,.ref 0 5 0 0),(2,.int .i64 T),(1,.sl 1 (rr sts))])
  (λt=>⟨7,yX 6 1 (us (st.take t))++ (yX 5 1 (rl (L.take t))++ ((4,⟨2,[[xB 5 1 (rl (L.take t)),xB 6 1 (us (st.take t))]]⟩) :: (yX 3 2 (sY acc)++ [(2,⟨4,[[.int .i64 p.xV.length,.int .i64 F,.int .i64 T,xB 3 2 (sY acc)]]⟩),(1,⟨4,[[.int .i64 0,.int .i64 0,.int .i64 0,.xL]]⟩),(0,⟨5,[[.int .i64 F,.sl 1 (us p.init),.sl 1 (us p.xV),.sl 1 (uK p.xO),.sl 1 (uJ p.code)]]⟩)])))⟩)
  (λt=>t<=T) (λt=>T-t) 0 (τ _) ?_ ?_
 ·(refine rZ [] [4,3,2,1,0] ?_; simp only [wR,zQ,simprocAttr,-ZA,exists_eq_left',ne_eq,zR,κ,iN,show rl [] = [] from rfl,zK,zL,θ,wB])
 intro t ht;refine xN mixed ?_;by_cases htl:t<T
 case neg=>
  have hd3:¬ ((t:Int)<(T:Int)):=by omega
  rw [δ (show L.length<=t by omega),δ (show st.length<=t by omega)];refine xH hd3 ?_
  refine .go [(11,.ref 4 2 0 0),(10,.int .i64 i),(8,.sl 1 (aM all)),(7,.ref 2 4 0 0),(6,.ref 1 4 0 0),(3,.ref 0 5 0 0),(2,.int .i64 T),(1,.sl 1 (rr sts))]
   ⟨5,(4,⟨2,[[.sl 1 (rl L),.sl 1 (us st)]]⟩) :: (yX 3 2 (sY acc)++ [(2,⟨4,[[.int .i64 p.xV.length,.int .i64 F,.int .i64 T,xB 3 2 (sY acc)]]⟩),(1,⟨4,[[.int .i64 0,.int .i64 0,.int .i64 0,.xL]]⟩),(0,⟨5,[[.int .i64 F,.sl 1 (us p.init),.sl 1 (us p.xV),.sl 1 (uK p.xO),.sl 1 (uJ p.code)]]⟩)])⟩ ?_ ?_
  ·exact L9 [] [4,3,2,1,0] yC qF wB
  have hu:=wK (k:=i) (by omega);refine rF hu oU hrl ?_;refine⟨i+1,by omega,?_,by omega⟩;rw [hst]
  (refine rZ [(3,5)] [3,2,1,0] ?_; simp only [wR,zQ,simprocAttr,-ZA,exists_eq_left',ne_eq,zR,wB,show sY acc ++ [[D.sl 1 (rl L),D.sl 1 (us st)]]=sY (acc ++ [⟨L,st⟩]) from ic acc ⟨L,st⟩])
 have hd3:((t:Int)<(T:Int)):=by omega
 have hh:=λa ha=>hh a t ha htl;have hLs:=lJ (d:=[]) (show t<L.length by omega);rw [hrow t htl] at hLs;have hSs:=lJ (d:=0#64) (show t<st.length by omega);have hgx:=yF st (show t<st.length by omega);have hdx:((t:Int)<(st.length:Int)):=by omega
 have hl1:(L.take t).length=t:=by rw [η]; omega
 have hl2:(st.take t).length=t:=by rw [η]; omega
 have hrg:∀ a,a<p.xV.length->((List.range p.xV.length).map λa=>((below (ak a) (kf a (i,t)):Nat):Int)).getD a 0=((below (ak a) (kf a (i,t)):Nat):Int):=λa ha=>by simp [List.getD,ha]
 have hrwl:((List.range p.xV.length).map λa=>((below (ak a) (kf a (i,t)):Nat):Int)).length=p.xV.length:=by simp
 generalize ((List.range p.xV.length).map λa=>((below (ak a) (kf a (i,t)):Nat):Int))= row at *;generalize L.take t=L0 at *;generalize st.take t=S0 at *;generalize st.getD t 0#64=x at *;refine xH hd3 ?_
 refine sP (λa:Nat=>[(14,.int .i64 a),(13,xB 7 1 (rows .i64 (row.take a))),(12,.int .i64 t),(11,.ref 4 2 0 0),(10,.int .i64 i),(8,.sl 1 (aM all)),(7,.ref 2 4 0 0),(6,.ref 1 4 0 0),(3,.ref 0 5 0 0),(2,.int .i64 T),(1,.sl 1 (rr sts))])
  (λa=>⟨8,yX 7 1 (rows .i64 (row.take a))++ (yX 6 1 (us S0)++ (yX 5 1 (rl L0)++ ((4,⟨2,[[xB 5 1 (rl L0),xB 6 1 (us S0)]]⟩) :: (yX 3 2 (sY acc)++ [(2,⟨4,[[.int .i64 p.xV.length,.int .i64 F,.int .i64 T,xB 3 2 (sY acc)]]⟩),(1,⟨4,[[.int .i64 0,.int .i64 0,.int .i64 0,.xL]]⟩),(0,⟨5,[[.int .i64 F,.sl 1 (us p.init),.sl 1 (us p.xV),.sl 1 (uK p.xO),.sl 1 (uJ p.code)]]⟩)]))))⟩)
  (λa=>a<=p.xV.length) (λa=>p.xV.length-a) 0 (τ _) ?_ ?_
 ·(refine rZ [] [6,5,4,3,2,1,0] ?_; simp only [wR,zQ,simprocAttr,-ZA,exists_eq_left',ne_eq,zR,κ,lQ,zK,zL,θ,yC,qF,wB])
 clear hal ha hd;intro a ha;refine xN mixed ?_;by_cases hal:a<p.xV.length
 case neg=>
  have hd4:¬ ((a:Int)<(p.xV.length:Int)):=by omega
  rw [δ (by omega)];refine yO hd4 xT ?_
  refine .go [(13,.sl 1 (rows .i64 row)),(12,.int .i64 t),(11,.ref 4 2 0 0),(10,.int .i64 i),(8,.sl 1 (aM all)),(7,.ref 2 4 0 0),(6,.ref 1 4 0 0),(3,.ref 0 5 0 0),(2,.int .i64 T),(1,.sl 1 (rr sts))]
   ⟨7,yX 6 1 (us S0)++ (yX 5 1 (rl L0)++ ((4,⟨2,[[xB 5 1 (rl L0),xB 6 1 (us S0)]]⟩) :: (yX 3 2 (sY acc)++ [(2,⟨4,[[.int .i64 p.xV.length,.int .i64 F,.int .i64 T,xB 3 2 (sY acc)]]⟩),(1,⟨4,[[.int .i64 0,.int .i64 0,.int .i64 0,.xL]]⟩),(0,⟨5,[[.int .i64 F,.sl 1 (us p.init),.sl 1 (us p.xV),.sl 1 (uK p.xO),.sl 1 (uJ p.code)]]⟩)])))⟩ ?_ ?_
  ·(refine rZ [] [6,5,4,3,2,1,0] ?_; simp only [wR,zQ,simprocAttr,-ZA,exists_eq_left',ne_eq,zR,yC,qF,wB,aV])
  have hu:=wK (k:=t) (by omega);refine rC hu sG hl1 xT hl2 yZ hd2 hg hdx hgx ?_;refine⟨t+1,by omega,?_,by omega⟩;rw [hLs,hSs]
  (refine rZ [(5,7),(6,8)] [6,5,4,3,2,1,0] ?_; simp only [wR,zQ,simprocAttr,-ZA,exists_eq_left',ne_eq,zR,yC,qF,wB,Vm])
 have hd4:((a:Int)<(p.xV.length:Int)):=by omega
 have hh:=hh a hal;have hgm:=Vn (show a<all.length by omega);rw [hAg a hal] at hgm;have hml:=hMl a hal;have hrs:=lJ (d:=0) (show a<row.length by omega);rw [hrg a hal] at hrs;have hr0:(row.take a).length=a:=by rw [η]; omega
 generalize kf a (i,t)= h at *;generalize ak a=m at *;generalize row.take a=r0 at *;have hbK:below (m.take m.length) h=below m h:=by rw [List.take_length]
 refine yO hd4 xT ?_
 refine xU (λk:Nat=>[(16,.int .i64 k),(15,.int .i64 ((below (m.take k) h:Nat):Int)),(14,.int .i64 a),(13,xB 7 1 (rows .i64 r0)),(12,.int .i64 t),(11,.ref 4 2 0 0),(10,.int .i64 i),(8,.sl 1 (aM all)),(7,.ref 2 4 0 0),(6,.ref 1 4 0 0),(3,.ref 0 5 0 0),(2,.int .i64 T),(1,.sl 1 (rr sts))])
  (λ_=>⟨8,yX 7 1 (rows .i64 r0)++ (yX 6 1 (us S0)++ (yX 5 1 (rl L0)++ ((4,⟨2,[[xB 5 1 (rl L0),xB 6 1 (us S0)]]⟩) :: (yX 3 2 (sY acc)++ [(2,⟨4,[[.int .i64 p.xV.length,.int .i64 F,.int .i64 T,xB 3 2 (sY acc)]]⟩),(1,⟨4,[[.int .i64 0,.int .i64 0,.int .i64 0,.xL]]⟩),(0,⟨5,[[.int .i64 F,.sl 1 (us p.init),.sl 1 (us p.xV),.sl 1 (uK p.xO),.sl 1 (uJ p.code)]]⟩)]))))⟩)
  (λk=>k<=m.length) (λk=>m.length-k) 0 (τ _) ?_ ?_
 ·(refine yR.same ?_; simp [yS,Fr.get,κ,show below [] h=0 from rfl])
 intro k hk;refine xN mixed ?_;by_cases hkl:k<m.length
 case neg=>
  have hd5:¬ ((k:Int)<(m.length:Int)):=by omega
  obtain rfl:k=m.length:=by omega
  rw [hbK];have hu:=wK (k:=a) (by omega);refine j9 hd5 xw hAl hd4 hgm wD yU hr0 hu ?_;refine⟨a+1,by omega,?_,by omega⟩;rw [hrs]
  (refine rZ [(7,8)] [7,6,5,4,3,2,1,0] ?_; simp only [wR,zQ,simprocAttr,-ZA,exists_eq_left',ne_eq,zR,yC,qF,wB,aV,zb])
 have hd5:((k:Int)<(m.length:Int)):=by omega
 have hge:=qT m hkl;have hord:=xj (m.getD k []) h
 have hbs:below (m.take (k+1)) h=below (m.take k) h+if kc (m.getD k []) h<0 then 1 else 0:=by
  unfold below;rw [vz hkl,ο];congr 1
  by_cases c:kc (m.getD k []) h<0
  ·rw [if_pos c,if_pos (by simpa using c)]; rfl
  ·rw [if_neg c,if_neg (by simpa using c)]; rfl
 have hbl:below (m.take k) h<=256:=by unfold below;refine Nat.le_trans (List.length_filter_le _ _) ?_;rw [η]; omega
 generalize below (m.take k) h=b at *;generalize m.getD k []=e at *;generalize kc e h=c at *;have hu:=wK (k:=k) (by omega);have hub:=wK (k:=b) (by omega);refine rC hd5 xw hAl hd4 hgm wD hge yZ hd2 hg ?_;refine .go (cr hh) ?_;refine xJ ?_;refine .go (cr hord) ?_
 by_cases hc:c<0
 ·rw [if_pos hc] at hbs;refine rF hc hu hub ?_;refine⟨k+1,by omega,?_,by omega⟩;rw [hbs];exact yL
 ·rw [if_neg hc,Nat.add_zero] at hbs;refine nQ hc hu ?_;refine⟨k+1,by omega,?_,by omega⟩;rw [hbs];exact yL
open Rs Fm Ru Te Kb
namespace Kb
end Kb
open Rs Fm Ru Te Kb
namespace Kb
theorem Tq {V:List (List D)} {ess:List (List (List D))}:fQ (yX (1+ess.length) 1 V++lE ess) 0 (List.range' 1 ess.length) ess where
 out:=by rw [wZ,if_neg (by omega)]; exact(lO ess).out
 len:=(lO ess).len
 each:=λi hi=>by
  have e:(List.range' 1 ess.length).getD i 0=1+i:=by simp [List.getD,hi]
  have:=(lO ess).each i hi;rw [e] at this ⊢;rw [wZ,if_neg (by omega)];exact this
theorem aa {l:List (BitVec 64)}:∀ r ∈ us l,r.length=1:=λr hr=>by simp only [us,ζ] at hr;obtain⟨x,_,rfl⟩:=hr;rfl
theorem T5 {l:List (BitVec 64)}:∀ r ∈ us l,D.Zn r=true:=λr hr=>by simp only [us,ζ] at hr;obtain⟨x,_,rfl⟩:=hr;simp [D.Zn,D.fl]
theorem Wc {c k nx n:Nat} {V:List (List D)} {ob r:List (Nat × Ob)} (hV:V ≠ []->St.look ob k=some ⟨1,V⟩) (hp:∀ e ∈ V,e.length=1/\D.xR e=true) (hc:n<=c):Seen ⟨nx,yH c ob++r⟩ (λk=>k<n) ((xB k 1 V).shift c) (.sl 1 V):=by
 cases V with
 | nil=>exact Seen.nil 1
 | cons a b=> show Seen _ _ (.yD (c+k) 1 (a :: b).length) _;refine Seen.rows (sz:=1) ?_ (by show ¬ (c+k<n); omega) (by decide) rfl (λe he=>(hp e he).1) λe he=>(hp e he).2;show St.look (yH c ob++r) (c+k)= _;rw [sX,pM c (hV (by simp))];show some (Ob.shift c _)= _;unfold Ob.shift;rw [nF c λe he=>(hp e he).2]
end Kb
theorem Z6 {p:yT} {F:Nat} {sts:List (List (BitVec 64))} {t:Nat} (ok:W5 p F sts t) {args:List D} {nx:Nat} {ob:List (Nat × Ob)} (hl:mW ⟨nx,ob⟩ (λ_=>False) args [p.d,.sl 1 (rr sts),.int .i64 t]) :
  xQ prog 78 args ⟨nx,ob⟩ (gE p.xV sts t F) ⟨nx+(2+p.xV.length),ob⟩:=by
 have hll:(wS sts.length 0).length=sts.length:=mJ _ _;have hA:((V6 p.xV sts t).map us).length=p.xV.length:=by simp [V6,tJ]
 have hN:=fQ.shift (c:=nx) (r:=ob) (Tq (V:=us (kh p.xV sts t F)) (ess:=(V6 p.xV sts t).map us)) Xr;have hpV:∀ e ∈ us (kh p.xV sts t F),e.length=1/\D.xR e=true:=λe he=>⟨aa e he,vT _ e he⟩
 have hG:=Wc (c:=nx) (k:=1+p.xV.length) (nx:=nx+(2+p.xV.length)) (n:=nx) (V:=us (kh p.xV sts t F)) (ob:=yX (1+p.xV.length) 1 (us (kh p.xV sts t F))++ lE ((V6 p.xV sts t).map us)) (r:=ob)
  (λh=>by rw [lN h]; show St.look (_ :: _) _=_; rw [xX,if_pos rfl]) hpV (χ _)
 rw [hA] at hN
 refine xQ.yx (UP ok) hl ?_ ?_ ?_
 ·generalize us (kh p.xV sts t F)= V;cases V <;> simp [D.fl,xB]
 ·intro q hq e he
  rcases List.mem_append.1 hq with hq | hq
  ·have h:q.2.xW=us (kh p.xV sts t F):=by
    generalize us (kh p.xV sts t F)= V at hq
    cases V with
    | nil=>cases hq
    | cons a b=>rw [List.mem_singleton.1 hq]
   rw [h] at he;exact T5 e he
  ·refine v8 (λe he r hr=>?_) q hq e he;simp only [ζ] at he;obtain⟨x,_,rfl⟩:=he;exact T5 r hr
 ·have hS:=fQ.seen (nx:=nx+(2+p.xV.length)) (K:=λk=>k<nx) (n:=p.xV.length) hN hA.symm (by show ¬ (nx+0<nx); omega) (λk hk=>by simp only [ζ] at hk;obtain⟨j,_,rfl⟩:=hk;omega) iH
  rw [ZO] at hS;unfold gE kd;rw [hll];exact Seen.agg ⟨.pure rfl,hG,hS,trivial⟩
theorem RH {p:yT} {F:Nat} {sts:List (List (BitVec 64))} {t:Nat} (ok:W5 p F sts t):xA prog 78 [p.d,.sl 1 (rr sts),.int .i64 t] (gE p.xV sts t F):= xQ.ret (Z6 (nx:=0) (ob:=[]) ok ⟨.pure (by simp [yT.d,yT.cells,D.xR,D.xF]),.pure (by simp [D.xF]),.pure rfl,trivial⟩) (.drop (τ _) (by simp [gE,kd,vw,vC]))
namespace Kb
structure RN (p : yT) (sts : List (List (BitVec 64))) (nx : Nat) (ks : List Nat) (xZ : List (Nat × Ob)) : Prop where
 jT:fQ xZ 1 ks (sts.map us)
 nd:ks.Nodup
 ss:1 ∉ ks
 xs:0 ∉ ks
 lt:∀ k ∈ ks,k<nx
 n2:2<=nx
 bx:St.look xZ 0=some ⟨5,[[.int .i64 p.F,.sl 1 (us p.init),.sl 1 (us p.xV),.sl 1 (uK p.xO),.sl 1 (uJ p.code)]]⟩
theorem RN.step {p:yT} {sts:List (List (BitVec 64))} {mv:List (List Int)} {r nx:Nat} {ks:List Nat} {xZ:List (Nat × Ob)} (h:RN p (nB p sts mv r) nx ks xZ) (hr:r<sts.length) {m:Nat} (hm:nx<=m) {ob:List (Nat × Ob)}
  (hout:St.look ob 1=some ⟨1,(vQ ks ((nB p sts mv r).map us)).set r [.yD m 1 ((vK sts r).length+1)]⟩) (hnew:St.look ob m=some ⟨1,us (vK sts r ++ [zr p sts mv r])⟩)
  (hold:∀ k,k<nx->k≠1->k≠ks.getD r 0->St.look ob k=St.look xZ k):RN p (nB p sts mv (r+1)) (m+1) (ks.set r m) ob:=by
 have hl:=h.jT.len;rw [ε,yM] at hl;have hn2:=h.n2;have hmk:m ∉ ks:=λhk=>by have:=h.lt m hk; omega
 have hmr:=uZ (l:=ks) (i:=r) (by omega)
 refine⟨?_,gj h.nd hmk,λhk=>?_,λhk=>?_,λk hk=>?_,by omega,?_⟩
 ·have hsl:(nB p sts mv r).length=sts.length:=yM
  refine⟨?_,by rw [List.length_set,ε,yM]; exact hl,λi hi=>?_⟩
  ·have:=XN h.jT.len (i:=r) (by rw [ε,yM]; exact hr) m (us (vK sts r ++ [zr p sts mv r]));rw [xT,ο,List.length_singleton,Xm hr] at this;rw [hout,this]
  ·rw [ε,yM] at hi;rw [Xi (by omega)]
   by_cases e:r=i
   ·subst e;rw [if_pos rfl,hnew,uO (by rw [yM]; exact hi),nL hi,if_pos (by omega)]
   ·rw [if_neg e,hold _ (h.lt _ (uZ (by omega))) (λc=>h.ss (c ▸ uZ (by omega))) λc=>e (xp h.nd (by omega) (by omega) c.symm)];have:=h.jT.each i (by rw [ε,yM]; exact hi);rw [this,uO (by rw [yM]; exact hi),uO (by rw [yM]; exact hi),nL hi,nL hi]
    by_cases c:i<r
    ·rw [if_pos c,if_pos (by omega)]
    ·rw [if_neg c,if_neg (by omega)]
 ·rcases nZ hk with e | e
  ·omega
  ·exact h.ss e
 ·rcases nZ hk with e | e
  ·omega
  ·exact h.xs e
 ·rcases nZ hk with e | e
  ·omega
  ·have:=h.lt k e; omega
 ·rw [hold 0 (by omega) (by decide) λe=>h.xs (e ▸ hmr)];exact h.bx
structure NW where
 t:Nat
 nx:Nat
 ks:List Nat
 xZ:List (Nat × Ob)
end Kb
theorem Kb.RN.seen {p:yT} {sts:List (List (BitVec 64))} {nx:Nat} {ks:List Nat} {xZ:List (Nat × Ob)} (h:RN p sts nx ks xZ) {n:Nat} (hn:n=sts.length):Seen ⟨nx,xZ⟩ (λ_=>False) (.yD 1 1 n) (.sl 1 (rr sts)):=by
 have:=fQ.seen (nx:=nx) (K:=λ_=>False) (n:=n) h.jT (by rw [ε]; exact hn) (λh=>h) (λ_ _ h=>h) iH
 rwa [ZO] at this
open Rs Fm Ru Te Kb
theorem gv {l:List uI} (hl:l.length<=2000000) (a:Nat) (h:List (BitVec 64)):xA prog 88 [.sl 3 (qO l),.int .i64 a,.sl 1 (us h)] (.wF [.int .i64 (if 0<=qJ l a h then kj l a h else 0),.bool (decide (0<=qJ l a h))]):=by
 have hmv:kj l a h=(l.getD (qJ l a h).toNat iR).mv:=rfl;have h0:qJ l a h=kH (uU a h) (l.drop 0) ((0:Nat):Int):=rfl;generalize qJ l a h=x at *;refine xI func88 Fp λhf=>?_;refine xJ ?_
 refine xU (λk:Nat=>[(8,.int .i64 k),(2,.sl 1 (us h)),(1,.int .i64 a),(0,.sl 3 (qO l))]) (λ_=>⟨0,[]⟩) (λk=>k<=l.length/\x=kH (uU a h) (l.drop k) (k:Int)) (λk=>l.length-k) 0 ⟨τ _,h0⟩ ?_ ?_
 ·exact wO
 rintro k ⟨hk,hx⟩;refine xN mixed ?_;by_cases hkl:k<l.length
 case neg=>
  have hd:¬ ((k:Int)<(l.length:Int)):=by omega
  rw [ν (by omega)] at hx;have hx:x = -1:=hx;subst hx;refine yO hd zA ?_;exact .drop (by simp) (by simp [vw,vC])
 have hd:((k:Int)<(l.length:Int)):=by omega
 have hg:=iA l hkl;rw [drop_cons (d:=iR) hkl,kH] at hx;have hm2:x=(k:Int)->kj l a h=(l.getD k iR).mv:=λe=>by rw [hmv,e,ω]
 generalize l.getD k iR=c at *;obtain⟨ag,s,m⟩:=c;unfold uI.row at hg;simp only at hg;have hord:=xj (s.map ui) (h.map ui);rw [<- rN,<- rN] at hord;have hu:=wK (k:=k) (by omega)
 by_cases ea:ag=(a:Int)
 ·have ea1:(ag==(a:Int))= true:=by simpa using ea
  by_cases es:s=h
  ·have es1:(kc (s.map ui) (h.map ui)== 0)= true:=by rw [es,dS]; rfl
   have hf:uU a h ⟨ag,s,m⟩= true:=by unfold uU; simp [ea,es]
   rw [if_pos hf] at hx;have hmx:=hm2 hx;simp only at hmx;rw [hmx];subst hx;have hz:(0:Int)<=(k:Int):=by omega
   refine uC hd zA hg ea1 ?_;refine .go (cr hord) ?_;refine uC es1 hd zA hg ?_;exact .drop (by simp) (by simp [vw,vC])
  ·have es1:(kc (s.map ui) (h.map ui)== 0)= false:=beq_eq_false_iff_ne.2 λq=>es (cU.1 (iC q));have hf:uU a h ⟨ag,s,m⟩= false:=by unfold uU; simp [es]
   rw [hf,if_neg (by simp)] at hx;refine uC hd zA hg ea1 ?_;refine .go (cr hord) ?_;refine nQ es1 hu ?_;refine⟨k+1,⟨by omega,hx⟩,?_,by omega⟩;exact yL
 ·have ea1:(ag==(a:Int))= false:=by simpa using ea
  have hf:uU a h ⟨ag,s,m⟩= false:=by unfold uU; simp [ea]
  rw [hf,if_neg (by simp)] at hx;refine rI hd zA hg ea1 hu ?_;refine⟨k+1,⟨by omega,hx⟩,?_,by omega⟩;exact yL
open Rs Fm Ru Te Kb
theorem YE (p:yT) {l:List uI} (sm:jU l):xA prog 135 [p.d,.sl 3 (qO l)] (.int .i64 (wP p l)):=by
 have hpd:p.d = .agg [.int .i64 p.F,.sl 1 (us p.init),.sl 1 (us p.xV),.sl 1 (uK p.xO),.sl 1 (uJ p.code)]:=rfl;have hll:=sm.len;have hse:=sm.seen;have h0:wP p l=wT (Zd p l) ((List.range l.length).drop 0):=rfl;generalize wP p l=x at *;rw [hpd];refine xI func135 If λhf=>?_;refine zI ?_
 refine xU (λk:Nat=>[(5,.int .i64 k),(2,.ref 0 5 0 0),(1,.sl 3 (qO l))]) (λ_=>⟨1,[(0,⟨5,[[.int .i64 p.F,.sl 1 (us p.init),.sl 1 (us p.xV),.sl 1 (uK p.xO),.sl 1 (uJ p.code)]]⟩)]⟩)
  (λk=>k<=l.length/\x=wT (Zd p l) ((List.range l.length).drop k)) (λk=>l.length-k) 0 ⟨τ _,h0⟩ ?_ ?_
 ·exact wO
 rintro k ⟨hk,hx⟩;refine xN mixed ?_;by_cases hkl:k<l.length
 case neg=>
  have hd:¬ ((k:Int)<(l.length:Int)):=by omega
  rw [ν (by simp; omega)] at hx;have hx:x=0:=hx;subst hx;refine yO hd zA ?_;exact .dv
 have hd:((k:Int)<(l.length:Int)):=by omega
 have hg:=iA l hkl;rw [drop_cons (d:=0) (by simpa using hkl),show (List.range l.length).getD k 0=k by simp [List.getD,hkl],wT] at hx;have hsl:=hse _ (xK (d:=iR) hkl);have hbad:bW p (l.getD k iR)= true->Zd p l k=3:=λh=>by unfold Zd; rw [if_pos h]
 have hstr:bW p (l.getD k iR)= false->Zb p (l.getD k iR)= true->Zd p l k=3:=λh1 h=>by unfold Zd; rw [if_neg (by rw [h1]; simp),if_pos h]
 have hsam:bW p (l.getD k iR)= false->Zb p (l.getD k iR)= false->Zd p l k=if (l.take k).any (uU (l.getD k iR).ag (l.getD k iR).seen)= true then 7 else 0:=λh1 h2=>by unfold Zd; rw [if_neg (by rw [h1]; simp),if_neg (by rw [h2]; simp)]
 generalize Zd p l k=ee at *;generalize l.getD k iR=c at *;obtain⟨ag,s,m⟩:=c;unfold uI.row at hg;unfold bW Zb at *;simp only at hg hsl hbad hstr hsam;have hx3:ee=3->x=3:=λe=>by rw [e,if_pos (by decide)] at hx; exact hx
 by_cases q1:ag<0
 ·obtain rfl:=hx3 (hbad (by simp [q1]));refine uC hd zA hg q1 ?_;exact .dv
 by_cases q2:(p.xV.length:Int)<=ag
 ·obtain rfl:=hx3 (hbad (by simp [q2]));refine pH hd zA hg q1 q2 xT ?_;exact .dv
 by_cases q3:s.length=0
 ·obtain rfl:=hx3 (hbad (by simp [q3]));have q3':((s.length:Int)== 0)= true:=by rw [q3]; rfl
  refine cF hd zA hg q1 q2 xT q3' ?_;exact .dv
 have q3':((s.length:Int)== 0)= false:=beq_eq_false_iff_ne.2 (by omega)
 by_cases q4:m < -1
 ·obtain rfl:=hx3 (hbad (by simp [q4]));refine mU hd zA hg q1 q2 xT q3' q4 ?_;exact .dv
 by_cases q5:(p.xO.length:Int)<=m
 ·obtain rfl:=hx3 (hbad (by simp [q5]));refine rC hd zA hg q1 q2 xT q3' q4 yJ q5 ?_;exact .dv
 have hb0:(decide (ag<0) || decide ((p.xV.length:Int)<=ag) || decide (s.length=0) || decide (m < -1) || decide ((p.xO.length:Int)<=m))= false:=by simp only [decide_eq_false q1,decide_eq_false q2,decide_eq_false q3,decide_eq_false q4,decide_eq_false q5,Bool.or_false]
 have hstr:=hstr hb0;have hsam:=hsam hb0;obtain⟨a,rfl⟩:∃ a:Nat,ag=(a:Int):=⟨ag.toNat,by omega⟩;have hstr:(s.any λs=>!decide (s &&& ~~~(p.xV.getD a 0)= 0#64))= true->ee=3:=hstr;have hsam:(s.any λs=>!decide (s &&& ~~~(p.xV.getD a 0)= 0#64))= false->ee=if (l.take k).any (uU a s)= true then 7 else 0:=hsam;have ha:a<p.xV.length:=by omega
 have had:((a:Int)<(p.xV.length:Int)):=by omega
 have hgs:=yF p.xV ha;generalize p.xV.getD a 0=sa at hstr hsam hgs;refine rC hd zA hg q1 q2 xT q3' q4 yJ q5 ?_
 refine xU (λj:Nat=>[(7,.int .i64 j),(6,.ref 1 3 0 0),(5,.int .i64 k),(2,.ref 0 5 0 0),(1,.sl 3 (qO l))]) (λ_=>⟨2,[(1,⟨3,[[.int .i64 a,.sl 1 (us s),.int .i64 m]]⟩),(0,⟨5,[[.int .i64 p.F,.sl 1 (us p.init),.sl 1 (us p.xV),.sl 1 (uK p.xO),.sl 1 (uJ p.code)]]⟩)]⟩)
  (λj=>j<=s.length/\(s.take j).any (λs=>!decide (s &&& ~~~sa=0#64))= false) (λj=>s.length-j) 0 ⟨τ _,rfl⟩ ?_ ?_
 ·exact wO
 rintro j ⟨hj,hja⟩;refine xN mixed ?_;by_cases hjl:j<s.length
 case pos=>
  have hd2:((j:Int)<(s.length:Int)):=by omega
  have hgj:=yF s hjl;have hmj:=xK (d:=(0:BitVec 64)) hjl;have hts:(s.take (j+1)).any (λs=>!decide (s &&& ~~~sa=0#64))= ((s.take j).any (λs=>!decide (s &&& ~~~sa=0#64)) || !decide (s.getD j 0 &&& ~~~sa=0#64)):=by rw [yE (d:=0) hjl]; simp
  generalize s.getD j 0=y at *;have hu:=wK (k:=j) (by omega)
  by_cases e:y &&& ~~~sa=0#64
  ·have e1:(y &&& ~~~sa != 0#64)= false:=by simpa using e
   have e2:(y &&& ~~~sa==0#64)= true:=by simpa using e
   rw [hja,decide_eq_true e] at hts;refine mU hd2 xT hgj had hgs e1 e2 hu ?_;refine⟨j+1,⟨by omega,hts⟩,?_,by omega⟩;exact yL
  ·have e1:(y &&& ~~~sa != 0#64)= true:=by simpa using e
   have e2:(y &&& ~~~sa==0#64)= false:=by simpa using e
   obtain rfl:=hx3 (hstr (π.2 ⟨y,hmj,by simpa using e⟩));refine cF hd2 xT hgj had hgs e1 e2 ?_;exact .dv
 have hd2:¬ ((j:Int)<(s.length:Int)):=by omega
 rw [δ (by omega)] at hja;have hsam:=hsam hja;refine yO hd2 xT ?_
 refine xU (λj:Nat=>[(8,.int .i64 j),(6,.ref 1 3 0 0),(5,.int .i64 k),(2,.ref 0 5 0 0),(1,.sl 3 (qO l))]) (λ_=>⟨2,[(1,⟨3,[[.int .i64 a,.sl 1 (us s),.int .i64 m]]⟩),(0,⟨5,[[.int .i64 p.F,.sl 1 (us p.init),.sl 1 (us p.xV),.sl 1 (uK p.xO),.sl 1 (uJ p.code)]]⟩)]⟩)
  (λj=>j<=k/\(l.take j).any (uU a s)= false) (λj=>k-j) 0 ⟨τ _,rfl⟩ ?_ ?_
 ·exact wO
 clear hd2 hjl hj;rintro j ⟨hj,hja2⟩;refine xN mixed ?_;by_cases hjl:j<k
 case neg=>
  have hd3:¬ ((j:Int)<(k:Int)):=by omega
  obtain rfl:j=k:=by omega
  rw [hja2,if_neg (by simp)] at hsam;rw [hsam,if_neg (by simp)] at hx;have hu:=wK (k:=j) (by omega);refine yO hd3 hu ?_;refine⟨j+1,⟨by omega,hx⟩,?_,by omega⟩;exact mD [] [0]
 have hd3:((j:Int)<(k:Int)):=by omega
 have hdl:((j:Int)<(l.length:Int)):=by omega
 have hgj:=iA l (show j<l.length by omega);have hts:(l.take (j+1)).any (uU a s)= ((l.take j).any (uU a s) || uU a s (l.getD j iR)):=by rw [yE (d:=iR) (by omega)]; simp
 have hmj:uU a s (l.getD j iR)= true->(l.take k).any (uU a s)= true:=λh=>π.2 ⟨_,by
  have:(l.take k).getD j iR=l.getD j iR:=by simp [List.getD,hjl]
  rw [<- this]; exact xK (by rw [η]; omega),h⟩
 generalize l.getD j iR=c2 at *;obtain⟨ag2,s2,m2⟩:=c2;unfold uI.row at hgj;simp only at hgj;have hord:=xj (s2.map ui) (s.map ui);rw [<- rN,<- rN] at hord;have hu:=wK (k:=j) (by omega)
 by_cases ea:ag2=(a:Int)
 ·have ea1:(ag2==(a:Int))= true:=by simpa using ea
  by_cases es:s2=s
  ·have es1:(kc (s2.map ui) (s.map ui)== 0)= true:=by rw [es,dS]; rfl
   have hf:uU a s ⟨ag2,s2,m2⟩= true:=by unfold uU; simp [ea,es]
   rw [hmj hf,if_pos rfl] at hsam;rw [hsam,if_pos (by decide)] at hx;subst hx;refine rI hd3 hdl zA hgj ea1 ?_;refine .go (cr hord) ?_;refine vR es1 ?_;exact .dv
  ·have es1:(kc (s2.map ui) (s.map ui)== 0)= false:=beq_eq_false_iff_ne.2 λq=>es (cU.1 (iC q));have hf:uU a s ⟨ag2,s2,m2⟩= false:=by unfold uU; simp [es]
   rw [hja2,hf] at hts;refine rI hd3 hdl zA hgj ea1 ?_;refine .go (cr hord) ?_;refine nQ es1 hu ?_;refine⟨j+1,⟨by omega,hts⟩,?_,by omega⟩;exact yL
 ·have ea1:(ag2==(a:Int))= false:=by simpa using ea
  have hf:uU a s ⟨ag2,s2,m2⟩= false:=by unfold uU; simp [ea]
  rw [hja2,hf] at hts;refine pH hd3 hdl zA hgj ea1 hu ?_;refine⟨j+1,⟨by omega,hts⟩,?_,by omega⟩;exact yL
open Rs Fm Ru Te Kb
namespace Kb
def qL (p:yT) (l:List uI):Nat->Option (List (List (BitVec 64)))
 | 0=>some (qC p)
 | n+1=>match qL p l n with
  | none=>none
  | some sts=>if qU p l sts n=true then some (nP p sts (tQ p l sts n)) else none
def zJ (p:yT) (l:List uI) (n:Nat):List (List (BitVec 64)):=(qL p l n).getD []
theorem cL {p:yT} {l:List uI} {n:Nat} (h:(qL p l (n+1)).isSome=true):(qL p l n).isSome=true/\qU p l (zJ p l n) n=true/\zJ p l (n+1)= nP p (zJ p l n) (tQ p l (zJ p l n) n):=by
 unfold qL at h;unfold zJ
 cases e:qL p l n with
 | none=>rw [e] at h; cases h
 | some sts=>
  rw [e] at h;simp only at h
  by_cases c:qU p l sts n=true
  ·refine⟨rfl,c,?_⟩;show (qL p l (n+1)).getD []=_;unfold qL;rw [e];simp only [c,↓reduceIte];rfl
  ·rw [if_neg c] at h; cases h
theorem VU {p:yT} {l:List uI} {n:Nat} (h:(qL p l n).isSome=true):(qL p l (n+1)).isSome=qU p l (zJ p l n) n/\(qU p l (zJ p l n) n=true->zJ p l (n+1)= nP p (zJ p l n) (tQ p l (zJ p l n) n)):=by
 cases e:qL p l n with
 | none=>rw [e] at h; cases h
 | some sts=>
  have e2:zJ p l n=sts:=by unfold zJ; rw [e]; rfl
  rw [e2]
  have e3:qL p l (n+1)= if qU p l sts n=true then some (nP p sts (tQ p l sts n)) else none:=by show (match qL p l n with | none=>none | some sts=>_)= _;rw [e]
  unfold zJ;rw [e3]
  cases c:qU p l sts n with
  | true=>exact⟨rfl,λ_=>rfl⟩
  | false=>exact⟨rfl,λh=>by cases h⟩
theorem cM {p:yT} {l:List uI} {n:Nat}:∀ {m:Nat},n<=m->(qL p l n).isSome=false->(qL p l m).isSome=false
 | 0,h,hn=>by
  have:n=0:=by omega
  rw [this] at hn;exact hn
 | m+1,h,hn=>by
  by_cases e:n=m+1
  ·rw [<- e]; exact hn
  ·have ih:=cM (m:=m) (by omega) hn
   cases c:(qL p l (m+1)).isSome with
   | false=>rfl
   | true=>rw [(cL c).1] at ih; cases ih
theorem Q5 {p:yT} {l:List uI} (h:wP p l=0):∀ i,i<l.length->Zd p l i=0:=λi hi=>oC.1 h i (γ.2 hi)
theorem SK {p:yT} {l:List uI} (h:wP p l=0) {c:uI} (hc:c ∈ l):c.mv<p.xO.length /\ -1<=c.mv:=by
 obtain⟨i,hi,rfl⟩:=List.getElem_of_mem hc;have h1:=Q5 h i hi;unfold Zd at h1;have e:l.getD i iR=l[i]:=by simp [List.getD,hi]
 rw [e] at h1
 split at h1
 ·cases h1
 ·rename_i hb;have hb:bW p l[i]=false:=by simpa using hb
  unfold bW at hb;simp only [Bool.or_eq_false_iff,decide_eq_false_iff_not] at hb;omega
theorem yu (p:yT) (l:List uI) (sts:List (List (BitVec 64))) (t:Nat):(tQ p l sts t).length=p.xV.length:=by simp [tQ]
theorem ow {p:yT} {l:List uI} {sts:List (List (BitVec 64))} {t:Nat}:∀ m ∈ tQ p l sts t,m.length=sts.length:=λm hm=>by simp only [tQ,ζ] at hm;obtain⟨a,_,rfl⟩:=hm;simp [jl]
theorem VO {p:yT} {l:List uI} (h:wP p l=0) {sts:List (List (BitVec 64))} {t:Nat} (hB:qU p l sts t=true):∀ m ∈ tQ p l sts t,∀ k ∈ m,k<p.xO.length:=λm hm k hk=>by simp only [tQ,ζ,γ] at hm;obtain⟨a,ha,rfl⟩:=hm;simp only [jl,ζ,γ] at hk;obtain⟨r,hr,rfl⟩:=hk;unfold qU at hB;rw [μ] at hB;have h1:=hB a (γ.2 ha);rw [μ] at h1;have h2:=of_decide_eq_true (h1 r (γ.2 hr));exact(SK h (xK (u7 h2).1)).1
theorem iJ {p:yT} {F:Nat} (hv:zz p F) {l:List uI} (hc:wP p l=0):∀ n,(qL p l n).isSome=true->Zc p F (zJ p l n) n
 | 0,_=>Zc.Fw hv
 | n+1,h=>by obtain⟨h1,h2,h3⟩:=cL h;rw [h3];exact Zc.step hv (iJ hv hc n h1) ow (VO hc h2)
def sV (p:yT) (l:List uI) (n:Int):Int:=if oN p n≠0 then oN p n else if wP p l≠0 then wP p l else if (qL p l (n.toNat-1)).isSome=true then 0 else 6
theorem iT {p:yT} {l:List uI} {n:Int} (h:sV p l n=0):∃ F k:Nat,zz p F/\n=((k+1:Nat):Int)/\ k<=5/\wP p l=0/\(qL p l k).isSome=true:=by
 unfold sV at h
 split at h
 ·rename_i h1; exact absurd h h1
 ·rename_i h1
  split at h
  ·rename_i h2; exact absurd h h2
  ·rename_i h2
   split at h
   ·rename_i h3;obtain⟨F,k,hv,rfl,hk⟩:=Kb.lP (show oN p n=0 by simpa using h1);rw [ω,υ] at h3;exact⟨F,k,hv,rfl,hk,by simpa using h2,h3⟩
   ·cases h
def bG (p:yT) (l:List uI) (n:Int):D:=if sV p l n=0 then nD p (zJ p l (n.toNat-1)) else .qM
end Kb
theorem ue {p:yT} {l:List uI} (hll:l.length<=2000000) {sts:List (List (BitVec 64))} {t:Nat} (hA:1<=p.xV.length/\p.xV.length<=4) (hR:1<=sts.length/\sts.length<=16) (hl:∀ st ∈ sts,t<st.length) (ht:t<=1000) {nx:Nat} {ob:List (Nat × Ob)} {x:D}
  (hx:Seen ⟨nx,ob⟩ (λ_=>False) x (nD p sts)) (hB:qU p l sts t=true):xQ prog 84 [x,.sl 3 (qO l),.int .i64 t] ⟨nx,ob⟩ (.wF [.sl 1 (rl (tQ p l sts t)),.bool true]) ⟨nx+(1+p.xV.length),ob⟩:=by
 have hc:=Yc hll hA hR hl ht (d:=.wF [.yD 0 1 p.xV.length,.bool true]) (σ':=⟨1+p.xV.length,lE ((tQ p l sts t).map (rows .i64))⟩) (λ_=>⟨rfl,rfl⟩) (λh=>by rw [hB] at h; cases h);refine xQ.yx hc ⟨hx,.pure rfl,.pure rfl,trivial⟩ (by simp [D.fl]) (v8 XI) ?_;have hN:=fQ.shift (c:=nx) (r:=ob) (lO ((tQ p l sts t).map (rows .i64))) λe he r hr=>(nY e he r hr).2
 have:=fQ.seen (nx:=nx+(1+p.xV.length)) (K:=λk=>k<nx) (n:=p.xV.length) hN (by rw [ε,yu]) (by omega) (λk hk=>by simp only [ζ] at hk;obtain⟨j,_,rfl⟩:=hk;omega) nY
 rw [ZN] at this;simp only [D.shift,D.vN];exact Seen.wF ⟨this,.pure rfl,trivial⟩
theorem Zv {p:yT} {l:List uI} (hll:l.length<=2000000) {sts:List (List (BitVec 64))} {t:Nat} (hA:1<=p.xV.length/\p.xV.length<=4) (hR:1<=sts.length/\sts.length<=16) (hl:∀ st ∈ sts,t<st.length) (ht:t<=1000) {nx:Nat} {ob:List (Nat × Ob)} {x:D}
  (hx:Seen ⟨nx,ob⟩ (λ_=>False) x (nD p sts)) (hB:qU p l sts t=false):xQ prog 84 [x,.sl 3 (qO l),.int .i64 t] ⟨nx,ob⟩ (.wF [.xL,.bool false]) ⟨nx,ob⟩:=by
 have hc:=Yc hll hA hR hl ht (d:=.wF [.xL,.bool false]) (σ':=jR) (λh=>by rw [hB] at h; cases h) (λ_=>⟨rfl,rfl⟩);exact xQ.Sq hc ⟨hx,.pure rfl,.pure rfl,trivial⟩ (by simp [D.flat,D.b7])
theorem ml (p:yT) (sm:pT p) (l:List uI) (sc:jU l) (n:Int):xA prog 82 [p.d,.sl 3 (qO l),.int .i64 n] (.wF [bG p l n,.int .i64 (sV p l n)]):=by
 have hQ:=wx p sm n;have hC:=WK p l sc;have hll:=sc.len;by_cases c:oN p n=0
 case neg=>
  have c':(oN p n != 0)= true:=by simpa using c
  have e1:sV p l n=oN p n:=by unfold sV; rw [if_pos c]
  have e2:bG p l n = .qM:=by unfold bG; rw [e1,if_neg c]
  rw [e1,e2];unfold yT.d yT.cells at *;refine xI func82 Jw λhf=>?_;refine zI ?_;refine .go (cr hQ) ?_;refine xH c' ?_;exact .drop (by simp) (by simp [vw,vC])
 have c':(oN p n != 0)= false:=by simpa using c
 by_cases c2:wP p l=0
 case neg=>
  have c2':(wP p l != 0)= true:=by simpa using c2
  have e1:sV p l n=wP p l:=by unfold sV; rw [if_neg (by simpa using c),if_pos c2]
  have e2:bG p l n = .qM:=by unfold bG; rw [e1,if_neg c2]
  rw [e1,e2];unfold yT.d yT.cells at *;refine xI func82 Jw λhf=>?_;refine zI ?_;refine .go (cr hQ) ?_;refine xH c' ?_;refine .go (cr hC) ?_;refine xH c2' ?_;exact .drop (by simp) (by simp [vw,vC])
 have c2':(wP p l != 0)= false:=by simpa using c2
 obtain⟨F,k,hv,rfl,hk⟩:=Kb.lP c
 have hgE:sV p l ((k+1:Nat):Int)= if (qL p l k).isSome=true then 0 else 6:=by unfold sV;rw [if_neg (by simpa using c),if_neg (by simpa using c2),ω,υ]
 have hgD:bG p l ((k+1:Nat):Int)= if (qL p l k).isSome=true then nD p (zJ p l k) else .qM:=by unfold bG;rw [hgE,ω,υ];split <;> rfl
 have hB:=YX hv;have hI:=hv.hI;have hA:=hv.hA;have hw:IntKind.i64.wrap (((k+1:Nat):Int)-1)= (k:Int):=by rw [wrap_i64 (by omega)]; omega
 have hB1:=xQ.own (σ:=⟨1,[(0,⟨5,[p.cells]⟩)]⟩) hB (by simp [D.xR,D.xF,yT.d,yT.cells]);have hPS:=(dY p (χ 2) (qC p)).shift (c:=1) (r:=[(0,⟨5,[p.cells]⟩)]);have hbl:(qC p).length=p.init.length:=by simp [qC]
 have hD:p.d = .agg [.int .i64 p.F,.sl 1 (us p.init),.sl 1 (us p.xV),.sl 1 (uK p.xO),.sl 1 (uJ p.code)]:=rfl;rw [hgE,hgD];unfold yT.cells at hB1 hPS;rw [hD] at *;refine xI func82 Jw λhf=>?_;refine zI ?_;refine .go (cr hQ) ?_;refine xH c' ?_;refine .go (cr hC) ?_;refine xH c2' ?_;refine .go hB1 ?_;refine xH hw ?_
 refine sP (λt:Nat=>[(30,.int .i64 t),(29,.int .i64 k),(10,.ref 0 6 0 0),(1,.sl 3 (qO l))]) (λt=>⟨2+(zJ p l t).length,ko p 2 (zJ p l t)⟩) (λt=>t<=k/\(qL p l t).isSome=true) (λt=>k-t) 0 ⟨τ _,rfl⟩ ?_ ?_
 ·refine yR.ZY hPS (χ _) (τ _) (λk hk=>absurd hk (ψ _)) ?_;simp only [bw,vw,Fr.get,↓reduceIte,reduceIte,Nat.reduceEqDiff,D.shift,and_true,true_and];exact⟨rfl,by omega,rfl⟩
 intro t ⟨ht,hsome⟩;refine xN mixed ?_;have hS:=iJ hv c2 t hsome;have hl:=hS.len;obtain⟨u1,u2⟩:=VU hsome;by_cases htn:t<k
 case neg=>
  have hd:¬ ((t:Int)<(k:Int)):=by omega
  obtain rfl:t=k:=by omega
  rw [if_pos hsome,if_pos hsome];refine xH hd ?_
  refine .go [(10,nD p (zJ p l t))] ⟨2+(zJ p l t).length,[]⟩ ?_ ?_
  ·refine yR.deep (λ_=>False) trivial ⟨.inr ?_,trivial⟩;exact xd (χ 2) λ_ h=>h
  refine xJ ?_;exact .drop (by simp) (by simp [vw,vC,nD])
 have hd:((t:Int)<(k:Int)):=by omega
 have hseen:Seen ⟨2+(zJ p l t).length,ko p 2 (zJ p l t)⟩ (λ_=>False) (.ref 0 6 0 0) (nD p (zJ p l t)):=xd (χ 2) λ_ h=>h
 cases hcb:qU p l (zJ p l t) t with
 | false=> have hno:=Zv hll hA (by rw [hl]; exact hI) (λst hs=>by rw [hS.run st hs]; omega) (by omega) hseen hcb;have hnk:(qL p l k).isSome=false:=cM (show t+1<=k by omega) (by rw [u1,hcb]);rw [hnk,if_neg (by simp),if_neg (by simp)];refine xH hd ?_;refine .go hno ?_;refine xJ ?_;refine .zN ?_;refine xJ ?_;exact .drop (by simp) (by simp [vw,vC])
 | true=>
  have hyes:=ue hll hA (by rw [hl]; exact hI) (λst hs=>by rw [hS.run st hs]; omega) (by omega) hseen hcb;have hpl:=yu p l (zJ p l t) t;have h121:=lq hv (sts:=zJ p l t) (by rw [hl]; exact hI) (λst hs=>by rw [hS.run st hs]; omega) hS.val (mv:=tQ p l (zJ p l t) t) (by rw [hpl]; omega) ow (VO c2 hcb) (nx:=2+(zJ p l t).length+(1+p.xV.length)) (by omega);have hnext:=u2 hcb;have hsl:(nP p (zJ p l t) (tQ p l (zJ p l t) t)).length=(zJ p l t).length:=by simp [nP]
  have hPI:=dY p (b:=2+(zJ p l t).length+(1+p.xV.length)) (by omega) (nP p (zJ p l t) (tQ p l (zJ p l t) t));refine xH hd ?_;refine .go hyes ?_;refine xJ ?_;refine .go h121 ?_;refine xJ ?_;refine⟨t+1,⟨by omega,by rw [u1,hcb]⟩,?_,by omega⟩;rw [hnext];refine yR.ZY hPI (χ _) (τ _) (λk hk=>absurd hk (ψ _)) ?_;simp only [bw,vw,Fr.get,↓reduceIte,reduceIte,Nat.reduceEqDiff,and_true,true_and];exact⟨by rw [wrap_i64 (by omega)]; rfl,by omega,rfl⟩
open Rs Fm Ru Te Kb
namespace Kb
structure bp (n : Nat) (sts sts' : List (List (BitVec 64))) : Prop where
 len:sts'.length=sts.length
 run:∀ i,i<sts.length->(vK sts' i).take n=(vK sts i).take n
theorem bp.refl (n:Nat) (sts:List (List (BitVec 64))):bp n sts sts:=⟨rfl,λ_ _=>rfl⟩
theorem bp.trans {n:Nat} {a b c:List (List (BitVec 64))} (h:bp n a b) (h':bp n b c):bp n a c:=⟨h'.len.trans h.len,λi hi=>(h'.run i (by rw [h.len]; exact hi)).trans (h.run i hi)⟩
theorem bp.mono {n m:Nat} {a b:List (List (BitVec 64))} (h:bp n a b) (hm:m<=n):bp m a b:=⟨h.len,λi hi=>by
 have:=congrArg (List.take m) (h.run i hi)
 rwa [List.take_take,List.take_take,Nat.min_eq_left hm] at this⟩
section
variable {n t : Nat} {sts sts' : List (List (BitVec 64))} {xV : List (BitVec 64)}
theorem bp.V8 (h:bp n sts sts') (ht:t<n) {a r:Nat} (hr:r<sts.length):vG xV (vK sts' r) a t=vG xV (vK sts r) a t:=by have:=(h.mono (show t+1<=n from ht)).run r hr;unfold vG;rw [this]
theorem all_congr {α:Type} {l:List α} {f g:α->Bool} (h:∀ x ∈ l,f x=g x):l.all f=l.all g:=by
 induction l with
 | nil=>rfl
 | cons x r ih=>rw [List.all_cons,List.all_cons,h x (by simp),ih λy hy=>h y (by simp [hy])]
variable {p : yT}
theorem bp.tX (h:bp n sts sts') (ht:t<n) {a r:Nat} (hr:r<sts.length):tX p sts' t a r=tX p sts t a r:=h.V8 ht hr
theorem bp.qU (h:bp n sts sts') (ht:t<n) {l:List uI}:qU p l sts' t=qU p l sts t:=by unfold Kb.qU;rw [h.len];refine all_congr λa _=>all_congr λr hr=>?_;rw [h.tX ht (γ.1 hr)]
theorem bp.tQ (h:bp n sts sts') (ht:t<n) {l:List uI}:tQ p l sts' t=tQ p l sts t:=by unfold Kb.tQ jl;rw [h.len];refine ξ λa _=>ξ λr hr=>?_;rw [h.tX ht (γ.1 hr)]
theorem QG {mv:List (List Int)} (hl:∀ st ∈ sts,n<=st.length):bp n sts (nP p sts mv) where
 len:=by simp [nP]
 run:=λi hi=>by
  have e:vK (nP p sts mv) i=vK sts i ++ [zr p sts mv i]:=by simp [vK,nP,List.getD,hi]
  rw [e,List.take_append_of_le_length (hl _ (nU hi))]
end
theorem VT {p:yT} {F:Nat} (hv:zz p F) {l:List uI} (hc:wP p l=0) {n:Nat}:∀ {m:Nat},n<=m->(qL p l m).isSome=true->bp (n+1) (zJ p l n) (zJ p l m)
 | 0,h,_=>by
  have:n=0:=by omega
  subst this; exact .refl _ _
 | m+1,h,hs=>by
  by_cases e:n=m+1
  ·subst e; exact .refl _ _
  ·obtain⟨h1,h2,h3⟩:=cL hs;rw [h3];exact(VT hv hc (m:=m) (by omega) h1).trans (QG λst hs=>by rw [(iJ hv hc m h1).run st hs]; omega)
theorem Y3 {p:yT} {l:List uI} {n:Nat}:∀ {m:Nat},n<=m->(qL p l m).isSome=true->(qL p l n).isSome=true:=λh hs=>by
 cases c:(qL p l n).isSome with
 | true=>rfl
 | false=>rw [cM h c] at hs; cases hs
theorem Ym {p:yT} {F:Nat} (hv:zz p F) {l:List uI} (hc:wP p l=0) {k t:Nat} (hs:(qL p l k).isSome=true) (ht:t<k):qU p l (zJ p l k) t=true/\zJ p l (t+1)= nP p (zJ p l t) (tQ p l (zJ p l k) t):=by obtain⟨h1,h2,h3⟩:=cL (Y3 (show t+1<=k from ht) hs);have he:=VT hv hc (n:=t) (m:=k) (by omega) hs;exact⟨by rw [he.qU (by omega)]; exact h2,by rw [he.tQ (by omega)]; exact h3⟩
end Kb
open Rs Fm Ru Te Kb
namespace Kb
def fS (p:yT) (l:List uI) (n:Int):jO:=if sV p l n≠0 then⟨0,0,0,[]⟩ else⟨p.xV.length,p.F,n,kG p.xV (zJ p l (n.toNat-1)) n.toNat⟩
def fJ (p:yT) (l:List uI) (n:Int):Bool:=decide (sV p l n=0)&& (List.range (n.toNat-1)).all λt=>decide (tQ p l (zJ p l (n.toNat-1)) t=vB p (zJ p l (n.toNat-1)) t)
end Kb
theorem lp (p:yT) (sm:pT p) (l:List uI) (sc:jU l) (n:Int):xA prog 25 [p.d,.sl 3 (qO l),.int .i64 n] (.wF [(fS p l n).d,.int .i64 (sV p l n)]):=by
 have hG:=ml p sm l sc n;by_cases c:sV p l n=0
 case neg=>
  have c':(sV p l n != 0)= true:=by simpa using c
  have hD:(fS p l n).d = .agg [.int .i64 0,.int .i64 0,.int .i64 0,.sl 2 []]:=by unfold fS; rw [if_pos c]; rfl
  have e2:bG p l n = .qM:=by unfold bG; rw [if_neg c]
  rw [hD];rw [e2] at hG;unfold yT.d yT.cells at *;refine xI func25 G8 λhf=>?_;refine zI ?_;refine .go (cr hG) ?_;refine vR c' ?_;exact .drop (by simp) (by simp [vw,vC])
 have c':(sV p l n != 0)= false:=by simpa using c
 obtain⟨F,k,hv,rfl,hk,hc,hs⟩:=iT c;have hS:=vf hv hk (iJ hv hc k hs)
 have hD:(fS p l ((k+1:Nat):Int)).d=sD p.xV.length F (k+1) (kG p.xV (zJ p l k) (k+1)):=by unfold fS;rw [if_neg (by simpa using c),ω,υ];show D.agg [_,_,_,_]=D.agg [_,_,_,_];rw [hv.fe]
 have e2:bG p l ((k+1:Nat):Int)= nD p (zJ p l k):=by unfold bG; rw [if_pos c,ω,υ]
 rw [hD];rw [e2] at hG;generalize kG p.xV (zJ p l k) (k+1)= S at *;generalize zJ p l k=sts at *;unfold yT.d yT.cells nD bu sD at *;refine xI func25 G8 λhf=>?_;refine zI ?_;refine .go (cr hG) ?_;refine xH c' ?_;refine .go (cr hS) ?_;refine zI ?_;exact .drop (by simp) (by simp [vw,vC]; simpa using c.symm)
theorem KS (a b:List Int):xA prog 86 [.sl 1 (rows .i64 a),.sl 1 (rows .i64 b)] (.bool (decide (a=b))):=by refine xI func86 Fl λhf=>?_;refine xJ ?_;refine .go (cr (O0 a b)) ?_;refine xJ ?_;exact .same
theorem O3 (a b:List (List Int)) (hl:a.length<=1000):xA prog 85 [.sl 1 (rl a),.sl 1 (rl b),.fn 86 []] (.bool (decide (a=b))):=by
 refine xI func85 Fk λhf=>?_;by_cases h1:a.length=b.length
 case neg=>
  have h1':((a.length:Int) != (b.length:Int))= true:=by simp; omega
  refine yO sG h1' ?_;exact .drop (by simp) (by simp only [vw,D.bool.injEq]; symm; apply decide_eq_false; rintro rfl; exact h1 rfl)
 have h1':((a.length:Int) != (b.length:Int))= false:=by simp; omega
 refine yO sG h1' ?_
 refine xU (λk:Nat=>[(17,.int .i64 k),(16,.int .i64 a.length),(15,.sl 1 (rl a)),(2,.fn 86 []),(1,.sl 1 (rl b))]) (λ_=>⟨0,[]⟩) (λk=>k<=a.length/\∀ i,i<k->a.getD i []=b.getD i []) (λk=>a.length-k) 0 ⟨τ _,λi hi=>by omega⟩ ?_ ?_
 ·exact wO
 intro k ⟨hk,hi⟩;refine xN mixed ?_
 by_cases h:k<a.length
 ·have hd:((k:Int)<(a.length:Int)):=by omega
  have hd2:((k:Int)<(b.length:Int)):=by omega
  have ga:=zm a h;have gb:=zm b (show k<b.length by omega);have he:=KS (a.getD k []) (b.getD k [])
  by_cases hb:a.getD k []=b.getD k []
  ·rw [decide_eq_true hb] at he;refine rI hd sG ga hd2 gb ?_;refine .go (cr he) ?_;refine xJ ?_
   refine⟨k+1,⟨by omega,λi hi2=>?_⟩,?_,by omega⟩
   ·by_cases ei:i=k
    ·rw [ei,hb]
    ·exact hi i (by omega)
   exact yL
  ·rw [decide_eq_false hb] at he;refine rI hd sG ga hd2 gb ?_;refine .go (cr he) ?_;refine xJ ?_;exact .drop (by simp) (by simp only [vw,D.bool.injEq]; symm; apply decide_eq_false; rintro rfl; exact hb rfl)
 ·have hd:¬ ((k:Int)<(a.length:Int)):=by omega
  have hk':k=a.length:=by omega
  subst hk';refine xH hd ?_;refine .drop (by simp) ?_;simp only [vw,D.bool.injEq]; symm; apply decide_eq_true;refine List.ext_getElem h1 λi h2 h3=>?_;have:=hi i h2;simpa [List.getD,h2,h3] using this
theorem yf (p:yT) (sm:pT p) (l:List uI) (sc:jU l) (n:Int):xA prog 27 [p.d,.sl 3 (qO l),.int .i64 n] (.wF [.bool (fJ p l n),.int .i64 (sV p l n)]):=by
 have hG:=ml p sm l sc n;by_cases c:sV p l n=0
 case neg=>
  have c':(sV p l n != 0)= true:=by simpa using c
  have hD:fJ p l n=false:=by unfold fJ; rw [decide_eq_false c]; rfl
  have e2:bG p l n = .qM:=by unfold bG; rw [if_neg c]
  rw [hD];rw [e2] at hG;unfold yT.d yT.cells at *;refine xI func27 GA λhf=>?_;refine zI ?_;refine .go (cr hG) ?_;refine xH c' ?_;exact .drop (by simp) (by simp [vw,vC])
 have c':(sV p l n != 0)= false:=by simpa using c
 obtain⟨F,k,hv,rfl,hk,hc,hs⟩:=iT c;have hS:=iJ hv hc k hs;have e2:bG p l ((k+1:Nat):Int)= nD p (zJ p l k):=by unfold bG; rw [if_pos c,ω,υ]
 have hIB:fJ p l ((k+1:Nat):Int)= (List.range k).all λt=>decide (tQ p l (zJ p l k) t=vB p (zJ p l k) t):=by unfold fJ;rw [decide_eq_true c,ω,υ,Bool.true_and]
 rw [hIB,c];rw [e2] at hG;rw [c] at hG;have hpm:=λt ht=>ym hv (hS.j0 hv (t:=t) ht (by omega));have hall:∀ t,t<k->qU p l (zJ p l k) t=true:=λt ht=>(Ym hv hc hs ht).1;have hI:=hv.hI;have hlen:=hS.len;have hrun:=hS.run;generalize zJ p l k=sts at *;have hch:=λ(nx:Nat) (ob:List (Nat × Ob)) t (ht:t<k)=>ue (nx:=nx) (ob:=ob) (x:=nD p sts) sc.len hv.hA (by rw [hlen]; exact hI) (λst hs=>by rw [hrun st hs]; omega) (by omega) (.pure rfl) (hall t ht);have hw:IntKind.i64.wrap (((k+1:Nat):Int)-1)= (k:Int):=by rw [wrap_i64 (by omega)]; omega
 have hA:=hv.hA;have heq:=λt=>O3 (tQ p l sts t) (vB p sts t) (by rw [yu]; omega);unfold yT.d yT.cells nD bu at *;refine xI func27 GA λhf=>?_;refine zI ?_;refine .go (cr hG) ?_;refine xH hw ?_
 refine xU (λt:Nat=>[(25,.int .i64 t),(24,.int .i64 k),(8,.ptr [.int .i64 p.F,.sl 1 (us p.init),.sl 1 (us p.xV),.sl 1 (uK p.xO),.sl 1 (uJ p.code),.sl 1 (rr sts)]),(1,.sl 3 (qO l))]) (λ_=>⟨0,[]⟩) (λt=>t<=k/\∀ j,j<t->tQ p l sts j=vB p sts j) (λt=>k-t) 0 ⟨τ _,λj hj=>absurd hj (ψ _)⟩ ?_ ?_
 ·exact mD [] []
 intro t ⟨ht,hj⟩;refine xN mixed ?_;by_cases htk:t<k
 case neg=>
  have hd:¬ ((t:Int)<(k:Int)):=by omega
  rw [show ((List.range k).all λt=>decide (tQ p l sts t=vB p sts t))= true by rw [μ];exact λj hj2=>decide_eq_true (hj j (by have:=γ.1 hj2; omega))]
  refine xH hd ?_;exact .drop (by simp) (by simp [vw,vC])
 have hd:((t:Int)<(k:Int)):=by omega
 have h1:=hch 0 [] t htk;have h2:=hpm t (by omega);have h3:=heq t
 have hno:tQ p l sts t≠vB p sts t->((List.range k).all λt=>decide (tQ p l sts t=vB p sts t))= false:=λh=>by rw [List.all_eq_false];exact⟨t,γ.2 htk,by simpa using h⟩
 have hsu:tQ p l sts t=vB p sts t->∀ j,j<t+1->tQ p l sts j=vB p sts j:=λh j hj2=>by
  by_cases e:j=t
  ·rw [e]; exact h
  ·exact hj j (by omega)
 generalize tQ p l sts t=M1 at *;generalize vB p sts t=M2 at *;refine xH hd ?_;refine .go h1 ?_;refine xJ ?_;refine .go (cr h2) ?_;refine xJ ?_;refine .go (cr h3) ?_
 by_cases hq:M1=M2
 ·rw [decide_eq_true hq];refine xJ ?_;refine⟨t+1,⟨by omega,hsu hq⟩,?_,by omega⟩;exact mD [] []
 ·rw [decide_eq_false hq,hno hq];refine xJ ?_;exact .drop (by simp) (by simp [vw,vC])
end Go.Pd
