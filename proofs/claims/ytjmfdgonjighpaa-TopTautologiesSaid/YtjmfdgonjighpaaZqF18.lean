/- Part F18. -/
import Derived.Test.YtjmfdgonjighpaaZqF12
set_option linter.unusedSectionVars false
set_option linter.unusedVariables false
set_option linter.unusedSimpArgs false
set_option linter.defProp false
set_option maxRecDepth 20000
set_option maxHeartbeats 1000000
open Go.Proofs.Try
open List renaming length_append->γ,getD_eq_getElem?_getD->δ,length_singleton->ε,getElem?_append_left->ζ,getD_cons_succ->η,length_map->θ,getElem?_eq_getElem->κ,getD_cons_zero->μ
open Int renaming toNat_of_nonneg->ν,toNat_natCast->ξ,eq_ofNat_of_zero_le->ο
namespace Go.Pd
open Go Go.Proofs
open BitVec renaming isValue -> ZA
open Rs Fm
theorem Uq {σ σ':St} {ρ:Nat->Nat} {cs:List D} (h:D.xT cs=true):sV σ σ' ρ cs cs:=by
 refine D.rec_2 (motive_1:=λd=>d.xO=true->vw σ σ' ρ d d) (motive_2:=λ_=>True) (motive_3:=λcs=>D.xT cs=true->sV σ σ' ρ cs cs)
  ?top ?uO ?int ?bool ?str ?sl ?xI ?emp ?agg ?yD ?fn ?ref ?wZ ?sub ?ptr ?yV ?pA ?sP ?pN ?zo trivial (λ_ _ _ _=>trivial) ?nil ?cons cs h
 case agg=>intro cs ih h; simp only [D.xO] at h; simp only [vw]; exact⟨trivial,ih h⟩
 case yD=>intro cs ih h; simp only [D.xO] at h; simp only [vw]; exact⟨trivial,ih h⟩
 case fn=>intro f cs ih h; simp only [D.xO] at h; simp only [vw]; exact⟨trivial,trivial,ih h⟩
 case nil=>intro _; simp [sV]
 case cons=> intro c cs ih1 ih2 h;simp only [D.xT,Bool.and_eq_true] at h;simp only [sV];exact⟨ih1 h.1,ih2 h.2⟩
 case ref=>intro _ _ _ _ h; simp [D.xO] at h
 case wZ=>intro _ _ _ h; simp [D.xO] at h
 case sub=>intro _ _ _ _ h; simp [D.xO] at h
 case yV=>intro _ h; simp [D.xO] at h
 all_goals (intros; simp [vw])
namespace Fm
def rb (l:List Bool):List (List D):=l.map λb=>[.bool b]
theorem nY (l:List Bool):(rb l).length=l.length:=by simp [rb]
theorem nZ (l:List Bool) {i:Nat} (h:i<l.length):(rb l).getD i [] = [.bool (l.getD i false)]:=by simp [rb,List.getD,h]
theorem iU (l:List Bool) (i:Nat) (b:Bool):(rb l).set i [.bool b]=rb (l.set i b):=by simp [rb,List.map_set]
theorem cE (n:Nat) (b:Bool):List.replicate n [D.bool b]=rb (List.replicate n b):=by simp [rb]
theorem Sb (l:List Bool):∀ e ∈ rb l,D.xT e=true:=by intro e he;simp only [rb,List.mem_map] at he;obtain⟨n,_,rfl⟩:=he;rfl
theorem cO (l:List Bool):rP (rb l)= True:=eq_true (Sb l)
theorem ma (a b:D):List.set [a] 0 b = [b]:=rfl
def tO (c:List Nd) (leaf:Nat->Bool):Nat->List Bool
 | 0=>List.replicate c.length false
 | k+1=>(tO c leaf k).set k (if (c.getD k yG).op=3\/8<(c.getD k yG).op then leaf k else mV (c.getD k yG).op ((tO c leaf k).getD (c.getD k yG).x.toNat false) ((tO c leaf k).getD (c.getD k yG).y.toNat false))
theorem bJ (c:List Nd) (leaf:Nat->Bool):∀ k,(tO c leaf k).length=c.length
 | 0=>by simp [tO]
 | k+1=>by simp [tO,bJ c leaf k]
def vO (c:List Nd) (leaf:Nat->Bool):Bool:=(tO c leaf c.length).getD (c.length-1) false
theorem je {p:Nd} {k:Nat} (h:zK p k=0):(∃ x:Nat,p.x=x/\x<=k)/\ (∃ y:Nat,p.y=y/\y<=k):=by
 obtain⟨_,h2,h3,_⟩:=uQ.1 h
 refine⟨?_,?_⟩
 ·unfold zM at h2
  split at h2
  ·simp only [Bool.and_eq_true,decide_eq_true_eq] at h2;exact⟨p.x.toNat,by omega,by omega⟩
  ·simp only [decide_eq_true_eq] at h2;exact⟨0,by omega,by omega⟩
 ·unfold zM at h3
  split at h3
  ·simp only [Bool.and_eq_true,decide_eq_true_eq] at h3;exact⟨p.y.toNat,by omega,by omega⟩
  ·simp only [decide_eq_true_eq] at h3;exact⟨0,by omega,by omega⟩
end Fm
theorem YO {c:List Nd} {g:FuncId} {caps:List D} {leaf:Nat->Bool} (hc:∀ k,k<c.length->zK (c.getD k yG) k=0) (hn:0<c.length) (hlen:c.length<=1000) (hp:D.xT caps=true)
  (hl:∀ i,i<c.length->((c.getD i yG).op=3\/8<(c.getD i yG).op)->zX prog g (.int .i64 i :: caps) (.bool (leaf i))):zX prog 20 [.sl 6 (vW c),.fn g caps] (.bool (vO c leaf)):=by
 refine yS func20 LB λhf=>?_;have hcv:∀ σ σ' ρ,sV σ σ' ρ caps caps=True:=λσ σ' ρ=>eq_true (Uq hp);refine j4 xF ?_;rw [cE]
 refine yM (λk:Nat=>[(13,.int .i64 k),(12,.int .i64 c.length),(11,.sl 6 (vW c)),(5,.wZ 0 1 c.length),(1,.fn g caps),(0,.sl 6 (vW c))]) (λk=>⟨1,[(0,⟨1,rb (tO c leaf k)⟩)]⟩) (λk=>k<=c.length) (λk=>c.length-k) 0 (Nat.zero_le _) ?_ ?_
 ·(refine fm [] [0] ?_; simp only [lS,zQ,simprocAttr,-ZA,exists_eq_left',ne_eq,zR,cO,hcv,tO])
 intro k hk;refine wH mixed ?_;have hvl:=bJ c leaf k;by_cases h:k<c.length
 case neg=>
  have hd:¬ ((k:Int)<(c.length:Int)):=by omega
  have ek:k=c.length:=by omega
  subst ek;have ew:IntKind.i64.wrap ((c.length:Int)-1)= ((c.length-1:Nat):Int):=by rw [wrap_i64 (by omega)]; omega
  simp only [simprocAttr,-ZA,↓zU,↓zD,zV,zT,zW,hd,xF,ew,nY,hvl,nZ (tO c leaf c.length) (i:=c.length-1) (by omega)]
  (repeat refine sd ?_)
  exact .drop (by simp) (by simp [vw,vO])
 have hd:((k:Int)<(c.length:Int)):=by omega
 have hnk:=hc k h;have hlk:=hl k h;obtain⟨⟨x,hx,hxk⟩,⟨y,hy,hyk⟩⟩:=je hnk;have hg:=rX c h
 have hs:tO c leaf (k+1)= (tO c leaf k).set k (if (c.getD k yG).op=3\/8<(c.getD k yG).op then leaf k else mV (c.getD k yG).op ((tO c leaf k).getD x false) ((tO c leaf k).getD y false)):=by rw [tO,hx,hy]; rfl
 generalize c.getD k yG=p at hnk hx hy hg hs hlk;have hw:IntKind.i64.wrap ((k:Int)+ 1)= ((k+1:Nat):Int):=wrap_i64 (by omega)
 by_cases h3:p.op=3
 ·have e3:(p.op==3)= true:=by simpa using h3
  rw [if_pos (.inl h3)] at hs;simp only [simprocAttr,-ZA,↓zU,↓zD,zV,zT,zW,hd,xF,hg,Nd.row,e3]
  (repeat refine sd ?_)
  refine .go (xU.yU (hlk (.inl h3)) (by simpa [D.xT,D.xO] using hp)) ?_;simp only [simprocAttr,-ZA,↓zU,↓zD,zV,zT,zW,nY,hvl,h,nZ (tO c leaf k) (i:=k) (by omega),ma,iU,<- hs]
  (repeat refine sd ?_)
  refine⟨k+1,by omega,?_,by omega⟩;exact TA [] [0] cO hcv hw
 have e3:(p.op==3)= false:=by simpa using h3
 by_cases h8:p.op<=8
 case neg=>
  have e8:decide (p.op<=8)= false:=by simpa using h8
  rw [if_pos (.inr (by omega))] at hs;simp only [simprocAttr,-ZA,↓zU,↓zD,zV,zT,zW,hd,xF,hg,Nd.row,e3]
  (repeat refine sd ?_)
  refine .go (cq (lE p.op)) ?_;refine j4 e8 ?_;refine .go (xU.yU (hlk (.inr (by omega))) (by simpa [D.xT,D.xO] using hp)) ?_;simp only [simprocAttr,-ZA,↓zU,↓zD,zV,zT,zW,nY,hvl,h,nZ (tO c leaf k) (i:=k) (by omega),ma,iU,<- hs]
  (repeat refine sd ?_)
  refine⟨k+1,by omega,?_,by omega⟩;exact TA [] [0] cO hcv hw
 have e8:decide (p.op<=8)= true:=by simpa using h8
 rw [if_neg (by omega)] at hs;simp only [simprocAttr,-ZA,↓zU,↓zD,zV,zT,zW,hd,xF,hg,Nd.row,e3]
 (repeat refine sd ?_)
 refine .go (cq (lE p.op)) ?_;simp only [simprocAttr,-ZA,↓zU,↓zD,zV,zT,zW,e8,hx,hy,nY,hvl,nZ (tO c leaf k) (i:=x) (by omega),nZ (tO c leaf k) (i:=y) (by omega)]
 (repeat refine sd ?_)
 refine .go (cq (WY p.op _ _)) ?_;simp only [simprocAttr,-ZA,↓zU,↓zD,zV,zT,zW,nY,hvl,h,nZ (tO c leaf k) (i:=k) (by omega),ma,iU,<- hs]
 (repeat refine sd ?_)
 refine⟨k+1,by omega,?_,by omega⟩;exact TA [] [0] cO hcv hw
open Rs Fm
namespace Fm
theorem PN {p:Nd} {k:Int} (h:zK p k=0):0<=p.i/\p.i<=7:=by have h1:=(uQ.1 h).2.2.2.2;have h2:=(uQ.1 h).2.2.2.1;have hk:=um p.op;simp only [yW,Bool.or_eq_false_iff,Bool.and_eq_false_iff,Bool.not_eq_false',Bool.or_eq_true,decide_eq_false_iff_not] at h1 h2;rcases hk with ⟨a,b,c,d⟩ | ⟨a,b,c,d⟩ | ⟨a,b,c,d⟩ | ⟨a,b,c,d⟩ | ⟨a,b,c,d⟩ <;> simp only [a,b,c,d] at h1 h2 <;> simp at h1 h2 <;> omega
def rA (c:List Nd) (v i:Nat):Bool:=v.testBit (c.getD i yG).i.toNat
def lX (c:List Nd):Nat->BitVec 64
 | 0=>0#64
 | k+1=>if vO c (rA c k)= true then lX c k ||| (1#64 <<< k) else lX c k
def xE (f:List Nd) (n:Int):BitVec 64 × Int:= if yQ f≠0 then(0#64,yQ f) else if rF f≠0 then(0#64,10) else if n<0\/6<n\/jJ f 0 n=false then(0#64,2) else(lX (xQ f) (2 ^ n.toNat),0)
end Fm
theorem Q8 {c:List Nd} {v i:Nat} (hv:v<2 ^ 60) (hi:i<c.length) (h:0<=(c.getD i yG).i/\(c.getD i yG).i<=7):zX prog 21 [.int .i64 i,.ptr [.int .i64 v],.ptr [.sl 6 (vW c)]] (.bool (rA c v i)):=by
 refine yS func21 LC λhf=>?_;have hg:=rX c hi;unfold rA;generalize c.getD i yG=p at h hg;obtain⟨w,hw⟩:=ο h.1;have e:(p.i.toNat:Nat)= w:=by omega
 simp only [simprocAttr,-ZA,↓zU,↓zD,zV,zT,zW,xF,hg,Nd.row,hw,bP v w (by omega),cV (iH (show v<2 ^ 62 by omega) w),wg]
 (repeat refine sd ?_)
 exact .dv
theorem ik (f:List Nd) (n:Int):zX prog 5 [.sl 6 (vW f),.int .i64 n] (.yD [.int .u64 (ui (xE f n).1),.int .i64 (xE f n).2]):=by
 refine yS func5 k5 λhf=>?_;refine xB ?_;refine .go (cr (iG f)) ?_;by_cases hc:yQ f=0
 case neg=>
  have e:(yQ f != 0)= true:=by simpa using hc
  refine yK e ?_;rw [show xE f n=(0#64,yQ f) from if_pos hc];exact .same
 have e:(yQ f != 0)= false:=by simpa using hc
 refine yK e ?_;refine .go (cr (Rg f)) ?_;by_cases hf0:rF f=0
 case neg=>
  have e2:((rF f:Int) != 0)= true:=by rw [bne_iff_ne]; omega
  refine yK e2 ?_;rw [show xE f n=(0#64,10) by rw [xE,if_neg (by simpa using hc),if_pos hf0]];exact .same
 have e2:((rF f:Int) != 0)= false:=by rw [hf0]; rfl
 by_cases h1:n<0
 ·refine sC e2 h1 ?_;rw [show xE f n=(0#64,2) by rw [xE,if_neg (by simpa using hc),if_neg (by simpa using hf0),if_pos (.inl h1)]];exact .same
 by_cases h2:6<n
 ·refine zl e2 h1 h2 ?_;rw [show xE f n=(0#64,2) by rw [xE,if_neg (by simpa using hc),if_neg (by simpa using hf0),if_pos (.inr (.inl h2))]];exact .same
 refine zl e2 h1 h2 ?_;refine .go (cr (Pq f 0 n)) ?_
 cases h3:jJ f 0 n
 ·refine xB ?_;rw [show xE f n=(0#64,2) by rw [xE,if_neg (by simpa using hc),if_neg (by simpa using hf0),if_pos (.inr (.inr h3))]];exact .same
 rw [show xE f n=(lX (xQ f) (2 ^ n.toNat),0) by rw [xE,if_neg (by simpa using hc),if_neg (by simpa using hf0),if_neg (by simp [h1,h2,h3])]];refine xB ?_;refine .go (cr (kV f)) ?_;obtain⟨m,rfl⟩:=ο (show 0<=n by omega);have hm:m<=6:=by omega
 have hnd:=bQ f ((f.length:Int)-1);have zL:=pP hc;have hln:=kI f ((f.length:Int)-1);have hcd:xQ f=fV f ((f.length:Int)-1):=rfl;rw [<- hcd] at hnd hln;generalize xQ f=c at hnd hln zL;rw [ξ];have h64:2 ^ m<=2 ^ 6:=Nat.pow_le_pow_right (by decide) hm;simp only [simprocAttr,-ZA,↓zU,↓zD,zV,zT,zW,W0 (show m<=61 by omega)]
 (repeat refine sd ?_)
 refine yM (λk:Nat=>[(34,.int .i64 k),(33,.int .i64 ((2 ^ m:Nat):Int)),(8,.int .u64 (ui (lX c k))),(7,.ref 0 1 0 0)]) (λ_=>⟨1,[(0,⟨1,[[.sl 6 (vW c)]]⟩)]⟩) (λk=>k<=2 ^ m) (λk=>2 ^ m-k) 0 (Nat.zero_le _) ?_ ?_
 ·(refine yJ.same ?_; simp [vI,Fr.get,lX])
 intro k hk;refine wH mixed ?_;have hw:IntKind.i64.wrap ((k:Int)+ 1)= ((k+1:Nat):Int):=wrap_i64 (by omega);by_cases h:k<2 ^ m
 case neg=>
  have hd:¬ ((k:Int)<((2 ^ m:Nat):Int)):=by omega
  rw [show k=2 ^ m by omega];have hd:¬ (((2 ^ m:Nat):Int)<((2 ^ m:Nat):Int)):=by omega
  refine yK hd ?_;exact .drop (by simp) (by simp [vw,sV])
 have hd:((k:Int)<((2 ^ m:Nat):Int)):=by omega
 have hcall:xU prog 20 [.sl 6 (vW c),.fn 21 [.ref 1 1 0 0,.ref 0 1 0 0]] ⟨2,[(1,⟨1,[[.int .i64 k]]⟩),(0,⟨1,[[.sl 6 (vW c)]]⟩)]⟩ (.bool (vO c (rA c k))) ⟨2,[(1,⟨1,[[.int .i64 k]]⟩),(0,⟨1,[[.sl 6 (vW c)]]⟩)]⟩:=by
  refine xU.Vf (YO (g:=21) (caps:=[.ptr [.int .i64 k],.ptr [.sl 6 (vW c)]]) (leaf:=rA c k) hnd zL (by omega) (by simp [D.xT,D.xO]) λi hi _=>Q8 (by omega) hi (PN (hnd i hi))) ⟨.pure rfl,.fn ⟨?_,?_,trivial⟩,trivial⟩ rfl
  ·exact Seen.ref (ob:=⟨1,[[.int .i64 k]]⟩) (by simp [St.get,St.look]) id rfl (by simp) (by simp) (by simp) λj hj=>by
    obtain rfl:j=0:=by simpa using hj
    exact .pure rfl
  ·exact Seen.ref (ob:=⟨1,[[.sl 6 (vW c)]]⟩) (by simp [St.get,St.look]) id rfl (by simp) (by simp) (by simp) λj hj=>by
    obtain rfl:j=0:=by simpa using hj
    exact .pure rfl
 refine yK hd ?_;refine .go hcall ?_
 cases hv:vO c (rA c k)
 ·refine xB ?_;refine⟨k+1,by omega,?_,by omega⟩;rw [show lX c (k+1)= lX c k by rw [lX,hv,if_neg (by simp)]];exact T9 [] [0] hw
 ·refine j0 ?_;refine⟨k+1,by omega,?_,by omega⟩;rw [show lX c (k+1)= lX c k ||| (1#64 <<< k) by rw [lX,hv,if_pos rfl]];exact T9 [] [0] hw
open Rs Fm
namespace Fm
def nl (ops:List (List Nd)):List (List D):=ops.map λo=>[.sl 6 (vW o)]
theorem VN (l:List (List Nd)):(nl l).length=l.length:=by simp [nl]
theorem QG (l:List (List Nd)) {i:Nat} (h:i<l.length):(nl l).getD i [] = [.sl 6 (vW (l.getD i []))]:=by simp [nl,List.getD,h]
theorem aZ (l:List Nd):rP (vW l)= True:=eq_true (vh l)
theorem bh (l:List Nd) (a b c d e f:Int):vW l ++ [[.int .i64 a,.int .i64 b,.int .i64 c,.int .i64 d,.int .i64 e,.int .i64 f]]=vW (l ++ [⟨a,b,c,d,e,f⟩]):=by simp [vW,Nd.row]
theorem SK : vW [] = []:=rfl
theorem SL (l:List Nd):∀ e ∈ vW l,e.length=6:=by intro e he;simp only [vW,List.mem_map] at he;obtain⟨p,_,rfl⟩:=he;rfl
def tJ (n:Nat) (p:Nd):Nd:=⟨p.op,p.i,p.e,p.g,if (xW p.op).1.x=true then p.x+n else p.x,if (xW p.op).1.y=true then p.y+n else p.y⟩
def zY (f:List Nd):Prop:=∀ k,k<f.length->zK (f.getD k yG) k=0
theorem Ui {p:Nd} {k n:Nat} (h:zK p k=0):zK (tJ n p) ((n+k:Nat):Int)= 0:=by
 obtain⟨ox,oy⟩:=nN h
 refine lA h ?_ ?_
 ·split
  ·rename_i hx; have:=ox hx; omega
  ·rfl
 ·split
  ·rename_i hy; have:=oy hy; omega
  ·rfl
theorem Xg {f c:List Nd} (hf:zY f) (hc:zY c):zY (f++c.map (tJ f.length)):=by
 intro k hk;simp only [γ,θ] at hk;simp only [δ]
 by_cases h:k<f.length
 ·rw [ζ h];have:=hf k h
  rwa [δ] at this
 ·rw [List.getElem?_append_right (by omega),List.getElem?_map];have hk':k-f.length<c.length:=by omega
  have h1:=hc (k-f.length) hk';rw [δ,κ hk',Option.getD_some] at h1;rw [κ hk',Option.map_some,Option.getD_some];have:=Ui (n:=f.length) h1
  rwa [show f.length+(k-f.length)= k by omega] at this
theorem iC {f:List Nd} {p:Nd} (hf:zY f) (hp:zK p f.length=0):zY (f ++ [p]):=by
 intro k hk;simp only [γ,ε] at hk;simp only [δ]
 by_cases h:k<f.length
 ·rw [ζ h];have:=hf k h
  rwa [δ] at this
 ·obtain rfl:k=f.length:=by omega
  simpa using hp
theorem mF (o:List Nd):zY (xQ o):=bQ o _
def YY (k:Nat) (x:Nd) (v:Int):Nd:=if k=0 then⟨x.op,x.i,x.e,x.g,v,x.y⟩ else⟨x.op,x.i,x.e,x.g,x.x,v⟩
def kK : Nat->List (List Nd)->List Nd->Nd->Option (List Nd × Nd)
 | _,[],f,x=>some (f,x)
 | k,o :: r,f,x=>if yQ o≠0 then none else
  kK (k+1) r (f++(xQ o).map (tJ f.length)) (YY k x (((f++(xQ o).map (tJ f.length)).length:Int)-1))
def nP (x:Nd) (ops:List (List Nd)):List Nd:=match kK 0 ops [] x with
 | none=>[]
 | some (f,x')=>if zK x' f.length≠0 then [] else if 200<(tB (f ++ [x']) f.length).length then [] else tB (f ++ [x']) f.length
end Fm
theorem iq (x:Nd) (ops:List (List Nd)) (ho:ops.length<=2):zX prog 30 [.agg x.row,.sl 1 (nl ops)] (.sl 6 (vW (nP x ops))):=by
 refine yS func30 LK λhf=>?_;simp only [simprocAttr,-ZA,↓zU,↓zD,zV,zT,zW,VN,Nd.row]
 (repeat refine sd ?_)
 refine yM (λa:Nat × List Nd × Nd=>[(16,.int .i64 a.1),(15,.int .i64 ops.length),(14,.sl 1 (nl ops)),(5,xJ 1 6 (vW a.2.1)),(2,.ref 0 6 0 0)]) (λa=>⟨2,yX 1 6 (vW a.2.1)++ [(0,⟨6,[a.2.2.row]⟩)]⟩)
  (λa=>a.1<=ops.length/\zY a.2.1/\a.2.1.length<=200*a.1/\kK 0 ops [] x=kK a.1 (ops.drop a.1) a.2.1 a.2.2) (λa=>ops.length-a.1) (0,[],x) ⟨Nat.zero_le _,λk hk=>by simp at hk,by simp,rfl⟩ ?_ ?_
 ·(refine fm [] [0] ?_; simp only [lS,zQ,simprocAttr,-ZA,exists_eq_left',ne_eq,zR,SK,nu,nw,List.nil_append,Nd.row])
 rintro ⟨k,f,x1⟩ ⟨hk,hf,hfl,hb⟩;simp only at hk hf hfl hb;refine wH mixed ?_;by_cases h:k<ops.length
 case neg=>
  have hd:¬ ((k:Int)<(ops.length:Int)):=by omega
  rw [List.drop_eq_nil_of_le (by omega),kK] at hb;have eb:nP x ops=if zK x1 f.length≠0 then [] else if 200<(tB (f ++ [x1]) f.length).length then [] else tB (f ++ [x1]) f.length:=by rw [nP,hb]
  rw [eb];simp only [simprocAttr,-ZA,↓zU,↓zD,zV,zT,zW,hd,Nd.row,xF]
  (repeat refine sd ?_)
  refine .go (xU.yU (xg x1 f.length) (by simp [D.xT,D.xO,Nd.row])) ?_;by_cases hn:zK x1 f.length=0
  case neg=>
   have e:(zK x1 f.length != 0)= true:=by simpa using hn
   rw [if_pos hn];refine yK e ?_;exact .drop (by simp) (by simp [vw,vW])
  have e:(zK x1 f.length != 0)= false:=by simpa using hn
  rw [if_neg (by simpa using hn)];simp only [simprocAttr,-ZA,↓zU,↓zD,zV,zT,zW,e,Nd.row,xF]
  (repeat refine sd ?_)
  have hv:zY (f ++ [x1]):=iC hf hn;have hlen:(f ++ [x1]).length<=900:=by rw [γ,ε]; omega
  have hcall:=xU.PI (σ:=⟨3,yX 2 6 (vW (f ++ [x1]))++ [(0,⟨6,[x1.row]⟩)]⟩) (args:=[xJ 2 6 (vW (f ++ [x1])),.int .i64 f.length]) (objs':=[]) (λ_=>False) (ng (i:=f.length) hv hlen (by simp))
   ⟨Seen.grow (by rw [St.get,xG,if_pos rfl]; cases wW 6 (vW (f ++ [x1])) <;> rfl) id (by omega) (SL _) (vh _),.pure rfl,trivial⟩ (λk o hk=>by cases hk)
  rw [bh];simp only [Nd.row] at hcall;refine .go hcall ?_;generalize tB (f ++ [x1]) f.length=c
  by_cases hc:200<c.length
  ·have hc':(200:Int)<(c.length:Int):=by omega
   rw [if_pos hc];refine sC xF hc' ?_;exact .drop (by simp) (by simp [vw,vW])
  ·have hc':¬ (200:Int)<(c.length:Int):=by omega
   rw [if_neg hc];refine sC xF hc' ?_;exact .dv
 have hd:((k:Int)<(ops.length:Int)):=by omega
 have hg:=QG ops h;rw [drop_cons (d:=[]) h,kK] at hb;generalize ops.getD k []=o at hg hb;have hw:IntKind.i64.wrap ((k:Int)+ 1)= ((k+1:Nat):Int):=wrap_i64 (by omega);refine eG hd VN hg ?_;refine .go (cr (iG o)) ?_;by_cases hc:yQ o=0
 case neg=>
  have e:(yQ o != 0)= true:=by simpa using hc
  rw [if_pos hc] at hb;refine yK e ?_;rw [show nP x ops = [] by rw [nP,hb]];exact .drop (by simp) (by simp [vw,vW])
 have e:(yQ o != 0)= false:=by simpa using hc
 rw [if_neg (by simpa using hc)] at hb;refine sC e xF ?_;refine .go (cr (kV o)) ?_;have hcv:=mF o;have hcl:(xQ o).length<=200:=kI o _;generalize xQ o=c at hb hcv hcl;refine yK xF ?_
 refine yM (λj:Nat=>[(29,.int .i64 j),(28,.int .i64 c.length),(27,.sl 6 (vW c)),(16,.int .i64 k),(15,.int .i64 ops.length),(14,.sl 1 (nl ops)),(8,.int .i64 f.length),(6,.int .i64 k),(5,xJ 1 6 (vW (f++(c.take j).map (tJ f.length)))),(2,.ref 0 6 0 0)]) (λj=>⟨2,yX 1 6 (vW (f++(c.take j).map (tJ f.length)))++ [(0,⟨6,[x1.row]⟩)]⟩)
  (λj=>j<=c.length) (λj=>c.length-j) 0 (Nat.zero_le _) ?_ ?_
 ·rw [show f++(c.take 0).map (tJ f.length)= f by simp];exact lQ
 intro j hj;refine wH mixed ?_;by_cases hjl:j<c.length
 case neg=>
  have hd2:¬ ((j:Int)<(c.length:Int)):=by omega
  rw [iN (show j=c.length by omega)];have hfl2:(f++c.map (tJ f.length)).length<=200*(k+1):=by rw [γ,θ]; omega
  have hv2:=Xg hf hcv;generalize f++c.map (tJ f.length)= f2 at hb hfl2 hv2;have hw2:IntKind.i64.wrap ((f2.length:Int)-1)= (f2.length:Int)-1:=wrap_i64 (by omega)
  by_cases hk0:k=0
  ·have e0:((k:Int)== 0)= true:=by rw [hk0]; rfl
   rw [YY,if_pos hk0] at hb;simp only [simprocAttr,-ZA,↓zU,↓zD,zV,zT,zW,hd2,e0,xF,hw2,Nd.row]
   (repeat refine sd ?_)
   refine⟨(k+1,f2,⟨x1.op,x1.i,x1.e,x1.g,(f2.length:Int)-1,x1.y⟩),⟨by omega,hv2,hfl2,hb⟩,?_,by simp only; omega⟩
   (refine fm [] [1,0] ?_; simp only [lS,zQ,simprocAttr,-ZA,exists_eq_left',ne_eq,zR,aZ,Nd.row,hw])
  ·have e0:((k:Int)== 0)= false:=by rw [beq_eq_false_iff_ne]; omega
   rw [YY,if_neg hk0] at hb;simp only [simprocAttr,-ZA,↓zU,↓zD,zV,zT,zW,hd2,e0,xF,hw2,Nd.row]
   (repeat refine sd ?_)
   refine⟨(k+1,f2,⟨x1.op,x1.i,x1.e,x1.g,x1.x,(f2.length:Int)-1⟩),⟨by omega,hv2,hfl2,hb⟩,?_,by simp only; omega⟩
   (refine fm [] [1,0] ?_; simp only [lS,zQ,simprocAttr,-ZA,exists_eq_left',ne_eq,zR,aZ,Nd.row,hw])
 have hd2:((j:Int)<(c.length:Int)):=by omega
 have hgj:=rX c hjl;have hnj:=hcv j hjl;obtain⟨⟨px,hpx,hpx2⟩,⟨py,hpy,hpy2⟩⟩:=je hnj;have hsn:f++(c.take (j+1)).map (tJ f.length)= f++(c.take j).map (tJ f.length)++ [tJ f.length (c.getD j yG)]:=by rw [qY (d:=yG) hjl,List.map_append,<- List.append_assoc]; rfl
 generalize c.getD j yG=p at hgj hnj hpx hpy hsn;have hwj:IntKind.i64.wrap ((j:Int)+ 1)= ((j+1:Nat):Int):=wrap_i64 (by omega);have hl2:(f++(c.take j).map (tJ f.length)).length<=1000:=by rw [γ,θ,List.length_take]; omega
 generalize f++(c.take j).map (tJ f.length)= f1 at hsn hl2;have hwx:IntKind.i64.wrap (p.x+(f.length:Int))= p.x+(f.length:Int):=wrap_i64 (by omega);have hwy:IntKind.i64.wrap (p.y+(f.length:Int))= p.y+(f.length:Int):=wrap_i64 (by omega);simp only [simprocAttr,-ZA,↓zU,↓zD,zV,zT,zW,hd2,xF,hgj,Nd.row]
 (repeat refine sd ?_)
 refine .go (cq (bS p.op)) ?_;have es:tJ f.length p=⟨p.op,p.i,p.e,p.g,if (xW p.op).1.x=true then p.x+f.length else p.x,if (xW p.op).1.y=true then p.y+f.length else p.y⟩:=rfl;cases hux:(xW p.op).1.x <;> cases huy:(xW p.op).1.y <;> rw [hux,huy] at es
 all_goals
  simp only [simprocAttr,-ZA,↓zU,↓zD,zV,zT,zW,zn.row,hux,huy,hwx,hwy,bh,xF,γ,ε]
  (repeat refine sd ?_)
  refine⟨j+1,by omega,?_,by omega⟩;rw [hsn,es]
  (refine fm [(1,4)] [1,0] ?_; simp only [lS,zQ,simprocAttr,-ZA,exists_eq_left',ne_eq,zR,aZ,hwj,Nd.row,Bool.false_eq_true,if_false,if_true])
open Rs Fm
namespace Fm
theorem bq (op:Int):op=1\/op=2\/op=3\/op=4\/op=5\/op=6\/op=7\/op=8\/op=9\/op=10\/op=11\/op=12\/op=13\/op=14\/op=15\/op=16\/op=17\/op=18\/op=19\/op=20\/op=21\/op<1\/21<op:=by omega
theorem cS {op:Int} (h:op<1\/21<op):xW op=(mZ,false):=if_pos h
theorem ns {p:Nd} {k:Int} (h:zK p k=0):qj p=0 ↔ p.op<=8:=by
 have hok:=(uQ.1 h).1;unfold qj;generalize p.op=op at hok;rcases bq op with rfl | rfl | rfl | rfl | rfl | rfl | rfl | rfl | rfl | rfl | rfl | rfl | rfl | rfl | rfl | rfl | rfl | rfl | rfl | rfl | rfl | h | h
 rotate_right 2
 ·rw [cS (.inl h)] at hok; cases hok
 ·rw [cS (.inr h)] at hok; cases hok
 all_goals simp [xW,mZ]
theorem xq {m:Nd->Nat}:∀ {l:List Nd},uF m l=0 ↔ ∀ p ∈ l,m p=0:=by
 intro l
 have key:∀ (l:List Nd) (a:Nat),l.foldl (λa p=>a ||| m p) a=0 ↔ a=0/\∀ p ∈ l,m p=0:=by
  intro l
  induction l with
  | nil=>simp
  | cons p r ih=>
   intro a;simp only [List.foldl_cons,ih,List.mem_cons,forall_eq_or_imp];rw [Nat.or_eq_zero_iff]
   constructor
   ·rintro ⟨⟨h1,h2⟩,h3⟩; exact⟨h1,h2,h3⟩
   ·rintro ⟨h1,h2,h3⟩; exact⟨⟨h1,h2⟩,h3⟩
 rw [uF,key];simp
theorem pR {f:List Nd}:rF f=0 ↔ ∀ p ∈ xQ f,p.op<=8:=by
 unfold rF;rw [xq]
 constructor
 ·intro h p hp;obtain⟨k,hk⟩:=iT (mF f) hp;exact(ns hk).1 (h p hp)
 ·intro h p hp;obtain⟨k,hk⟩:=iT (mF f) hp;exact(ns hk).2 (h p hp)
theorem Ye {p:Nd} {k:Int} (h:zK p k=0) (h8:p.op<=8):iS p=0:=by
 obtain⟨hok,_,_,h4,_⟩:=uQ.1 h;unfold iS;generalize p.op=op at hok h4 h8;rcases bq op with rfl | rfl | rfl | rfl | rfl | rfl | rfl | rfl | rfl | rfl | rfl | rfl | rfl | rfl | rfl | rfl | rfl | rfl | rfl | rfl | rfl | h | h
 rotate_right 2
 ·rw [cS (.inl h)] at hok; cases hok
 ·omega
 all_goals first | omega | (simp [xW,mZ] at h4 ⊢; omega)
theorem l7 {f:List Nd} (h:rF f=0):gJ f=0:=by unfold gJ;rw [xq];intro p hp;obtain⟨k,hk⟩:=iT (mF f) hp;exact Ye hk (pR.1 h p hp)
theorem np {f:List Nd} {n:Nat} (hc:yQ f=0) (h:rF f=0) (hn:n<=6):jJ f 0 n=decide (rR f / 2 ^ n=0):=by unfold jJ eW;rw [l7 h,decide_eq_true hc,decide_eq_false (show ¬ (31:Int)<=(n:Int) by omega),ξ];simp
end Fm
open Rs Fm
namespace Fm
inductive Tr where
 | nil
 | nd (op i e g:Int) (x y:Tr)
def zd (f:List Nd):Nat->Nat->Tr
 | 0,_=>.nil
 | n+1,i=>.nd (f.getD i yG).op (f.getD i yG).i (f.getD i yG).e (f.getD i yG).g (if (xW (f.getD i yG).op).1.x=true then zd f n (f.getD i yG).x.toNat else .nil) (if (xW (f.getD i yG).op).1.y=true then zd f n (f.getD i yG).y.toNat else .nil)
def tree (f:List Nd) (i:Nat):Tr:=zd f (i+1) i
def TG : Tr->Prop
 | .nil=>False
 | .nd op i e g x y=>zK ⟨op,i,e,g,0,0⟩ 1=0/\(if (xW op).1.x=true then TG x else x = .nil)/\ (if (xW op).1.y=true then TG y else y = .nil)
def sO : Tr->List Nd->Int × List Nd
 | .nil,out=>(0,out)
 | .nd op i e g x y,out=>
  let a:=if (xW op).1.x=true then sO x out else(0,out)
  let b:=if (xW op).1.y=true then sO y a.2 else(0,a.2)
  match pM ⟨op,i,e,g,a.1,b.1⟩ b.2 0 with
  | some k=>((k:Int),b.2)
  | none=>((b.2.length:Int),b.2 ++ [⟨op,i,e,g,a.1,b.1⟩])
def canon (t:Tr):List Nd:=(sO t []).2
theorem sZ {p:Nd} {k:Nat} (h:zK p k=0):((xW p.op).1.x=true->0<=p.x/\p.x.toNat<k)/\ ((xW p.op).1.y=true->0<=p.y/\p.y.toNat<k)/\ ((xW p.op).1.x=false->p.x=0)/\ ((xW p.op).1.y=false->p.y=0):=by
 obtain⟨h1,h2⟩:=nN h;rw [uQ] at h;obtain⟨_,h3,h4,_⟩:=h
 refine⟨λhx=>?_,λhy=>?_,λhx=>?_,λhy=>?_⟩
 ·have:=h1 hx; omega
 ·have:=h2 hy; omega
 ·rw [hx] at h3; simpa [zM] using h3
 ·rw [hy] at h4; simpa [zM] using h4
theorem jX {f:List Nd} (hv:zY f):∀ (n m i:Nat),i<n->i<m->i<f.length->zd f n i=zd f m i
 | 0,_,_,h,_,_=>by omega
 | _+1,0,_,_,h,_=>by omega
 | n+1,m+1,i,h1,h2,hi=>by
  obtain⟨ox,oy,_,_⟩:=sZ (hv i hi);unfold zd
  congr 1
  ·by_cases hx:(xW (f.getD i yG).op).1.x=true
   ·rw [if_pos hx,if_pos hx];exact jX hv n m _ (by have:=ox hx; omega) (by have:=ox hx; omega) (by have:=ox hx; omega)
   ·rw [if_neg hx,if_neg hx]
  ·by_cases hy:(xW (f.getD i yG).op).1.y=true
   ·rw [if_pos hy,if_pos hy];exact jX hv n m _ (by have:=oy hy; omega) (by have:=oy hy; omega) (by have:=oy hy; omega)
   ·rw [if_neg hy,if_neg hy]
theorem rL {f:List Nd} (hv:zY f) {i:Nat} (hi:i<f.length):tree f i = .nd (f.getD i yG).op (f.getD i yG).i (f.getD i yG).e (f.getD i yG).g (if (xW (f.getD i yG).op).1.x=true then tree f (f.getD i yG).x.toNat else .nil) (if (xW (f.getD i yG).op).1.y=true then tree f (f.getD i yG).y.toNat else .nil):=by
 obtain⟨ox,oy,_,_⟩:=sZ (hv i hi);unfold tree;rw [zd]
 congr 1
 ·by_cases hx:(xW (f.getD i yG).op).1.x=true
  ·rw [if_pos hx,if_pos hx];exact jX hv _ _ _ (by have:=ox hx; omega) (by omega) (by have:=ox hx; omega)
  ·rw [if_neg hx,if_neg hx]
 ·by_cases hy:(xW (f.getD i yG).op).1.y=true
  ·rw [if_pos hy,if_pos hy];exact jX hv _ _ _ (by have:=oy hy; omega) (by omega) (by have:=oy hy; omega)
  ·rw [if_neg hy,if_neg hy]
theorem zJ {l r:List Nd} {k:Nat} (h:k<l.length):(l++r).getD k yG=l.getD k yG:=by simp only [List.getD,ζ h]
theorem xr {l r:List Nd} (h:zY (l++r)):zY l:=λk hk=>by
 have:=h k (by simp; omega)
 rwa [zJ hk] at this
theorem iO {l r:List Nd} (hv:zY (l++r)):∀ (k:Nat),k<l.length->tree (l++r) k=tree l k:=by
 intro k
 induction k using Nat.strongRecOn with
 | _ k ih=>
  intro hk;obtain⟨ox,oy,_,_⟩:=sZ (xr hv k hk);rw [rL hv (by simp; omega),rL (xr hv) hk,zJ hk]
  congr 1
  ·by_cases hx:(xW (l.getD k yG).op).1.x=true
   ·rw [if_pos hx,if_pos hx];exact ih _ (by have:=ox hx; omega) (by have:=ox hx; omega)
   ·rw [if_neg hx,if_neg hx]
  ·by_cases hy:(xW (l.getD k yG).op).1.y=true
   ·rw [if_pos hy,if_pos hy];exact ih _ (by have:=oy hy; omega) (by have:=oy hy; omega)
   ·rw [if_neg hy,if_neg hy]
theorem YK {f:List Nd} (hv:zY f):∀ (i:Nat),i<f.length->TG (tree f i):=by
 intro i
 induction i using Nat.strongRecOn with
 | _ i ih=>
  intro hi;obtain⟨ox,oy,zx,zy⟩:=sZ (hv i hi);rw [rL hv hi]
  refine⟨lA (hv i hi) ?_ ?_,?_,?_⟩
  ·split
   ·omega
   ·rename_i h; exact(zx (by simpa using h)).symm
  ·split
   ·omega
   ·rename_i h; exact(zy (by simpa using h)).symm
  ·by_cases hx:(xW (f.getD i yG).op).1.x=true
   ·rw [if_pos hx,if_pos hx];exact ih _ (by have:=ox hx; omega) (by have:=ox hx; omega)
   ·rw [if_neg hx,if_neg hx]
  ·by_cases hy:(xW (f.getD i yG).op).1.y=true
   ·rw [if_pos hy,if_pos hy];exact ih _ (by have:=oy hy; omega) (by have:=oy hy; omega)
   ·rw [if_neg hy,if_neg hy]
theorem ny {q:Nd}:∀ {l:List Nd} {k j:Nat},pM q l k=some j->k<=j/\j-k<l.length/\l.getD (j-k) yG=q
 | [],_,_,h=>by cases h
 | p :: r,k,j,h=>by
  unfold pM at h
  by_cases e:q=p
  ·rw [if_pos e] at h; cases h; simp [e]
  ·rw [if_neg e] at h;obtain⟨h1,h2,h3⟩:=ny h;refine⟨by omega,by simp only [List.length_cons]; omega,?_⟩;rw [show j-k=j-(k+1)+ 1 by omega,η]; exact h3
theorem aq {q:Nd}:∀ {l:List Nd} {k:Nat},pM q l k=none->q ∉ l
 | [],_,_=>by simp
 | p :: r,k,h=>by
  unfold pM at h
  by_cases e:q=p
  ·rw [if_pos e] at h; cases h
  ·rw [if_neg e] at h;simp only [List.mem_cons,not_or];exact⟨e,aq h⟩
theorem Zz {q:Nd}:∀ {l:List Nd} {k j:Nat},l.Nodup->j<l.length->l.getD j yG=q->pM q l k=some (k+j)
 | [],_,_,_,h,_=>by simp at h
 | p :: r,k,j,hn,h,hq=>by
  unfold pM
  cases j with
  | zero=>rw [if_pos (by simpa using hq.symm)]; rfl
  | succ j=>
   rw [η] at hq;have hj:j<r.length:=by simpa using h
   have hm:q ∈ r:=by
    have:r.getD j yG=r[j]:=by simp [List.getD,hj]
    rw [<- hq,this]; exact List.getElem_mem hj
   rw [if_neg (λe:q=p=>(List.nodup_cons.1 hn).1 (e ▸ hm)),Zz (List.nodup_cons.1 hn).2 hj hq];congr 1; omega
theorem aO : ∀ (t:Tr) (out:List Nd) (k:Nat),zY out->out.Nodup->k<out.length->tree out k=t->sO t out=((k:Int),out)
 | .nil,out,k,hv,hn,hk,ht=>by rw [rL hv hk] at ht; cases ht
 | .nd op i e g x y,out,k,hv,hn,hk,ht=>by
  obtain⟨ox,oy,zx,zy⟩:=sZ (hv k hk);rw [rL hv hk] at ht;simp only [Tr.nd.injEq] at ht;obtain⟨rfl,rfl,rfl,rfl,hx,hy⟩:=ht
  have ha:(if (xW (out.getD k yG).op).1.x=true then sO x out else(0,out))= ((out.getD k yG).x,out):=by
   by_cases h:(xW (out.getD k yG).op).1.x=true
   ·rw [if_pos h] at hx ⊢;rw [aO x out _ hv hn (by have:=ox h; omega) hx,ν (ox h).1]
   ·rw [if_neg h,zx (by simpa using h)]
  have hb:(if (xW (out.getD k yG).op).1.y=true then sO y out else(0,out))= ((out.getD k yG).y,out):=by
   by_cases h:(xW (out.getD k yG).op).1.y=true
   ·rw [if_pos h] at hy ⊢;rw [aO y out _ hv hn (by have:=oy h; omega) hy,ν (oy h).1]
   ·rw [if_neg h,zy (by simpa using h)]
  unfold sO;simp only [ha,hb];rw [Zz (k:=0) hn hk rfl,Nat.zero_add]
theorem gA : ∀ (t:Tr) (out:List Nd),TG t->zY out->out.Nodup->zY (sO t out).2/\(sO t out).2.Nodup/\(∃ l,(sO t out).2=out++l)/\ ∃ k:Nat,(sO t out).1=k/\k<(sO t out).2.length/\tree (sO t out).2 k=t/\((sO t out).2=out\/k+1=(sO t out).2.length)
 | .nil,out,h,_,_=>h.elim
 | .nd op i e g x y,out,⟨h1,h2,h3⟩,hv,hn=>by
  have A:∃ (a:Int) (oa:List Nd),(if (xW op).1.x=true then sO x out else(0,out))= (a,oa)/\ zY oa/\oa.Nodup/\(∃ l,oa=out++l)/\ (if (xW op).1.x=true then 0<=a/\a<(oa.length:Int)/\ tree oa a.toNat=x/\(oa=out\/a+1=oa.length) else a=0/\oa=out):=by
   by_cases hx:(xW op).1.x=true
   ·rw [if_pos hx] at h2 ⊢;obtain⟨v,n,l,k,e1,e2,e3,e4⟩:=gA x out h2 hv hn;refine⟨_,_,rfl,v,n,l,?_⟩;rw [if_pos hx,e1,ξ];exact⟨by omega,by omega,e3,e4.imp id λh=>by omega⟩
   ·rw [if_neg hx] at h2 ⊢;exact⟨0,out,rfl,hv,hn,⟨[],by simp⟩,by rw [if_neg hx]; exact⟨rfl,rfl⟩⟩
  obtain⟨a,oa,ea,va,na,⟨la,rfl⟩,ha⟩:=A
  have B:∃ (b:Int) (ob:List Nd),(if (xW op).1.y=true then sO y (out++la) else(0,out++la))= (b,ob)/\ zY ob/\ob.Nodup/\(∃ l,ob=out++la++l)/\ (if (xW op).1.y=true then 0<=b/\b<(ob.length:Int)/\ tree ob b.toNat=y/\(ob=out++la\/b+1=ob.length) else b=0/\ob=out++la):=by
   by_cases hy:(xW op).1.y=true
   ·rw [if_pos hy] at h3 ⊢;obtain⟨v,n,l,k,e1,e2,e3,e4⟩:=gA y (out++la) h3 va na;refine⟨_,_,rfl,v,n,l,?_⟩;rw [if_pos hy,e1,ξ];exact⟨by omega,by omega,e3,e4.imp id λh=>by omega⟩
   ·rw [if_neg hy] at h3 ⊢;exact⟨0,out++la,rfl,va,na,⟨[],by simp⟩,by rw [if_neg hy]; exact⟨rfl,rfl⟩⟩
  obtain⟨b,ob,eb,vb,nb,⟨lb,rfl⟩,hb⟩:=B
  have hE:∀ n:Nat,(out++la++lb).length<=n->zK ⟨op,i,e,g,a,b⟩ n=0:=λn hln=>by
   refine lA (p:=⟨op,i,e,g,0,0⟩) h1 ?_ ?_
   ·simp only
    split
    ·rename_i h; rw [if_pos h] at ha; simp only [γ] at hln ha; omega
    ·rename_i h; rw [if_neg h] at ha; exact ha.1
   ·simp only
    split
    ·rename_i h; rw [if_pos h] at hb; omega
    ·rename_i h; rw [if_neg h] at hb; exact hb.1
  have tx:(if (xW op).1.x=true then tree (out++la++lb) a.toNat else .nil)= x:=by
   by_cases hx:(xW op).1.x=true
   ·rw [if_pos hx] at ha ⊢;rw [iO vb _ (by omega)]; exact ha.2.2.1
   ·rw [if_neg hx] at h2 ⊢; exact h2.symm
  have ty:(if (xW op).1.y=true then tree (out++la++lb) b.toNat else .nil)= y:=by
   by_cases hy:(xW op).1.y=true
   ·rw [if_pos hy] at hb ⊢;exact hb.2.2.1
   ·rw [if_neg hy] at h3 ⊢; exact h3.symm
  have hr:sO (.nd op i e g x y) out=match pM ⟨op,i,e,g,a,b⟩ (out++la++lb) 0 with
    | some k=>((k:Int),out++la++lb)
    | none=>(((out++la++lb).length:Int),out++la++lb ++ [⟨op,i,e,g,a,b⟩]):=by
   conv=>lhs; unfold sO
   simp only [ea,eb]
  rw [hr]
  cases hq:pM ⟨op,i,e,g,a,b⟩ (out++la++lb) 0 with
  | some k=>
   obtain⟨_,k1,k2⟩:=ny hq;rw [Nat.sub_zero] at k1 k2;have hvk:=vb k k1;obtain⟨ox,oy,_,_⟩:=sZ hvk;rw [k2] at ox oy;simp only at ox oy
   refine⟨vb,nb,⟨la++lb,by simp⟩,k,rfl,k1,?_,.inl ?_⟩
   ·rw [rL vb k1,k2];simp only [tx,ty]
   ·show out++la++lb=out
    have e1:out++la++lb=out++la:=by
     by_cases hy:(xW op).1.y=true
     ·rw [if_pos hy] at hb
      rcases hb.2.2.2 with h | h
      ·exact h
      ·have:=oy hy; omega
     ·rw [if_neg hy] at hb; exact hb.2
    have e2:out++la=out:=by
     by_cases hx:(xW op).1.x=true
     ·rw [if_pos hx] at ha
      rcases ha.2.2.2 with h | h
      ·exact h
      ·have:=ox hx;rw [e1] at k1;omega
     ·rw [if_neg hx] at ha; exact ha.2
    rw [e1,e2]
  | none=>
   have vs:zY (out++la++lb ++ [⟨op,i,e,g,a,b⟩]):=iC vb (hE _ (Nat.le_refl _))
   refine⟨vs,?_,⟨la++lb ++ [⟨op,i,e,g,a,b⟩],by simp⟩,(out++la++lb).length,rfl,by simp,?_,.inr (by simp only [γ,ε])⟩
   ·rw [List.nodup_append];refine⟨nb,by simp,λp hp q hq'=>?_⟩;rw [List.mem_singleton] at hq';subst hq';exact λe=>aq hq (e ▸ hp)
   ·have hgl:(out++la++lb ++ [(⟨op,i,e,g,a,b⟩:Nd)]).getD (out++la++lb).length yG=⟨op,i,e,g,a,b⟩:=by simp [List.getD]
    rw [rL vs (by simp),hgl];simp only
    congr 1
    ·by_cases hx:(xW op).1.x=true
     ·rw [if_pos hx] at tx ha ⊢;rw [iO vs _ (by simp only [γ] at ha ⊢; omega)]; exact tx
     ·rw [if_neg hx] at tx ⊢; exact tx
    ·by_cases hy:(xW op).1.y=true
     ·rw [if_pos hy] at ty hb ⊢;rw [iO vs _ (by omega)]; exact ty
     ·rw [if_neg hy] at ty ⊢; exact ty
end Fm
open Rs Fm
namespace Fm
structure ZZ (f : List Nd) (s : CS) : Prop where
 v:zY s.out
 n:s.out.Nodup
 d:∀ z k,zZ z s.done=some k->∃ i j:Nat,z=i/\k=j/\i<f.length/\j<s.out.length/\tree s.out j=tree f i
theorem aN {f:List Nd} (hv:zY f):∀ (n:Nat) {i:Nat} {s:CS},i<n->i<f.length->ZZ f s ->
  (xH f n i s).1=(sO (tree f i) s.out).1/\(xH f n i s).2.out=(sO (tree f i) s.out).2/\ZZ f (xH f n i s).2
 | 0,_,_,h,_,_=>by omega
 | n + 1,i,s,h,hi,hI=>by
  cases hu:zZ (i:Int) s.done with
  | some k=>
   rw [xH,hu];obtain⟨i',j,e1,e2,_,e4,e5⟩:=hI.d _ _ hu;obtain rfl:i=i':=by omega
   rw [aO _ _ j hI.v hI.n e4 e5];exact⟨e2,rfl,hI⟩
  | none=>
   rw [jY hu];obtain⟨ox,oy,zx,zy⟩:=sZ (hv i hi);have hsp:=gA _ s.out (YK hv i hi) hI.v hI.n;rw [rL hv hi] at hsp ⊢;simp only;generalize hp:f.getD i yG=p at hsp ox oy zx zy ⊢
   have S1:(if (xW p.op).1.x=true then xH f n p.x.toNat s else(p.x,s)).1=(if (xW p.op).1.x=true then sO (tree f p.x.toNat) s.out else(0,s.out)).1 /\
     (if (xW p.op).1.x=true then xH f n p.x.toNat s else(p.x,s)).2.out=(if (xW p.op).1.x=true then sO (tree f p.x.toNat) s.out else(0,s.out)).2/\ZZ f (if (xW p.op).1.x=true then xH f n p.x.toNat s else(p.x,s)).2:=by
    by_cases hx:(xW p.op).1.x=true
    ·rw [if_pos hx,if_pos hx];exact aN hv n (by have:=ox hx; omega) (by have:=ox hx; omega) hI
    ·rw [if_neg hx,if_neg hx];exact⟨zx (by simpa using hx),rfl,hI⟩
   have e1:(if (xW p.op).1.x=true then sO (if (xW p.op).1.x=true then tree f p.x.toNat else .nil) s.out else(0,s.out))= (if (xW p.op).1.x=true then sO (tree f p.x.toNat) s.out else(0,s.out)):=by
    by_cases hx:(xW p.op).1.x=true
    ·rw [if_pos hx,if_pos hx,if_pos hx]
    ·rw [if_neg hx,if_neg hx]
   have hfin:sO (.nd p.op p.i p.e p.g (if (xW p.op).1.x=true then tree f p.x.toNat else .nil) (if (xW p.op).1.y=true then tree f p.y.toNat else .nil)) s.out =
     (let a:=(if (xW p.op).1.x=true then sO (tree f p.x.toNat) s.out else(0,s.out))
      let b:=if (xW p.op).1.y=true then sO (tree f p.y.toNat) a.2 else(0,a.2)
      match pM ⟨p.op,p.i,p.e,p.g,a.1,b.1⟩ b.2 0 with
      | some k=>((k:Int),b.2)
      | none=>((b.2.length:Int),b.2 ++ [⟨p.op,p.i,p.e,p.g,a.1,b.1⟩])):=by
    conv=>lhs; unfold sO
    simp only [e1]
    by_cases hy:(xW p.op).1.y=true
    ·simp only [if_pos hy]<;>rfl
    ·simp only [if_neg hy]<;>rfl
   rw [hfin] at hsp ⊢;simp only at hsp ⊢;generalize (if (xW p.op).1.x=true then xH f n p.x.toNat s else(p.x,s))= A at S1 ⊢;generalize (if (xW p.op).1.x=true then sO (tree f p.x.toNat) s.out else(0,s.out))= A' at S1 hsp ⊢;obtain⟨a1,a2⟩:=A';obtain⟨A1,A2⟩:=A;obtain⟨rfl,rfl,IA⟩:=S1;simp only at hsp ⊢
   have S2:(if (xW p.op).1.y=true then xH f n p.y.toNat A2 else(p.y,A2)).1=(if (xW p.op).1.y=true then sO (tree f p.y.toNat) A2.out else(0,A2.out)).1 /\
     (if (xW p.op).1.y=true then xH f n p.y.toNat A2 else(p.y,A2)).2.out=(if (xW p.op).1.y=true then sO (tree f p.y.toNat) A2.out else(0,A2.out)).2/\ZZ f (if (xW p.op).1.y=true then xH f n p.y.toNat A2 else(p.y,A2)).2:=by
    by_cases hy:(xW p.op).1.y=true
    ·rw [if_pos hy,if_pos hy];exact aN hv n (by have:=oy hy; omega) (by have:=oy hy; omega) IA
    ·rw [if_neg hy,if_neg hy];exact⟨zy (by simpa using hy),rfl,IA⟩
   generalize (if (xW p.op).1.y=true then xH f n p.y.toNat A2 else(p.y,A2))= B at S2 ⊢;generalize (if (xW p.op).1.y=true then sO (tree f p.y.toNat) A2.out else(0,A2.out))= B' at S2 hsp ⊢;obtain⟨b1,b2⟩:=B';obtain⟨B1,B2⟩:=B;obtain⟨rfl,rfl,IB⟩:=S2;replace IB:ZZ f B2:=IB;simp only at hsp ⊢
   have hset:∀ (out':List Nd) (k:Nat),(∃ l,out'=B2.out++l)->zY out'->out'.Nodup->k<out'.length->tree out' k=tree f i->ZZ f ⟨out',kS i k B2.done⟩:=by
    rintro out' k ⟨l,rfl⟩ hv' hn' hk' ht';refine⟨hv',hn',λz k' hz=>?_⟩;simp only at hz ⊢;rw [pV] at hz
    split at hz
    ·cases hz;exact⟨i,k,by assumption,rfl,hi,hk',ht'⟩
    ·obtain⟨i',j,q1,q2,q3,q4,q5⟩:=IB.d _ _ hz;exact⟨i',j,q1,q2,q3,by simp; omega,by rw [iO hv' _ q4]; exact q5⟩
   have htf:tree f i = .nd p.op p.i p.e p.g (if (xW p.op).1.x=true then tree f p.x.toNat else .nil) (if (xW p.op).1.y=true then tree f p.y.toNat else .nil):=by rw [rL hv hi,hp]
   unfold eB
   cases hq:pM ⟨p.op,p.i,p.e,p.g,A1,B1⟩ B2.out 0 with
   | some k=>
    rw [hq] at hsp;obtain⟨s1,s2,_,k',s3,s4,s5,_⟩:=hsp;simp only at s1 s2 s3 s4 s5 ⊢;obtain rfl:k=k':=by omega
    exact⟨trivial,trivial,hset _ k ⟨[],by simp⟩ s1 s2 s4 (by rw [s5,htf])⟩
   | none=>
    rw [hq] at hsp;obtain⟨s1,s2,_,k',s3,s4,s5,_⟩:=hsp;simp only at s1 s2 s3 s4 s5 ⊢;obtain rfl:B2.out.length=k':=by omega
    exact⟨trivial,trivial,hset _ _ ⟨_,rfl⟩ s1 s2 s4 (by rw [s5,htf])⟩
theorem nC {f:List Nd} (hv:zY f) {i:Nat} (hi:i<f.length):tB f i=canon (tree f i):=(aN hv (i+1) (s:=⟨[],[]⟩) (by omega) hi ⟨λk h=>by simp at h,.nil,λz k h=>by cases h⟩).2.1
theorem jV {t:Tr} (h:TG t):zY (canon t)/\ (canon t).Nodup/\0<(canon t).length/\tree (canon t) ((canon t).length-1)= t:=by
 obtain⟨v,n,_,k,e1,e2,e3,e4⟩:=gA t [] h (λk h=>by simp at h) .nil;refine⟨v,n,by unfold canon; omega,?_⟩
 have:k=(canon t).length-1:=by
  rcases e4 with e4 | e4
  ·rw [e4] at e2; simp at e2
  ·unfold canon; omega
 rw [<- this]; exact e3
theorem mM {f:List Nd} (h:yQ f=0):xQ f=canon (tree f (f.length-1)):=by
 obtain⟨h1,h2,h3⟩:=tK h;have hl:0<f.length:=by cases f with | nil=>exact absurd rfl h1 | cons a b=>simp
 unfold xQ fV;rw [if_neg (by omega),show ((f.length:Int)-1).toNat=f.length-1 by omega];exact nC h3 (by omega)
theorem Zu : ∀ {f:List Nd} {i:Int},(∀ k,k<f.length->zK (f.getD k yG) (i+k)= 0)->zg f i=0
 | [],_,_=>rfl
 | p :: r,i,h=>by have h0:=h 0 (by simp);simp only [μ] at h0;unfold zg;rw [show (((0:Nat):Int))= 0 from rfl,Int.add_zero] at h0;rw [if_neg (by simpa using h0)];refine Zu λk hk=>?_;have:=h (k+1) (by simpa using hk);rw [η] at this;rw [show i+1+(k:Int)= i+((k+1:Nat):Int) by omega]; exact this
theorem WV {f:List Nd} (h1:0<f.length) (h2:f.length<=200) (h3:zY f):yQ f=0:=by unfold yQ;rw [if_neg (by intro e; rw [e] at h1; simp at h1),if_neg (by omega)];exact Zu λk hk=>by rw [Int.zero_add]; exact h3 k hk
end Fm
open Rs Fm
namespace Fm
def qW (f:List Nd):List Nd:=nP ⟨4,0,0,0,0,0⟩ [f]
def PK (f g:List Nd):List Nd:=nP ⟨7,0,0,0,0,0⟩ [f,g]
def Va (i:Int):List Nd:=nP ⟨3,i,0,0,0,0⟩ []
end Fm
theorem TZ (x:Nd):zX prog 30 [.agg x.row,.xI] (.sl 6 (vW (nP x []))):= xU.PI (σ:=kT) (objs':=[]) (λ_=>False) (iq x [] (by simp)) ⟨.pure (by simp [D.xO,D.xT,Nd.row]),.nil 1,trivial⟩ (λk o hk=>by cases hk)
theorem OL (f:List Nd):zX prog 9 [.sl 6 (vW f)] (.sl 6 (vW (qW f))):=by refine yS func9 k9 λhf=>?_;refine j0 ?_;refine .go (xU.yU (iq ⟨4,0,0,0,0,0⟩ [f] (by simp)) (by simp [D.xT,D.xO,Nd.row,nl])) ?_;refine xB ?_;exact .same
theorem OI (f g:List Nd):zX prog 12 [.sl 6 (vW f),.sl 6 (vW g)] (.sl 6 (vW (PK f g))):=by refine yS func12 L5 λhf=>?_;refine j0 ?_;refine .go (xU.yU (iq ⟨7,0,0,0,0,0⟩ [f,g] (by simp)) (by simp [D.xT,D.xO,Nd.row,nl])) ?_;refine xB ?_;exact .same
theorem V6 (i:Int):zX prog 13 [.int .i64 i] (.sl 6 (vW (Va i))):=by refine yS func13 L6 λhf=>?_;refine j0 ?_;refine .go (xU.yU (TZ ⟨3,i,0,0,0,0⟩) (by simp [D.xT,D.xO,Nd.row])) ?_;refine xB ?_;exact .same
open Rs Fm
namespace Fm
end Fm
open Rs Fm
namespace Fm
def vQ (c:List Nd):Nat->Nat->List Bool × List Int->List Bool × List Int
 | 0,_,s=>s
 | n+1,i,s=>
  if s.1.getD i false=true then s else
  if (c.getD i yG).op=3\/8<(c.getD i yG).op then(s.1.set i true,s.2 ++ [(i:Int)]) else
  let s2:=if 4<=(c.getD i yG).op then vQ c n (c.getD i yG).x.toNat (s.1.set i true,s.2) else(s.1.set i true,s.2)
  if 5<=(c.getD i yG).op then vQ c n (c.getD i yG).y.toNat s2 else s2
theorem sM {op:Int} (h4:4<=op) (h8:op<=8):(xW op).1.x=true/\(5<=op->(xW op).1.y=true):=by
 have hc:op=4\/op=5\/op=6\/op=7\/op=8:=by omega
 rcases hc with rfl | rfl | rfl | rfl | rfl <;> simp [xW]
structure jC (c : List Nd) (ks ko nx : Nat) (xX : List (Nat × Ob)) (s : List Bool × List Int) : Prop where
 j6:ks<nx
 hs:St.look xX ks=some ⟨1,rb s.1⟩
 hl:s.1.length=c.length
 ho:St.look xX ko=wW 1 (rows .i64 s.2)
 zL:ko≠ks
 hc:s.2.length+s.1.count false<=1000
 aJ:∀ k,nx<=k->St.look xX k=none
theorem jC.fc {c:List Nd} {ks ko nx:Nat} {xX:List (Nat × Ob)} {s:List Bool × List Int} (h:jC c ks ko nx xX s):∃ ko',jC c ks ko' nx xX s/\xJ ko' 1 (rows .i64 s.2)= xJ ko 1 (rows .i64 s.2)/\ ((s.2 = []/\ko'=nx+4)\/(s.2 ≠ []/\ko'=ko/\ko<nx)):=by
 obtain⟨h1,h2,h3,h4,h5,h6,h7⟩:=h
 by_cases ho:s.2 = []
 ·refine⟨nx+4,⟨h1,h2,h3,?_,by omega,h6,h7⟩,?_,.inl ⟨ho,rfl⟩⟩
  ·rw [h7 _ (by omega),ho]; rfl
  ·rw [ho]; rfl
 ·refine⟨ko,⟨h1,h2,h3,h4,h5,h6,h7⟩,rfl,.inr ⟨ho,rfl,?_⟩⟩
  by_cases hlt:ko<nx
  ·exact hlt
  ·rw [h7 ko (by omega)] at h4
   cases hd:s.2 with
   | nil=>exact absurd hd ho
   | cons e r=>rw [hd] at h4; cases h4
theorem count_set {l:List Bool}:∀ {i:Nat},i<l.length->l.getD i false=false->(l.set i true).count false+1=l.count false:=by
 induction l with
 | nil=>intro i h; simp at h
 | cons b r ih=>
  intro i hi hb
  cases i with
  | zero=> simp only [μ] at hb;subst hb;simp
  | succ i=> have:=ih (i:=i) (by simpa using hi) (by simpa using hb);simp only [List.set_cons_succ,List.count_cons];omega
end Fm
theorem Wk {c:List Nd} {ks ko nx:Nat} {xX:List (Nat × Ob)} {s:List Bool × List Int} {i:Nat} (hI:jC c ks ko nx xX s) (hi:i<c.length) (hlen:c.length<=1000) (hs:s.1.getD i false=true) :
  xU prog 22 [.sl 6 (vW c),.int .i64 i,.wZ ks 1 c.length,xJ ko 1 (rows .i64 s.2)] ⟨nx,xX⟩ (xJ ko 1 (rows .i64 s.2)) ⟨nx,xX⟩:=by
 have hlk:=hI.hs;have hl:=hI.hl;have hg:=nZ s.1 (i:=i) (by omega);rw [hs] at hg;refine yS func22 Pg λhf=>?_;refine Qw hlk nY hl hg ?_;exact .same
namespace Fm
def TF (p:Nd):Ob:=⟨6,[[.int .i64 p.op,.int .i64 p.i,.int .i64 p.e,.int .i64 p.g,.int .i64 p.x,.int .i64 p.y]]⟩
def jK (nx ks:Nat) (xX:List (Nat × Ob)) (s:List Bool) (i:Nat) (p:Nd):List (Nat × Ob):=(nx,TF p) :: wO xX ks ⟨1,rb (s.set i true)⟩
def dU (nx ks ko:Nat) (xX:List (Nat × Ob)) (s:List Bool × List Int) (i:Nat) (p:Nd):List (Nat × Ob):=yX (nx+1) 1 (rows .i64 (s.2 ++ [(i:Int)]))++ (nx,TF p) :: yE (wO xX ks ⟨1,rb (s.1.set i true)⟩) ko
theorem jC.mark {c:List Nd} {ks ko nx:Nat} {xX:List (Nat × Ob)} {s:List Bool × List Int} {i:Nat} (h:jC c ks ko nx xX s) (hk:(s.2 = []/\ko=nx+4)\/(s.2 ≠ []/\ko<nx)) (hi:i<c.length) (hs:s.1.getD i false=false) (p:Nd) :
  jC c ks ko (nx+1) (jK nx ks xX s.1 i p) (s.1.set i true,s.2)/\ ∀ k,k<nx->k≠ks->St.look (jK nx ks xX s.1 i p) k=St.look xX k:=by
 obtain⟨h1,h2,h3,h4,h5,h6,h7⟩:=h
 have hl:∀ k,k≠nx->k≠ks->St.look (jK nx ks xX s.1 i p) k=St.look xX k:=λk a b=>by unfold jK;rw [xY,if_neg (λe=>a e.symm),xV,if_neg (λe=>b e.symm)]
 have hct:=count_set (l:=s.1) (i:=i) (by omega) hs
 refine⟨⟨by omega,?_,by simpa using h3,?_,h5,by simp only; omega,λk hk=>?_⟩,λk a b=>hl k (by omega) b⟩
 ·unfold jK;rw [xY,if_neg (by omega),xV,if_pos rfl,h2]; rfl
 ·rw [hl ko (by omega) h5]; exact h4
 ·rw [hl k (by omega) (by omega)]; exact h7 k (by omega)
theorem jC.leaf {c:List Nd} {ks ko nx:Nat} {xX:List (Nat × Ob)} {s:List Bool × List Int} {i:Nat} (h:jC c ks ko nx xX s) (hk:(s.2 = []/\ko=nx+4)\/(s.2 ≠ []/\ko<nx)) (hi:i<c.length) (hs:s.1.getD i false=false) (p:Nd) :
  jC c ks (nx+1) (nx+1+1) (dU nx ks ko xX s i p) (s.1.set i true,s.2 ++ [(i:Int)])/\ ∀ k,k<nx->k≠ks->k≠ko->St.look (dU nx ks ko xX s i p) k=St.look xX k:=by
 obtain⟨h1,h2,h3,h4,h5,h6,h7⟩:=h
 have hl:∀ k,k≠nx+1->k≠nx->k≠ks->k≠ko->St.look (dU nx ks ko xX s i p) k=St.look xX k:=λk a b d e=>by unfold dU;rw [xG,if_neg (λe=>a e.symm),xY,if_neg (λe=>b e.symm),xK,if_neg (λq=>e q.symm),xV,if_neg (λe=>d e.symm)]
 have hct:=count_set (l:=s.1) (i:=i) (by omega) hs
 refine⟨⟨by omega,?_,by simpa using h3,?_,by omega,by simp only [γ,ε]; omega,λk hk2=>?_⟩,λk a b d=>hl k (by omega) (by omega) b d⟩
 ·unfold dU;rw [xG,if_neg (by omega),xY,if_neg (by omega),xK,if_neg (λe=>h5 e),xV,if_pos rfl,h2]; rfl
 ·unfold dU;rw [xG,if_pos rfl]
  cases hr:rows .i64 (s.2 ++ [(i:Int)]) with
  | nil=>simp [rows] at hr
  | cons e r=>rfl
 ·unfold dU;rw [xG,if_neg (by omega),xY,if_neg (by omega),xK]
  split
  ·rfl
  ·rw [xV,if_neg (by omega)]; exact h7 k (by omega)
end Fm
theorem Wl {c:List Nd} {ks ko nx:Nat} {xX:List (Nat × Ob)} {s:List Bool × List Int} {i:Nat} {p:Nd} (hI:jC c ks ko nx xX s) (hk:(s.2 = []/\ko=nx+4)\/(s.2 ≠ []/\ko<nx)) (hi:i<c.length) (hlen:c.length<=1000) (hs:s.1.getD i false=false)
  (hgp:c.getD i yG=p) (hp:p.op=3\/8<p.op) :
  xU prog 22 [.sl 6 (vW c),.int .i64 i,.wZ ks 1 c.length,xJ ko 1 (rows .i64 s.2)] ⟨nx,xX⟩ (xJ (nx+1) 1 (rows .i64 (s.2 ++ [(i:Int)]))) ⟨nx+1+1,dU nx ks ko xX s i p⟩:=by
 have hlk:=hI.hs;have hl:=hI.hl;have ho:=hI.ho;have j6:=hI.j6;have hc:=hI.hc;have zL:=hI.zL;have hne2:¬ ks=ko:=λe=>zL e.symm;have hg:=nZ s.1 (i:=i) (by omega);rw [hs] at hg;have hgc:=rX c hi;rw [hgp] at hgc;have x1:¬ nx=ks:=by omega
 have x2:¬ nx=ko:=by omega
 have x3:¬ ks=nx:=by omega
 unfold dU TF;refine yS func22 Pg λhf=>?_
 by_cases h3:p.op=3
 ·have e3:(p.op==3)= true:=by simpa using h3
  simp only [simprocAttr,-ZA,↓zU,↓zD,zV,zT,zW,hlk,nY,hl,hg,xF,hgc,Nd.row,e3,x1,x2,x3,xV,ho,zL,hne2,iU,ma]
  (repeat refine sd ?_)
  exact .same
 ·have e3:(p.op==3)= false:=by simpa using h3
  have e8:decide (p.op<=8)= false:=by rw [decide_eq_false_iff_not]; omega
  simp only [simprocAttr,-ZA,↓zU,↓zD,zV,zT,zW,hlk,nY,hl,hg,xF,hgc,Nd.row,e3,x1,x2,x3,xV,ho,zL,hne2,iU,ma]
  (repeat refine sd ?_)
  refine .go (cq (lE p.op)) ?_;refine PR e8 x1 x2 x3 xV ho zL hne2 ?_;exact .same
theorem Wm {c:List Nd} {ks ko nx:Nat} {xX:List (Nat × Ob)} {s:List Bool × List Int} {i:Nat} {p:Nd} (hI:jC c ks ko nx xX s) (hi:i<c.length) (hlen:c.length<=1000) (hs:s.1.getD i false=false)
  (hgp:c.getD i yG=p) (h3:p.op≠3) (h4:p.op<4) :
  xU prog 22 [.sl 6 (vW c),.int .i64 i,.wZ ks 1 c.length,xJ ko 1 (rows .i64 s.2)] ⟨nx,xX⟩ (xJ ko 1 (rows .i64 s.2)) ⟨nx+1,jK nx ks xX s.1 i p⟩:=by
 have hlk:=hI.hs;have hl:=hI.hl;have j6:=hI.j6;have hg:=nZ s.1 (i:=i) (by omega);rw [hs] at hg;have hgc:=rX c hi;rw [hgp] at hgc;have x1:¬ nx=ks:=by omega
 have x3:¬ ks=nx:=by omega
 have e3:(p.op==3)= false:=by simpa using h3
 have e8:decide (p.op<=8)= true:=by rw [decide_eq_true_iff]; omega
 have e4:¬ (4:Int)<=p.op:=by omega
 have e5:¬ (5:Int)<=p.op:=by omega
 unfold jK TF;refine yS func22 Pg λhf=>?_;simp only [simprocAttr,-ZA,↓zU,↓zD,zV,zT,zW,hlk,nY,hl,hg,xF,hgc,Nd.row,e3,x1,x3,xV,iU,ma]
 (repeat refine sd ?_)
 refine .go (cq (lE p.op)) ?_;refine eG e8 e4 e5 ?_;exact .same
theorem Wn {c:List Nd} {ks ko nx:Nat} {xX:List (Nat × Ob)} {s:List Bool × List Int} {i:Nat} {p:Nd} (hI:jC c ks ko nx xX s) (hi:i<c.length) (hlen:c.length<=1000) (hs:s.1.getD i false=false)
  (hgp:c.getD i yG=p) (h4:p.op=4) {d:D} {nx1:Nat} {objs1:List (Nat × Ob)}
  (hcall:xU prog 22 [.sl 6 (vW c),.int .i64 p.x,.wZ ks 1 c.length,xJ ko 1 (rows .i64 s.2)] ⟨nx+1,jK nx ks xX s.1 i p⟩ d ⟨nx1,objs1⟩) (hN:St.look objs1 nx=some (TF p)) :
  xU prog 22 [.sl 6 (vW c),.int .i64 i,.wZ ks 1 c.length,xJ ko 1 (rows .i64 s.2)] ⟨nx,xX⟩ d ⟨nx1,objs1⟩:=by
 have hlk:=hI.hs;have hl:=hI.hl;have j6:=hI.j6;have hg:=nZ s.1 (i:=i) (by omega);rw [hs] at hg;have hgc:=rX c hi;rw [hgp] at hgc;have x1:¬ nx=ks:=by omega
 have x3:¬ ks=nx:=by omega
 have e3:(p.op==3)= false:=by rw [h4]; rfl
 have e8:decide (p.op<=8)= true:=by rw [h4]; rfl
 have e4:(4:Int)<=p.op:=by omega
 have e5:¬ (5:Int)<=p.op:=by omega
 unfold jK at hcall;unfold TF at hcall hN;refine yS func22 Pg λhf=>?_;simp only [simprocAttr,-ZA,↓zU,↓zD,zV,zT,zW,hlk,nY,hl,hg,xF,hgc,Nd.row,e3,x1,x3,xV,iU,ma]
 (repeat refine sd ?_)
 refine .go (cq (lE p.op)) ?_;refine W3 e8 e4 ?_;refine .go hcall ?_;refine W3 hN e5 ?_;exact .same
theorem Wo {c:List Nd} {ks ko nx:Nat} {xX:List (Nat × Ob)} {s:List Bool × List Int} {i:Nat} {p:Nd} (hI:jC c ks ko nx xX s) (hi:i<c.length) (hlen:c.length<=1000) (hs:s.1.getD i false=false)
  (hgp:c.getD i yG=p) (h5:5<=p.op) (h8:p.op<=8) {d:D} {nx1:Nat} {objs1:List (Nat × Ob)}
  (hcall:xU prog 22 [.sl 6 (vW c),.int .i64 p.x,.wZ ks 1 c.length,xJ ko 1 (rows .i64 s.2)] ⟨nx+1,jK nx ks xX s.1 i p⟩ d ⟨nx1,objs1⟩) (hN:St.look objs1 nx=some (TF p))
  {d2:D} {nx2:Nat} {objs2:List (Nat × Ob)} (hcall2:xU prog 22 [.sl 6 (vW c),.int .i64 p.y,.wZ ks 1 c.length,d] ⟨nx1,objs1⟩ d2 ⟨nx2,objs2⟩) :
  xU prog 22 [.sl 6 (vW c),.int .i64 i,.wZ ks 1 c.length,xJ ko 1 (rows .i64 s.2)] ⟨nx,xX⟩ d2 ⟨nx2,objs2⟩:=by
 have hlk:=hI.hs;have hl:=hI.hl;have j6:=hI.j6;have hg:=nZ s.1 (i:=i) (by omega);rw [hs] at hg;have hgc:=rX c hi;rw [hgp] at hgc;have x1:¬ nx=ks:=by omega
 have x3:¬ ks=nx:=by omega
 have e3:(p.op==3)= false:=by rw [beq_eq_false_iff_ne]; omega
 have e8:decide (p.op<=8)= true:=decide_eq_true h8;have e4:(4:Int)<=p.op:=by omega
 unfold jK at hcall;unfold TF at hcall hN;refine yS func22 Pg λhf=>?_;simp only [simprocAttr,-ZA,↓zU,↓zD,zV,zT,zW,hlk,nY,hl,hg,xF,hgc,Nd.row,e3,x1,x3,xV,iU,ma]
 (repeat refine sd ?_)
 refine .go (cq (lE p.op)) ?_;refine W3 e8 e4 ?_;refine .go hcall ?_;refine W3 hN h5 ?_;refine .go hcall2 ?_;refine xB ?_;exact .same
theorem vf {c:List Nd} (hv:zY c) (hlen:c.length<=1000):∀ (n:Nat) {ks ko i nx:Nat} {xX:List (Nat × Ob)} {s:List Bool × List Int},i<n->i<c.length->jC c ks ko nx xX s ->
  ∃ nx' objs' ko',jC c ks ko' nx' objs' (vQ c n i s)/\ nx<=nx'/\((vQ c n i s).2 = []\/ko'=ko\/nx<=ko')/\ (∀ k,k<nx->k≠ks->k≠ko->St.look objs' k=St.look xX k)/\
   xU prog 22 [.sl 6 (vW c),.int .i64 i,.wZ ks 1 c.length,xJ ko 1 (rows .i64 s.2)] ⟨nx,xX⟩ (xJ ko' 1 (rows .i64 (vQ c n i s).2)) ⟨nx',objs'⟩
 | 0,ks,ko,i,nx,xX,s,h,_,_=>by omega
 | n + 1,ks,ko,i,nx,xX,s,h,hi,hI=>by
  unfold vQ;cases hs:s.1.getD i false
  case true=> rw [if_pos rfl];exact⟨nx,xX,ko,hI,Nat.le_refl _,.inr (.inl rfl),λ_ _ _ _=>rfl,Wk hI hi hlen hs⟩
  rw [if_neg (by simp)];obtain⟨ko0,hI0,hkd,hk0⟩:=hI.fc;rw [<- hkd]
  have hko:s.2 = []\/ko0=ko:=by
   rcases hk0 with ⟨h1,_⟩ | ⟨_,h1,_⟩
   ·exact .inl h1
   ·exact .inr h1
  have hk1:(s.2 = []/\ko0=nx+4)\/(s.2 ≠ []/\ko0<nx):=by
   rcases hk0 with ⟨h1,h2⟩ | ⟨h1,h2,h3⟩
   ·exact .inl ⟨h1,h2⟩
   ·exact .inr ⟨h1,by omega⟩
  have hfrk:∀ k,k<nx->k≠ko->k≠ko0:=by
   intro k a b
   rcases hk0 with ⟨_,h2⟩ | ⟨_,h2,_⟩
   ·omega
   ·omega
  have hnd:=hv i hi;have hops:=je hnd;obtain⟨ox,oy⟩:=nN hnd;generalize hgp:c.getD i yG=p at hnd hops ox oy
  by_cases hp:p.op=3\/8<p.op
  ·rw [if_pos hp];obtain⟨e1,e2⟩:=hI0.leaf hk1 hi hs p;exact⟨_,_,_,e1,by omega,.inr (.inr (by omega)),λk a b d=>e2 k a b (hfrk k a d),Wl hI0 hk1 hi hlen hs hgp hp⟩
  rw [if_neg hp];obtain⟨m1,m2⟩:=hI0.mark hk1 hi hs p;by_cases h4:4<=p.op
  case neg=>
   simp only [if_neg h4,if_neg (show ¬ 5<=p.op by omega)];refine⟨_,_,ko0,m1,by omega,?_,λk a b d=>m2 k a b,Wm hI0 hi hlen hs hgp (by omega) (by omega)⟩
   rcases hko with h | h
   ·exact .inl h
   ·exact .inr (.inl h)
  obtain⟨ux,uy⟩:=sM h4 (by omega);have hx:=ox ux;obtain⟨nx1,objs1,ko1,I1,l1,q1,fr1,c1⟩:=vf hv hlen n (i:=p.x.toNat) (by omega) (by omega) m1;rw [ν hx.1] at c1
  have hN:St.look objs1 nx=some (TF p):=by have j6:=hI.j6;rw [fr1 nx (by omega) (by omega) (by omega)];unfold jK;rw [xY,if_pos rfl]
  simp only [if_pos h4];generalize vQ c n p.x.toNat (s.1.set i true,s.2)= s1 at I1 q1 c1;by_cases h5:5<=p.op
  case neg=>
   rw [if_neg h5]
   refine⟨nx1,objs1,ko1,I1,by omega,?_,λk a b d=>?_,Wn hI0 hi hlen hs hgp (by omega) c1 hN⟩
   ·rcases q1 with q | q | q
    ·exact .inl q
    ·rcases hk0 with ⟨_,h2⟩ | ⟨_,h2,_⟩
     ·exact .inr (.inr (by omega))
     ·exact .inr (.inl (by omega))
    ·exact .inr (.inr (by omega))
   ·rw [fr1 k (by omega) b (hfrk k a d),m2 k a b]
  rw [if_pos h5];have hy:=oy (uy h5);obtain⟨ko2,I2,kd2,k2⟩:=I1.fc;obtain⟨nx3,objs3,ko3,I3,l3,q3,fr3,c3⟩:=vf hv hlen n (i:=p.y.toNat) (by omega) (by omega) I2;rw [ν hy.1,kd2] at c3;generalize vQ c n p.y.toNat s1=s3 at I3 q3 c3
  have hk2:∀ k,k<nx->k≠ko->k≠ko2:=by
   intro k a b
   rcases k2 with ⟨_,h2⟩ | ⟨h1,h2,_⟩
   ·omega
   ·rcases q1 with q | q | q
    ·exact absurd q h1
    ·have:=hfrk k a b; omega
    ·omega
  refine⟨nx3,objs3,ko3,I3,by omega,?_,λk a b d=>?_,Wo hI0 hi hlen hs hgp h5 (by omega) c1 hN c3⟩
  ·rcases q3 with q | q | q
   ·exact .inl q
   ·rcases k2 with ⟨_,h2⟩ | ⟨h1,h2,_⟩
    ·exact .inr (.inr (by omega))
    ·rcases q1 with q1 | q1 | q1
     ·exact absurd q1 h1
     ·rcases hk0 with ⟨_,h2⟩ | ⟨_,h2,_⟩
      ·exact .inr (.inr (by omega))
      ·exact .inr (.inl (by omega))
     ·exact .inr (.inr (by omega))
   ·exact .inr (.inr (by omega))
  ·rw [fr3 k (by omega) b (hk2 k a d),fr1 k (by omega) b (hfrk k a d),m2 k a b]
end Go.Pd
