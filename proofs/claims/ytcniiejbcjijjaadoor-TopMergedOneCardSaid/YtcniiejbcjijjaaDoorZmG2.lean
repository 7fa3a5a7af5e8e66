/- Part G2. -/
import Derived.Test.YtcniiejbcjijjaaDoorZmX9
set_option linter.unusedSectionVars false
set_option linter.unusedVariables false
set_option linter.unusedSimpArgs false
set_option linter.defProp false
set_option maxRecDepth 20000
set_option maxHeartbeats 1000000
open Go.Proofs.Tryd
open List renaming length_cons->γ,mem_cons->δ,foldl_cons->ε,pairwise_cons->ζ,cons_append->η,any_eq_true->θ
open Nat renaming pow_le_pow_right->κ
open BitVec renaming eq_of_getLsbD_eq->μ,getLsbD_zero->ν,getLsbD_not->ξ,getLsbD_and->ο
open Int renaming natCast_nonneg->π
namespace Go.Pd.Mg
open Go
def vI (l:List Int):Prop:=l.Pairwise (· >= ·)
theorem cS : ∀ {a b:List Int},vI a->vI b->a.Perm b->a=b:=by intro a b ha hb hp;exact List.Perm.eq_of_pairwise (le:=(· >= ·)) (λx y _ _ h1 h2=>by simp only [ge_iff_le] at h1 h2; omega) ha hb hp
def uJ (l:List Int):List Int:=l.mergeSort λa b=>decide (b<=a)
theorem uV (l:List Int):(uJ l).Perm l:=List.mergeSort_perm l _
theorem sS (l:List Int):vI (uJ l):=by have:=List.pairwise_mergeSort (le:=λa b:Int=>decide (b<=a)) (λa b c h1 h2=>by simp at h1 h2 ⊢; omega) (λa b=>by simp; omega) l;unfold vI uJ;exact this.imp λh=>by simpa using h
theorem jy {l m:List Int} (hp:m.Perm l) (hf:vI m):m=uJ l:=cS hf (sS l) (hp.trans (uV l).symm)
theorem pZ (l:List Int):(uJ l).length=l.length:=(uV l).length_eq
def xG : List Int->List Int->Int
 | [],[]=>0
 | [],_ :: _=>-1
 | _ :: _,[]=>1
 | a :: az,b :: bs=>if a<b then -1 else if b<a then 1 else xG az bs
theorem pY : ∀ a:List Int,xG a a=0
 | []=>rfl
 | x :: a=>by unfold xG; rw [if_neg (by omega),if_neg (by omega)]; exact pY a
theorem tI : ∀ a b:List Int,xG a b = -1\/xG a b=0\/xG a b=1
 | [],[]=>.inr (.inl rfl)
 | [],_ :: _=>.inl rfl
 | _ :: _,[]=>.inr (.inr rfl)
 | x :: a,y :: b=>by
  unfold xG
  split
  ·exact .inl rfl
  ·split
   ·exact .inr (.inr rfl)
   ·exact tI a b
theorem uA : ∀ {a b:List Int},xG a b=0->a=b
 | [],[],_=>rfl
 | [],_ :: _,h=>by simp [xG] at h
 | _ :: _,[],h=>by simp [xG] at h
 | x :: a,y :: b,h=>by
  unfold xG at h
  split at h
  ·omega
  ·split at h
   ·omega
   ·rw [uA h,show x=y by omega]
theorem wE : ∀ a b:List Int,xG b a =-xG a b
 | [],[]=>rfl
 | [],_ :: _=>rfl
 | _ :: _,[]=>rfl
 | x :: a,y :: b=>by
  unfold xG
  by_cases h1:x<y
  ·rw [if_pos h1,if_neg (by omega),if_pos h1]; rfl
  ·by_cases h2:y<x
   ·rw [if_pos h2,if_neg h1,if_pos h2]
   ·rw [if_neg h2,if_neg h1,if_neg h1,if_neg h2]; exact wE a b
theorem tJ : ∀ {a b c:List Int},xG a b<0->xG b c<0->xG a c<0
 | [],[],_,h,_=>by simp [xG] at h
 | [],_ :: _,[],_,h=>by simp [xG] at h
 | [],_ :: _,_ :: _,_,_=>by simp [xG]
 | _ :: _,[],_,h,_=>by simp [xG] at h
 | _ :: _,_ :: _,[],_,h=>by simp [xG] at h
 | x :: a,y :: b,z :: c,h1,h2=>by
  unfold xG at h1 h2 ⊢
  by_cases hxy:x<y
  ·by_cases hyz:z<y
   ·rw [if_neg (by omega),if_pos hyz] at h2; omega
   ·rw [if_pos (by omega)]; omega
  ·rw [if_neg hxy] at h1
   by_cases hyx:y<x
   ·rw [if_pos hyx] at h1; omega
   ·rw [if_neg hyx] at h1
    by_cases hyz:y<z
    ·rw [if_pos (by omega)]; omega
    ·rw [if_neg hyz] at h2
     by_cases hzy:z<y
     ·rw [if_pos hzy] at h2; omega
     ·rw [if_neg hzy] at h2;rw [if_neg (by omega),if_neg (by omega)];exact tJ h1 h2
theorem qP {a b c:List Int} (h1:¬ xG a b<0) (h2:¬ xG b c<0):¬ xG a c<0:=by
 intro h
 by_cases e1:xG a b=0
 ·rw [uA e1] at h; exact h2 h
 ·by_cases e2:xG b c=0
  ·rw [<- uA e2] at h; exact h1 h
  ·have r1:=tI a b;have r2:=tI b c;have a1:=wE a b;have a2:=wE b c;have a3:=wE a c;have:=tJ (a:=c) (b:=b) (c:=a) (by omega) (by omega);omega
def wt : List Int->Nat
 | []=>0
 | x :: l=>64 ^ x.toNat+wt l
theorem vu {a b:List Int} (h:a.Perm b):wt a=wt b:=by
 induction h with
 | nil=>rfl
 | cons x _ ih=>simp only [wt,ih]
 | swap x y l=>simp only [wt]; omega
 | trans _ _ ih1 ih2=>exact ih1.trans ih2
theorem ep {x:Nat}:∀ {l:List Int},(∀ y ∈ l,y<=(x:Int))->wt l<=l.length*64 ^ x
 | [],_=>by simp [wt]
 | y :: l,h=>by have h1:=ep (l:=l) λz hz=>h z (by simp [hz]);have h2:=h y (by simp);have h3:64 ^ y.toNat<=64 ^ x:=κ (by omega) (by omega);simp only [wt,γ,Nat.succ_mul];omega
theorem pd : ∀ {a b:List Int},a.length=b.length->a.length<64->vI a->vI b->(∀ x ∈ a,0<=x)->(∀ x ∈ b,0<=x)->(xG a b<0->wt a<wt b)
 | [],[],_,_,_,_,_,_,h=>by simp [xG] at h
 | [],_ :: _,hl,_,_,_,_,_,_=>by simp at hl
 | _ :: _,[],hl,_,_,_,_,_,_=>by simp at hl
 | x :: a,y :: b,hl,h64,fa,fb,pa,pb,h=>by
  unfold xG at h;have fa':=ζ.1 fa;have fb':=ζ.1 fb;have hx:=pa x (by simp);have hy:=pb y (by simp);simp only [γ] at hl h64
  split at h
  ·rename_i hxy
   have h1:wt (x :: a)<=(x :: a).length*64 ^ x.toNat:=ep λz hz=>by
    rcases δ.1 hz with rfl | hz
    ·omega
    ·have:=fa'.1 z hz; simp only [ge_iff_le] at this; omega
   have h2:64 ^ (x.toNat+1)<=64 ^ y.toNat:=κ (by omega) (by omega);have h3:64 ^ (x.toNat+1)= 64*64 ^ x.toNat:=by rw [Nat.pow_succ,Nat.mul_comm]
   have h4:(x :: a).length*64 ^ x.toNat<64*64 ^ x.toNat:=Nat.mul_lt_mul_of_pos_right (by simp; omega) (Nat.pow_pos (by omega));have h5:64 ^ y.toNat<=wt (y :: b):=by simp only [wt]; omega
   omega
  ·split at h
   ·omega
   ·have e:x=y:=by omega
    have:=pd (a:=a) (b:=b) (by omega) (by omega) fa'.2 fb'.2 (λz hz=>pa z (by simp [hz])) (λz hz=>pb z (by simp [hz])) h;simp only [wt,e]; omega
theorem ca {a b:List Int} (hl:a.length=b.length) (h64:a.length<64) (fa:vI a) (fb:vI b) (pa:∀ x ∈ a,0<=x) (pb:∀ x ∈ b,0<=x):xG a b<0 ↔ wt a<wt b:=by
 refine⟨pd hl h64 fa fb pa pb,λh=>?_⟩
 by_cases e:xG a b=0
 ·rw [uA e] at h; omega
 ·have r:=tI a b
  rcases r with r | r | r
  ·omega
  ·exact absurd r e
  ·have a1:=wE a b;have:=pd hl.symm (by omega) fb fa pb pa (by omega);omega
theorem fZ {α:Type} [DecidableEq α]:∀ {a b:List α},a.Nodup->b.Nodup->(∀ x,x ∈ a ↔ x ∈ b)->a.length=b.length
 | [],b,_,_,h=>by
  cases b with
  | nil=>rfl
  | cons y b=>have:=(h y).2 (by simp); simp at this
 | x :: a,b,ha,hb,h=>by
  have ha':=List.nodup_cons.1 ha;have hx:x ∈ b:=(h x).1 (by simp)
  have:=fZ (a:=a) (b:=b.erase x) ha'.2 (hb.erase x) λz=>by
   rw [List.Nodup.mem_erase_iff hb]
   constructor
   ·intro hz;exact⟨λe=>ha'.1 (e ▸ hz),(h z).1 (by simp [hz])⟩
   ·rintro ⟨hne,hz⟩
    rcases δ.1 ((h z).2 hz) with e | e
    ·exact absurd e hne
    ·exact e
  rw [List.length_erase_of_mem hx] at this;have hpos:0<b.length:=List.length_pos_of_mem hx;simp only [γ];omega
def zM (l:List (List Int)):Nat->List (List Int)
 | 0=>[]
 | k+1=>if (List.range k).any (λi=>l.getD i []==l.getD k []) then zM l k else zM l k ++ [l.getD k []]
theorem rM (l:List (List Int)):∀ k,(zM l k).Nodup/\∀ x,x ∈ zM l k ↔ ∃ i,i<k/\l.getD i []=x
 | 0=>⟨List.nodup_nil,λx=>by simp [zM]⟩
 | k + 1=>by
  obtain⟨h1,h2⟩:=rM l k;unfold zM
  by_cases h:(List.range k).any (λi=>l.getD i []==l.getD k [])= true
  ·rw [if_pos h];refine⟨h1,λx=>(h2 x).trans ⟨λ⟨i,hi,e⟩=>⟨i,by omega,e⟩,λ⟨i,hi,e⟩=>?_⟩⟩
   by_cases ei:i=k
   ·subst ei;obtain⟨j,hj,e2⟩:=θ.1 h;exact⟨j,List.mem_range.1 hj,(eq_of_beq e2).trans e⟩
   ·exact⟨i,by omega,e⟩
  ·rw [if_neg h]
   have hn:l.getD k [] ∉ zM l k:=by intro hm;obtain⟨i,hi,e⟩:=(h2 _).1 hm;exact h (θ.2 ⟨i,List.mem_range.2 hi,by rw [e]; simp⟩)
   refine⟨List.nodup_append.2 ⟨h1,by simp,λa ha b hb=>?_⟩,λx=>?_⟩
   ·simp at hb; subst hb; rintro rfl; exact hn ha
   ·rw [List.mem_append,h2]
    constructor
    ·rintro (⟨i,hi,e⟩ | hx)
     ·exact⟨i,by omega,e⟩
     ·simp at hx; exact⟨k,by omega,hx.symm⟩
    ·rintro ⟨i,hi,e⟩
     by_cases ei:i=k
     ·subst ei; right; rw [e]; simp
     ·left; exact⟨i,by omega,e⟩
def pS (l:List (List Int)) (v:Nat):Int:=(((zM l l.length).filter λx=>decide (xG x (l.getD v [])<0)).length:Int)
theorem gn {l m:List (List Int)} (hn:m.Nodup) (hm:∀ x,x ∈ m ↔ x ∈ l) (v:Nat):((m.filter λx=>decide (xG x (l.getD v [])<0)).length:Int)= pS l v:=by
 obtain⟨h1,h2⟩:=rM l l.length;unfold pS;congr 1;refine fZ (hn.filter _) (h1.filter _) λx=>?_;rw [List.mem_filter,List.mem_filter,hm,h2]
 have:x ∈ l ↔ ∃ i,i<l.length/\l.getD i []=x:=by
  constructor
  ·intro hx;obtain⟨i,hi,e⟩:=List.getElem_of_mem hx;exact⟨i,hi,by simp [List.getD,hi,e]⟩
  ·rintro ⟨i,hi,rfl⟩;simp [List.getD,hi]
 rw [this]
theorem iO {α:Type} {p q:α->Bool} {l:List α} (h:∀ x ∈ l,p x=true->q x=true):(l.filter p).length<=(l.filter q).length/\((∃ x ∈ l,q x=true/\p x=false)->(l.filter p).length<(l.filter q).length):=by
 induction l with
 | nil=>exact⟨Nat.le_refl _,by rintro ⟨x,hx,_⟩; simp at hx⟩
 | cons a l ih=>
  obtain⟨h1,h2⟩:=ih λx hx=>h x (by simp [hx]);have ha:=h a (by simp)
  cases hp:p a <;> cases hq:q a <;> simp only [List.filter_cons,hp,hq,γ,if_true,if_false,Bool.false_eq_true]
  ·refine⟨h1,?_⟩;rintro ⟨x,hx,h3,h4⟩
   rcases δ.1 hx with rfl | hx
   ·rw [hq] at h3; cases h3
   ·exact h2 ⟨x,hx,h3,h4⟩
  ·exact⟨by omega,λ_=>by omega⟩
  ·rw [ha hp] at hq; cases hq
  ·refine⟨by omega,?_⟩;rintro ⟨x,hx,h3,h4⟩
   rcases δ.1 hx with rfl | hx
   ·rw [hp] at h4; cases h4
   ·have:=h2 ⟨x,hx,h3,h4⟩; omega
theorem gm {l:List (List Int)} {u v:Nat} (hu:u<l.length):pS l u<pS l v ↔ xG (l.getD u []) (l.getD v [])<0:=by
 obtain⟨h1,h2⟩:=rM l l.length
 constructor
 ·intro h;apply Classical.byContradiction;intro hn
  have:pS l v<=pS l u:=by
   unfold pS
   have:=(iO (l:=zM l l.length) (p:=λx=>decide (xG x (l.getD v [])<0)) (q:=λx=>decide (xG x (l.getD u [])<0)) λx _ hx=>by
    simp only [decide_eq_true_eq] at hx ⊢
    by_cases e:xG (l.getD u []) (l.getD v [])= 0
    ·rw [uA e]; exact hx
    ·have r:=tI (l.getD u []) (l.getD v []);have a:=wE (l.getD u []) (l.getD v []);exact tJ hx (by omega)).1
   omega
  omega
 ·intro h;unfold pS
  have:=(iO (l:=zM l l.length) (p:=λx=>decide (xG x (l.getD u [])<0)) (q:=λx=>decide (xG x (l.getD v [])<0)) λx _ hx=>by simp only [decide_eq_true_eq] at hx ⊢;exact tJ hx h).2 ⟨l.getD u [],(h2 _).2 ⟨u,hu,rfl⟩,by simpa using h,by rw [pY]; simp⟩
  omega
theorem aG (l:List (List Int)) (v:Nat):0<=pS l v:=by unfold pS; omega
def xP (n:Nat) (p:List (BitVec 64)):List (List Int):=(List.range (2 ^ n)).map λv=>uJ (xL n p v)
def mK (way:Int) (n:Nat) (p:List (BitVec 64)) (v:Nat):Int:=if way=3 then pS (xP n p) v else if way=2 then uE (xL n p v) else sR (xL n p v)
def xE (way:Int) (n:Nat) (p:List (BitVec 64)):List Int:=(List.range (2 ^ n)).map λv=>mK way n p v
end Go.Pd.Mg

/- Part G3. -/
namespace Go.Pd.Mg
open Go
theorem foldl_add : ∀ (l:List Int) (a:Int),l.foldl (· + ·) a=a+l.foldl (· + ·) 0
 | [],a=>by simp
 | x :: l,a=>by simp only [ε]; rw [foldl_add l (a+x),foldl_add l (0+x)]; omega
theorem uB (x:Int) (l:List Int):sR (x :: l)= x+sR l:=by unfold sR; rw [ε,foldl_add]; omega
theorem qZ : sR []=0:=rfl
theorem aT (a b:List Int):sR (a++b)= sR a+sR b:=by
 induction a with
 | nil=>simp [qZ]
 | cons x a ih=>rw [η,uB,uB,ih]; omega
theorem foldl_max : ∀ (l:List Int) (a:Int),0<=a->l.foldl max a=max a (l.foldl max 0)
 | [],a,h=>by simp; omega
 | x :: l,a,h=>by simp only [ε];rw [foldl_max l (max a x) (by omega),foldl_max l (max 0 x) (by omega)]; omega
theorem uY (x:Int) (l:List Int):uE (x :: l)= max (max 0 x) (uE l):=by unfold uE; rw [ε,foldl_max l (max 0 x) (by omega)]
theorem nV : uE []=0:=rfl
theorem sX (l:List Int):0<=uE l:=by
 cases l with
 | nil=>exact Int.le_refl _
 | cons x l=>rw [uY]; omega
theorem aJ (a b:List Int):uE (a++b)= max (uE a) (uE b):=by
 induction a with
 | nil=>rw [List.nil_append,nV]; have:=sX b; omega
 | cons x a ih=>rw [η,uY,uY,ih]; omega
theorem gq {l:List Int}:(∀ x ∈ l,x<=uE l)/\ (uE l=0\/uE l ∈ l):=by
 induction l with
 | nil=>exact⟨by simp,.inl rfl⟩
 | cons x l ih=>
  rw [uY];have h0:=sX l
  refine⟨λy hy=>?_,?_⟩
  ·rcases δ.1 hy with rfl | hy
   ·omega
   ·have:=ih.1 y hy; omega
  ·by_cases h:max 0 x<=uE l
   ·have e:max (max 0 x) (uE l)= uE l:=by omega
    rw [e]
    rcases ih.2 with h2 | h2
    ·exact .inl h2
    ·exact .inr (by simp [h2])
   ·have e : max (max 0 x) (uE l)= max 0 x:=by omega
    rw [e]
    by_cases hx:0<x
    ·exact .inr (by rw [show max 0 x=x by omega]; simp)
    ·omega
def cF (way:Int) (l:List Int):Int:=if way=3 then(wt l:Int) else if way=2 then uE l else sR l
def gX (way:Int) (n:Nat) (p:List (BitVec 64)) (v:Nat):Int:=cF way (xL n p v)
theorem tX (n:Nat) (p:List (BitVec 64)) (v:Nat):(xL n p v).length=p.length:=by simp [xL]
theorem vN {n:Nat} {p:List (BitVec 64)} {v:Nat}:∀ x ∈ xL n p v,0<=x/\x<=n:=by intro x hx;simp only [xL,List.mem_map] at hx;obtain⟨b,_,rfl⟩:=hx;exact wI n b v
theorem mR {n:Nat} {p:List (BitVec 64)} {v:Nat} (h:v<2 ^ n):(xP n p).getD v []=uJ (xL n p v):=by simp [xP,List.getD,h]
theorem vj {way:Int} {n:Nat} {p:List (BitVec 64)} (hp:p.length<64) {u v:Nat} (hu:u<2 ^ n) (hv:v<2 ^ n):mK way n p u<mK way n p v ↔ gX way n p u<gX way n p v:=by
 unfold mK gX cF
 by_cases h3:way=3
 ·simp only [h3,if_true];rw [gm (by simpa [xP] using hu),mR hu,mR hv];rw [ca (by simp [pZ,tX]) (by rw [pZ,tX]; exact hp) (sS _) (sS _) (λx hx=>(vN x ((uV _).mem_iff.1 hx)).1) (λx hx=>(vN x ((uV _).mem_iff.1 hx)).1)];rw [vu (uV _),vu (uV _)];omega
 ·simp only [h3,if_false]
def rZ (way:Int) (n:Nat) (p:List (BitVec 64)) (c:BitVec 64):BitVec 64:=zJ (xE way n p) c
theorem wK (way:Int) (n:Nat) (p:List (BitVec 64)):(xE way n p).length=2 ^ n:=by simp [xE]
theorem uX {way:Int} {n:Nat} {p:List (BitVec 64)} {v:Nat} (h:v<2 ^ n):(xE way n p).getD v 0=mK way n p v:=by simp [xE,List.getD,h]
theorem vK {n:Nat} (hn:n<=4):2 ^ n<=16:=κ (n:=2) (by omega) hn
theorem iV {way:Int} {n:Nat} {p:List (BitVec 64)} {c:BitVec 64} (hn:n<=4) (hp:p.length<64) (v:Nat) :
  (rZ way n p c).getLsbD v=true ↔ v<2 ^ n/\c.getLsbD v=true/\∀ u,u<2 ^ n->c.getLsbD u=true->gX way n p v<=gX way n p u:=by
 have h16:=vK hn;unfold rZ;rw [sC (by rw [wK]; omega),uL,wK]
 constructor
 ·rintro ⟨h1,h2,h3⟩;refine⟨h1,h2,λu hu hc=>?_⟩;have:=h3 u hu hc;rw [uX h1,uX hu] at this;have k:=vj (way:=way) (p:=p) hp hu h1;omega
 ·rintro ⟨h1,h2,h3⟩;refine⟨h1,h2,λu hu hc=>?_⟩;rw [uX h1,uX hu];have:=h3 u hu hc;have k:=vj (way:=way) (p:=p) hp hu h1;omega
theorem kZ {s t:BitVec 64} (h:∀ i,s.getLsbD i=true ↔ t.getLsbD i=true):s=t:=by apply μ;intro i _;have:=h i;cases hs:s.getLsbD i <;> cases ht:t.getLsbD i <;> simp_all
theorem sub_zero {s t:BitVec 64}:s &&& ~~~t=0#64 ↔ ∀ i,s.getLsbD i=true->t.getLsbD i=true:=by
 constructor
 ·intro h i hs;have:=congrArg (λx:BitVec 64=>x.getLsbD i) h;simp only [ο,ξ,hs,Bool.true_and,ν] at this
  by_cases hi:i<64
  ·simpa [hi] using this
  ·rw [BitVec.getLsbD_of_ge _ _ (by omega)] at hs; cases hs
 ·intro h;apply μ;intro i hi;rw [ο,ξ,ν]
  cases hs:s.getLsbD i with
  | false=>rfl
  | true=>simp [h i hs]
theorem aM {s:BitVec 64} (h:s≠0#64):∃ i,s.getLsbD i=true:=by
 apply Classical.byContradiction;intro hn
 exact h (dU λi=>by
  cases e:s.getLsbD i with
  | false=>rfl
  | true=>exact absurd ⟨i,e⟩ hn)
end Go.Pd.Mg

/- Part G4. -/
namespace Go.Pd.Mg
open Go
def allM (n:Nat):BitVec 64:=1#64 <<< (2 ^ n)-1#64
theorem nR {n:Nat} (hn:n<=4) (v:Nat):(allM n).getLsbD v=true ↔ v<2 ^ n:=by
 have h16:=vK hn;have hlt:2 ^ 2 ^ n<2 ^ 64:=Nat.pow_lt_pow_right (by omega) (by omega);have hp:0<2 ^ 2 ^ n:=Nat.two_pow_pos _
 have e:(allM n).toNat=2 ^ 2 ^ n-1:=by
  unfold allM
  have e1:(1#64 <<< (2 ^ n)).toNat=2 ^ 2 ^ n:=by rw [BitVec.toNat_shiftLeft,Nat.shiftLeft_eq];show 1*2 ^ 2 ^ n % 2 ^ 64=_;rw [Nat.one_mul,Nat.mod_eq_of_lt hlt]
  rw [BitVec.toNat_sub_of_le (by rw [BitVec.le_def,e1]; exact hp),e1];rfl
 unfold BitVec.getLsbD;rw [e,Nat.testBit_two_pow_sub_one];simp
def rB (n:Nat) (b:BitVec 64):Int:=if b &&& ~~~(allM n)≠ 0#64 then 2 else if b=0#64 then 11 else 0
def sT (n:Nat):List (BitVec 64)->Int
 | []=>0
 | b :: p=>if rB n b≠0 then rB n b else sT n p
def yU (n:Int) (p:List (BitVec 64)):Int:=if n<0\/4<n then 2 else if 8<p.length then 8 else sT n.toNat p
theorem lS {n:Nat}:∀ {p:List (BitVec 64)},sT n p=0 ↔ ∀ b ∈ p,rB n b=0
 | []=>by simp [sT]
 | b :: p=>by
  unfold sT
  by_cases h:rB n b=0
  ·rw [if_neg (by omega),lS]; simp [h]
  ·rw [if_pos h]; simp [h]
theorem qc {n:Nat} {b:BitVec 64} (hn:n<=4) (h:rB n b=0):(∀ v,b.getLsbD v=true->v<2 ^ n)/\ ∃ v,v<2 ^ n/\b.getLsbD v=true:=by
 unfold rB at h
 split at h
 ·cases h
 ·rename_i h1
  split at h
  ·cases h
  ·rename_i h2;have h1':b &&& ~~~(allM n)= 0#64:=by simpa using h1
   have hs:∀ v,b.getLsbD v=true->v<2 ^ n:=λv hv=>(nR hn v).1 (sub_zero.1 h1' v hv);obtain⟨v,hv⟩:=aM h2;exact⟨hs,v,hs v hv,hv⟩
theorem uM {n:Int} {p:List (BitVec 64)} (h:yU n p=0):0<=n/\n<=4/\p.length<=8/\∀ b ∈ p,rB n.toNat b=0:=by
 unfold yU at h
 split at h
 ·cases h
 ·split at h
  ·cases h
  ·exact⟨by omega,by omega,by omega,lS.1 h⟩
def wC (n:Nat) (b:BitVec 64):List Int:=(List.range (2 ^ n)).map λv=>vW n b v
theorem qC {m:Int}:∀ {l:List Int},(∀ x ∈ l,0<=x/\x<=m)->0<=sR l/\sR l<=l.length*m
 | [],_=>by simp [qZ]
 | x :: l,h=>by have h1:=qC (l:=l) λy hy=>h y (by simp [hy]);have h2:=h x (by simp);rw [uB,γ,Int.natCast_succ,Int.add_mul];omega
theorem gj {way:Int} {x y:Int} (hx:0<=x) (hy:0<=y):cF way [x]<=cF way [y] ↔ x<=y:=by
 unfold cF;simp only [wt,uY,nV,uB,qZ]
 split
 ·constructor
  ·intro h;apply Classical.byContradiction;intro hlt;have:64 ^ (y.toNat+1)<=64 ^ x.toNat:=κ (by omega) (by omega);have e:64 ^ (y.toNat+1)= 64 ^ y.toNat*64:=Nat.pow_succ ..;have:0<64 ^ y.toNat:=Nat.pow_pos (by omega);omega
  ·intro h;have:64 ^ x.toNat<=64 ^ y.toNat:=κ (by omega) (by omega);omega
 ·split <;> omega
theorem cT {way:Int} {n:Nat} {a c:BitVec 64} (hn:n<=4):rZ way n [a] c=zJ (wC n a) c:=by
 have h16:=vK hn;refine kZ λv=>?_;rw [iV hn (by simp),sC (by simp [wC]; omega),uL];have hlen:(wC n a).length=2 ^ n:=by simp [wC]
 have e2:∀ w,w<2 ^ n->(wC n a).getD w 0=vW n a w:=λw hw=>by simp [wC,List.getD,hw]
 have k:∀ u,gX way n [a] v<=gX way n [a] u ↔ vW n a v<=vW n a u:=λu=>gj (wI n a v).1 (wI n a u).1;rw [hlen]
 constructor
 ·rintro ⟨h1,h2,h3⟩;exact⟨h1,h2,λu hu hc=>by rw [e2 v h1,e2 u hu]; exact(k u).1 (h3 u hu hc)⟩
 ·rintro ⟨h1,h2,h3⟩;exact⟨h1,h2,λu hu hc=>(k u).2 (by have:=h3 u hu hc; rw [e2 v h1,e2 u hu] at this; exact this)⟩
end Go.Pd.Mg

/- Part M1. -/
namespace Go.Pd
open Go Go.Proofs
open BitVec renaming isValue -> ZA
open Mg
theorem aZ {n:Nat} (hn:n<=4):yY prog 15 [.int .i64 n] (.int .u64 (ui (allM n))):=by refine yP func15 XI λhf=>?_;simp only [simprocAttr,-ZA,↓zU,↓zD,zV,zT,zW,wc (show n<=61 by omega)];exact⟨π _,π _,.same⟩
theorem o8 {n:Nat} (hn:n<=4):yY prog 41 [.int .i64 n] (.int .u64 (ui (allM n))):=by refine yP func41 Xh λhf=>?_;simp only [simprocAttr,-ZA,↓zU,↓zD,zV,zT,zW,wc (show n<=61 by omega)];exact⟨π _,π _,.same⟩
theorem iQ (w:Int):yY prog 17 [.int .i64 w] (.bool (decide (1<=w/\w<=3))):=by
 refine yP func17 XK λhf=>?_
 by_cases h1:w=1
 ·subst h1;refine xC ?_;exact .same
 have e1:(w==1)= false:=by simp [h1]
 by_cases h2:w=2
 ·subst h2;refine xC ?_;exact .same
 have e2:(w==2)= false:=by simp [h2]
 refine rE e1 e2 ?_
 have:(w==3)= decide (1<=w/\w<=3):=by rw [Bool.eq_iff_iff]; simp; omega
 rw [this];exact .same
theorem jt {k:Nat} (hk:k<64):yY prog 28 [.int .i64 k] (.int .u64 (ui (1#64 <<< k))):=by
 refine yP func28 XW λhf=>?_;simp only [simprocAttr,-ZA,↓zU,↓zD,zV,zT,zW,pN (show k<=1000000 by omega)]
 (repeat refine sd ?_)
 exact .same
def oJ : Nat->BitVec 64
 | 0=>0#64
 | k+1=>oJ k ||| 1#64 <<< k
theorem fO : ∀ {k:Nat},k<=64->∀ v,(oJ k).getLsbD v=true ↔ v<k
 | 0,_,v=>by simp [oJ]
 | k+1,h,v=>by unfold oJ;rw [BitVec.getLsbD_or,Bool.or_eq_true,fO (by omega) v,oG (by omega)];omega
theorem qz {n:Nat} (hn:n<=4):oJ (2 ^ n)= allM n:=by have h16:=vK hn;exact kZ λi=>(fO (by omega) i).trans (nR hn i).symm
theorem gY {m:Nat} (hm:m<=64):yY prog 16 [.int .i64 m] (.int .u64 (ui (oJ m))):=by
 refine yP func16 XJ λhf=>?_;have hd:¬ (64:Int)<(m:Int):=by omega
 refine yN hd ?_
 refine xO (λk:Nat=>[(4,.int .i64 k),(3,.int .u64 (ui (oJ k))),(0,.int .i64 m)]) (λ_=>⟨0,[]⟩) (λk=>k<=m) (λk=>m-k) 0 (Nat.zero_le _) ?_ ?_
 ·(refine zG.same ?_; simp [wR,Fr.get,oJ])
 intro k hk;refine yQ mixed ?_
 by_cases h:k<m
 ·have hd:((k:Int)<(m:Int)):=by omega
  refine yN hd ?_;refine .go (xU.zI (jt (k:=k) (by omega)) rfl) ?_;refine xC ?_;refine⟨k+1,by omega,?_,by omega⟩
  (refine zG.same ?_; simp only [wR,Fr.get,simprocAttr,-ZA,zS,oJ])
  exact wrap_i64 (by omega)
 ·have hd:¬ ((k:Int)<(m:Int)):=by omega
  have hk':k=m:=by omega
  subst hk';refine yN hd ?_;exact .same
theorem lX {n:Nat} (hn:n<=4):yY prog 7 [.int .i64 n] (.int .u64 (ui (allM n))):=by
 refine yP func7 k7 λhf=>?_;have h16:=vK hn;simp only [simprocAttr,-ZA,↓zU,↓zD,zV,zT,zW,pN (show n<=1000000 by omega),xm (show n<=61 by omega)]
 (repeat refine sd ?_)
 refine .go (xU.zI (gY (m:=2 ^ n) (by omega)) rfl) ?_;simp only [simprocAttr,-ZA,↓zU,↓zD,zV,zT,zW,qz hn];exact .same
end Go.Pd
