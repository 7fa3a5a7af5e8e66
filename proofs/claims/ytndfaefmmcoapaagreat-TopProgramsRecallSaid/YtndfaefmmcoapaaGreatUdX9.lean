/- Part X9. -/
import Derived.Test.YtndfaefmmcoapaaGreatUdX8
import Derived.Test.YtndfaefmmcoapaaGreatUdCode
set_option linter.unusedSectionVars false
set_option linter.unusedVariables false
set_option linter.unusedSimpArgs false
set_option linter.defProp false
set_option maxRecDepth 20000
set_option maxHeartbeats 1000000
namespace Go.Pd
open Go Go.Proofs
theorem bTb {n:Nat} (hn:n<=61):aIw .i64 1 (n:Int)= ((2 ^ n:Nat):Int):=aUk (by omega)
theorem aC7 {n:Nat} (hn:n<=1000000):IntKind.u64.wrap (n:Int)= (n:Int):=wrap_u64 (by omega)
theorem aH0 {k:Nat} (h:k<18446744073709551616):ui (BitVec.ofNat 64 k)= (k:Int):=by unfold ui; rw [BitVec.toNat_ofNat,Nat.mod_eq_of_lt h]
theorem wT {α:Type} {l:List α} {k:Nat} {d:α} (h:k<l.length):l.take (k+1)= l.take k ++ [l.getD k d]:=by rw [List.take_add_one]; simp [List.getD,h]
theorem drop_cons {α:Type} {l:List α} {k:Nat} {d:α} (h:k<l.length):l.drop k=l.getD k d :: l.drop (k+1):=by simp [List.getD,h]
theorem xS {α:Type} {l:List α} {k:Nat} {d:α} (h:k<l.length):l.getD k d ∈ l:=by simp [List.getD,h]
theorem oH {α:Type} {l:List α} {k:Nat} (h:k=l.length):l.take k=l:=by rw [h,List.take_length]
theorem bWp (x y:Int):(if x<y then y else x)= max x y:=by rw [Int.max_def]; split <;> split <;> omega
theorem aGn (k:IntKind) (l:List Int) (i:Nat) (n:Int):(rows k l).set i [.int k n]=rows k (l.set i n):=by simp [rows,List.map_set]
variable [sC]
theorem xY.bUm {P:Program} {g:FuncId} {args:List D} {σ:St} {sz len:Nat} {els:List (List D)} (hc:xY P g args St0 (.osl 0 sz len) ⟨1,[(0,⟨sz,els⟩)]⟩) (hp:D.xU args=true) (he:∀ e ∈ els,D.xU e=true) :
  xY P g args σ (.osl σ.nx sz len) ⟨σ.nx+1,(σ.nx,⟨sz,els⟩) :: σ.xZ⟩:=by
 have h:=xY.own (σ:=σ) hc hp;simpa [yS,Ob.shift,mL _ he,D.shift] using h
theorem aRn {key m n sz len:Nat} {els:List (List D)} (hs:0<sz) (hp:∀ e ∈ els,D.xU e=true) (hl:len=els.length) {ρ:Nat->Nat} {r:List (Nat × Ob)}:vw ⟨m,(key,⟨sz,els⟩) :: r⟩ ⟨n,[]⟩ ρ (.osl key sz len) (.sl sz els):=by subst hl;simp only [vw];exact⟨trivial,hs,by simp,⟨sz,els⟩,by simp [St.get,St.look],rfl,Nat.le_refl _,by simp,hp⟩
theorem aYr {key m n sz len:Nat} {els els':List (List D)} (hs:0<sz) (hp:∀ e ∈ els',D.xU e=true) (hl:len<=els.length) (he:els.take len=els') {ρ:Nat->Nat} {r:List (Nat × Ob)}:vw ⟨m,(key,⟨sz,els⟩) :: r⟩ ⟨n,[]⟩ ρ (.osl key sz len) (.sl sz els'):=by subst he;simp only [vw];exact⟨trivial,hs,by simp,⟨sz,els⟩,by simp [St.get,St.look],rfl,hl,rfl,hp⟩
theorem xY.ret {P:Program} {g:FuncId} {args:List D} {σ σ1 σ':St} {d1 d:D} (hc:xY P g args σ d1 σ1) (hr:iT σ.nx σ1 d1 σ' d):xY P g args σ d σ':=by
 refine⟨hc.ord,fun M0 w ι vals hS hl hv=>(hc.run M0 w ι vals hS hl hv).mono fun e w' hh=>?_⟩;obtain⟨v,ι1,he,kept,sim,nx,stay,nG,hR⟩:=hh
 rcases hr with ⟨rfl,rfl⟩ | ⟨ρ,r1,r2,r3,r4,r5⟩
 ·exact⟨v,ι1,he,kept,sim,nx,stay,nG,hR⟩
 ·have hlive:∀ p ∈ σ'.xZ,∃ ob,σ1.get (ρ p.1)= some ob:=fun p hp=>by obtain⟨_,ob,h,_⟩:=r4 p hp;exact⟨ob,h⟩
  refine⟨v,fun k=>ι1 (ρ k),he,kept,sim.view r4 r5,r1,fun k hk=>?_,fun k o hk=>?_,oI sim hlive _ _ hR r3⟩
  ·show ι1 (ρ k)= ι k;rw [r2 k hk]; exact stay k hk
  ·obtain⟨ob,h⟩:=hlive _ (wX hk);exact nG _ _ h
theorem qG {k s:Nat} {els:List (List D)} (h:els ≠ []):xA k s els = .osl k s els.length:=by cases els with
 | nil=>exact absurd rfl h
 | cons e r=>rfl
theorem aYc {k s:Nat} {els:List (List D)} (h:els ≠ []):yY k s els = [(k,⟨s,els⟩)]:=by cases els with
 | nil=>exact absurd rfl h
 | cons e r=>rfl
def rl (ll:List (List Int)):List (List D):=ll.map fun l=>[.sl 1 (rows .i64 l)]
theorem tH (l:List (List Int)):(rl l).length=l.length:=by simp [rl]
theorem gC (l:List (List Int)) {i:Nat} (h:i<l.length):(rl l).getD i [] = [.sl 1 (rows .i64 (l.getD i []))]:=by simp [rl,List.getD,h]
theorem aBv (l:List (List Int)) (r:List Int):rl l ++ [[.sl 1 (rows .i64 r)]]=rl (l ++ [r]):=by simp [rl]
theorem bWf : rl [] = []:=rfl
theorem aBw (l:List (List Int)):∀ e ∈ rl l,D.xU e=true:=by intro e he;simp only [rl,List.mem_map] at he;obtain⟨r,_,rfl⟩:=he;have h:∀ e ∈ rows .i64 r,D.xU e=true:=uG _ r;have:(rows .i64 r).all D.xU=true:=List.all_eq_true.2 h;simp [D.xU,D.xL,this]
theorem lM (l:List (List Int)):tR (rl l):=aBw l
section
variable [sC]
end
section
variable [sC]
mutual
/-- All objects that a datum names are below n. -/
def D.under (n:Nat):D->Prop
 | .ref k _ _ _=>k<n
 | .osl k _ _=>k<n
 | .sub k _ _ _=>k<n
 | .zJ k=>k<n
 | .agg cs=>D.wA n cs
 | .tup cs=>D.wA n cs
 | .fn _ cs=>D.wA n cs
 | _=>True
def D.wA (n:Nat):List D->Prop
 | []=>True
 | d :: r=>d.under n/\D.wA n r
end
theorem tN {n:Nat}:∀ {cs:List D},(∀ j,j<cs.length->(cs.getD j .top).under n)->D.wA n cs
 | [],_=>by simp only [D.wA]
 | d :: r,h=>by simp only [D.wA];exact⟨by simpa using h 0 (by simp),tN fun j hj=>by simpa using h (j+1) (by simpa using hj)⟩
theorem RP.under {M:Nat->Prop} {w:World} {n:Nat} {v:Value} {d:D} (h:RP M w v d):d.under n:=by
 induction h with
 | agg _ _ ih=>simp only [D.under]; exact tN ih
 | tup _ _ ih=>simp only [D.under]; exact tN ih
 | fn _ _ ih=>simp only [D.under]; exact tN ih
 | _=>simp only [D.under]
theorem R.under {M:Nat->Prop} {w:World} {ι:Nat->Nat} {n:Nat} {v:Value} {d:D} (h:R M w ι n v d):d.under n:=by
 induction h with
 | pure h=>exact h.under
 | ref hk _=>simp only [D.under]; exact hk
 | osl hk _ _ _ _=>simp only [D.under]; exact hk
 | sub hk _ _ _ _=>simp only [D.under]; exact hk
 | zJ hk=>simp only [D.under]; exact hk
 | agg _ _ ih=>simp only [D.under]; exact tN ih
 | tup _ _ ih=>simp only [D.under]; exact tN ih
 | fn _ _ ih=>simp only [D.under]; exact tN ih
def jK (σ:St):Prop:=∀ k o,σ.get k=some o->k<σ.nx/\∀ e ∈ o.els,D.wA σ.nx e
theorem vQ.under {M0:Nat->Prop} {w:World} {σ:St} {ι:Nat->Nat} (h:vQ M0 w σ ι):jK σ:=by
 intro k o hk;obtain⟨h1,h2⟩:=h.holds k o hk;refine⟨h1,fun e he=>?_⟩;obtain⟨i,hi,rfl⟩:=List.getElem_of_mem he;have e2:o.els.getD i []=o.els[i]:=by simp [List.getD,hi]
 rcases h2 with ⟨_,cur,_,_,c2,_,c4⟩ | ⟨_,es,_,_,c3⟩
 ·have hl:=c2 _ (List.getElem_mem hi);refine tN fun j hj=>?_;have:=(c4 i hi j (by omega)).2.under;rw [e2] at this;exact this
 ·obtain⟨kv,v,x,d,r1,_,r3,r4⟩:=c3 i hi;rw [e2] at r1;rw [r1];simp only [D.wA];exact⟨r3.under,r4.under,trivial⟩
theorem xY.wW {P:Program} {g:FuncId} {args:List D} {σ:St} {d:D} {σ':St} (ho:tU P g) (h:jK σ->xY P g args σ d σ'):xY P g args σ d σ':=⟨ho,fun M0 w ι vals hS hl hv=>(h hS.under).run M0 w ι vals hS hl hv⟩
mutual
theorem aBe {σ σ':St}:∀ {d:D},d.under σ'.nx->vw σ σ' (fun k=>k) d d
 | .top,_=>by simp only [vw]
 | .und,_=>by simp only [vw]
 | .int _ _,_=>by simp only [vw]
 | .bool _,_=>by simp only [vw]
 | .str _,_=>by simp only [vw]
 | .sl _ _,_=>by simp only [vw]; exact⟨trivial,trivial⟩
 | .xO,_=>by simp only [vw]
 | .emp,_=>by simp only [vw]
 | .agg cs,h=>by simp only [vw]; simp only [D.under] at h; exact⟨trivial,lR h⟩
 | .tup cs,h=>by simp only [vw]; simp only [D.under] at h; exact⟨trivial,lR h⟩
 | .fn _ cs,h=>by simp only [vw]; simp only [D.under] at h; exact⟨trivial,trivial,lR h⟩
 | .ref _ _ _ _,h=>by simp only [vw]; simp only [D.under] at h; exact⟨h,trivial⟩
 | .osl _ _ _,h=>by simp only [vw]; simp only [D.under] at h; exact⟨h,trivial⟩
 | .sub _ _ _ _,h=>by simp only [vw]; simp only [D.under] at h; exact⟨h,trivial⟩
 | .ptr _,_=>by simp [vw]
 | .zJ _,h=>by simp only [vw]; simp only [D.under] at h; exact⟨h,trivial⟩
 | .iY,_=>by simp only [vw]
 | .mY,_=>by simp only [vw]
 | .pQ,_=>by simp only [vw]
 | .adr _,_=>by simp only [vw]
theorem lR {σ σ':St}:∀ {cs:List D},D.wA σ'.nx cs->vwL σ σ' (fun k=>k) cs cs
 | [],_=>by simp only [vwL]
 | d :: r,h=>by simp only [vwL]; simp only [D.wA] at h; exact⟨aBe h.1,lR h.2⟩
end
theorem lQ {σ σ':St}:∀ {els:List (List D)},(∀ e ∈ els,D.wA σ'.nx e)->vwE σ σ' (fun k=>k) els els
 | [],_=>.nil
 | e :: r,h=>.cons rfl (lR (h e (by simp))) (lQ fun x hx=>h x (List.mem_cons_of_mem _ hx))
def cln : List (Nat × Ob)->List (Nat × Ob)
 | []=>[]
 | (k,o) :: r=>(k,o) :: (cln r).filter fun p=>p.1 != k
theorem mJ {k k':Nat} (h:¬ k'=k):∀ l:List (Nat × Ob),St.look (l.filter fun p=>p.1 != k) k'=St.look l k'
 | []=>rfl
 | (j,o) :: r=>by
  rw [List.filter_cons]
  by_cases e:j=k
  ·rw [if_neg (by simp [e]),mJ h r,xX,if_neg (by omega)]
  ·rw [if_pos (by simpa using e),xX,xX,mJ h r]
theorem lI (k:Nat):∀ l:List (Nat × Ob),St.look (cln l) k=St.look l k
 | []=>rfl
 | (j,o) :: r=>by
  unfold cln;rw [xX,xX]
  by_cases e:j=k
  ·rw [if_pos e,if_pos e]
  ·rw [if_neg e,if_neg e,mJ (fun h=>e h.symm),lI k r]
theorem rM : ∀ {l:List (Nat × Ob)} {p:Nat × Ob},p ∈ cln l->St.look l p.1=some p.2
 | [],p,h=>by cases h
 | (j,o) :: r,p,h=>by
  unfold cln at h;rw [xX]
  rcases List.mem_cons.1 h with e | e
  ·rw [e,if_pos rfl]
  ·rw [List.mem_filter] at e;have hne:¬ j=p.1:=fun h=>by have:=e.2; simp [h] at this
   rw [if_neg hne];exact rM e.1
theorem xY.clean {P:Program} {g:FuncId} {args:List D} {σ:St} {d:D} {nx:Nat} {xZ:List (Nat × Ob)} (h:xY P g args σ d ⟨nx,cln xZ⟩):xY P g args σ d ⟨nx,xZ⟩:=by
 refine⟨h.ord,fun M0 w ι vals hS hl hv=>(h.run M0 w ι vals hS hl hv).mono fun e w' hh=>?_⟩;obtain⟨v,ι',h1,h2,h3,h4,h5,h6,h7⟩:=hh;have hg:∀ k,St.get ⟨nx,xZ⟩ k=St.get ⟨nx,cln xZ⟩ k:=fun k=>(lI k xZ).symm
 have hM:Mof M0 ι' ⟨nx,xZ⟩= Mof M0 ι' ⟨nx,cln xZ⟩:=by funext b;unfold Mof;simp only [hg]
 refine⟨v,ι',h1,h2,⟨h3.old,fun k o hk=>?_,fun k k' o o' a b=>?_,fun k o hk=>?_,?_⟩,h4,h5,fun k o hk=>h6 k o (by rw [<- hg]; exact hk),by rw [hM]; exact h7⟩
 ·rw [hM]; exact h3.holds k o (by rw [<- hg]; exact hk)
 ·exact h3.inj k k' o o' (by rw [<- hg]; exact a) (by rw [<- hg]; exact b)
 ·exact h3.notM k o (by rw [<- hg]; exact hk)
 ·rw [hM]; exact h3.kB
theorem iT.gone {n0:Nat} {xZ:List (Nat × Ob)} {σ1:St} {d1 d:D} (hu:jK ⟨n0,xZ⟩) (hk:∀ k o,St.look xZ k=some o->σ1.get k=some o) (hd:vw σ1 ⟨n0,cln xZ⟩ (fun k=>k) d1 d):iT n0 σ1 d1 ⟨n0,cln xZ⟩ d:=
 .inr ⟨fun k=>k,Nat.le_refl _,fun _ _=>rfl,hd,fun p hp=>by have h:=rM hp;obtain⟨h1,h2⟩:=hu p.1 p.2 h;exact⟨h1,p.2,hk _ _ h,rfl,lQ h2⟩,fun p _ q _ e=>e⟩
end
theorem mixed : Tryz.prog.follows .mixedOrders=true:=by kernel_rfl
instance : sC := ⟨[]⟩
theorem aDx (v w:Nat) (hw:w<=60):aI5 .i64 (v:Int) (w:Int)= ((v / 2 ^ w:Nat):Int):=by
 unfold aI5
 have e:min (w:Int).toNat IntKind.i64.bits=w:=by have:IntKind.i64.bits=64:=rfl;rw [this,Int.toNat_natCast]; omega
 rw [e,Int.fdiv_eq_ediv_of_nonneg _ (by have:(0:Int)<2 ^ w:=Int.pow_pos (by decide); omega)];simp
theorem bXz {a:Nat} (h:a<2 ^ 62):pT .and .i64 (a:Int) 1=((a % 2:Nat):Int):=by show IntKind.i64.wrap ((BitVec.ofInt 64 (a:Int)&&& BitVec.ofInt 64 1).toNat:Int)= _;rw [BitVec.ofInt_natCast,BitVec.toNat_and,BitVec.toNat_ofNat,Nat.mod_eq_of_lt (by omega)];have:(BitVec.ofInt 64 1).toNat=1:=rfl;rw [this,Nat.and_one_is_mod];exact wrap_i64 (by omega)
namespace Rs
theorem aRo : ∀ (n:Nat) (l:List Nat),l.Nodup->(∀ x ∈ l,x<n)->l.length<=n
 | 0,[],_,_=>Nat.le_refl _
 | 0,x :: l,_,h=>by have:=h x (by simp); omega
 | n + 1,l,hn,h=>by
  have h1:=aRo n (l.filter fun x=>x != n) (hn.filter _) fun x hx=>by
   rw [List.mem_filter] at hx;have:=h x hx.1;have:x≠n:=by simpa using hx.2
   omega
  have h2:l.length<=(l.filter fun x=>x != n).length+1:=by
   clear h1
   induction l with
   | nil=>simp
   | cons y l ih=>
    rw [List.nodup_cons] at hn
    by_cases e:y=n
    ·subst e
     have:l.filter (fun x=>x != y)= l:=List.filter_eq_self.2 fun x hx=>by have:x≠y:=fun e=>hn.1 (e ▸ hx);simpa using this
     rw [List.filter_cons,if_neg (by simp),this]; simp
    ·rw [List.filter_cons,if_pos (by simpa using e)];have:=ih hn.2 fun x hx=>h x (by simp [hx]);simp; omega
  omega
def mo (u:List (Int × Int)):List (Int × D):=u.map fun p=>(p.1,.int .i64 p.2)
def vS (x:Int):List (Int × Int)->Option Int
 | []=>none
 | (k,y) :: r=>if x=k then some y else vS x r
theorem lF (x:Int):∀ (u:List (Int × Int)) (i:Nat),(vS x u=none/\wL x (mo u) i=none)\/∃ y j,vS x u=some y/\wL x (mo u) i=some (j,.int .i64 y)
 | [],i=>.inl ⟨rfl,rfl⟩
 | (k,y) :: r,i=>by
  show (vS x ((k,y) :: r)= none/\wL x ((k,.int .i64 y) :: mo r) i=none)\/∃ y' j,vS x ((k,y) :: r)= some y'/\wL x ((k,.int .i64 y) :: mo r) i=some (j,.int .i64 y');unfold vS wL
  by_cases h:x=k
  ·rw [if_pos h,if_pos h]; exact .inr ⟨y,i,rfl,rfl⟩
  ·rw [if_neg h,if_neg h]; exact lF x r (i+1)
theorem jE {nx n key sz:Nat} {xZ:List (Nat × Ob)} {els:List (List D)} (hs:0<sz) (hp:∀ e ∈ els,D.xU e=true) (h:St.look xZ key=uP sz els) {ρ:Nat->Nat}:vw ⟨nx,xZ⟩ ⟨n,[]⟩ ρ (xA key sz els) (.sl sz els):=by
 cases els with
 | nil=>simp [xA,vw]
 | cons e t=> simp only [xA,vw];exact⟨trivial,hs,by simp,⟨sz,e :: t⟩,h,rfl,Nat.le_refl _,by simp,hp⟩
end Rs
end Go.Pd

/- Part F4. -/
namespace Go.Pd
open Go Go.Proofs
open BitVec renaming isValue -> ZA
open Rs
namespace Fm
structure Use where
 x:Bool
 y:Bool
 fa:Bool
 ag:Bool
 gr:Bool
 ev:Bool
 fr:Int
def Use.row (u:Use):List D:=[.bool u.x,.bool u.y,.bool u.fa,.bool u.ag,.bool u.gr,.bool u.ev,.int .i64 u.fr]
def iF : Use:=⟨false,false,false,false,false,false,0⟩
def xW (op:Int):Use × Bool:=
 if op<1\/21<op then(iF,false) else if op<=2 then(iF,true) else if op=3 then(⟨false,false,true,false,false,false,0⟩,true) else if op=4 then(⟨true,false,false,false,false,false,0⟩,true)
 else if op<=8 then(⟨true,true,false,false,false,false,0⟩,true) else if op<=10 then(⟨true,false,false,true,false,false,1⟩,true) else if op=11 then(⟨true,false,false,false,true,false,2⟩,true)
 else if op=12 then(⟨true,false,false,false,true,false,4⟩,true) else if op=13 then(⟨true,true,false,false,true,false,8⟩,true) else if op=14 then(⟨true,true,false,true,false,false,16⟩,true)
 else if op=15 then(⟨true,false,false,true,false,false,32⟩,true) else if op=16 then(⟨true,true,false,false,false,false,64⟩,true) else if op=17 then(⟨true,false,false,false,false,true,128⟩,true)
 else if op=18\/op=20 then(⟨true,false,false,false,false,false,256⟩,true) else(⟨true,true,false,false,false,false,256⟩,true)
end Fm
open Fm
theorem cB (op:Int):yB Tryz.prog 141 [.int .i64 op] (.tup [.agg (xW op).1.row,.bool (xW op).2]):=by
 have hc:op=1\/op=2\/op=3\/op=4\/op=5\/op=6\/op=7\/op=8\/op=9\/op=10\/op=11\/op=12\/op=13\/op=14\/op=15\/op=16\/op=17\/op=18\/op=19\/op=20\/op=21\/(op<1\/21<op):=by omega
 rcases hc with rfl | rfl | rfl | rfl | rfl | rfl | rfl | rfl | rfl | rfl | rfl | rfl | rfl | rfl | rfl | rfl | rfl | rfl | rfl | rfl | rfl | hc
 rotate_right
 ·have e:∀ i:Int,1<=i->i<=21->(op==i)= false:=fun i h1 h2=>by simp; omega
  refine xY.xR mixed Tryz.func141 bTf (by simp) fun hf=>?_;simp only [simprocAttr,-ZA,↓zU,↓zD,zV,zT,zW,e 1 (by omega) (by omega),e 2 (by omega) (by omega),e 3 (by omega) (by omega),e 4 (by omega) (by omega),e 5 (by omega) (by omega),e 6 (by omega) (by omega),e 7 (by omega) (by omega),e 8 (by omega) (by omega),e 9 (by omega) (by omega),e 10 (by omega) (by omega),e 11 (by omega) (by omega),e 12 (by omega) (by omega),e 13 (by omega) (by omega),e 14 (by omega) (by omega),e 15 (by omega) (by omega),e 16 (by omega) (by omega),e 17 (by omega) (by omega),e 18 (by omega) (by omega),e 19 (by omega) (by omega),e 20 (by omega) (by omega),e 21 (by omega) (by omega)];rw [show xW op=(iF,false) from if_pos hc];exact .drop (by simp) (by simp [vw,vwL,Use.row,iF])
 all_goals
  refine xY.xR mixed Tryz.func141 bTf (by simp) fun hf=>?_;simp only [simprocAttr,-ZA,↓zU,↓zD,zV,zT,zW];exact .drop (by simp) (by simp [vw,vwL,xW,Use.row,iF])
open Rs Fm
namespace Fm
structure Nd where
 op:Int
 i:Int
 e:Int
 g:Int
 x:Int
 y:Int
 deriving DecidableEq
def Nd.row (p:Nd):List D:=[.int .i64 p.op,.int .i64 p.i,.int .i64 p.e,.int .i64 p.g,.int .i64 p.x,.int .i64 p.y]
def yL (u:Bool) (f at_:Int):Bool:=if u=true then decide (0<=f)&& decide (f<at_) else decide (f=0)
def xC (u:Bool) (v lo hi:Int):Bool:=u&&(decide (v<lo) || decide (hi<v))
def yE (p:Nd) (k:Int):Int:=
 if (xW p.op).2=false then 10 else
 if (yL (xW p.op).1.x p.x k&&yL (xW p.op).1.y p.y k)= false then 3 else
 if ((!((xW p.op).1.fa || (xW p.op).1.ag || (xW p.op).1.ev)&& decide (p.i≠0)) || (!(xW p.op).1.ev&&decide (p.e≠0)) || (!(xW p.op).1.gr&&decide (p.g≠0)))= true then 3 else
 if (xC (xW p.op).1.fa p.i 0 7 || xC (xW p.op).1.ag p.i 0 3 || xC (xW p.op).1.ev p.i 0 7 || xC (xW p.op).1.ev p.e 0 7 || xC (xW p.op).1.gr p.g 1 15)= true then 2 else 0
theorem aPe (op:Int):((xW op).1.fa=false/\(xW op).1.ag=false/\(xW op).1.gr=false/\(xW op).1.ev=false)\/((xW op).1.fa=true/\(xW op).1.ag=false/\(xW op).1.gr=false/\(xW op).1.ev=false) \/
  ((xW op).1.fa=false/\(xW op).1.ag=true/\(xW op).1.gr=false/\(xW op).1.ev=false)\/((xW op).1.fa=false/\(xW op).1.ag=false/\(xW op).1.gr=true/\(xW op).1.ev=false)\/((xW op).1.fa=false/\(xW op).1.ag=false/\(xW op).1.gr=false/\(xW op).1.ev=true):=by
 have hc:op=1\/op=2\/op=3\/op=4\/op=5\/op=6\/op=7\/op=8\/op=9\/op=10\/op=11\/op=12\/op=13\/op=14\/op=15\/op=16\/op=17\/op=18\/op=19\/op=20\/op=21\/(op<1\/21<op):=by omega
 rcases hc with rfl | rfl | rfl | rfl | rfl | rfl | rfl | rfl | rfl | rfl | rfl | rfl | rfl | rfl | rfl | rfl | rfl | rfl | rfl | rfl | rfl | hc
 rotate_right
 ·rw [show xW op=(iF,false) from if_pos hc]; exact .inl ⟨rfl,rfl,rfl,rfl⟩
 all_goals simp [xW,iF]
end Fm
theorem aWa (u:Bool) (f k:Int):yB Tryz.prog 200 [.bool u,.int .i64 f,.int .i64 k] (.bool (yL u f k)):=by
 refine xY.xR mixed Tryz.func200 bSj (by simp) fun hf=>?_
 cases u
 ·simp only [simprocAttr,-ZA,↓zU,↓zD,zV,zT,zW]
  by_cases h:f=0
  ·have e:(f==0)= true:=by simpa using h
   exact .drop (by simp) (by simp [vw,yL,e,h])
  ·have e:(f==0)= false:=by simpa using h
   exact .drop (by simp) (by simp [vw,yL,e,h])
 ·by_cases h1:0<=f
  ·by_cases h2:f<k
   ·simp only [simprocAttr,-ZA,↓zU,↓zD,zV,zT,zW,h1,h2];exact .drop (by simp) (by simp [vw,yL,h1,h2])
   ·simp only [simprocAttr,-ZA,↓zU,↓zD,zV,zT,zW,h1,h2];exact .drop (by simp) (by simp [vw,yL,h1,h2])
  ·simp only [simprocAttr,-ZA,↓zU,↓zD,zV,zT,zW,h1];exact .drop (by simp) (by simp [vw,yL,h1])
theorem yZ (u:Bool) (v lo hi:Int):yB Tryz.prog 201 [.bool u,.int .i64 v,.int .i64 lo,.int .i64 hi] (.bool (xC u v lo hi)):=by
 refine xY.xR mixed Tryz.func201 bSi (by simp) fun hf=>?_
 cases u
 ·simp only [simprocAttr,-ZA,↓zU,↓zD,zV,zT,zW];exact .drop (by simp) (by simp [vw,xC])
 ·by_cases h1:v<lo
  ·simp only [simprocAttr,-ZA,↓zU,↓zD,zV,zT,zW,h1];exact .drop (by simp) (by simp [vw,xC,h1])
  ·by_cases h2:hi<v
   ·simp only [simprocAttr,-ZA,↓zU,↓zD,zV,zT,zW,h1,h2];exact .drop (by simp) (by simp [vw,xC,h1,h2])
   ·simp only [simprocAttr,-ZA,↓zU,↓zD,zV,zT,zW,h1,h2];exact .drop (by simp) (by simp [vw,xC,h1,h2])
theorem dK (p:Nd) (k:Int):yB Tryz.prog 142 [.agg p.row,.int .i64 k] (.int .i64 (yE p k)):=by
 have hk:=aPe p.op;have hu:=cB p.op
 have en:yE p k=if (xW p.op).2=false then 10 else
  if (yL (xW p.op).1.x p.x k&&yL (xW p.op).1.y p.y k)= false then 3 else
  if ((!((xW p.op).1.fa || (xW p.op).1.ag || (xW p.op).1.ev)&& decide (p.i≠0)) || (!(xW p.op).1.ev&&decide (p.e≠0)) || (!(xW p.op).1.gr&&decide (p.g≠0)))= true then 3 else
  if (xC (xW p.op).1.fa p.i 0 7 || xC (xW p.op).1.ag p.i 0 3 || xC (xW p.op).1.ev p.i 0 7 || xC (xW p.op).1.ev p.e 0 7 || xC (xW p.op).1.gr p.g 1 15)= true then 2 else 0:=rfl
 rw [en];generalize xW p.op=q at hk hu;obtain⟨⟨ux,uy,fa,ag,gr,ev,fr⟩,ok⟩:=q;simp only [Use.row] at hk hu ⊢;refine xY.xR mixed Tryz.func142 bRj (by simp) fun hf=>?_;simp only [simprocAttr,-ZA,↓zU,↓zD,zV,zT,zW,Nd.row]
 (repeat refine sd ?_)
 refine .go (cq hu) ?_
 cases ok
 ·simp only [simprocAttr,-ZA,↓zU,↓zD,zV,zT,zW];exact .dv
 simp only [simprocAttr,-ZA,↓zU,↓zD,zV,zT,zW];refine .go (cq (aWa ux p.x k)) ?_
 cases hx:yL ux p.x k
 ·simp only [simprocAttr,-ZA,↓zU,↓zD,zV,zT,zW];exact .dv
 simp only [simprocAttr,-ZA,↓zU,↓zD,zV,zT,zW];refine .go (cq (aWa uy p.y k)) ?_
 cases hy:yL uy p.y k
 ·simp only [simprocAttr,-ZA,↓zU,↓zD,zV,zT,zW];exact .dv
 have ob:∀ v lo hi,xC false v lo hi=false:=fun _ _ _=>rfl
 rcases hk with ⟨rfl,rfl,rfl,rfl⟩ | ⟨rfl,rfl,rfl,rfl⟩ | ⟨rfl,rfl,rfl,rfl⟩ | ⟨rfl,rfl,rfl,rfl⟩ | ⟨rfl,rfl,rfl,rfl⟩
 ·skip;by_cases hi:p.i=0
  case neg=> have ei:(p.i != 0)= true:=bne_iff_ne.2 hi;simp only [simprocAttr,-ZA,↓zU,↓zD,zV,zT,zW,ei];exact .drop (by simp) (by simp [vw,hi])
  have ei:(p.i != 0)= false:=by simpa using hi
  by_cases he:p.e=0
  case neg=> have ee:(p.e != 0)= true:=bne_iff_ne.2 he;simp only [simprocAttr,-ZA,↓zU,↓zD,zV,zT,zW,ei,ee];exact .drop (by simp) (by simp [vw,he,hi])
  have ee:(p.e != 0)= false:=by simpa using he
  by_cases hg:p.g=0
  case neg=> have eg:(p.g != 0)= true:=bne_iff_ne.2 hg;simp only [simprocAttr,-ZA,↓zU,↓zD,zV,zT,zW,ei,ee,eg];exact .drop (by simp) (by simp [vw,hg,hi,he])
  have eg:(p.g != 0)= false:=by simpa using hg
  simp only [simprocAttr,-ZA,↓zU,↓zD,zV,zT,zW,ei,ee,eg];refine .go (cq (yZ false p.i 0 7)) ?_;simp only [simprocAttr,-ZA,↓zU,↓zD,zV,zT,zW,ob];refine .go (cq (yZ false p.i 0 3)) ?_;simp only [simprocAttr,-ZA,↓zU,↓zD,zV,zT,zW,ob];refine .go (cq (yZ false p.i 0 7)) ?_;simp only [simprocAttr,-ZA,↓zU,↓zD,zV,zT,zW,ob];refine .go (cq (yZ false p.e 0 7)) ?_;simp only [simprocAttr,-ZA,↓zU,↓zD,zV,zT,zW,ob];refine .go (cq (yZ false p.g 1 15)) ?_;simp only [simprocAttr,-ZA,↓zU,↓zD,zV,zT,zW,ob];exact .drop (by simp) (by simp [vw,ob,hi,he,hg])
 ·skip;by_cases he:p.e=0
  case neg=> have ee:(p.e != 0)= true:=bne_iff_ne.2 he;simp only [simprocAttr,-ZA,↓zU,↓zD,zV,zT,zW,ee];exact .drop (by simp) (by simp [vw,he])
  have ee:(p.e != 0)= false:=by simpa using he
  by_cases hg:p.g=0
  case neg=> have eg:(p.g != 0)= true:=bne_iff_ne.2 hg;simp only [simprocAttr,-ZA,↓zU,↓zD,zV,zT,zW,ee,eg];exact .drop (by simp) (by simp [vw,hg,he])
  have eg:(p.g != 0)= false:=by simpa using hg
  simp only [simprocAttr,-ZA,↓zU,↓zD,zV,zT,zW,ee,eg];refine .go (cq (yZ true p.i 0 7)) ?_;cases oi:xC true p.i 0 7
  case true=> simp only [simprocAttr,-ZA,↓zU,↓zD,zV,zT,zW];exact .drop (by simp) (by simp [vw,ob,he,hg,oi])
  simp only [simprocAttr,-ZA,↓zU,↓zD,zV,zT,zW];refine .go (cq (yZ false p.i 0 3)) ?_;simp only [simprocAttr,-ZA,↓zU,↓zD,zV,zT,zW,ob];refine .go (cq (yZ false p.i 0 7)) ?_;simp only [simprocAttr,-ZA,↓zU,↓zD,zV,zT,zW,ob];refine .go (cq (yZ false p.e 0 7)) ?_;simp only [simprocAttr,-ZA,↓zU,↓zD,zV,zT,zW,ob];refine .go (cq (yZ false p.g 1 15)) ?_;simp only [simprocAttr,-ZA,↓zU,↓zD,zV,zT,zW,ob];exact .drop (by simp) (by simp [vw,ob,he,hg,oi])
 ·skip;by_cases he:p.e=0
  case neg=> have ee:(p.e != 0)= true:=bne_iff_ne.2 he;simp only [simprocAttr,-ZA,↓zU,↓zD,zV,zT,zW,ee];exact .drop (by simp) (by simp [vw,he])
  have ee:(p.e != 0)= false:=by simpa using he
  by_cases hg:p.g=0
  case neg=> have eg:(p.g != 0)= true:=bne_iff_ne.2 hg;simp only [simprocAttr,-ZA,↓zU,↓zD,zV,zT,zW,ee,eg];exact .drop (by simp) (by simp [vw,hg,he])
  have eg:(p.g != 0)= false:=by simpa using hg
  simp only [simprocAttr,-ZA,↓zU,↓zD,zV,zT,zW,ee,eg];refine .go (cq (yZ false p.i 0 7)) ?_;simp only [simprocAttr,-ZA,↓zU,↓zD,zV,zT,zW,ob];refine .go (cq (yZ true p.i 0 3)) ?_;cases oi:xC true p.i 0 3
  case true=> simp only [simprocAttr,-ZA,↓zU,↓zD,zV,zT,zW];exact .drop (by simp) (by simp [vw,ob,he,hg,oi])
  simp only [simprocAttr,-ZA,↓zU,↓zD,zV,zT,zW];refine .go (cq (yZ false p.i 0 7)) ?_;simp only [simprocAttr,-ZA,↓zU,↓zD,zV,zT,zW,ob];refine .go (cq (yZ false p.e 0 7)) ?_;simp only [simprocAttr,-ZA,↓zU,↓zD,zV,zT,zW,ob];refine .go (cq (yZ false p.g 1 15)) ?_;simp only [simprocAttr,-ZA,↓zU,↓zD,zV,zT,zW,ob];exact .drop (by simp) (by simp [vw,ob,he,hg,oi])
 ·skip;by_cases hi:p.i=0
  case neg=> have ei:(p.i != 0)= true:=bne_iff_ne.2 hi;simp only [simprocAttr,-ZA,↓zU,↓zD,zV,zT,zW,ei];exact .drop (by simp) (by simp [vw,hi])
  have ei:(p.i != 0)= false:=by simpa using hi
  by_cases he:p.e=0
  case neg=> have ee:(p.e != 0)= true:=bne_iff_ne.2 he;simp only [simprocAttr,-ZA,↓zU,↓zD,zV,zT,zW,ei,ee];exact .drop (by simp) (by simp [vw,he,hi])
  have ee:(p.e != 0)= false:=by simpa using he
  simp only [simprocAttr,-ZA,↓zU,↓zD,zV,zT,zW,ei,ee];refine .go (cq (yZ false p.i 0 7)) ?_;simp only [simprocAttr,-ZA,↓zU,↓zD,zV,zT,zW,ob];refine .go (cq (yZ false p.i 0 3)) ?_;simp only [simprocAttr,-ZA,↓zU,↓zD,zV,zT,zW,ob];refine .go (cq (yZ false p.i 0 7)) ?_;simp only [simprocAttr,-ZA,↓zU,↓zD,zV,zT,zW,ob];refine .go (cq (yZ false p.e 0 7)) ?_;simp only [simprocAttr,-ZA,↓zU,↓zD,zV,zT,zW,ob];refine .go (cq (yZ true p.g 1 15)) ?_;cases og:xC true p.g 1 15
  case true=> simp only [simprocAttr,-ZA,↓zU,↓zD,zV,zT,zW];exact .drop (by simp) (by simp [vw,ob,hi,he,og])
  simp only [simprocAttr,-ZA,↓zU,↓zD,zV,zT,zW];exact .drop (by simp) (by simp [vw,ob,hi,he,og])
 ·skip;by_cases hg:p.g=0
  case neg=> have eg:(p.g != 0)= true:=bne_iff_ne.2 hg;simp only [simprocAttr,-ZA,↓zU,↓zD,zV,zT,zW,eg];exact .drop (by simp) (by simp [vw,hg])
  have eg:(p.g != 0)= false:=by simpa using hg
  simp only [simprocAttr,-ZA,↓zU,↓zD,zV,zT,zW,eg];refine .go (cq (yZ false p.i 0 7)) ?_;simp only [simprocAttr,-ZA,↓zU,↓zD,zV,zT,zW,ob];refine .go (cq (yZ false p.i 0 3)) ?_;simp only [simprocAttr,-ZA,↓zU,↓zD,zV,zT,zW,ob];refine .go (cq (yZ true p.i 0 7)) ?_;cases oi:xC true p.i 0 7
  case true=> simp only [simprocAttr,-ZA,↓zU,↓zD,zV,zT,zW];exact .drop (by simp) (by simp [vw,ob,hg,oi])
  simp only [simprocAttr,-ZA,↓zU,↓zD,zV,zT,zW];refine .go (cq (yZ true p.e 0 7)) ?_;cases oe:xC true p.e 0 7
  case true=> simp only [simprocAttr,-ZA,↓zU,↓zD,zV,zT,zW];exact .drop (by simp) (by simp [vw,ob,hg,oi,oe])
  simp only [simprocAttr,-ZA,↓zU,↓zD,zV,zT,zW];refine .go (cq (yZ false p.g 1 15)) ?_;simp only [simprocAttr,-ZA,↓zU,↓zD,zV,zT,zW,ob];exact .drop (by simp) (by simp [vw,ob,hg,oi,oe])
open Rs Fm
namespace Fm
def nd0 : Nd:=⟨0,0,0,0,0,0⟩
def ndR (l:List Nd):List (List D):=l.map Nd.row
theorem xI (l:List Nd):(ndR l).length=l.length:=by simp [ndR]
theorem pC (l:List Nd) {i:Nat} (h:i<l.length):(ndR l).getD i []=(l.getD i nd0).row:=by simp [ndR,List.getD,h]
theorem aX4 (l:List Nd):∀ e ∈ ndR l,D.xU e=true:=by intro e he;simp only [ndR,List.mem_map] at he;obtain⟨p,_,rfl⟩:=he;simp [Nd.row,D.xU,D.xL]
def aNl : List Nd->Int->Int
 | [],_=>0
 | p :: r,i=>if yE p i≠0 then yE p i else aNl r (i+1)
def xB (f:List Nd):Int:=if f = [] then 3 else if 200<f.length then 8 else aNl f 0
theorem aJ0 {f:List Nd}:∀ {i:Int},aNl f i=0->∀ k,k<f.length->yE (f.getD k nd0) (i+k)= 0:=by
 induction f with
 | nil=>intro i _ k hk; simp at hk
 | cons p r ih=>
  intro i h k hk;unfold aNl at h
  by_cases hp:yE p i≠0
  ·rw [if_pos hp] at h; exact absurd h hp
  ·rw [if_neg hp] at h
   cases k with
   | zero=>simpa using hp
   | succ k=> have:=ih h k (by simpa using hk);rw [List.getD_cons_succ,show i+((k+1:Nat):Int)= i+1+k by omega];exact this
end Fm
theorem oB (f:List Nd):yB Tryz.prog 100 [.sl 6 (ndR f)] (.int .i64 (xB f)):=by
 refine xY.xR mixed Tryz.func100 bR8 (by simp) fun hf=>?_;simp only [D.rG,D.fact,xI] at hf;have hlen:=hf.1.1
 by_cases h1:f.length=0
 ·have e1:((f.length:Int)== 0)= true:=by simpa using h1
  simp only [simprocAttr,-ZA,↓zU,↓zD,zV,zT,zW,xI,e1];rw [show xB f=3 from if_pos (List.length_eq_zero_iff.1 h1)];exact .same
 have e1:((f.length:Int)== 0)= false:=by simpa using h1
 have hne:f ≠ []:=fun e=>h1 (by rw [e]; rfl)
 by_cases h2:200<f.length
 ·have h2':(200:Int)<(f.length:Int):=by omega
  simp only [simprocAttr,-ZA,↓zU,↓zD,zV,zT,zW,xI,e1,h2'];rw [show xB f=8 by rw [xB,if_neg hne,if_pos h2]];exact .same
 have h2':¬ (200:Int)<(f.length:Int):=by omega
 rw [show xB f=aNl f 0 by rw [xB,if_neg hne,if_neg h2]];simp only [simprocAttr,-ZA,↓zU,↓zD,zV,zT,zW,xI,e1,h2']
 refine xQ (fun k:Nat=>[(14,.int .i64 k),(13,.int .i64 f.length),(12,.sl 6 (ndR f))]) (fun _=>⟨0,[]⟩) (fun k=>k<=f.length/\aNl f 0=aNl (f.drop k) k) (fun k=>f.length-k) 0 ⟨Nat.zero_le _,rfl⟩ ?_ ?_
 ·(refine xM.same ?_; simp [xP,Fr.get])
 intro k ⟨hk,hi⟩;refine xN mixed ?_;by_cases h:k<f.length
 case neg=>
  have hd:¬ ((k:Int)<(f.length:Int)):=by omega
  rw [List.drop_eq_nil_of_le (by omega),aNl] at hi;simp only [simprocAttr,-ZA,↓zU,↓zD,zV,zT,zW,hd];rw [hi];exact .same
 have hd:((k:Int)<(f.length:Int)):=by omega
 rw [drop_cons (d:=nd0) h,aNl] at hi;have hg:=pC f h;generalize f.getD k nd0=p at hg hi;simp only [simprocAttr,-ZA,↓zU,↓zD,zV,zT,zW,hd,xI,hg,Nd.row]
 (repeat refine sd ?_)
 refine .go (xY.yM (dK p k) (by simp [D.xU,D.xL,Nd.row])) ?_
 by_cases he:yE p k=0
 ·have e:(yE p k != 0)= false:=by simpa using he
  rw [if_neg (by simpa using he)] at hi;simp only [simprocAttr,-ZA,↓zU,↓zD,zV,zT,zW,e];refine⟨k+1,⟨by omega,hi⟩,?_,by omega⟩
  (refine xM.view (fun k=>k) (by simp) (by simp) ?_ (by simp [stays]) (by simp [uU]); simp [vwF,vw,vwL,Fr.get])
  exact wrap_i64 (by omega)
 ·have e:(yE p k != 0)= true:=bne_iff_ne.2 he;rw [if_pos he] at hi;simp only [simprocAttr,-ZA,↓zU,↓zD,zV,zT,zW,e];rw [hi];exact .dv
open Rs Fm
namespace Fm
end Fm
theorem bXc (p:Nd) (u:Use):yB Tryz.prog 112 [.agg p.row,.agg u.row] (.int .i64 u.fr):=by
 refine xY.xR mixed Tryz.func112 bR0 (by simp) fun hf=>?_;simp only [simprocAttr,-ZA,↓zU,↓zD,zV,zT,zW,Nd.row,Use.row]
 (repeat refine sd ?_)
 exact .dv
theorem bXd (p:Nd) (u:Use) (h:u.fa=true->0<=p.i/\p.i<=7):yB Tryz.prog 204 [.agg p.row,.agg u.row] (.int .i64 (if u.fa=true then((2 ^ p.i.toNat:Nat):Int) else 0)):=by
 refine xY.xR mixed Tryz.func204 bSg (by simp) fun hf=>?_
 cases hu:u.fa
 ·simp only [simprocAttr,-ZA,↓zU,↓zD,zV,zT,zW,Nd.row,Use.row,hu]
  (repeat refine sd ?_)
  exact .dv
 ·obtain⟨i,hi⟩:=Int.eq_ofNat_of_zero_le (h hu).1;have hi7:=(h hu).2;simp only [simprocAttr,-ZA,↓zU,↓zD,zV,zT,zW,Nd.row,Use.row,hu,hi,bTb (show i<=61 by omega)]
  (repeat refine sd ?_)
  exact .dv
theorem aDe (p:Nd) (u:Use) (h:u.ag=true->0<=p.i/\p.i<=7):yB Tryz.prog 203 [.agg p.row,.agg u.row] (.int .i64 (if u.ag=true then((2 ^ p.i.toNat:Nat):Int) else p.g)):=by
 refine xY.xR mixed Tryz.func203 bSh (by simp) fun hf=>?_
 cases hu:u.ag
 ·simp only [simprocAttr,-ZA,↓zU,↓zD,zV,zT,zW,Nd.row,Use.row,hu]
  (repeat refine sd ?_)
  exact .dv
 ·obtain⟨i,hi⟩:=Int.eq_ofNat_of_zero_le (h hu).1;have hi7:=(h hu).2;simp only [simprocAttr,-ZA,↓zU,↓zD,zV,zT,zW,Nd.row,Use.row,hu,hi,bTb (show i<=61 by omega)]
  (repeat refine sd ?_)
  exact .dv
end Go.Pd
