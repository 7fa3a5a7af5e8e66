/- Part X9. -/
import Derived.Test.YtndfaefmmcoapaaGreatUbX8
import Derived.Test.YtndfaefmmcoapaaGreatUbCode
set_option linter.unusedSectionVars false
set_option linter.unusedVariables false
set_option linter.unusedSimpArgs false
set_option linter.defProp false
set_option maxRecDepth 20000
set_option maxHeartbeats 1000000
open Go.Proofs.Tryz
open Option renaming map_some->γ,map_none->δ
open Nat renaming le_refl->ε,zero_add->ζ
namespace Go.Pd
open Go Go.Proofs
theorem Ma {n:Nat} (hn:n<=61):Vo .i64 1 (n:Int)= ((2 ^ n:Nat):Int):=nc (by omega)
theorem VU {n:Nat} (hn:n<=1000000):IntKind.u64.wrap (n:Int)= (n:Int):=wrap_u64 (by omega)
theorem V5 {k:Nat} (h:k<18446744073709551616):ui (BitVec.ofNat 64 k)= (k:Int):=by unfold ui; rw [BitVec.toNat_ofNat,Nat.mod_eq_of_lt h]
theorem zK {α:Type} {l:List α} {k:Nat} {d:α} (h:k<l.length):l.take (k+1)= l.take k ++ [l.getD k d]:=by rw [List.take_add_one]; simp [List.getD,h]
theorem drop_cons {α:Type} {l:List α} {k:Nat} {d:α} (h:k<l.length):l.drop k=l.getD k d :: l.drop (k+1):=by simp [List.getD,h]
theorem xR {α:Type} {l:List α} {k:Nat} {d:α} (h:k<l.length):l.getD k d ∈ l:=by simp [List.getD,h]
theorem tO {α:Type} {l:List α} {k:Nat} (h:k=l.length):l.take k=l:=by rw [h,List.take_length]
theorem OD (x y:Int):(if x<y then y else x)= max x y:=by rw [Int.max_def]; split <;> split <;> omega
theorem fp (k:IntKind) (l:List Int) (i:Nat) (n:Int):(rows k l).set i [.int k n]=rows k (l.set i n):=by simp [rows,List.map_set]
variable [rL]
theorem xY.N2 {P:Program} {g:FuncId} {args:List D} {σ:St} {sz len:Nat} {els:List (List D)} (hc:xY P g args St0 (.osl 0 sz len) ⟨1,[(0,⟨sz,els⟩)]⟩) (hp:D.xU args=true) (he:∀ e ∈ els,D.xU e=true) :
  xY P g args σ (.osl σ.nx sz len) ⟨σ.nx+1,(σ.nx,⟨sz,els⟩) :: σ.xZ⟩:=by
 have h:=xY.own (σ:=σ) hc hp;simpa [yL,Ob.shift,lR _ he,D.shift] using h
theorem dh {key m n sz len:Nat} {els:List (List D)} (hs:0<sz) (hp:∀ e ∈ els,D.xU e=true) (hl:len=els.length) {ρ:Nat->Nat} {r:List (Nat × Ob)}:vw ⟨m,(key,⟨sz,els⟩) :: r⟩ ⟨n,[]⟩ ρ (.osl key sz len) (.sl sz els):=by subst hl;simp only [vw];exact⟨trivial,hs,by simp,⟨sz,els⟩,by simp [St.get,St.look],rfl,ε _,by simp,hp⟩
theorem vi {key m n sz len:Nat} {els els':List (List D)} (hs:0<sz) (hp:∀ e ∈ els',D.xU e=true) (hl:len<=els.length) (he:els.take len=els') {ρ:Nat->Nat} {r:List (Nat × Ob)}:vw ⟨m,(key,⟨sz,els⟩) :: r⟩ ⟨n,[]⟩ ρ (.osl key sz len) (.sl sz els'):=by subst he;simp only [vw];exact⟨trivial,hs,by simp,⟨sz,els⟩,by simp [St.get,St.look],rfl,hl,rfl,hp⟩
theorem xY.ret {P:Program} {g:FuncId} {args:List D} {σ σ1 σ':St} {d1 d:D} (hc:xY P g args σ d1 σ1) (hr:jM σ.nx σ1 d1 σ' d):xY P g args σ d σ':=by
 refine⟨hc.ord,λM0 w ι vals hS hl hv=>(hc.run M0 w ι vals hS hl hv).mono λe w' hh=>?_⟩;obtain⟨v,ι1,he,kept,sim,nx,stay,mS,hR⟩:=hh
 rcases hr with ⟨rfl,rfl⟩ | ⟨ρ,r1,r2,r3,r4,r5⟩
 ·exact⟨v,ι1,he,kept,sim,nx,stay,mS,hR⟩
 ·have hlive:∀ p ∈ σ'.xZ,∃ ob,σ1.get (ρ p.1)= some ob:=λp hp=>by obtain⟨_,ob,h,_⟩:=r4 p hp;exact⟨ob,h⟩
  refine⟨v,λk=>ι1 (ρ k),he,kept,sim.view r4 r5,r1,λk hk=>?_,λk o hk=>?_,nQ sim hlive _ _ hR r3⟩
  ·show ι1 (ρ k)= ι k;rw [r2 k hk]; exact stay k hk
  ·obtain⟨ob,h⟩:=hlive _ (wU hk);exact mS _ _ h
theorem pR {k s:Nat} {els:List (List D)} (h:els ≠ []):xD k s els = .osl k s els.length:=by cases els with
 | nil=>exact absurd rfl h
 | cons e r=>rfl
theorem wc {k s:Nat} {els:List (List D)} (h:els ≠ []):xA k s els = [(k,⟨s,els⟩)]:=by cases els with
 | nil=>exact absurd rfl h
 | cons e r=>rfl
def rl (ll:List (List Int)):List (List D):=ll.map λl=>[.sl 1 (rows .i64 l)]
theorem yD (l:List (List Int)):(rl l).length=l.length:=by simp [rl]
theorem tH (l:List (List Int)) {i:Nat} (h:i<l.length):(rl l).getD i [] = [.sl 1 (rows .i64 (l.getD i []))]:=by simp [rl,List.getD,h]
theorem RO (l:List (List Int)) (n:Nat):(rl l).take n=rl (l.take n):=by simp [rl,List.map_take]
theorem mr (l:List (List Int)) (r:List Int):rl l ++ [[.sl 1 (rows .i64 r)]]=rl (l ++ [r]):=by simp [rl]
theorem OO : rl [] = []:=rfl
theorem mq (l:List (List Int)):∀ e ∈ rl l,D.xU e=true:=by intro e he;simp only [rl,List.mem_map] at he;obtain⟨r,_,rfl⟩:=he;have h:∀ e ∈ rows .i64 r,D.xU e=true:=uX _ r;have:(rows .i64 r).all D.xU=true:=List.all_eq_true.2 h;simp [D.xU,D.xL,this]
theorem kU (l:List (List Int)):tW (rl l):=mq l
section
variable [rL]
def VZ (C:Cx) (pre mid1:List DOp) (f f1 fd:Fr) (dst2:Option Nat) (mid2 post:List DOp) (Q:Exit->Fr->St->Prop) (f2:Fr) (d2:D) (σ2:St):Prop:= nT C σ2 pre (eqF f1) f/\nT C σ2 mid1 (eqF f2) fd/\nT C σ2 mid2 (z7 C post Q σ2) (f2.put dst2 d2)
def VW (C:Cx) (pre:List DOp) (dst:Option Nat) (mid1:List DOp) (dst2:Option Nat) (k2:DK) (mid2 post:List DOp) (Q:Exit->Fr->St->Prop) (f:Fr) (f1:Fr) (d1:D) (σ1:St):Prop:= nT C σ1 pre (eqF f1) f/\nT C σ1 mid1 (lX C k2 (VZ C pre mid1 f f1 (f1.put dst d1) dst2 mid2 post Q) σ1) (f1.put dst d1)
theorem VN {C:Cx} {σ:St} {f:Fr} {Q:Exit->Fr->St->Prop} {pre mid1 mid2 post:List DOp} {dst dst2:Option Nat} {g g2:Option (Nat × Bool)} {k k2:DK} :
  wpZ C (.Vm pre ⟨dst,g,k⟩ mid1 ⟨dst2,g2,k2⟩ mid2 post) Q f σ=nT C σ pre (lX C k (VW C pre dst mid1 dst2 k2 mid2 post Q f) σ) f:=by
 rw [sX];show wpD C _ f σ Q=_;unfold wpD;rw [rA,<- tU]
 have:(λf1=>opV C σ (evO f1) k λd1 σ1=>uO C σ1 pre f (λg=>g=f1)/\ uO C σ1 mid1 (f1.put dst d1) λf2=>opV C σ1 (evO f2) k2 λd2 σ2=> uO C σ2 pre f (λg=>g=f1)/\ uO C σ2 mid1 (f1.put dst d1) (λg=>g=f2)/\ uO C σ2 mid2 (f2.put dst2 d2) λf3=>qE C post f3 σ2 λf σ=>Q .normal f σ)= lX C k (VW C pre dst mid1 dst2 k2 mid2 post Q f) σ:=by
  funext f1;unfold lX;rw [ue];congr 1;funext d1 σ1;unfold VW;rw [rA,tU,tU]
  have e2:(λf2=>opV C σ1 (evO f2) k2 λd2 σ2=> uO C σ2 pre f (λg=>g=f1)/\ uO C σ2 mid1 (f1.put dst d1) (λg=>g=f2)/\ uO C σ2 mid2 (f2.put dst2 d2) λf3=>qE C post f3 σ2 λf σ=>Q .normal f σ)= lX C k2 (VZ C pre mid1 f f1 (f1.put dst d1) dst2 mid2 post Q) σ1:=by
   funext f2;unfold lX;rw [ue];congr 1;funext d2 σ2;unfold VZ z7;rw [rA,oN,tU,tU,tU]
   have e3:aj C post (jH Q)= λf σ=>qE C post f σ λf σ=>Q .normal f σ:=by funext f σ; rw [lY]; rfl
   rw [e3];rfl
  rw [e2];rfl
 rw [this]
end
section
variable [rL]
mutual
/-- All objects that a datum names are below n. -/
def D.under (n:Nat):D->Prop
 | .ref k _ _ _=>k<n
 | .osl k _ _=>k<n
 | .sub k _ _ _=>k<n
 | .zE k=>k<n
 | .agg cs=>D.vW n cs
 | .tup cs=>D.vW n cs
 | .fn _ cs=>D.vW n cs
 | _=>True
def D.vW (n:Nat):List D->Prop
 | []=>True
 | d :: r=>d.under n/\D.vW n r
end
theorem tF {n:Nat}:∀ {cs:List D},(∀ j,j<cs.length->(cs.getD j .top).under n)->D.vW n cs
 | [],_=>by simp only [D.vW]
 | d :: r,h=>by simp only [D.vW];exact⟨by simpa using h 0 (by simp),tF λj hj=>by simpa using h (j+1) (by simpa using hj)⟩
theorem RP.under {M:Nat->Prop} {w:World} {n:Nat} {v:Value} {d:D} (h:RP M w v d):d.under n:=by
 induction h with
 | agg _ _ ih=>simp only [D.under]; exact tF ih
 | tup _ _ ih=>simp only [D.under]; exact tF ih
 | fn _ _ ih=>simp only [D.under]; exact tF ih
 | _=>simp only [D.under]
theorem R.under {M:Nat->Prop} {w:World} {ι:Nat->Nat} {n:Nat} {v:Value} {d:D} (h:R M w ι n v d):d.under n:=by
 induction h with
 | pure h=>exact h.under
 | ref hk _=>simp only [D.under]; exact hk
 | osl hk _ _ _ _=>simp only [D.under]; exact hk
 | sub hk _ _ _ _=>simp only [D.under]; exact hk
 | zE hk=>simp only [D.under]; exact hk
 | agg _ _ ih=>simp only [D.under]; exact tF ih
 | tup _ _ ih=>simp only [D.under]; exact tF ih
 | fn _ _ ih=>simp only [D.under]; exact tF ih
def iW (σ:St):Prop:=∀ k o,σ.get k=some o->k<σ.nx/\∀ e ∈ o.els,D.vW σ.nx e
theorem vL.under {M0:Nat->Prop} {w:World} {σ:St} {ι:Nat->Nat} (h:vL M0 w σ ι):iW σ:=by
 intro k o hk;obtain⟨h1,h2⟩:=h.holds k o hk;refine⟨h1,λe he=>?_⟩;obtain⟨i,hi,rfl⟩:=List.getElem_of_mem he;have e2:o.els.getD i []=o.els[i]:=by simp [List.getD,hi]
 rcases h2 with ⟨_,cur,_,_,c2,_,c4⟩ | ⟨_,es,_,_,c3⟩
 ·have hl:=c2 _ (List.getElem_mem hi);refine tF λj hj=>?_;have:=(c4 i hi j (by omega)).2.under;rw [e2] at this;exact this
 ·obtain⟨kv,v,x,d,r1,_,r3,r4⟩:=c3 i hi;rw [e2] at r1;rw [r1];simp only [D.vW];exact⟨r3.under,r4.under,trivial⟩
theorem xY.wR {P:Program} {g:FuncId} {args:List D} {σ:St} {d:D} {σ':St} (ho:uV P g) (h:iW σ->xY P g args σ d σ'):xY P g args σ d σ':=⟨ho,λM0 w ι vals hS hl hv=>(h hS.under).run M0 w ι vals hS hl hv⟩
mutual
theorem Ri {σ σ':St}:∀ {d:D},d.under σ'.nx->vw σ σ' (λk=>k) d d
 | .top,_=>by simp only [vw]
 | .und,_=>by simp only [vw]
 | .int _ _,_=>by simp only [vw]
 | .bool _,_=>by simp only [vw]
 | .str _,_=>by simp only [vw]
 | .sl _ _,_=>by simp only [vw]; exact⟨trivial,trivial⟩
 | .xK,_=>by simp only [vw]
 | .emp,_=>by simp only [vw]
 | .agg cs,h=>by simp only [vw]; simp only [D.under] at h; exact⟨trivial,lA h⟩
 | .tup cs,h=>by simp only [vw]; simp only [D.under] at h; exact⟨trivial,lA h⟩
 | .fn _ cs,h=>by simp only [vw]; simp only [D.under] at h; exact⟨trivial,trivial,lA h⟩
 | .ref _ _ _ _,h=>by simp only [vw]; simp only [D.under] at h; exact⟨h,trivial⟩
 | .osl _ _ _,h=>by simp only [vw]; simp only [D.under] at h; exact⟨h,trivial⟩
 | .sub _ _ _ _,h=>by simp only [vw]; simp only [D.under] at h; exact⟨h,trivial⟩
 | .ptr _,_=>by simp [vw]
 | .zE _,h=>by simp only [vw]; simp only [D.under] at h; exact⟨h,trivial⟩
 | .iH,_=>by simp only [vw]
 | .mF,_=>by simp only [vw]
 | .pC,_=>by simp only [vw]
 | .adr _,_=>by simp only [vw]
theorem lA {σ σ':St}:∀ {cs:List D},D.vW σ'.nx cs->vwL σ σ' (λk=>k) cs cs
 | [],_=>by simp only [vwL]
 | d :: r,h=>by simp only [vwL]; simp only [D.vW] at h; exact⟨Ri h.1,lA h.2⟩
end
theorem kX {σ σ':St}:∀ {els:List (List D)},(∀ e ∈ els,D.vW σ'.nx e)->vwE σ σ' (λk=>k) els els
 | [],_=>.nil
 | e :: r,h=>.cons rfl (lA (h e (by simp))) (kX λx hx=>h x (List.mem_cons_of_mem _ hx))
def cln : List (Nat × Ob)->List (Nat × Ob)
 | []=>[]
 | (k,o) :: r=>(k,o) :: (cln r).filter λp=>p.1 != k
theorem lP {k k':Nat} (h:¬ k'=k):∀ l:List (Nat × Ob),St.look (l.filter λp=>p.1 != k) k'=St.look l k'
 | []=>rfl
 | (j,o) :: r=>by
  rw [List.filter_cons]
  by_cases e:j=k
  ·rw [if_neg (by simp [e]),lP h r,xX,if_neg (by omega)]
  ·rw [if_pos (by simpa using e),xX,xX,lP h r]
theorem kM (k:Nat):∀ l:List (Nat × Ob),St.look (cln l) k=St.look l k
 | []=>rfl
 | (j,o) :: r=>by
  unfold cln;rw [xX,xX]
  by_cases e:j=k
  ·rw [if_pos e,if_pos e]
  ·rw [if_neg e,if_neg e,lP (λh=>e h.symm),kM k r]
theorem qX : ∀ {l:List (Nat × Ob)} {p:Nat × Ob},p ∈ cln l->St.look l p.1=some p.2
 | [],p,h=>by cases h
 | (j,o) :: r,p,h=>by
  unfold cln at h;rw [xX]
  rcases List.mem_cons.1 h with e | e
  ·rw [e,if_pos rfl]
  ·rw [List.mem_filter] at e;have hne:¬ j=p.1:=λh=>by have:=e.2; simp [h] at this
   rw [if_neg hne];exact qX e.1
theorem xY.clean {P:Program} {g:FuncId} {args:List D} {σ:St} {d:D} {nx:Nat} {xZ:List (Nat × Ob)} (h:xY P g args σ d ⟨nx,cln xZ⟩):xY P g args σ d ⟨nx,xZ⟩:=by
 refine⟨h.ord,λM0 w ι vals hS hl hv=>(h.run M0 w ι vals hS hl hv).mono λe w' hh=>?_⟩;obtain⟨v,ι',h1,h2,h3,h4,h5,h6,h7⟩:=hh;have hg:∀ k,St.get ⟨nx,xZ⟩ k=St.get ⟨nx,cln xZ⟩ k:=λk=>(kM k xZ).symm
 have hM:Mof M0 ι' ⟨nx,xZ⟩= Mof M0 ι' ⟨nx,cln xZ⟩:=by funext b;unfold Mof;simp only [hg]
 refine⟨v,ι',h1,h2,⟨h3.old,λk o hk=>?_,λk k' o o' a b=>?_,λk o hk=>?_,?_⟩,h4,h5,λk o hk=>h6 k o (by rw [<- hg]; exact hk),by rw [hM]; exact h7⟩
 ·rw [hM]; exact h3.holds k o (by rw [<- hg]; exact hk)
 ·exact h3.inj k k' o o' (by rw [<- hg]; exact a) (by rw [<- hg]; exact b)
 ·exact h3.notM k o (by rw [<- hg]; exact hk)
 ·rw [hM]; exact h3.jK
theorem jM.gone {n0:Nat} {xZ:List (Nat × Ob)} {σ1:St} {d1 d:D} (hu:iW ⟨n0,xZ⟩) (hk:∀ k o,St.look xZ k=some o->σ1.get k=some o) (hd:vw σ1 ⟨n0,cln xZ⟩ (λk=>k) d1 d):jM n0 σ1 d1 ⟨n0,cln xZ⟩ d:=
 .inr ⟨λk=>k,ε _,λ_ _=>rfl,hd,λp hp=>by have h:=qX hp;obtain⟨h1,h2⟩:=hu p.1 p.2 h;exact⟨h1,p.2,hk _ _ h,rfl,kX h2⟩,λp _ q _ e=>e⟩
end
theorem mixed : prog.follows .mixedOrders=true:=by kernel_rfl
instance : rL := ⟨[]⟩
theorem Sk (v w:Nat) (hw:w<=60):Vg .i64 (v:Int) (w:Int)= ((v / 2 ^ w:Nat):Int):=by
 unfold Vg
 have e:min (w:Int).toNat IntKind.i64.bits=w:=by have:IntKind.i64.bits=64:=rfl;rw [this,Int.toNat_natCast]; omega
 rw [e,Int.fdiv_eq_ediv_of_nonneg _ (by have:(0:Int)<2 ^ w:=Int.pow_pos (by decide); omega)];simp
theorem Q5 {a:Nat} (h:a<2 ^ 62):pJ .and .i64 (a:Int) 1=((a % 2:Nat):Int):=by show IntKind.i64.wrap ((BitVec.ofInt 64 (a:Int)&&& BitVec.ofInt 64 1).toNat:Int)= _;rw [BitVec.ofInt_natCast,BitVec.toNat_and,BitVec.toNat_ofNat,Nat.mod_eq_of_lt (by omega)];have:(BitVec.ofInt 64 1).toNat=1:=rfl;rw [this,Nat.and_one_is_mod];exact wrap_i64 (by omega)
namespace Rs
theorem dg : ∀ (n:Nat) (l:List Nat),l.Nodup->(∀ x ∈ l,x<n)->l.length<=n
 | 0,[],_,_=>ε _
 | 0,x :: l,_,h=>by have:=h x (by simp); omega
 | n + 1,l,hn,h=>by
  have h1:=dg n (l.filter λx=>x != n) (hn.filter _) λx hx=>by
   rw [List.mem_filter] at hx;have:=h x hx.1;have:x≠n:=by simpa using hx.2
   omega
  have h2:l.length<=(l.filter λx=>x != n).length+1:=by
   clear h1
   induction l with
   | nil=>simp
   | cons y l ih=>
    rw [List.nodup_cons] at hn
    by_cases e:y=n
    ·subst e
     have:l.filter (λx=>x != y)= l:=List.filter_eq_self.2 λx hx=>by have:x≠y:=λe=>hn.1 (e ▸ hx);simpa using this
     rw [List.filter_cons,if_neg (by simp),this]; simp
    ·rw [List.filter_cons,if_pos (by simpa using e)];have:=ih hn.2 λx hx=>h x (by simp [hx]);simp; omega
  omega
def mo (u:List (Int × Int)):List (Int × D):=u.map λp=>(p.1,.int .i64 p.2)
def vM (x:Int):List (Int × Int)->Option Int
 | []=>none
 | (k,y) :: r=>if x=k then some y else vM x r
theorem kH (x:Int):∀ (u:List (Int × Int)) (i:Nat),(vM x u=none/\wT x (mo u) i=none)\/∃ y j,vM x u=some y/\wT x (mo u) i=some (j,.int .i64 y)
 | [],i=>.inl ⟨rfl,rfl⟩
 | (k,y) :: r,i=>by
  show (vM x ((k,y) :: r)= none/\wT x ((k,.int .i64 y) :: mo r) i=none)\/∃ y' j,vM x ((k,y) :: r)= some y'/\wT x ((k,.int .i64 y) :: mo r) i=some (j,.int .i64 y');unfold vM wT
  by_cases h:x=k
  ·rw [if_pos h,if_pos h]; exact .inr ⟨y,i,rfl,rfl⟩
  ·rw [if_neg h,if_neg h]; exact kH x r (i+1)
theorem iO {nx n key sz:Nat} {xZ:List (Nat × Ob)} {els:List (List D)} (hs:0<sz) (hp:∀ e ∈ els,D.xU e=true) (h:St.look xZ key=vZ sz els) {ρ:Nat->Nat}:vw ⟨nx,xZ⟩ ⟨n,[]⟩ ρ (xD key sz els) (.sl sz els):=by
 cases els with
 | nil=>simp [xD,vw]
 | cons e t=> simp only [xD,vw];exact⟨trivial,hs,by simp,⟨sz,e :: t⟩,h,rfl,ε _,by simp,hp⟩
end Rs
end Go.Pd

/- Part F4. -/
namespace Go.Pd
open Go Go.Proofs
open BitVec renaming isValue -> ZA
open Rs
namespace Fm
structure Use where
 x:Bool
 y:Bool
 fa:Bool
 ag:Bool
 gr:Bool
 ev:Bool
 fr:Int
def Use.row (u:Use):List D:=[.bool u.x,.bool u.y,.bool u.fa,.bool u.ag,.bool u.gr,.bool u.ev,.int .i64 u.fr]
def gU : Use:=⟨false,false,false,false,false,false,0⟩
def xV (op:Int):Use × Bool:=
 if op<1\/21<op then(gU,false) else if op<=2 then(gU,true) else if op=3 then(⟨false,false,true,false,false,false,0⟩,true) else if op=4 then(⟨true,false,false,false,false,false,0⟩,true)
 else if op<=8 then(⟨true,true,false,false,false,false,0⟩,true) else if op<=10 then(⟨true,false,false,true,false,false,1⟩,true) else if op=11 then(⟨true,false,false,false,true,false,2⟩,true)
 else if op=12 then(⟨true,false,false,false,true,false,4⟩,true) else if op=13 then(⟨true,true,false,false,true,false,8⟩,true) else if op=14 then(⟨true,true,false,true,false,false,16⟩,true)
 else if op=15 then(⟨true,false,false,true,false,false,32⟩,true) else if op=16 then(⟨true,true,false,false,false,false,64⟩,true) else if op=17 then(⟨true,false,false,false,false,true,128⟩,true)
 else if op=18\/op=20 then(⟨true,false,false,false,false,false,256⟩,true) else(⟨true,true,false,false,false,false,256⟩,true)
end Fm
open Fm
theorem bF (op:Int):zX prog 141 [.int .i64 op] (.tup [.agg (xV op).1.row,.bool (xV op).2]):=by
 have hc:op=1\/op=2\/op=3\/op=4\/op=5\/op=6\/op=7\/op=8\/op=9\/op=10\/op=11\/op=12\/op=13\/op=14\/op=15\/op=16\/op=17\/op=18\/op=19\/op=20\/op=21\/(op<1\/21<op):=by omega
 rcases hc with rfl | rfl | rfl | rfl | rfl | rfl | rfl | rfl | rfl | rfl | rfl | rfl | rfl | rfl | rfl | rfl | rfl | rfl | rfl | rfl | rfl | hc
 rotate_right
 ·have e:∀ i:Int,1<=i->i<=21->(op==i)= false:=λi h1 h2=>by simp; omega
  refine xY.xP mixed func141 MV (by simp) λhf=>?_;simp only [simprocAttr,-ZA,↓zU,↓zD,zV,zT,zW,e 1 (by omega) (by omega),e 2 (by omega) (by omega),e 3 (by omega) (by omega),e 4 (by omega) (by omega),e 5 (by omega) (by omega),e 6 (by omega) (by omega),e 7 (by omega) (by omega),e 8 (by omega) (by omega),e 9 (by omega) (by omega),e 10 (by omega) (by omega),e 11 (by omega) (by omega),e 12 (by omega) (by omega),e 13 (by omega) (by omega),e 14 (by omega) (by omega),e 15 (by omega) (by omega),e 16 (by omega) (by omega),e 17 (by omega) (by omega),e 18 (by omega) (by omega),e 19 (by omega) (by omega),e 20 (by omega) (by omega),e 21 (by omega) (by omega)];rw [show xV op=(gU,false) from if_pos hc];exact .drop (by simp) (by simp [vw,vwL,Use.row,gU])
 all_goals
  refine xY.xP mixed func141 MV (by simp) λhf=>?_;simp only [simprocAttr,-ZA,↓zU,↓zD,zV,zT,zW];exact .drop (by simp) (by simp [vw,vwL,xV,Use.row,gU])
open Rs Fm
namespace Fm
structure Nd where
 op:Int
 i:Int
 e:Int
 g:Int
 x:Int
 y:Int
 deriving DecidableEq
def Nd.row (p:Nd):List D:=[.int .i64 p.op,.int .i64 p.i,.int .i64 p.e,.int .i64 p.g,.int .i64 p.x,.int .i64 p.y]
def yG (u:Bool) (f at_:Int):Bool:=if u=true then decide (0<=f)&& decide (f<at_) else decide (f=0)
def yX (u:Bool) (v lo hi:Int):Bool:=u&&(decide (v<lo) || decide (hi<v))
def zG (p:Nd) (k:Int):Int:=
 if (xV p.op).2=false then 10 else
 if (yG (xV p.op).1.x p.x k&&yG (xV p.op).1.y p.y k)= false then 3 else
 if ((!((xV p.op).1.fa || (xV p.op).1.ag || (xV p.op).1.ev)&& decide (p.i≠0)) || (!(xV p.op).1.ev&&decide (p.e≠0)) || (!(xV p.op).1.gr&&decide (p.g≠0)))= true then 3 else
 if (yX (xV p.op).1.fa p.i 0 7 || yX (xV p.op).1.ag p.i 0 3 || yX (xV p.op).1.ev p.i 0 7 || yX (xV p.op).1.ev p.e 0 7 || yX (xV p.op).1.gr p.g 1 15)= true then 2 else 0
theorem r7 (op:Int):((xV op).1.fa=false/\(xV op).1.ag=false/\(xV op).1.gr=false/\(xV op).1.ev=false)\/((xV op).1.fa=true/\(xV op).1.ag=false/\(xV op).1.gr=false/\(xV op).1.ev=false) \/
  ((xV op).1.fa=false/\(xV op).1.ag=true/\(xV op).1.gr=false/\(xV op).1.ev=false)\/((xV op).1.fa=false/\(xV op).1.ag=false/\(xV op).1.gr=true/\(xV op).1.ev=false)\/((xV op).1.fa=false/\(xV op).1.ag=false/\(xV op).1.gr=false/\(xV op).1.ev=true):=by
 have hc:op=1\/op=2\/op=3\/op=4\/op=5\/op=6\/op=7\/op=8\/op=9\/op=10\/op=11\/op=12\/op=13\/op=14\/op=15\/op=16\/op=17\/op=18\/op=19\/op=20\/op=21\/(op<1\/21<op):=by omega
 rcases hc with rfl | rfl | rfl | rfl | rfl | rfl | rfl | rfl | rfl | rfl | rfl | rfl | rfl | rfl | rfl | rfl | rfl | rfl | rfl | rfl | rfl | hc
 rotate_right
 ·rw [show xV op=(gU,false) from if_pos hc]; exact .inl ⟨rfl,rfl,rfl,rfl⟩
 all_goals simp [xV,gU]
end Fm
theorem sb (u:Bool) (f k:Int):zX prog 200 [.bool u,.int .i64 f,.int .i64 k] (.bool (yG u f k)):=by
 refine xY.xP mixed func200 Ll (by simp) λhf=>?_
 cases u
 ·simp only [simprocAttr,-ZA,↓zU,↓zD,zV,zT,zW]
  by_cases h:f=0
  ·have e:(f==0)= true:=by simpa using h
   exact .drop (by simp) (by simp [vw,yG,e,h])
  ·have e:(f==0)= false:=by simpa using h
   exact .drop (by simp) (by simp [vw,yG,e,h])
 ·by_cases h1:0<=f
  ·by_cases h2:f<k
   ·simp only [simprocAttr,-ZA,↓zU,↓zD,zV,zT,zW,h1,h2];exact .drop (by simp) (by simp [vw,yG,h1,h2])
   ·simp only [simprocAttr,-ZA,↓zU,↓zD,zV,zT,zW,h1,h2];exact .drop (by simp) (by simp [vw,yG,h1,h2])
  ·simp only [simprocAttr,-ZA,↓zU,↓zD,zV,zT,zW,h1];exact .drop (by simp) (by simp [vw,yG,h1])
theorem yQ (u:Bool) (v lo hi:Int):zX prog 201 [.bool u,.int .i64 v,.int .i64 lo,.int .i64 hi] (.bool (yX u v lo hi)):=by
 refine xY.xP mixed func201 Lm (by simp) λhf=>?_
 cases u
 ·simp only [simprocAttr,-ZA,↓zU,↓zD,zV,zT,zW];exact .drop (by simp) (by simp [vw,yX])
 ·by_cases h1:v<lo
  ·simp only [simprocAttr,-ZA,↓zU,↓zD,zV,zT,zW,h1];exact .drop (by simp) (by simp [vw,yX,h1])
  ·by_cases h2:hi<v
   ·simp only [simprocAttr,-ZA,↓zU,↓zD,zV,zT,zW,h1,h2];exact .drop (by simp) (by simp [vw,yX,h1,h2])
   ·simp only [simprocAttr,-ZA,↓zU,↓zD,zV,zT,zW,h1,h2];exact .drop (by simp) (by simp [vw,yX,h1,h2])
theorem cN (p:Nd) (k:Int):zX prog 142 [.agg p.row,.int .i64 k] (.int .i64 (zG p k)):=by
 have hk:=r7 p.op;have hu:=bF p.op
 have en:zG p k=if (xV p.op).2=false then 10 else
  if (yG (xV p.op).1.x p.x k&&yG (xV p.op).1.y p.y k)= false then 3 else
  if ((!((xV p.op).1.fa || (xV p.op).1.ag || (xV p.op).1.ev)&& decide (p.i≠0)) || (!(xV p.op).1.ev&&decide (p.e≠0)) || (!(xV p.op).1.gr&&decide (p.g≠0)))= true then 3 else
  if (yX (xV p.op).1.fa p.i 0 7 || yX (xV p.op).1.ag p.i 0 3 || yX (xV p.op).1.ev p.i 0 7 || yX (xV p.op).1.ev p.e 0 7 || yX (xV p.op).1.gr p.g 1 15)= true then 2 else 0:=rfl
 rw [en];generalize xV p.op=q at hk hu;obtain⟨⟨ux,uy,fa,ag,gr,ev,fr⟩,ok⟩:=q;simp only [Use.row] at hk hu ⊢;refine xY.xP mixed func142 L2 (by simp) λhf=>?_;simp only [simprocAttr,-ZA,↓zU,↓zD,zV,zT,zW,Nd.row]
 (repeat refine sd ?_)
 refine .go (cq hu) ?_
 cases ok
 ·simp only [simprocAttr,-ZA,↓zU,↓zD,zV,zT,zW];exact .dv
 simp only [simprocAttr,-ZA,↓zU,↓zD,zV,zT,zW];refine .go (cq (sb ux p.x k)) ?_
 cases hx:yG ux p.x k
 ·simp only [simprocAttr,-ZA,↓zU,↓zD,zV,zT,zW];exact .dv
 simp only [simprocAttr,-ZA,↓zU,↓zD,zV,zT,zW];refine .go (cq (sb uy p.y k)) ?_
 cases hy:yG uy p.y k
 ·simp only [simprocAttr,-ZA,↓zU,↓zD,zV,zT,zW];exact .dv
 have ob:∀ v lo hi,yX false v lo hi=false:=λ_ _ _=>rfl
 rcases hk with ⟨rfl,rfl,rfl,rfl⟩ | ⟨rfl,rfl,rfl,rfl⟩ | ⟨rfl,rfl,rfl,rfl⟩ | ⟨rfl,rfl,rfl,rfl⟩ | ⟨rfl,rfl,rfl,rfl⟩
 ·skip;by_cases hi:p.i=0
  case neg=> have ei:(p.i != 0)= true:=bne_iff_ne.2 hi;simp only [simprocAttr,-ZA,↓zU,↓zD,zV,zT,zW,ei];exact .drop (by simp) (by simp [vw,hi])
  have ei:(p.i != 0)= false:=by simpa using hi
  by_cases he:p.e=0
  case neg=> have ee:(p.e != 0)= true:=bne_iff_ne.2 he;simp only [simprocAttr,-ZA,↓zU,↓zD,zV,zT,zW,ei,ee];exact .drop (by simp) (by simp [vw,he,hi])
  have ee:(p.e != 0)= false:=by simpa using he
  by_cases hg:p.g=0
  case neg=> have eg:(p.g != 0)= true:=bne_iff_ne.2 hg;simp only [simprocAttr,-ZA,↓zU,↓zD,zV,zT,zW,ei,ee,eg];exact .drop (by simp) (by simp [vw,hg,hi,he])
  have eg:(p.g != 0)= false:=by simpa using hg
  simp only [simprocAttr,-ZA,↓zU,↓zD,zV,zT,zW,ei,ee,eg];refine .go (cq (yQ false p.i 0 7)) ?_;simp only [simprocAttr,-ZA,↓zU,↓zD,zV,zT,zW,ob];refine .go (cq (yQ false p.i 0 3)) ?_;simp only [simprocAttr,-ZA,↓zU,↓zD,zV,zT,zW,ob];refine .go (cq (yQ false p.i 0 7)) ?_;simp only [simprocAttr,-ZA,↓zU,↓zD,zV,zT,zW,ob];refine .go (cq (yQ false p.e 0 7)) ?_;simp only [simprocAttr,-ZA,↓zU,↓zD,zV,zT,zW,ob];refine .go (cq (yQ false p.g 1 15)) ?_;simp only [simprocAttr,-ZA,↓zU,↓zD,zV,zT,zW,ob];exact .drop (by simp) (by simp [vw,ob,hi,he,hg])
 ·skip;by_cases he:p.e=0
  case neg=> have ee:(p.e != 0)= true:=bne_iff_ne.2 he;simp only [simprocAttr,-ZA,↓zU,↓zD,zV,zT,zW,ee];exact .drop (by simp) (by simp [vw,he])
  have ee:(p.e != 0)= false:=by simpa using he
  by_cases hg:p.g=0
  case neg=> have eg:(p.g != 0)= true:=bne_iff_ne.2 hg;simp only [simprocAttr,-ZA,↓zU,↓zD,zV,zT,zW,ee,eg];exact .drop (by simp) (by simp [vw,hg,he])
  have eg:(p.g != 0)= false:=by simpa using hg
  simp only [simprocAttr,-ZA,↓zU,↓zD,zV,zT,zW,ee,eg];refine .go (cq (yQ true p.i 0 7)) ?_;cases oi:yX true p.i 0 7
  case true=> simp only [simprocAttr,-ZA,↓zU,↓zD,zV,zT,zW];exact .drop (by simp) (by simp [vw,ob,he,hg,oi])
  simp only [simprocAttr,-ZA,↓zU,↓zD,zV,zT,zW];refine .go (cq (yQ false p.i 0 3)) ?_;simp only [simprocAttr,-ZA,↓zU,↓zD,zV,zT,zW,ob];refine .go (cq (yQ false p.i 0 7)) ?_;simp only [simprocAttr,-ZA,↓zU,↓zD,zV,zT,zW,ob];refine .go (cq (yQ false p.e 0 7)) ?_;simp only [simprocAttr,-ZA,↓zU,↓zD,zV,zT,zW,ob];refine .go (cq (yQ false p.g 1 15)) ?_;simp only [simprocAttr,-ZA,↓zU,↓zD,zV,zT,zW,ob];exact .drop (by simp) (by simp [vw,ob,he,hg,oi])
 ·skip;by_cases he:p.e=0
  case neg=> have ee:(p.e != 0)= true:=bne_iff_ne.2 he;simp only [simprocAttr,-ZA,↓zU,↓zD,zV,zT,zW,ee];exact .drop (by simp) (by simp [vw,he])
  have ee:(p.e != 0)= false:=by simpa using he
  by_cases hg:p.g=0
  case neg=> have eg:(p.g != 0)= true:=bne_iff_ne.2 hg;simp only [simprocAttr,-ZA,↓zU,↓zD,zV,zT,zW,ee,eg];exact .drop (by simp) (by simp [vw,hg,he])
  have eg:(p.g != 0)= false:=by simpa using hg
  simp only [simprocAttr,-ZA,↓zU,↓zD,zV,zT,zW,ee,eg];refine .go (cq (yQ false p.i 0 7)) ?_;simp only [simprocAttr,-ZA,↓zU,↓zD,zV,zT,zW,ob];refine .go (cq (yQ true p.i 0 3)) ?_;cases oi:yX true p.i 0 3
  case true=> simp only [simprocAttr,-ZA,↓zU,↓zD,zV,zT,zW];exact .drop (by simp) (by simp [vw,ob,he,hg,oi])
  simp only [simprocAttr,-ZA,↓zU,↓zD,zV,zT,zW];refine .go (cq (yQ false p.i 0 7)) ?_;simp only [simprocAttr,-ZA,↓zU,↓zD,zV,zT,zW,ob];refine .go (cq (yQ false p.e 0 7)) ?_;simp only [simprocAttr,-ZA,↓zU,↓zD,zV,zT,zW,ob];refine .go (cq (yQ false p.g 1 15)) ?_;simp only [simprocAttr,-ZA,↓zU,↓zD,zV,zT,zW,ob];exact .drop (by simp) (by simp [vw,ob,he,hg,oi])
 ·skip;by_cases hi:p.i=0
  case neg=> have ei:(p.i != 0)= true:=bne_iff_ne.2 hi;simp only [simprocAttr,-ZA,↓zU,↓zD,zV,zT,zW,ei];exact .drop (by simp) (by simp [vw,hi])
  have ei:(p.i != 0)= false:=by simpa using hi
  by_cases he:p.e=0
  case neg=> have ee:(p.e != 0)= true:=bne_iff_ne.2 he;simp only [simprocAttr,-ZA,↓zU,↓zD,zV,zT,zW,ei,ee];exact .drop (by simp) (by simp [vw,he,hi])
  have ee:(p.e != 0)= false:=by simpa using he
  simp only [simprocAttr,-ZA,↓zU,↓zD,zV,zT,zW,ei,ee];refine .go (cq (yQ false p.i 0 7)) ?_;simp only [simprocAttr,-ZA,↓zU,↓zD,zV,zT,zW,ob];refine .go (cq (yQ false p.i 0 3)) ?_;simp only [simprocAttr,-ZA,↓zU,↓zD,zV,zT,zW,ob];refine .go (cq (yQ false p.i 0 7)) ?_;simp only [simprocAttr,-ZA,↓zU,↓zD,zV,zT,zW,ob];refine .go (cq (yQ false p.e 0 7)) ?_;simp only [simprocAttr,-ZA,↓zU,↓zD,zV,zT,zW,ob];refine .go (cq (yQ true p.g 1 15)) ?_;cases og:yX true p.g 1 15
  case true=> simp only [simprocAttr,-ZA,↓zU,↓zD,zV,zT,zW];exact .drop (by simp) (by simp [vw,ob,hi,he,og])
  simp only [simprocAttr,-ZA,↓zU,↓zD,zV,zT,zW];exact .drop (by simp) (by simp [vw,ob,hi,he,og])
 ·skip;by_cases hg:p.g=0
  case neg=> have eg:(p.g != 0)= true:=bne_iff_ne.2 hg;simp only [simprocAttr,-ZA,↓zU,↓zD,zV,zT,zW,eg];exact .drop (by simp) (by simp [vw,hg])
  have eg:(p.g != 0)= false:=by simpa using hg
  simp only [simprocAttr,-ZA,↓zU,↓zD,zV,zT,zW,eg];refine .go (cq (yQ false p.i 0 7)) ?_;simp only [simprocAttr,-ZA,↓zU,↓zD,zV,zT,zW,ob];refine .go (cq (yQ false p.i 0 3)) ?_;simp only [simprocAttr,-ZA,↓zU,↓zD,zV,zT,zW,ob];refine .go (cq (yQ true p.i 0 7)) ?_;cases oi:yX true p.i 0 7
  case true=> simp only [simprocAttr,-ZA,↓zU,↓zD,zV,zT,zW];exact .drop (by simp) (by simp [vw,ob,hg,oi])
  simp only [simprocAttr,-ZA,↓zU,↓zD,zV,zT,zW];refine .go (cq (yQ true p.e 0 7)) ?_;cases oe:yX true p.e 0 7
  case true=> simp only [simprocAttr,-ZA,↓zU,↓zD,zV,zT,zW];exact .drop (by simp) (by simp [vw,ob,hg,oi,oe])
  simp only [simprocAttr,-ZA,↓zU,↓zD,zV,zT,zW];refine .go (cq (yQ false p.g 1 15)) ?_;simp only [simprocAttr,-ZA,↓zU,↓zD,zV,zT,zW,ob];exact .drop (by simp) (by simp [vw,ob,hg,oi,oe])
open Rs Fm
namespace Fm
def nd0 : Nd:=⟨0,0,0,0,0,0⟩
def ndR (l:List Nd):List (List D):=l.map Nd.row
theorem xE (l:List Nd):(ndR l).length=l.length:=by simp [ndR]
theorem oL (l:List Nd) {i:Nat} (h:i<l.length):(ndR l).getD i []=(l.getD i nd0).row:=by simp [ndR,List.getD,h]
theorem wq (l:List Nd):∀ e ∈ ndR l,D.xU e=true:=by intro e he;simp only [ndR,List.mem_map] at he;obtain⟨p,_,rfl⟩:=he;simp [Nd.row,D.xU,D.xL]
def Vd : List Nd->Int->Int
 | [],_=>0
 | p :: r,i=>if zG p i≠0 then zG p i else Vd r (i+1)
def yN (f:List Nd):Int:=if f = [] then 3 else if 200<f.length then 8 else Vd f 0
theorem WL {f:List Nd}:∀ {i:Int},Vd f i=0->∀ k,k<f.length->zG (f.getD k nd0) (i+k)= 0:=by
 induction f with
 | nil=>intro i _ k hk; simp at hk
 | cons p r ih=>
  intro i h k hk;unfold Vd at h
  by_cases hp:zG p i≠0
  ·rw [if_pos hp] at h; exact absurd h hp
  ·rw [if_neg hp] at h
   cases k with
   | zero=>simpa using hp
   | succ k=> have:=ih h k (by simpa using hk);rw [List.getD_cons_succ,show i+((k+1:Nat):Int)= i+1+k by omega];exact this
end Fm
theorem nJ (f:List Nd):zX prog 100 [.sl 6 (ndR f)] (.int .i64 (yN f)):=by
 refine xY.xP mixed func100 Ka (by simp) λhf=>?_;simp only [D.sT,D.fact,xE] at hf;have hlen:=hf.1.1
 by_cases h1:f.length=0
 ·have e1:((f.length:Int)== 0)= true:=by simpa using h1
  simp only [simprocAttr,-ZA,↓zU,↓zD,zV,zT,zW,xE,e1];rw [show yN f=3 from if_pos (List.length_eq_zero_iff.1 h1)];exact .same
 have e1:((f.length:Int)== 0)= false:=by simpa using h1
 have hne:f ≠ []:=λe=>h1 (by rw [e]; rfl)
 by_cases h2:200<f.length
 ·have h2':(200:Int)<(f.length:Int):=by omega
  simp only [simprocAttr,-ZA,↓zU,↓zD,zV,zT,zW,xE,e1,h2'];rw [show yN f=8 by rw [yN,if_neg hne,if_pos h2]];exact .same
 have h2':¬ (200:Int)<(f.length:Int):=by omega
 rw [show yN f=Vd f 0 by rw [yN,if_neg hne,if_neg h2]];simp only [simprocAttr,-ZA,↓zU,↓zD,zV,zT,zW,xE,e1,h2']
 refine xT (λk:Nat=>[(14,.int .i64 k),(13,.int .i64 f.length),(12,.sl 6 (ndR f))]) (λ_=>⟨0,[]⟩) (λk=>k<=f.length/\Vd f 0=Vd (f.drop k) k) (λk=>f.length-k) 0 ⟨Nat.zero_le _,rfl⟩ ?_ ?_
 ·(refine xN.same ?_; simp [xQ,Fr.get])
 intro k ⟨hk,hi⟩;refine xO mixed ?_;by_cases h:k<f.length
 case neg=>
  have hd:¬ ((k:Int)<(f.length:Int)):=by omega
  rw [List.drop_eq_nil_of_le (by omega),Vd] at hi;simp only [simprocAttr,-ZA,↓zU,↓zD,zV,zT,zW,hd];rw [hi];exact .same
 have hd:((k:Int)<(f.length:Int)):=by omega
 rw [drop_cons (d:=nd0) h,Vd] at hi;have hg:=oL f h;generalize f.getD k nd0=p at hg hi;simp only [simprocAttr,-ZA,↓zU,↓zD,zV,zT,zW,hd,xE,hg,Nd.row]
 (repeat refine sd ?_)
 refine .go (xY.yO (cN p k) (by simp [D.xU,D.xL,Nd.row])) ?_
 by_cases he:zG p k=0
 ·have e:(zG p k != 0)= false:=by simpa using he
  rw [if_neg (by simpa using he)] at hi;simp only [simprocAttr,-ZA,↓zU,↓zD,zV,zT,zW,e];refine⟨k+1,⟨by omega,hi⟩,?_,by omega⟩
  (refine xN.view (λk=>k) (by simp) (by simp) ?_ (by simp [stays]) (by simp [uQ]); simp [vwF,vw,vwL,Fr.get])
  exact wrap_i64 (by omega)
 ·have e:(zG p k != 0)= true:=bne_iff_ne.2 he;rw [if_pos he] at hi;simp only [simprocAttr,-ZA,↓zU,↓zD,zV,zT,zW,e];rw [hi];exact .dv
open Rs Fm
namespace Fm
end Fm
theorem QO (p:Nd) (u:Use):zX prog 112 [.agg p.row,.agg u.row] (.int .i64 u.fr):=by
 refine xY.xP mixed func112 Kl (by simp) λhf=>?_;simp only [simprocAttr,-ZA,↓zU,↓zD,zV,zT,zW,Nd.row,Use.row]
 (repeat refine sd ?_)
 exact .dv
theorem QN (p:Nd) (u:Use) (h:u.fa=true->0<=p.i/\p.i<=7):zX prog 204 [.agg p.row,.agg u.row] (.int .i64 (if u.fa=true then((2 ^ p.i.toNat:Nat):Int) else 0)):=by
 refine xY.xP mixed func204 Lo (by simp) λhf=>?_
 cases hu:u.fa
 ·simp only [simprocAttr,-ZA,↓zU,↓zD,zV,zT,zW,Nd.row,Use.row,hu]
  (repeat refine sd ?_)
  exact .dv
 ·obtain⟨i,hi⟩:=Int.eq_ofNat_of_zero_le (h hu).1;have hi7:=(h hu).2;simp only [simprocAttr,-ZA,↓zU,↓zD,zV,zT,zW,Nd.row,Use.row,hu,hi,Ma (show i<=61 by omega)]
  (repeat refine sd ?_)
  exact .dv
theorem T5 (p:Nd) (u:Use) (h:u.ag=true->0<=p.i/\p.i<=7):zX prog 203 [.agg p.row,.agg u.row] (.int .i64 (if u.ag=true then((2 ^ p.i.toNat:Nat):Int) else p.g)):=by
 refine xY.xP mixed func203 Ln (by simp) λhf=>?_
 cases hu:u.ag
 ·simp only [simprocAttr,-ZA,↓zU,↓zD,zV,zT,zW,Nd.row,Use.row,hu]
  (repeat refine sd ?_)
  exact .dv
 ·obtain⟨i,hi⟩:=Int.eq_ofNat_of_zero_le (h hu).1;have hi7:=(h hu).2;simp only [simprocAttr,-ZA,↓zU,↓zD,zV,zT,zW,Nd.row,Use.row,hu,hi,Ma (show i<=61 by omega)]
  (repeat refine sd ?_)
  exact .dv
open Rs Fm
namespace Fm
def Nd.key (p:Nd):List Int:=[p.op,p.i,p.e,p.g,p.x,p.y]
theorem key_inj {p q:Nd} (h:p.key=q.key):p=q:=by cases p; cases q;simp only [Nd.key,List.cons.injEq,and_true] at h;simp only [Nd.mk.injEq];exact h
def bZ : List Nd->Nat->List (List Int × D)
 | [],_=>[]
 | q :: r,k=>(q.key,.int .i64 k) :: bZ r (k+1)
def iG (q:Nd):List Nd->Nat->Option Nat
 | [],_=>none
 | p :: r,k=>if q=p then some k else iG q r (k+1)
theorem rV (q:Nd):∀ (l:List Nd) (k:Nat),oQ q.key (bZ l k) k=(iG q l k).map λ(j:Nat)=>(j,D.int .i64 (j:Int))
 | [],k=>rfl
 | p :: r,k=>by
  unfold bZ oQ iG
  by_cases h:q=p
  ·rw [if_pos (by rw [h]),if_pos h]; rfl
  ·rw [if_neg (λe=>h (key_inj e)),if_neg h]; exact rV q r (k+1)
theorem jX (q:Nd):∀ (l:List Nd) (k:Nat),bZ (l ++ [q]) k=bZ l k ++ [(q.key,.int .i64 (k+l.length:Nat))]
 | [],k=>rfl
 | p :: r,k=>by show _ :: bZ (r ++ [q]) (k+1)= _;rw [jX q r (k+1)];simp [bZ,Nat.add_assoc,Nat.add_comm 1]
theorem nN (l:List Nd):∀ (k:Nat),∀ p ∈ bZ l k,p.1.length=6:=by
 induction l with
 | nil=>intro k p hp; cases hp
 | cons q r ih=>
  intro k p hp
  rcases List.mem_cons.1 hp with rfl | hp
  ·rfl
  ·exact ih _ p hp
def xk (x y:Int):List (Int × Int)->List (Int × Int)
 | []=>[(x,y)]
 | (k,z) :: r=>if x=k then(x,y) :: r else(k,z) :: xk x y r
theorem wV (x:Int) (l:List (Int × D)):∀ i,wT x l (i+1)= (wT x l i).map λp=>(p.1+1,p.2):=by
 induction l with
 | nil=>intro i; rfl
 | cons p r ih=>
  intro i;obtain⟨k,d⟩:=p;unfold wT
  by_cases h:x=k
  ·rw [if_pos h,if_pos h]; rfl
  ·rw [if_neg h,if_neg h]; exact ih (i+1)
theorem pP (x y:Int):∀ (u:List (Int × Int)),xc (mo u) x (.int .i64 y)= mo (xk x y u)
 | []=>rfl
 | (k,z) :: r=>by
  have ih:=pP x y r;unfold xc at ih ⊢
  show (match wT x ((k,D.int .i64 z) :: mo r) 0 with
   | some (i,_)=>((k,D.int .i64 z) :: mo r).set i (x,D.int .i64 y)
   | none=>((k,D.int .i64 z) :: mo r)++ [(x,D.int .i64 y)])= _
  unfold wT xk
  by_cases h:x=k
  ·rw [if_pos h,if_pos h]; rfl
  ·rw [if_neg h,if_neg h,wV]
   cases ha:wT x (mo r) 0 with
   | none=>rw [ha] at ih; simp only [δ]; show _=(k,D.int .i64 z) :: mo (xk x y r); rw [<- ih]; rfl
   | some p=>rw [ha] at ih; obtain⟨i,d⟩:=p; simp only [γ]; show _=(k,D.int .i64 z) :: mo (xk x y r); rw [<- ih]; rfl
theorem sR (x y z:Int):∀ (u:List (Int × Int)),vM z (xk x y u)= if z=x then some y else vM z u
 | []=>by simp [xk,vM]
 | (k,w) :: r=>by
  unfold xk
  by_cases h:x=k
  ·rw [if_pos h];subst h;unfold vM
   by_cases e:z=x
   ·rw [if_pos e,if_pos e]
   ·rw [if_neg e,if_neg e,if_neg e]
  ·rw [if_neg h];unfold vM;rw [sR x y z r]
   by_cases e:z=k
   ·rw [if_pos e,if_neg (by omega),if_pos e]
   ·rw [if_neg e,if_neg e]
structure CS where
 out:List Nd
 done:List (Int × Int)
def xF (f:List Nd):Nat->Nat->CS->Int × CS
 | 0,_,s=>(0,s)
 | n+1,i,s=>match vM i s.done with
  | some k=>(k,s)
  | none=>
   let p:=f.getD i nd0
   let a:=if (xV p.op).1.x=true then xF f n p.x.toNat s else(p.x,s)
   let b:=if (xV p.op).1.y=true then xF f n p.y.toNat a.2 else(p.y,a.2)
   let q:Nd:=⟨p.op,p.i,p.e,p.g,a.1,b.1⟩
   match iG q b.2.out 0 with
   | some k=>(k,⟨b.2.out,xk i k b.2.done⟩)
   | none=>(b.2.out.length,⟨b.2.out ++ [q],xk i b.2.out.length b.2.done⟩)
def uW (f:List Nd) (i:Nat):List Nd:=(xF f (i+1) i ⟨[],[]⟩).2.out
end Fm
open Rs Fm
namespace Fm
structure bU (f : List Nd) (nx : Nat) (xZ : List (Nat × Ob)) (key : Nat) (s : CS) : Prop where
 hn:7<=nx
 h0:St.look xZ 0=some ⟨1,[[.sl 6 (ndR f)]]⟩
 h1:St.look xZ 1=some ⟨1,[[xD key 6 (ndR s.out)]]⟩
 hk:7<=key/\key≠nx/\key≠nx+1/\St.look xZ key=vZ 6 (ndR s.out)
 fr:∀ k,nx<=k->St.look xZ k=none
 h2:St.look xZ 2=some ⟨0,oY (bZ s.out 0)⟩
 h3:St.look xZ 3=some ⟨1,[[.zE 2]]⟩
 h4:St.look xZ 4=some ⟨0,rB .i64 (mo s.done)⟩
 h5:St.look xZ 5=some ⟨1,[[.zE 4]]⟩
 h6:St.look xZ 6=some ⟨1,[[.fn 202 [.ref 5 1 0 0,.ref 0 1 0 0,.ref 6 1 0 0,.ref 3 1 0 0,.ref 1 1 0 0]]]⟩
def gQ (op i e g x y:Int):Ob:=⟨6,[[.int .i64 op,.int .i64 i,.int .i64 e,.int .i64 g,.int .i64 x,.int .i64 y]]⟩
def iv (u:Use):Ob:=⟨7,[[.bool u.x,.bool u.y,.bool u.fa,.bool u.ag,.bool u.gr,.bool u.ev,.int .i64 u.fr]]⟩
def NT (i:Nat) (nx nx2:Nat) (objs2:List (Nat × Ob)) (key2:Nat) (s2:CS) (q:Nd) (d:D) (σ':St):Prop:=
 (∃ k,iG q s2.out 0=some k/\d = .int .i64 k/\σ'=⟨nx2,vN (vN objs2 nx (gQ q.op q.i q.e q.g q.x q.y)) 4 ⟨0,rB .i64 (mo (xk i k s2.done))⟩⟩) \/
 (iG q s2.out 0=none/\s2.out.length<=1000/\d = .int .i64 s2.out.length/\σ'=⟨nx2+1,xA nx2 6 (ndR (s2.out ++ [q]))++ vN (vN (vN (yC (vN objs2 nx (gQ q.op q.i q.e q.g q.x q.y)) key2) 1 ⟨1,[[xD nx2 6 (ndR (s2.out ++ [q]))]]⟩) 2 ⟨0,oY (bZ (s2.out ++ [q]) 0)⟩) 4 ⟨0,rB .i64 (mo (xk i s2.out.length s2.done))⟩⟩)
end Fm
theorem Rj {f:List Nd} {nx:Nat} {xZ:List (Nat × Ob)} {key:Nat} {s:CS} {i:Nat} {d:D} {σ':St} (hI:bU f nx xZ key s) (hi:i<f.length) (hlen:f.length<=1000) {p:Nd} (hp:f.getD i nd0=p) (hno:vM i s.done=none) (hux:(xV p.op).1.x=false) (huy:(xV p.op).1.y=false)
  (h:NT i nx (nx+1+1) ((nx+1,iv (xV p.op).1) :: (nx,gQ p.op p.i p.e p.g p.x p.y) :: xZ) key s p d σ') :
  xY prog 202 [.int .i64 i,.ref 5 1 0 0,.ref 0 1 0 0,.ref 6 1 0 0,.ref 3 1 0 0,.ref 1 1 0 0] ⟨nx,xZ⟩ d σ':=by
 obtain⟨hn,h0,h1,⟨k1,k2,k3,hkk⟩,hfr,h2,h3,h4,h5,h6⟩:=hI;rcases kH (i:Int) s.done 0 with ⟨q1,q2⟩ | ⟨y,j,q1,q2⟩
 rotate_left
 ·rw [hno] at q1; cases q1
 have hg:=oL f hi;rw [hp] at hg;have hx1:∀ k:Nat,k<7->¬ nx=k:=λk h=>by omega
 have hx2:∀ k:Nat,k<7->¬ nx+1=k:=λk h=>by omega
 have hx3:¬ nx+1=nx:=by omega
 have hmg:∀ {nx':Nat} {objs':List (Nat × Ob)} {zero:D} {ok:Bool} {K:D->Prop},St.look objs' 2=some ⟨0,oY (bZ s.out 0)⟩->iE ⟨nx',objs'⟩ 6 zero ok (.zE 2) (.agg [.int .i64 p.op,.int .i64 p.i,.int .i64 p.e,.int .i64 p.g,.int .i64 p.x,.int .i64 p.y]) K=K (lH ok zero ((iG p s.out 0).map λ(j:Nat)=>(j,D.int .i64 (j:Int)))):=λ{nx' objs' zero ok K} hl=>by rw [<- rV p s.out 0];exact eD hl (x:=p.key) rfl rfl (nN _ _)
 refine xY.xP mixed func202 NX (by simp) λhf=>?_;simp only [simprocAttr,-ZA,↓zU,↓zD,zV,zT,zW,h5,h4,q2,h0,xE,hg,Nd.row]
 (repeat refine sd ?_)
 refine .go (cq (bF p.op)) ?_
 have hl2:St.look ((nx+1,iv (xV p.op).1) :: (nx,gQ p.op p.i p.e p.g p.x p.y) :: xZ) 2=some ⟨0,oY (bZ s.out 0)⟩:=by rw [xX,if_neg (by omega),xX,if_neg (by omega)]; exact h2
 simp only [iv,gQ,hux,huy] at hl2
 rcases h with ⟨k,e1,rfl,rfl⟩ | ⟨e1,e2,rfl,rfl⟩
 ·have hmg2:=@hmg;rw [e1] at hmg2;simp only [simprocAttr,-ZA,↓zU,↓zD,zV,zT,zW,Use.row,hux,huy,h3,hx1 3 (by omega),hx2 3 (by omega),hx1 5 (by omega),hx2 5 (by omega),hx1 4 (by omega),hx2 4 (by omega),hx1 2 (by omega),hx2 2 (by omega),hx3,h2,hmg2,γ,h5,h4]
  (repeat refine sd ?_)
  rw [pP];simp only [iv,gQ,hux,huy];exact .same
 ·have hmg2:=@hmg;rw [e1] at hmg2;have hx4:¬ nx=key:=by omega
  have hx5:¬ nx+1=key:=by omega
  have hx6:∀ k:Nat,k<7->¬ nx+1+1=k:=λk h=>by omega
  have hx7:¬ nx+1+1=nx:=by omega
  have hx8:¬ nx+1+1=nx+1:=by omega
  have he:∀ k:Nat,k<7->St.look (yC xZ key) k=St.look xZ k:=λk h=>by rw [xM,if_neg (by omega)]
  have he1:=he 1 (by omega);have he2:=he 2 (by omega);have he3:=he 3 (by omega);have he4:=he 4 (by omega);have he5:=he 5 (by omega);rw [h1] at he1;rw [h2] at he2;rw [h3] at he3;rw [h4] at he4;rw [h5] at he5;have hpz:D.xU [.int .i64 p.op,.int .i64 p.i,.int .i64 p.e,.int .i64 p.g,.int .i64 p.x,.int .i64 p.y]=true:=by simp [D.xU,D.xL]
  have hms:∀ {nx':Nat} {objs':List (Nat × Ob)} {x:D} {K:D->St->Prop},St.look objs' 2=some ⟨0,oY (bZ s.out 0)⟩->lC ⟨nx',objs'⟩ 6 (.zE 2) (.agg [.int .i64 p.op,.int .i64 p.i,.int .i64 p.e,.int .i64 p.g,.int .i64 p.x,.int .i64 p.y]) x K=K .und ⟨nx',vN objs' 2 ⟨0,oY (bZ s.out 0 ++ [(p.key,x)])⟩⟩:=λ{nx' objs' x K} hl=> eG hl (y:=p.key) rfl rfl (nN _ _) (by rw [rV,e1]; rfl)
  simp only [simprocAttr,-ZA,↓zU,↓zD,zV,zT,zW,Use.row,hux,huy,h3,hx1 3 (by omega),hx2 3 (by omega),hx1 5 (by omega),hx2 5 (by omega),hx1 4 (by omega),hx2 4 (by omega),hx1 2 (by omega),hx2 2 (by omega),hx1 1 (by omega),hx2 1 (by omega),hx6 1 (by omega),hx6 2 (by omega),hx6 3 (by omega),hx6 4 (by omega),hx6 5 (by omega),he1,he2,he3,he4,he5,hx3,hx7,hx8,h1,h2,hmg2,hms,hpz,xW,δ,h5,h4,hkk,xE,hx4,hx5]
  (repeat refine sd ?_)
  have er:ndR (s.out ++ [p])= ndR s.out ++ [[.int .i64 p.op,.int .i64 p.i,.int .i64 p.e,.int .i64 p.g,.int .i64 p.x,.int .i64 p.y]]:=by simp [ndR,Nd.row]
  rw [pP,er,jX,ζ];simp only [iv,gQ,hux,huy];exact .same
open Rs Fm
theorem VF {f:List Nd} {nx:Nat} {xZ:List (Nat × Ob)} {key:Nat} {s:CS} {i:Nat} {d:D} {σ':St} (hI:bU f nx xZ key s) (hi:i<f.length) (hlen:f.length<=1000) {p:Nd} (hp:f.getD i nd0=p) (hno:vM i s.done=none) (hux:(xV p.op).1.x=true) (huy:(xV p.op).1.y=false)
  {a:Int} {nx1:Nat} {objs1:List (Nat × Ob)} {key1:Nat} {s1:CS}
  (hcall:xY prog 202 [.int .i64 p.x,.ref 5 1 0 0,.ref 0 1 0 0,.ref 6 1 0 0,.ref 3 1 0 0,.ref 1 1 0 0] ⟨nx+1+1,(nx+1,iv (xV p.op).1) :: (nx,gQ p.op p.i p.e p.g p.x p.y) :: xZ⟩ (.int .i64 a) ⟨nx1,objs1⟩)
  (hI1:bU f nx1 objs1 key1 s1) (hN:St.look objs1 nx=some (gQ p.op p.i p.e p.g p.x p.y)) (hU:St.look objs1 (nx+1)= some (iv (xV p.op).1)) (hle:nx+1+1<=nx1) (hke:key1≠nx)
  (h:NT i nx nx1 objs1 key1 s1 ⟨p.op,p.i,p.e,p.g,a,p.y⟩ d σ') :
  xY prog 202 [.int .i64 i,.ref 5 1 0 0,.ref 0 1 0 0,.ref 6 1 0 0,.ref 3 1 0 0,.ref 1 1 0 0] ⟨nx,xZ⟩ d σ':=by
 obtain⟨hn,h0,h1,⟨k1,k2,k3,hkk⟩,hfr,h2,h3,h4,h5,h6⟩:=hI;obtain⟨hn',h0',h1',⟨k1',k2',k3',hkk'⟩,hfr',h2',h3',h4',h5',h6'⟩:=hI1;rcases kH (i:Int) s.done 0 with ⟨q1,q2⟩ | ⟨y,j,q1,q2⟩
 rotate_left
 ·rw [hno] at q1; cases q1
 have hg:=oL f hi;rw [hp] at hg;have hx1:∀ k:Nat,k<7->¬ nx=k:=λk h=>by omega
 have hx2:∀ k:Nat,k<7->¬ nx+1=k:=λk h=>by omega
 have hx3:¬ nx+1=nx:=by omega
 have hx9:¬ nx=nx+1:=by omega
 have hmg:∀ {nx':Nat} {objs':List (Nat × Ob)} {zero:D} {ok:Bool} {K:D->Prop},St.look objs' 2=some ⟨0,oY (bZ s1.out 0)⟩->iE ⟨nx',objs'⟩ 6 zero ok (.zE 2) (.agg [.int .i64 p.op,.int .i64 p.i,.int .i64 p.e,.int .i64 p.g,.int .i64 a,.int .i64 p.y]) K=K (lH ok zero ((iG ⟨p.op,p.i,p.e,p.g,a,p.y⟩ s1.out 0).map λ(j:Nat)=>(j,D.int .i64 (j:Int)))):=λ{nx' objs' zero ok K} hl=>by rw [<- rV ⟨p.op,p.i,p.e,p.g,a,p.y⟩ s1.out 0];exact eD hl (x:=Nd.key ⟨p.op,p.i,p.e,p.g,a,p.y⟩) rfl rfl (nN _ _)
 simp only [gQ] at hN hcall;simp only [iv] at hU hcall;rw [hux,huy] at hU hcall;refine xY.xP mixed func202 NX (by simp) λhf=>?_;simp only [simprocAttr,-ZA,↓zU,↓zD,zV,zT,zW,h5,h4,q2,h0,xE,hg,Nd.row]
 (repeat refine sd ?_)
 refine .go (cq (bF p.op)) ?_;simp only [simprocAttr,-ZA,↓zU,↓zD,zV,zT,zW,Use.row,hux,huy,h6,hx1 6 (by omega),hx2 6 (by omega),hx3]
 (repeat refine sd ?_)
 refine .go hcall ?_
 rcases h with ⟨k,e1,rfl,rfl⟩ | ⟨e1,e2,rfl,rfl⟩
 ·have hmg2:=@hmg;rw [e1] at hmg2;simp only [simprocAttr,-ZA,↓zU,↓zD,zV,zT,zW,hN,hU,h3',h2',hmg2,γ,h5',h4',xW,hx1 3 (by omega),hx1 5 (by omega),hx1 4 (by omega),hx1 2 (by omega),hx1 1 (by omega),hx3,hx9]
  (repeat refine sd ?_)
  rw [pP];simp only [gQ];exact .same
 ·have hmg2:=@hmg;rw [e1] at hmg2;have y1:∀ k:Nat,k<7->¬ key1=k:=λk h=>by omega
  have y2:¬ nx=key1:=λe=>hke e.symm;have y3:∀ k:Nat,k<7->¬ nx1=k:=λk h=>by omega
  have y4:¬ nx1=nx:=by omega
  have z1:∀ k:Nat,k<7->¬ k=nx:=λk h=>by omega
  have z2:∀ k:Nat,k<7->¬ k=nx1:=λk h=>by omega
  have hpz:D.xU [.int .i64 p.op,.int .i64 p.i,.int .i64 p.e,.int .i64 p.g,.int .i64 a,.int .i64 p.y]=true:=by simp [D.xU,D.xL]
  have hms:∀ {nx':Nat} {objs':List (Nat × Ob)} {x:D} {K:D->St->Prop},St.look objs' 2=some ⟨0,oY (bZ s1.out 0)⟩->lC ⟨nx',objs'⟩ 6 (.zE 2) (.agg [.int .i64 p.op,.int .i64 p.i,.int .i64 p.e,.int .i64 p.g,.int .i64 a,.int .i64 p.y]) x K=K .und ⟨nx',vN objs' 2 ⟨0,oY (bZ s1.out 0 ++ [(Nd.key ⟨p.op,p.i,p.e,p.g,a,p.y⟩,x)])⟩⟩:=λ{nx' objs' x K} hl=> eG hl (y:=Nd.key ⟨p.op,p.i,p.e,p.g,a,p.y⟩) rfl rfl (nN _ _) (by rw [rV,e1]; rfl)
  simp only [simprocAttr,-ZA,↓zU,↓zD,zV,zT,zW,hN,hU,h1',h3',h2',hmg2,hms,hpz,δ,γ,h5',h4',hkk',xE,xW,xM,hx1 3 (by omega),hx1 5 (by omega),hx1 4 (by omega),hx1 2 (by omega),hx1 1 (by omega),hx3,hx9,y1 1 (by omega),y1 2 (by omega),y1 3 (by omega),y1 4 (by omega),y1 5 (by omega),y2,hke,y3 1 (by omega),y3 2 (by omega),y3 3 (by omega),y3 4 (by omega),y3 5 (by omega),y4,z1 1 (by omega),z1 2 (by omega),z1 4 (by omega),z2 1 (by omega),z2 2 (by omega),z2 4 (by omega)]
  (repeat refine sd ?_)
  have er:ndR (s1.out ++ [⟨p.op,p.i,p.e,p.g,a,p.y⟩])= ndR s1.out ++ [[.int .i64 p.op,.int .i64 p.i,.int .i64 p.e,.int .i64 p.g,.int .i64 a,.int .i64 p.y]]:=by simp [ndR,Nd.row]
  rw [pP,er,jX,ζ];simp only [gQ];exact .same
open Rs Fm
theorem ZW {f:List Nd} {nx:Nat} {xZ:List (Nat × Ob)} {key:Nat} {s:CS} {i:Nat} {d:D} {σ':St} (hI:bU f nx xZ key s) (hi:i<f.length) (hlen:f.length<=1000) {p:Nd} (hp:f.getD i nd0=p) (hno:vM i s.done=none) (hux:(xV p.op).1.x=true) (huy:(xV p.op).1.y=true)
  {a:Int} {nx1:Nat} {objs1:List (Nat × Ob)} {key1:Nat} {s1:CS}
  (hcall:xY prog 202 [.int .i64 p.x,.ref 5 1 0 0,.ref 0 1 0 0,.ref 6 1 0 0,.ref 3 1 0 0,.ref 1 1 0 0] ⟨nx+1+1,(nx+1,iv (xV p.op).1) :: (nx,gQ p.op p.i p.e p.g p.x p.y) :: xZ⟩ (.int .i64 a) ⟨nx1,objs1⟩)
  (hI1:bU f nx1 objs1 key1 s1) (hN:St.look objs1 nx=some (gQ p.op p.i p.e p.g p.x p.y)) (hU:St.look objs1 (nx+1)= some (iv (xV p.op).1))
  {b:Int} {nx2:Nat} {objs2:List (Nat × Ob)} {key2:Nat} {s2:CS}
  (hcall2:xY prog 202 [.int .i64 p.y,.ref 5 1 0 0,.ref 0 1 0 0,.ref 6 1 0 0,.ref 3 1 0 0,.ref 1 1 0 0] ⟨nx1,vN objs1 nx (gQ p.op p.i p.e p.g a p.y)⟩ (.int .i64 b) ⟨nx2,objs2⟩)
  (hI2:bU f nx2 objs2 key2 s2) (hN2:St.look objs2 nx=some (gQ p.op p.i p.e p.g a p.y)) (hle:nx+1+1<=nx2) (hke:key2≠nx)
  (h:NT i nx nx2 objs2 key2 s2 ⟨p.op,p.i,p.e,p.g,a,b⟩ d σ') :
  xY prog 202 [.int .i64 i,.ref 5 1 0 0,.ref 0 1 0 0,.ref 6 1 0 0,.ref 3 1 0 0,.ref 1 1 0 0] ⟨nx,xZ⟩ d σ':=by
 obtain⟨hn,h0,h1,⟨k1,k2,k3,hkk⟩,hfr,h2,h3,h4,h5,h6⟩:=hI;have h61:=hI1.h6;obtain⟨hn',h0',h1',⟨k1',k2',k3',hkk'⟩,hfr',h2',h3',h4',h5',h6'⟩:=hI2;rcases kH (i:Int) s.done 0 with ⟨q1,q2⟩ | ⟨y,j,q1,q2⟩
 rotate_left
 ·rw [hno] at q1; cases q1
 have hg:=oL f hi;rw [hp] at hg;have hx1:∀ k:Nat,k<7->¬ nx=k:=λk h=>by omega
 have hx2:∀ k:Nat,k<7->¬ nx+1=k:=λk h=>by omega
 have hx3:¬ nx+1=nx:=by omega
 have hx9:¬ nx=nx+1:=by omega
 have hmg:∀ {nx':Nat} {objs':List (Nat × Ob)} {zero:D} {ok:Bool} {K:D->Prop},St.look objs' 2=some ⟨0,oY (bZ s2.out 0)⟩->iE ⟨nx',objs'⟩ 6 zero ok (.zE 2) (.agg [.int .i64 p.op,.int .i64 p.i,.int .i64 p.e,.int .i64 p.g,.int .i64 a,.int .i64 b]) K=K (lH ok zero ((iG ⟨p.op,p.i,p.e,p.g,a,b⟩ s2.out 0).map λ(j:Nat)=>(j,D.int .i64 (j:Int)))):=λ{nx' objs' zero ok K} hl=>by rw [<- rV ⟨p.op,p.i,p.e,p.g,a,b⟩ s2.out 0];exact eD hl (x:=Nd.key ⟨p.op,p.i,p.e,p.g,a,b⟩) rfl rfl (nN _ _)
 simp only [gQ] at hN hcall hcall2 hN2;simp only [iv] at hU hcall;rw [hux,huy] at hU hcall;refine xY.xP mixed func202 NX (by simp) λhf=>?_;simp only [simprocAttr,-ZA,↓zU,↓zD,zV,zT,zW,h5,h4,q2,h0,xE,hg,Nd.row]
 (repeat refine sd ?_)
 refine .go (cq (bF p.op)) ?_;simp only [simprocAttr,-ZA,↓zU,↓zD,zV,zT,zW,Use.row,hux,huy,h6,hx1 6 (by omega),hx2 6 (by omega),hx3]
 (repeat refine sd ?_)
 refine .go hcall ?_;simp only [simprocAttr,-ZA,↓zU,↓zD,zV,zT,zW,hN,hU,h61,xW,hx1 6 (by omega),hx3,hx9,γ]
 (repeat refine sd ?_)
 refine .go hcall2 ?_
 rcases h with ⟨k,e1,rfl,rfl⟩ | ⟨e1,e2,rfl,rfl⟩
 ·have hmg2:=@hmg;rw [e1] at hmg2;simp only [simprocAttr,-ZA,↓zU,↓zD,zV,zT,zW,hN2,h3',h2',hmg2,γ,h5',h4',xW,hx1 3 (by omega),hx1 5 (by omega),hx1 4 (by omega),hx1 2 (by omega),hx1 1 (by omega),hx3,hx9]
  (repeat refine sd ?_)
  rw [pP];simp only [gQ];exact .same
 ·have hmg2:=@hmg;rw [e1] at hmg2;have y1:∀ k:Nat,k<7->¬ key2=k:=λk h=>by omega
  have y2:¬ nx=key2:=λe=>hke e.symm;have y3:∀ k:Nat,k<7->¬ nx2=k:=λk h=>by omega
  have y4:¬ nx2=nx:=by omega
  have z1:∀ k:Nat,k<7->¬ k=nx:=λk h=>by omega
  have z2:∀ k:Nat,k<7->¬ k=nx2:=λk h=>by omega
  have hpz:D.xU [.int .i64 p.op,.int .i64 p.i,.int .i64 p.e,.int .i64 p.g,.int .i64 a,.int .i64 b]=true:=by simp [D.xU,D.xL]
  have hms:∀ {nx':Nat} {objs':List (Nat × Ob)} {x:D} {K:D->St->Prop},St.look objs' 2=some ⟨0,oY (bZ s2.out 0)⟩->lC ⟨nx',objs'⟩ 6 (.zE 2) (.agg [.int .i64 p.op,.int .i64 p.i,.int .i64 p.e,.int .i64 p.g,.int .i64 a,.int .i64 b]) x K=K .und ⟨nx',vN objs' 2 ⟨0,oY (bZ s2.out 0 ++ [(Nd.key ⟨p.op,p.i,p.e,p.g,a,b⟩,x)])⟩⟩:=λ{nx' objs' x K} hl=> eG hl (y:=Nd.key ⟨p.op,p.i,p.e,p.g,a,b⟩) rfl rfl (nN _ _) (by rw [rV,e1]; rfl)
  simp only [simprocAttr,-ZA,↓zU,↓zD,zV,zT,zW,hN2,h1',h3',h2',hmg2,hms,hpz,δ,γ,h5',h4',hkk',xE,xW,xM,hx1 3 (by omega),hx1 5 (by omega),hx1 4 (by omega),hx1 2 (by omega),hx1 1 (by omega),hx3,hx9,y1 1 (by omega),y1 2 (by omega),y1 3 (by omega),y1 4 (by omega),y1 5 (by omega),y2,hke,y3 1 (by omega),y3 2 (by omega),y3 3 (by omega),y3 4 (by omega),y3 5 (by omega),y4,z1 1 (by omega),z1 2 (by omega),z1 4 (by omega),z2 1 (by omega),z2 2 (by omega),z2 4 (by omega)]
  (repeat refine sd ?_)
  have er:ndR (s2.out ++ [⟨p.op,p.i,p.e,p.g,a,b⟩])= ndR s2.out ++ [[.int .i64 p.op,.int .i64 p.i,.int .i64 p.e,.int .i64 p.g,.int .i64 a,.int .i64 b]]:=by simp [ndR,Nd.row]
  rw [pP,er,jX,ζ];simp only [gQ];exact .same
end Go.Pd
