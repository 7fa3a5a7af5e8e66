/- Part X9. -/
import Derived.Test.YtndfaefmmcoapaaGreatGeXS
import Derived.Test.YtndfaefmmcoapaaGreatGeCode
set_option linter.unusedSectionVars false
set_option linter.unusedVariables false
set_option linter.unusedSimpArgs false
set_option linter.defProp false
set_option maxRecDepth 20000
set_option maxHeartbeats 1000000
open Go.Proofs.Tryz
open Option renaming map_some->γ,map_none->δ
open List renaming mem_map->ε,filter_cons->ζ,mem_cons->η,mem_singleton->θ,length_append->κ
open Nat renaming le_refl->μ,zero_add->ν
open Int renaming eq_ofNat_of_zero_le->ξ,toNat_of_nonneg->ο,toNat_natCast->π
namespace Go.Pd
open Go Go.Proofs
theorem TC {n:Nat} (hn:n<=61):kg .i64 1 (n:Int)= ((2 ^ n:Nat):Int):=tj (by omega)
theorem Sn {n:Nat} (hn:n<=1000000):IntKind.u64.wrap (n:Int)= (n:Int):=wrap_u64 (by omega)
theorem Rm {k:Nat} (h:k<18446744073709551616):ui (BitVec.ofNat 64 k)= (k:Int):=by unfold ui; rw [BitVec.toNat_ofNat,Nat.mod_eq_of_lt h]
theorem yE {α:Type} {l:List α} {k:Nat} {d:α} (h:k<l.length):l.take (k+1)= l.take k ++ [l.getD k d]:=by rw [List.take_add_one]; simp [List.getD,h]
theorem drop_cons {α:Type} {l:List α} {k:Nat} {d:α} (h:k<l.length):l.drop k=l.getD k d :: l.drop (k+1):=by simp [List.getD,h]
theorem xK {α:Type} {l:List α} {k:Nat} {d:α} (h:k<l.length):l.getD k d ∈ l:=by simp [List.getD,h]
theorem xf {α:Type} {l:List α} {k:Nat} (h:k=l.length):l.take k=l:=by rw [h,List.take_length]
theorem MK (x y:Int):(if x<y then y else x)= max x y:=by rw [Int.max_def]; split <;> split <;> omega
theorem RU (k:IntKind) (l:List Int) (i:Nat) (n:Int):(rows k l).set i [.int k n]=rows k (l.set i n):=by simp [rows,List.map_set]
variable [tP]
theorem xQ.Kc {P:Program} {g:FuncId} {args:List D} {σ:St} {sz len:Nat} {xW:List (List D)} (hc:xQ P g args jR (.yD 0 sz len) ⟨1,[(0,⟨sz,xW⟩)]⟩) (hp:D.xR args=true) (he:∀ e ∈ xW,D.xR e=true) :
  xQ P g args σ (.yD σ.nx sz len) ⟨σ.nx+1,(σ.nx,⟨sz,xW⟩) :: σ.xZ⟩:=by
 have h:=xQ.own (σ:=σ) hc hp;simpa [yH,Ob.shift,nF _ he,D.shift] using h
theorem XP {key m n sz len:Nat} {xW:List (List D)} (hs:0<sz) (hp:∀ e ∈ xW,D.xR e=true) (hl:len=xW.length) {ρ:Nat->Nat} {r:List (Nat × Ob)}:vw ⟨m,(key,⟨sz,xW⟩) :: r⟩ ⟨n,[]⟩ ρ (.yD key sz len) (.sl sz xW):=by subst hl;simp only [vw];exact⟨trivial,hs,by simp,⟨sz,xW⟩,by simp [St.get,St.look],rfl,μ _,by simp,hp⟩
theorem js {key m n sz len:Nat} {xW els':List (List D)} (hs:0<sz) (hp:∀ e ∈ els',D.xR e=true) (hl:len<=xW.length) (he:xW.take len=els') {ρ:Nat->Nat} {r:List (Nat × Ob)}:vw ⟨m,(key,⟨sz,xW⟩) :: r⟩ ⟨n,[]⟩ ρ (.yD key sz len) (.sl sz els'):=by subst he;simp only [vw];exact⟨trivial,hs,by simp,⟨sz,xW⟩,by simp [St.get,St.look],rfl,hl,rfl,hp⟩
theorem xQ.ret {P:Program} {g:FuncId} {args:List D} {σ σ1 σ':St} {d1 d:D} (hc:xQ P g args σ d1 σ1) (hr:sH σ.nx σ1 d1 σ' d):xQ P g args σ d σ':=by
 refine⟨hc.ord,λM0 w ι vals hS hl hv=>(hc.run M0 w ι vals hS hl hv).mono λe w' hh=>?_⟩;obtain⟨v,ι1,he,kept,mL,nx,stay,qK,hR⟩:=hh
 rcases hr with ⟨rfl,rfl⟩ | ⟨ρ,r1,r2,r3,r4,r5⟩
 ·exact⟨v,ι1,he,kept,mL,nx,stay,qK,hR⟩
 ·have hlive:∀ p ∈ σ'.xZ,∃ ob,σ1.get (ρ p.1)= some ob:=λp hp=>by obtain⟨_,ob,h,_⟩:=r4 p hp;exact⟨ob,h⟩
  refine⟨v,λk=>ι1 (ρ k),he,kept,mL.view r4 r5,r1,λk hk=>?_,λk o hk=>?_,jG mL hlive _ _ hR r3⟩
  ·show ι1 (ρ k)= ι k;rw [r2 k hk]; exact stay k hk
  ·obtain⟨ob,h⟩:=hlive _ (vH hk);exact qK _ _ h
theorem eQ {k s:Nat} {xW:List (List D)} (h:xW ≠ []):xB k s xW = .yD k s xW.length:=by cases xW with
 | nil=>exact absurd rfl h
 | cons e r=>rfl
theorem lN {k s:Nat} {xW:List (List D)} (h:xW ≠ []):yX k s xW = [(k,⟨s,xW⟩)]:=by cases xW with
 | nil=>exact absurd rfl h
 | cons e r=>rfl
def rl (ll:List (List Int)):List (List D):=ll.map λl=>[.sl 1 (rows .i64 l)]
theorem sG (l:List (List Int)):(rl l).length=l.length:=by simp [rl]
theorem zm (l:List (List Int)) {i:Nat} (h:i<l.length):(rl l).getD i [] = [.sl 1 (rows .i64 (l.getD i []))]:=by simp [rl,List.getD,h]
theorem Vm (l:List (List Int)) (r:List Int):rl l ++ [[.sl 1 (rows .i64 r)]]=rl (l ++ [r]):=by simp [rl]
theorem MT : rl [] = []:=rfl
theorem P2 (l:List (List Int)):∀ e ∈ rl l,D.xR e=true:=by intro e he;simp only [rl,ε] at he;obtain⟨r,_,rfl⟩:=he;have h:∀ e ∈ rows .i64 r,D.xR e=true:=qS _ r;have:(rows .i64 r).all D.xR=true:=List.all_eq_true.2 h;simp [D.xR,D.xF,this]
theorem qF (l:List (List Int)):rP (rl l):=P2 l
theorem xQ.SZ {P:Program} {g:FuncId} {fn:Func} {own:List Nat} {N:Nat} {dc:DC} {rs:List bF} {args:List D} {σ:St} {d:D} {σ':St} (hm:P.follows .mixedOrders=true) (hf:P.funcs[g]?=some fn)
  (hc:xS P own fn=some (N,dc,rs)) (hla:args.length<=N)
  (h:D.sR args->wpS ⟨P,N,σ.nx,own,none⟩ dc (fX 0 args) σ (iy ⟨P,N,σ.nx,own,none⟩ rs d σ')):xQ P g args σ d σ':=by
 unfold xS at hc
 split at hc
 ·cases hc
 ·rename_i c hb
  split at hc
  ·cases hc
  ·rename_i hname
   split at hc
   ·rename_i dc' rs' h1 h2;simp at hc;obtain⟨rfl,rfl,rfl⟩:=hc;refine xQ.facts ⟨fn,hf,by simpa using hname,by rw [hb]; rfl⟩ λhfa=>?_;exact xQ.Vg hm hf hb (by simpa using hname) h1 h2 hla (h hfa)
   ·cases hc
theorem tp {C} {x y:DC} {f σ Q} (f0:Fr) (σ0:St) (h:wpS C x f σ (jM (λf' σ'=>yR C f' σ' f0 σ0) Q)) (h2:wpS C y f0 σ0 Q):wpS C (.seq x y) f σ Q:= wpS_seq (Rr h λe f' σ' hq=>by cases e with | normal=>exact Rz hq h2 | _=>exact hq)
section
variable [tP]
end
section
variable [tP]
mutual
/-- All objects that a datum names are below n. -/
def D.under (n:Nat):D->Prop
 | .ref k _ _ _=>k<n
 | .yD k _ _=>k<n
 | .sub k _ _ _=>k<n
 | .wA k=>k<n
 | .agg cs=>D.mX n cs
 | .wF cs=>D.mX n cs
 | .fn _ cs=>D.mX n cs
 | _=>True
def D.mX (n:Nat):List D->Prop
 | []=>True
 | d :: r=>d.under n/\D.mX n r
end
theorem pO {n:Nat}:∀ {cs:List D},(∀ j,j<cs.length->(cs.getD j .top).under n)->D.mX n cs
 | [],_=>by simp only [D.mX]
 | d :: r,h=>by simp only [D.mX];exact⟨by simpa using h 0 (by simp),pO λj hj=>by simpa using h (j+1) (by simpa using hj)⟩
theorem RP.under {M:Nat->Prop} {w:World} {n:Nat} {v:Value} {d:D} (h:RP M w v d):d.under n:=by
 induction h with
 | agg _ _ ih=>simp only [D.under]; exact pO ih
 | wF _ _ ih=>simp only [D.under]; exact pO ih
 | fn _ _ ih=>simp only [D.under]; exact pO ih
 | _=>simp only [D.under]
theorem R.under {M:Nat->Prop} {w:World} {ι:Nat->Nat} {n:Nat} {v:Value} {d:D} (h:R M w ι n v d):d.under n:=by
 induction h with
 | pure h=>exact h.under
 | ref hk _=>simp only [D.under]; exact hk
 | yD hk _ _ _ _=>simp only [D.under]; exact hk
 | sub hk _ _ _ _=>simp only [D.under]; exact hk
 | wA hk=>simp only [D.under]; exact hk
 | agg _ _ ih=>simp only [D.under]; exact pO ih
 | wF _ _ ih=>simp only [D.under]; exact pO ih
 | fn _ _ ih=>simp only [D.under]; exact pO ih
def se (σ:St):Prop:=∀ k o,σ.get k=some o->k<σ.nx/\∀ e ∈ o.xW,D.mX σ.nx e
theorem wI.under {M0:Nat->Prop} {w:World} {σ:St} {ι:Nat->Nat} (h:wI M0 w σ ι):se σ:=by
 intro k o hk;obtain⟨h1,h2⟩:=h.holds k o hk;refine⟨h1,λe he=>?_⟩;obtain⟨i,hi,rfl⟩:=List.getElem_of_mem he;have e2:o.xW.getD i []=o.xW[i]:=by simp [List.getD,hi]
 rcases h2 with ⟨_,cur,_,_,c2,_,c4⟩ | ⟨_,es,_,_,c3⟩
 ·have hl:=c2 _ (List.getElem_mem hi);refine pO λj hj=>?_;have:=(c4 i hi j (by omega)).2.under;rw [e2] at this;exact this
 ·obtain⟨kv,v,x,d,r1,_,r3,r4⟩:=c3 i hi;rw [e2] at r1;rw [r1];simp only [D.mX];exact⟨r3.under,r4.under,trivial⟩
theorem xQ.aw {P:Program} {g:FuncId} {args:List D} {σ:St} {d:D} {σ':St} (ho:oR P g) (h:se σ->xQ P g args σ d σ'):xQ P g args σ d σ':=⟨ho,λM0 w ι vals hS hl hv=>(h hS.under).run M0 w ι vals hS hl hv⟩
mutual
theorem PK {σ σ':St}:∀ {d:D},d.under σ'.nx->vw σ σ' (λk=>k) d d
 | .top,_=>by simp only [vw]
 | .rJ,_=>by simp only [vw]
 | .int _ _,_=>by simp only [vw]
 | .bool _,_=>by simp only [vw]
 | .str _,_=>by simp only [vw]
 | .sl _ _,_=>by simp only [vw]; exact⟨trivial,trivial⟩
 | .xL,_=>by simp only [vw]
 | .emp,_=>by simp only [vw]
 | .agg cs,h=>by simp only [vw]; simp only [D.under] at h; exact⟨trivial,eZ h⟩
 | .wF cs,h=>by simp only [vw]; simp only [D.under] at h; exact⟨trivial,eZ h⟩
 | .fn _ cs,h=>by simp only [vw]; simp only [D.under] at h; exact⟨trivial,trivial,eZ h⟩
 | .ref _ _ _ _,h=>by simp only [vw]; simp only [D.under] at h; exact⟨h,trivial⟩
 | .yD _ _ _,h=>by simp only [vw]; simp only [D.under] at h; exact⟨h,trivial⟩
 | .sub _ _ _ _,h=>by simp only [vw]; simp only [D.under] at h; exact⟨h,trivial⟩
 | .ptr _,_=>by simp [vw]
 | .wA _,h=>by simp only [vw]; simp only [D.under] at h; exact⟨h,trivial⟩
 | .qM,_=>by simp only [vw]
 | .oH,_=>by simp only [vw]
 | .mC,_=>by simp only [vw]
 | .l5 _,_=>by simp only [vw]
theorem eZ {σ σ':St}:∀ {cs:List D},D.mX σ'.nx cs->vC σ σ' (λk=>k) cs cs
 | [],_=>by simp only [vC]
 | d :: r,h=>by simp only [vC]; simp only [D.mX] at h; exact⟨PK h.1,eZ h.2⟩
end
theorem Xt {σ σ':St}:∀ {xW:List (List D)},(∀ e ∈ xW,D.mX σ'.nx e)->TK σ σ' (λk=>k) xW xW
 | [],_=>.nil
 | e :: r,h=>.cons rfl (eZ (h e (by simp))) (Xt λx hx=>h x (List.mem_cons_of_mem _ hx))
def Pj : List (Nat × Ob)->List (Nat × Ob)
 | []=>[]
 | (k,o) :: r=>(k,o) :: (Pj r).filter λp=>p.1 != k
theorem eH {k k':Nat} (h:¬ k'=k):∀ l:List (Nat × Ob),St.look (l.filter λp=>p.1 != k) k'=St.look l k'
 | []=>rfl
 | (j,o) :: r=>by
  rw [ζ]
  by_cases e:j=k
  ·rw [if_neg (by simp [e]),eH h r,xX,if_neg (by omega)]
  ·rw [if_pos (by simpa using e),xX,xX,eH h r]
theorem Yw (k:Nat):∀ l:List (Nat × Ob),St.look (Pj l) k=St.look l k
 | []=>rfl
 | (j,o) :: r=>by
  unfold Pj;rw [xX,xX]
  by_cases e:j=k
  ·rw [if_pos e,if_pos e]
  ·rw [if_neg e,if_neg e,eH (λh=>e h.symm),Yw k r]
theorem VP : ∀ {l:List (Nat × Ob)} {p:Nat × Ob},p ∈ Pj l->St.look l p.1=some p.2
 | [],p,h=>by cases h
 | (j,o) :: r,p,h=>by
  unfold Pj at h;rw [xX]
  rcases η.1 h with e | e
  ·rw [e,if_pos rfl]
  ·rw [List.mem_filter] at e;have hne:¬ j=p.1:=λh=>by have:=e.2; simp [h] at this
   rw [if_neg hne];exact VP e.1
theorem xQ.clean {P:Program} {g:FuncId} {args:List D} {σ:St} {d:D} {nx:Nat} {xZ:List (Nat × Ob)} (h:xQ P g args σ d ⟨nx,Pj xZ⟩):xQ P g args σ d ⟨nx,xZ⟩:=by
 refine⟨h.ord,λM0 w ι vals hS hl hv=>(h.run M0 w ι vals hS hl hv).mono λe w' hh=>?_⟩;obtain⟨v,ι',h1,h2,h3,h4,h5,h6,h7⟩:=hh;have hg:∀ k,St.get ⟨nx,xZ⟩ k=St.get ⟨nx,Pj xZ⟩ k:=λk=>(Yw k xZ).symm
 have hM:zY M0 ι' ⟨nx,xZ⟩= zY M0 ι' ⟨nx,Pj xZ⟩:=by funext b;unfold zY;simp only [hg]
 refine⟨v,ι',h1,h2,⟨h3.oJ,λk o hk=>?_,λk k' o o' a b=>?_,λk o hk=>?_,?_⟩,h4,h5,λk o hk=>h6 k o (by rw [<- hg]; exact hk),by rw [hM]; exact h7⟩
 ·rw [hM]; exact h3.holds k o (by rw [<- hg]; exact hk)
 ·exact h3.inj k k' o o' (by rw [<- hg]; exact a) (by rw [<- hg]; exact b)
 ·exact h3.notM k o (by rw [<- hg]; exact hk)
 ·rw [hM]; exact h3.nR
theorem sH.gone {n0:Nat} {xZ:List (Nat × Ob)} {σ1:St} {d1 d:D} (hu:se ⟨n0,xZ⟩) (hk:∀ k o,St.look xZ k=some o->σ1.get k=some o) (hd:vw σ1 ⟨n0,Pj xZ⟩ (λk=>k) d1 d):sH n0 σ1 d1 ⟨n0,Pj xZ⟩ d:=
 .inr ⟨λk=>k,μ _,λ_ _=>rfl,hd,λp hp=>by have h:=VP hp;obtain⟨h1,h2⟩:=hu p.1 p.2 h;exact⟨h1,p.2,hk _ _ h,rfl,Xt h2⟩,λp _ q _ e=>e⟩
end
theorem mixed : prog.follows .mixedOrders=true:=by kernel_rfl
instance : tP := ⟨[]⟩
theorem xI {g:FuncId} {fn:Func} {own:List Nat} {N:Nat} {dc:DC} {rs:List bF} {args:List D} {σ:St} {d:D} {σ':St} (hf:prog.funcs[g]?=some fn) (hc:xS prog own fn=some (N,dc,rs))
  (h:D.sR args->lf ⟨prog,N,σ.nx,own,none⟩ dc (iy ⟨prog,N,σ.nx,own,none⟩ rs d σ') (fX 0 args) σ) (hla:args.length<=N:=by simp):xQ prog g args σ d σ':=xQ.KO mixed hf hc hla h
theorem kA (v w:Nat) (hw:w<=60):bl .i64 (v:Int) (w:Int)= ((v / 2 ^ w:Nat):Int):=by
 unfold bl
 have e:min (w:Int).toNat IntKind.i64.bits=w:=by have:IntKind.i64.bits=64:=rfl;rw [this,π]; omega
 rw [e,Int.fdiv_eq_ediv_of_nonneg _ (by have:(0:Int)<2 ^ w:=Int.pow_pos (by decide); omega)];simp
theorem Nj {a:Nat} (h:a<2 ^ 62):sW .and .i64 (a:Int) 1=((a % 2:Nat):Int):=by show IntKind.i64.wrap ((BitVec.ofInt 64 (a:Int)&&& BitVec.ofInt 64 1).toNat:Int)= _;rw [BitVec.ofInt_natCast,BitVec.toNat_and,BitVec.toNat_ofNat,Nat.mod_eq_of_lt (by omega)];have:(BitVec.ofInt 64 1).toNat=1:=rfl;rw [this,Nat.and_one_is_mod];exact wrap_i64 (by omega)
theorem W2 (a:Nat):((a:Int)).tmod 2=((a % 2:Nat):Int):=by rw [Int.tmod_eq_emod_of_nonneg (by omega)]; omega
theorem ah (v w:Nat):(((v / 2 ^ w % 2:Nat):Int)== 1)= v.testBit w:=by rw [Nat.testBit_eq_decide_div_mod_eq,Bool.eq_iff_iff,beq_iff_eq,decide_eq_true_iff]; omega
namespace Rs
theorem XM : ∀ (n:Nat) (l:List Nat),l.Nodup->(∀ x ∈ l,x<n)->l.length<=n
 | 0,[],_,_=>μ _
 | 0,x :: l,_,h=>by have:=h x (by simp); omega
 | n + 1,l,hn,h=>by
  have h1:=XM n (l.filter λx=>x != n) (hn.filter _) λx hx=>by
   rw [List.mem_filter] at hx;have:=h x hx.1;have:x≠n:=by simpa using hx.2
   omega
  have h2:l.length<=(l.filter λx=>x != n).length+1:=by
   clear h1
   induction l with
   | nil=>simp
   | cons y l ih=>
    rw [List.nodup_cons] at hn
    by_cases e:y=n
    ·subst e
     have:l.filter (λx=>x != y)= l:=List.filter_eq_self.2 λx hx=>by have:x≠y:=λe=>hn.1 (e ▸ hx);simpa using this
     rw [ζ,if_neg (by simp),this]; simp
    ·rw [ζ,if_pos (by simpa using e)];have:=ih hn.2 λx hx=>h x (by simp [hx]);simp; omega
  omega
def mo (u:List (Int × Int)):List (Int × D):=u.map λp=>(p.1,.int .i64 p.2)
def vX (x:Int):List (Int × Int)->Option Int
 | []=>none
 | (k,y) :: r=>if x=k then some y else vX x r
theorem eJ (x:Int):∀ (u:List (Int × Int)) (i:Nat),(vX x u=none/\qH x (mo u) i=none)\/∃ y j,vX x u=some y/\qH x (mo u) i=some (j,.int .i64 y)
 | [],i=>.inl ⟨rfl,rfl⟩
 | (k,y) :: r,i=>by
  show (vX x ((k,y) :: r)= none/\qH x ((k,.int .i64 y) :: mo r) i=none)\/∃ y' j,vX x ((k,y) :: r)= some y'/\qH x ((k,.int .i64 y) :: mo r) i=some (j,.int .i64 y');unfold vX qH
  by_cases h:x=k
  ·rw [if_pos h,if_pos h]; exact .inr ⟨y,i,rfl,rfl⟩
  ·rw [if_neg h,if_neg h]; exact eJ x r (i+1)
theorem aT {nx n key sz:Nat} {xZ:List (Nat × Ob)} {xW:List (List D)} (hs:0<sz) (hp:∀ e ∈ xW,D.xR e=true) (h:St.look xZ key=vA sz xW) {ρ:Nat->Nat}:vw ⟨nx,xZ⟩ ⟨n,[]⟩ ρ (xB key sz xW) (.sl sz xW):=by
 cases xW with
 | nil=>simp [xB,vw]
 | cons e t=> simp only [xB,vw];exact⟨trivial,hs,by simp,⟨sz,e :: t⟩,h,rfl,μ _,by simp,hp⟩
end Rs
end Go.Pd

/- Part F4. -/
namespace Go.Pd
open Go Go.Proofs
open BitVec renaming isValue -> ZA
open Rs
namespace Fm
structure ry where
 x:Bool
 y:Bool
 fa:Bool
 ag:Bool
 gr:Bool
 ev:Bool
 fr:Int
def ry.row (u:ry):List D:=[.bool u.x,.bool u.y,.bool u.fa,.bool u.ag,.bool u.gr,.bool u.ev,.int .i64 u.fr]
def rB : ry:=⟨false,false,false,false,false,false,0⟩
def xY (op:Int):ry × Bool:=
 if op<1\/21<op then(rB,false) else if op<=2 then(rB,true) else if op=3 then(⟨false,false,true,false,false,false,0⟩,true) else if op=4 then(⟨true,false,false,false,false,false,0⟩,true)
 else if op<=8 then(⟨true,true,false,false,false,false,0⟩,true) else if op<=10 then(⟨true,false,false,true,false,false,1⟩,true) else if op=11 then(⟨true,false,false,false,true,false,2⟩,true)
 else if op=12 then(⟨true,false,false,false,true,false,4⟩,true) else if op=13 then(⟨true,true,false,false,true,false,8⟩,true) else if op=14 then(⟨true,true,false,true,false,false,16⟩,true)
 else if op=15 then(⟨true,false,false,true,false,false,32⟩,true) else if op=16 then(⟨true,true,false,false,false,false,64⟩,true) else if op=17 then(⟨true,false,false,false,false,true,128⟩,true)
 else if op=18\/op=20 then(⟨true,false,false,false,false,false,256⟩,true) else(⟨true,true,false,false,false,false,256⟩,true)
end Fm
open Fm
theorem zn (op:Int):xA prog 141 [.int .i64 op] (.wF [.agg (xY op).1.row,.bool (xY op).2]):=by
 have hc:op=1\/op=2\/op=3\/op=4\/op=5\/op=6\/op=7\/op=8\/op=9\/op=10\/op=11\/op=12\/op=13\/op=14\/op=15\/op=16\/op=17\/op=18\/op=19\/op=20\/op=21\/(op<1\/21<op):=by omega
 rcases hc with rfl | rfl | rfl | rfl | rfl | rfl | rfl | rfl | rfl | rfl | rfl | rfl | rfl | rfl | rfl | rfl | rfl | rfl | rfl | rfl | rfl | hc
 rotate_right
 ·have e:∀ i:Int,1<=i->i<=21->(op==i)= false:=λi h1 h2=>by simp; omega
  refine xI func141 L4 λhf=>?_;simp only [simprocAttr,-ZA,↓zU,↓zD,zV,zT,zW,e 1 (by omega) (by omega),e 2 (by omega) (by omega),e 3 (by omega) (by omega),e 4 (by omega) (by omega),e 5 (by omega) (by omega),e 6 (by omega) (by omega),e 7 (by omega) (by omega),e 8 (by omega) (by omega),e 9 (by omega) (by omega),e 10 (by omega) (by omega),e 11 (by omega) (by omega),e 12 (by omega) (by omega),e 13 (by omega) (by omega),e 14 (by omega) (by omega),e 15 (by omega) (by omega),e 16 (by omega) (by omega),e 17 (by omega) (by omega),e 18 (by omega) (by omega),e 19 (by omega) (by omega),e 20 (by omega) (by omega),e 21 (by omega) (by omega)];rw [show xY op=(rB,false) from if_pos hc];exact .drop (by simp) (by simp [vw,vC,ry.row,rB])
 all_goals
  refine xI func141 L4 λhf=>?_;refine xJ ?_;exact .drop (by simp) (by simp [vw,vC,xY,ry.row,rB])
open Rs Fm
namespace Fm
structure Nd where
 op:Int
 i:Int
 e:Int
 g:Int
 x:Int
 y:Int
 deriving DecidableEq
def Nd.row (p:Nd):List D:=[.int .i64 p.op,.int .i64 p.i,.int .i64 p.e,.int .i64 p.g,.int .i64 p.x,.int .i64 p.y]
def yQ (u:Bool) (f at_:Int):Bool:=if u=true then decide (0<=f)&& decide (f<at_) else decide (f=0)
def xG (u:Bool) (v lo hi:Int):Bool:=u&&(decide (v<lo) || decide (hi<v))
def zP (p:Nd) (k:Int):Int:=
 if (xY p.op).2=false then 10 else
 if (yQ (xY p.op).1.x p.x k&&yQ (xY p.op).1.y p.y k)= false then 3 else
 if ((!((xY p.op).1.fa || (xY p.op).1.ag || (xY p.op).1.ev)&& decide (p.i≠0)) || (!(xY p.op).1.ev&&decide (p.e≠0)) || (!(xY p.op).1.gr&&decide (p.g≠0)))= true then 3 else
 if (xG (xY p.op).1.fa p.i 0 7 || xG (xY p.op).1.ag p.i 0 3 || xG (xY p.op).1.ev p.i 0 7 || xG (xY p.op).1.ev p.e 0 7 || xG (xY p.op).1.gr p.g 1 15)= true then 2 else 0
theorem aX (op:Int):((xY op).1.fa=false/\(xY op).1.ag=false/\(xY op).1.gr=false/\(xY op).1.ev=false)\/((xY op).1.fa=true/\(xY op).1.ag=false/\(xY op).1.gr=false/\(xY op).1.ev=false) \/
  ((xY op).1.fa=false/\(xY op).1.ag=true/\(xY op).1.gr=false/\(xY op).1.ev=false)\/((xY op).1.fa=false/\(xY op).1.ag=false/\(xY op).1.gr=true/\(xY op).1.ev=false)\/((xY op).1.fa=false/\(xY op).1.ag=false/\(xY op).1.gr=false/\(xY op).1.ev=true):=by
 have hc:op=1\/op=2\/op=3\/op=4\/op=5\/op=6\/op=7\/op=8\/op=9\/op=10\/op=11\/op=12\/op=13\/op=14\/op=15\/op=16\/op=17\/op=18\/op=19\/op=20\/op=21\/(op<1\/21<op):=by omega
 rcases hc with rfl | rfl | rfl | rfl | rfl | rfl | rfl | rfl | rfl | rfl | rfl | rfl | rfl | rfl | rfl | rfl | rfl | rfl | rfl | rfl | rfl | hc
 rotate_right
 ·rw [show xY op=(rB,false) from if_pos hc]; exact .inl ⟨rfl,rfl,rfl,rfl⟩
 all_goals simp [xY,rB]
end Fm
theorem gl (u:Bool) (f k:Int):xA prog 200 [.bool u,.int .i64 f,.int .i64 k] (.bool (yQ u f k)):=by
 refine xI func200 JD λhf=>?_
 cases u
 ·refine xJ ?_
  by_cases h:f=0
  ·have e:(f==0)= true:=by simpa using h
   exact .drop (by simp) (by simp [vw,yQ,e,h])
  ·have e:(f==0)= false:=by simpa using h
   exact .drop (by simp) (by simp [vw,yQ,e,h])
 ·by_cases h1:0<=f
  ·by_cases h2:f<k
   ·refine yO h1 h2 ?_;exact .drop (by simp) (by simp [vw,yQ,h1,h2])
   ·refine yO h1 h2 ?_;exact .drop (by simp) (by simp [vw,yQ,h1,h2])
  ·refine xH h1 ?_;exact .drop (by simp) (by simp [vw,yQ,h1])
theorem zM (u:Bool) (v lo hi:Int):xA prog 201 [.bool u,.int .i64 v,.int .i64 lo,.int .i64 hi] (.bool (xG u v lo hi)):=by
 refine xI func201 JE λhf=>?_
 cases u
 ·refine xJ ?_;exact .drop (by simp) (by simp [vw,xG])
 ·by_cases h1:v<lo
  ·refine xH h1 ?_;exact .drop (by simp) (by simp [vw,xG,h1])
  ·by_cases h2:hi<v
   ·refine yO h1 h2 ?_;exact .drop (by simp) (by simp [vw,xG,h1,h2])
   ·refine yO h1 h2 ?_;exact .drop (by simp) (by simp [vw,xG,h1,h2])
theorem ur (p:Nd) (k:Int):xA prog 142 [.agg p.row,.int .i64 k] (.int .i64 (zP p k)):=by
 have hk:=aX p.op;have hu:=zn p.op
 have en:zP p k=if (xY p.op).2=false then 10 else
  if (yQ (xY p.op).1.x p.x k&&yQ (xY p.op).1.y p.y k)= false then 3 else
  if ((!((xY p.op).1.fa || (xY p.op).1.ag || (xY p.op).1.ev)&& decide (p.i≠0)) || (!(xY p.op).1.ev&&decide (p.e≠0)) || (!(xY p.op).1.gr&&decide (p.g≠0)))= true then 3 else
  if (xG (xY p.op).1.fa p.i 0 7 || xG (xY p.op).1.ag p.i 0 3 || xG (xY p.op).1.ev p.i 0 7 || xG (xY p.op).1.ev p.e 0 7 || xG (xY p.op).1.gr p.g 1 15)= true then 2 else 0:=rfl
 rw [en];generalize xY p.op=q at hk hu;obtain⟨⟨ux,uy,fa,ag,gr,ev,fr⟩,ok⟩:=q;simp only [ry.row] at hk hu ⊢;refine xI func142 Il λhf=>?_;simp only [simprocAttr,-ZA,↓zU,↓zD,zV,zT,zW,Nd.row]
 (repeat refine sd ?_)
 refine .go (cq hu) ?_
 cases ok
 ·refine xJ ?_;exact .dv
 refine xJ ?_;refine .go (cq (gl ux p.x k)) ?_
 cases hx:yQ ux p.x k
 ·refine xJ ?_;exact .dv
 refine xJ ?_;refine .go (cq (gl uy p.y k)) ?_
 cases hy:yQ uy p.y k
 ·refine xJ ?_;exact .dv
 have ob:∀ v lo hi,xG false v lo hi=false:=λ_ _ _=>rfl
 rcases hk with ⟨rfl,rfl,rfl,rfl⟩ | ⟨rfl,rfl,rfl,rfl⟩ | ⟨rfl,rfl,rfl,rfl⟩ | ⟨rfl,rfl,rfl,rfl⟩ | ⟨rfl,rfl,rfl,rfl⟩
 ·skip;by_cases hi:p.i=0
  case neg=> have ei:(p.i != 0)= true:=bne_iff_ne.2 hi;refine xH ei ?_;exact .drop (by simp) (by simp [vw,hi])
  have ei:(p.i != 0)= false:=by simpa using hi
  by_cases he:p.e=0
  case neg=> have ee:(p.e != 0)= true:=bne_iff_ne.2 he;refine yO ei ee ?_;exact .drop (by simp) (by simp [vw,he,hi])
  have ee:(p.e != 0)= false:=by simpa using he
  by_cases hg:p.g=0
  case neg=> have eg:(p.g != 0)= true:=bne_iff_ne.2 hg;refine fY ei ee eg ?_;exact .drop (by simp) (by simp [vw,hg,hi,he])
  have eg:(p.g != 0)= false:=by simpa using hg
  refine fY ei ee eg ?_;refine .go (cq (zM false p.i 0 7)) ?_;refine xH ob ?_;refine .go (cq (zM false p.i 0 3)) ?_;refine xH ob ?_;refine .go (cq (zM false p.i 0 7)) ?_;refine xH ob ?_;refine .go (cq (zM false p.e 0 7)) ?_;refine xH ob ?_;refine .go (cq (zM false p.g 1 15)) ?_;refine xH ob ?_;exact .drop (by simp) (by simp [vw,ob,hi,he,hg])
 ·skip;by_cases he:p.e=0
  case neg=> have ee:(p.e != 0)= true:=bne_iff_ne.2 he;refine xH ee ?_;exact .drop (by simp) (by simp [vw,he])
  have ee:(p.e != 0)= false:=by simpa using he
  by_cases hg:p.g=0
  case neg=> have eg:(p.g != 0)= true:=bne_iff_ne.2 hg;refine yO ee eg ?_;exact .drop (by simp) (by simp [vw,hg,he])
  have eg:(p.g != 0)= false:=by simpa using hg
  refine yO ee eg ?_;refine .go (cq (zM true p.i 0 7)) ?_;cases oi:xG true p.i 0 7
  case true=> refine xJ ?_;exact .drop (by simp) (by simp [vw,ob,he,hg,oi])
  refine xJ ?_;refine .go (cq (zM false p.i 0 3)) ?_;refine xH ob ?_;refine .go (cq (zM false p.i 0 7)) ?_;refine xH ob ?_;refine .go (cq (zM false p.e 0 7)) ?_;refine xH ob ?_;refine .go (cq (zM false p.g 1 15)) ?_;refine xH ob ?_;exact .drop (by simp) (by simp [vw,ob,he,hg,oi])
 ·skip;by_cases he:p.e=0
  case neg=> have ee:(p.e != 0)= true:=bne_iff_ne.2 he;refine xH ee ?_;exact .drop (by simp) (by simp [vw,he])
  have ee:(p.e != 0)= false:=by simpa using he
  by_cases hg:p.g=0
  case neg=> have eg:(p.g != 0)= true:=bne_iff_ne.2 hg;refine yO ee eg ?_;exact .drop (by simp) (by simp [vw,hg,he])
  have eg:(p.g != 0)= false:=by simpa using hg
  refine yO ee eg ?_;refine .go (cq (zM false p.i 0 7)) ?_;refine xH ob ?_;refine .go (cq (zM true p.i 0 3)) ?_;cases oi:xG true p.i 0 3
  case true=> refine xJ ?_;exact .drop (by simp) (by simp [vw,ob,he,hg,oi])
  refine xJ ?_;refine .go (cq (zM false p.i 0 7)) ?_;refine xH ob ?_;refine .go (cq (zM false p.e 0 7)) ?_;refine xH ob ?_;refine .go (cq (zM false p.g 1 15)) ?_;refine xH ob ?_;exact .drop (by simp) (by simp [vw,ob,he,hg,oi])
 ·skip;by_cases hi:p.i=0
  case neg=> have ei:(p.i != 0)= true:=bne_iff_ne.2 hi;refine xH ei ?_;exact .drop (by simp) (by simp [vw,hi])
  have ei:(p.i != 0)= false:=by simpa using hi
  by_cases he:p.e=0
  case neg=> have ee:(p.e != 0)= true:=bne_iff_ne.2 he;refine yO ei ee ?_;exact .drop (by simp) (by simp [vw,he,hi])
  have ee:(p.e != 0)= false:=by simpa using he
  refine yO ei ee ?_;refine .go (cq (zM false p.i 0 7)) ?_;refine xH ob ?_;refine .go (cq (zM false p.i 0 3)) ?_;refine xH ob ?_;refine .go (cq (zM false p.i 0 7)) ?_;refine xH ob ?_;refine .go (cq (zM false p.e 0 7)) ?_;refine xH ob ?_;refine .go (cq (zM true p.g 1 15)) ?_;cases og:xG true p.g 1 15
  case true=> refine xJ ?_;exact .drop (by simp) (by simp [vw,ob,hi,he,og])
  refine xJ ?_;exact .drop (by simp) (by simp [vw,ob,hi,he,og])
 ·skip;by_cases hg:p.g=0
  case neg=> have eg:(p.g != 0)= true:=bne_iff_ne.2 hg;refine xH eg ?_;exact .drop (by simp) (by simp [vw,hg])
  have eg:(p.g != 0)= false:=by simpa using hg
  refine xH eg ?_;refine .go (cq (zM false p.i 0 7)) ?_;refine xH ob ?_;refine .go (cq (zM false p.i 0 3)) ?_;refine xH ob ?_;refine .go (cq (zM true p.i 0 7)) ?_;cases oi:xG true p.i 0 7
  case true=> refine xJ ?_;exact .drop (by simp) (by simp [vw,ob,hg,oi])
  refine xJ ?_;refine .go (cq (zM true p.e 0 7)) ?_;cases oe:xG true p.e 0 7
  case true=> refine xJ ?_;exact .drop (by simp) (by simp [vw,ob,hg,oi,oe])
  refine xJ ?_;refine .go (cq (zM false p.g 1 15)) ?_;refine xH ob ?_;exact .drop (by simp) (by simp [vw,ob,hg,oi,oe])
open Rs Fm
namespace Fm
def vV : Nd:=⟨0,0,0,0,0,0⟩
def wN (l:List Nd):List (List D):=l.map Nd.row
theorem xM (l:List Nd):(wN l).length=l.length:=by simp [wN]
theorem sE (l:List Nd) {i:Nat} (h:i<l.length):(wN l).getD i []=(l.getD i vV).row:=by simp [wN,List.getD,h]
theorem xc (l:List Nd):∀ e ∈ wN l,D.xR e=true:=by intro e he;simp only [wN,ε] at he;obtain⟨p,_,rfl⟩:=he;simp [Nd.row,D.xR,D.xF]
def bX : List Nd->Int->Int
 | [],_=>0
 | p :: r,i=>if zP p i≠0 then zP p i else bX r (i+1)
def yW (f:List Nd):Int:=if f = [] then 3 else if 200<f.length then 8 else bX f 0
theorem Th {f:List Nd}:∀ {i:Int},bX f i=0->∀ k,k<f.length->zP (f.getD k vV) (i+k)= 0:=by
 induction f with
 | nil=>intro i _ k hk; simp at hk
 | cons p r ih=>
  intro i h k hk;unfold bX at h
  by_cases hp:zP p i≠0
  ·rw [if_pos hp] at h; exact absurd h hp
  ·rw [if_neg hp] at h
   cases k with
   | zero=>simpa using hp
   | succ k=> have:=ih h k (by simpa using hk);rw [List.getD_cons_succ,show i+((k+1:Nat):Int)= i+1+k by omega];exact this
end Fm
theorem eN (f:List Nd):xA prog 100 [.sl 6 (wN f)] (.int .i64 (yW f)):=by
 refine xI func100 I9 λhf=>?_;simp only [D.sR,D.fact,xM] at hf;have hlen:=hf.1.1
 by_cases h1:f.length=0
 ·have e1:((f.length:Int)== 0)= true:=by simpa using h1
  refine yO xM e1 ?_;rw [show yW f=3 from if_pos (List.length_eq_zero_iff.1 h1)];exact .same
 have e1:((f.length:Int)== 0)= false:=by simpa using h1
 have hne:f ≠ []:=λe=>h1 (by rw [e]; rfl)
 by_cases h2:200<f.length
 ·have h2':(200:Int)<(f.length:Int):=by omega
  refine fY xM e1 h2' ?_;rw [show yW f=8 by rw [yW,if_neg hne,if_pos h2]];exact .same
 have h2':¬ (200:Int)<(f.length:Int):=by omega
 rw [show yW f=bX f 0 by rw [yW,if_neg hne,if_neg h2]];refine fY xM e1 h2' ?_
 refine xU (λk:Nat=>[(14,.int .i64 k),(13,.int .i64 f.length),(12,.sl 6 (wN f))]) (λ_=>⟨0,[]⟩) (λk=>k<=f.length/\bX f 0=bX (f.drop k) k) (λk=>f.length-k) 0 ⟨Nat.zero_le _,rfl⟩ ?_ ?_
 ·exact wO
 intro k ⟨hk,hi⟩;refine xN mixed ?_;by_cases h:k<f.length
 case neg=>
  have hd:¬ ((k:Int)<(f.length:Int)):=by omega
  rw [List.drop_eq_nil_of_le (by omega),bX] at hi;refine xH hd ?_;rw [hi];exact .same
 have hd:((k:Int)<(f.length:Int)):=by omega
 rw [drop_cons (d:=vV) h,bX] at hi;have hg:=sE f h;generalize f.getD k vV=p at hg hi;simp only [simprocAttr,-ZA,↓zU,↓zD,zV,zT,zW,hd,xM,hg,Nd.row]
 (repeat refine sd ?_)
 refine .go (xQ.yP (ur p k) (by simp [D.xR,D.xF,Nd.row])) ?_
 by_cases he:zP p k=0
 ·have e:(zP p k != 0)= false:=by simpa using he
  rw [if_neg (by simpa using he)] at hi;refine xH e ?_;refine⟨k+1,⟨by omega,hi⟩,?_,by omega⟩
  (refine yR.view (λk=>k) (by simp) (by simp) ?_ (by simp [stays]) (by simp [qY]); simp [bw,vw,vC,Fr.get])
  exact wrap_i64 (by omega)
 ·have e:(zP p k != 0)= true:=bne_iff_ne.2 he;rw [if_pos he] at hi;refine xH e ?_;rw [hi];exact .dv
open Rs Fm
namespace Fm
end Fm
theorem O7 (p:Nd) (u:ry):xA prog 112 [.agg p.row,.agg u.row] (.int .i64 u.fr):=by
 refine xI func112 IF λhf=>?_;simp only [simprocAttr,-ZA,↓zU,↓zD,zV,zT,zW,Nd.row,ry.row]
 (repeat refine sd ?_)
 exact .dv
theorem O6 (p:Nd) (u:ry) (h:u.fa=true->0<=p.i/\p.i<=7):xA prog 204 [.agg p.row,.agg u.row] (.int .i64 (if u.fa=true then((2 ^ p.i.toNat:Nat):Int) else 0)):=by
 refine xI func204 JG λhf=>?_
 cases hu:u.fa
 ·simp only [simprocAttr,-ZA,↓zU,↓zD,zV,zT,zW,Nd.row,ry.row,hu]
  (repeat refine sd ?_)
  exact .dv
 ·obtain⟨i,hi⟩:=ξ (h hu).1;have hi7:=(h hu).2;simp only [simprocAttr,-ZA,↓zU,↓zD,zV,zT,zW,Nd.row,ry.row,hu,hi,TC (show i<=61 by omega)]
  (repeat refine sd ?_)
  exact .dv
theorem Pp (p:Nd) (u:ry) (h:u.ag=true->0<=p.i/\p.i<=7):xA prog 203 [.agg p.row,.agg u.row] (.int .i64 (if u.ag=true then((2 ^ p.i.toNat:Nat):Int) else p.g)):=by
 refine xI func203 JF λhf=>?_
 cases hu:u.ag
 ·simp only [simprocAttr,-ZA,↓zU,↓zD,zV,zT,zW,Nd.row,ry.row,hu]
  (repeat refine sd ?_)
  exact .dv
 ·obtain⟨i,hi⟩:=ξ (h hu).1;have hi7:=(h hu).2;simp only [simprocAttr,-ZA,↓zU,↓zD,zV,zT,zW,Nd.row,ry.row,hu,hi,TC (show i<=61 by omega)]
  (repeat refine sd ?_)
  exact .dv
open Rs Fm
namespace Fm
def Nd.key (p:Nd):List Int:=[p.op,p.i,p.e,p.g,p.x,p.y]
theorem key_inj {p q:Nd} (h:p.key=q.key):p=q:=by cases p; cases q;simp only [Nd.key,List.cons.injEq,and_true] at h;simp only [Nd.mk.injEq];exact h
def kE : List Nd->Nat->List (List Int × D)
 | [],_=>[]
 | q :: r,k=>(q.key,.int .i64 k) :: kE r (k+1)
def rE (q:Nd):List Nd->Nat->Option Nat
 | [],_=>none
 | p :: r,k=>if q=p then some k else rE q r (k+1)
theorem oE (q:Nd):∀ (l:List Nd) (k:Nat),lS q.key (kE l k) k=(rE q l k).map λ(j:Nat)=>(j,D.int .i64 (j:Int))
 | [],k=>rfl
 | p :: r,k=>by
  unfold kE lS rE
  by_cases h:q=p
  ·rw [if_pos (by rw [h]),if_pos h]; rfl
  ·rw [if_neg (λe=>h (key_inj e)),if_neg h]; exact oE q r (k+1)
theorem cP (q:Nd):∀ (l:List Nd) (k:Nat),kE (l ++ [q]) k=kE l k ++ [(q.key,.int .i64 (k+l.length:Nat))]
 | [],k=>rfl
 | p :: r,k=>by show _ :: kE (r ++ [q]) (k+1)= _;rw [cP q r (k+1)];simp [kE,Nat.add_assoc,Nat.add_comm 1]
theorem jF (l:List Nd):∀ (k:Nat),∀ p ∈ kE l k,p.1.length=6:=by
 induction l with
 | nil=>intro k p hp; cases hp
 | cons q r ih=>
  intro k p hp
  rcases η.1 hp with rfl | hp
  ·rfl
  ·exact ih _ p hp
def mE (x y:Int):List (Int × Int)->List (Int × Int)
 | []=>[(x,y)]
 | (k,z) :: r=>if x=k then(x,y) :: r else(k,z) :: mE x y r
theorem kK (x:Int) (l:List (Int × D)):∀ i,qH x l (i+1)= (qH x l i).map λp=>(p.1+1,p.2):=by
 induction l with
 | nil=>intro i; rfl
 | cons p r ih=>
  intro i;obtain⟨k,d⟩:=p;unfold qH
  by_cases h:x=k
  ·rw [if_pos h,if_pos h]; rfl
  ·rw [if_neg h,if_neg h]; exact ih (i+1)
theorem lK (x y:Int):∀ (u:List (Int × Int)),T6 (mo u) x (.int .i64 y)= mo (mE x y u)
 | []=>rfl
 | (k,z) :: r=>by
  have ih:=lK x y r;unfold T6 at ih ⊢
  show (match qH x ((k,D.int .i64 z) :: mo r) 0 with
   | some (i,_)=>((k,D.int .i64 z) :: mo r).set i (x,D.int .i64 y)
   | none=>((k,D.int .i64 z) :: mo r)++ [(x,D.int .i64 y)])= _
  unfold qH mE
  by_cases h:x=k
  ·rw [if_pos h,if_pos h]; rfl
  ·rw [if_neg h,if_neg h,kK]
   cases ha:qH x (mo r) 0 with
   | none=>rw [ha] at ih; simp only [δ]; show _=(k,D.int .i64 z) :: mo (mE x y r); rw [<- ih]; rfl
   | some p=>rw [ha] at ih; obtain⟨i,d⟩:=p; simp only [γ]; show _=(k,D.int .i64 z) :: mo (mE x y r); rw [<- ih]; rfl
theorem qX (x y z:Int):∀ (u:List (Int × Int)),vX z (mE x y u)= if z=x then some y else vX z u
 | []=>by simp [mE,vX]
 | (k,w) :: r=>by
  unfold mE
  by_cases h:x=k
  ·rw [if_pos h];subst h;unfold vX
   by_cases e:z=x
   ·rw [if_pos e,if_pos e]
   ·rw [if_neg e,if_neg e,if_neg e]
  ·rw [if_neg h];unfold vX;rw [qX x y z r]
   by_cases e:z=k
   ·rw [if_pos e,if_neg (by omega),if_pos e]
   ·rw [if_neg e,if_neg e]
structure CS where
 out:List Nd
 done:List (Int × Int)
def xE (f:List Nd):Nat->Nat->CS->Int × CS
 | 0,_,s=>(0,s)
 | n+1,i,s=>match vX i s.done with
  | some k=>(k,s)
  | none=>
   let p:=f.getD i vV
   let a:=if (xY p.op).1.x=true then xE f n p.x.toNat s else(p.x,s)
   let b:=if (xY p.op).1.y=true then xE f n p.y.toNat a.2 else(p.y,a.2)
   let q:Nd:=⟨p.op,p.i,p.e,p.g,a.1,b.1⟩
   match rE q b.2.out 0 with
   | some k=>(k,⟨b.2.out,mE i k b.2.done⟩)
   | none=>(b.2.out.length,⟨b.2.out ++ [q],mE i b.2.out.length b.2.done⟩)
def tC (f:List Nd) (i:Nat):List Nd:=(xE f (i+1) i ⟨[],[]⟩).2.out
end Fm
open Rs Fm
namespace Fm
structure kB (f : List Nd) (nx : Nat) (xZ : List (Nat × Ob)) (key : Nat) (s : CS) : Prop where
 hn:7<=nx
 h0:St.look xZ 0=some ⟨1,[[.sl 6 (wN f)]]⟩
 h1:St.look xZ 1=some ⟨1,[[xB key 6 (wN s.out)]]⟩
 hk:7<=key/\key≠nx/\key≠nx+1/\St.look xZ key=vA 6 (wN s.out)
 fr:∀ k,nx<=k->St.look xZ k=none
 h2:St.look xZ 2=some ⟨0,rD (kE s.out 0)⟩
 h3:St.look xZ 3=some ⟨1,[[.wA 2]]⟩
 h4:St.look xZ 4=some ⟨0,cC .i64 (mo s.done)⟩
 h5:St.look xZ 5=some ⟨1,[[.wA 4]]⟩
 h6:St.look xZ 6=some ⟨1,[[.fn 202 [.ref 5 1 0 0,.ref 0 1 0 0,.ref 6 1 0 0,.ref 3 1 0 0,.ref 1 1 0 0]]]⟩
def wC (op i e g x y:Int):Ob:=⟨6,[[.int .i64 op,.int .i64 i,.int .i64 e,.int .i64 g,.int .i64 x,.int .i64 y]]⟩
def aL (u:ry):Ob:=⟨7,[[.bool u.x,.bool u.y,.bool u.fa,.bool u.ag,.bool u.gr,.bool u.ev,.int .i64 u.fr]]⟩
def PR (i:Nat) (nx nx2:Nat) (objs2:List (Nat × Ob)) (key2:Nat) (s2:CS) (q:Nd) (d:D) (σ':St):Prop:=
 (∃ k,rE q s2.out 0=some k/\d = .int .i64 k/\σ'=⟨nx2,zC (zC objs2 nx (wC q.op q.i q.e q.g q.x q.y)) 4 ⟨0,cC .i64 (mo (mE i k s2.done))⟩⟩) \/
 (rE q s2.out 0=none/\s2.out.length<=1000/\d = .int .i64 s2.out.length/\σ'=⟨nx2+1,yX nx2 6 (wN (s2.out ++ [q]))++ zC (zC (zC (yN (zC objs2 nx (wC q.op q.i q.e q.g q.x q.y)) key2) 1 ⟨1,[[xB nx2 6 (wN (s2.out ++ [q]))]]⟩) 2 ⟨0,rD (kE (s2.out ++ [q]) 0)⟩) 4 ⟨0,cC .i64 (mo (mE i s2.out.length s2.done))⟩⟩)
end Fm
theorem PL {f:List Nd} {nx:Nat} {xZ:List (Nat × Ob)} {key:Nat} {s:CS} {i:Nat} {d:D} {σ':St} (hI:kB f nx xZ key s) (hi:i<f.length) (hlen:f.length<=1000) {p:Nd} (hp:f.getD i vV=p) (hno:vX i s.done=none) (hux:(xY p.op).1.x=false) (huy:(xY p.op).1.y=false)
  (h:PR i nx (nx+1+1) ((nx+1,aL (xY p.op).1) :: (nx,wC p.op p.i p.e p.g p.x p.y) :: xZ) key s p d σ') :
  xQ prog 202 [.int .i64 i,.ref 5 1 0 0,.ref 0 1 0 0,.ref 6 1 0 0,.ref 3 1 0 0,.ref 1 1 0 0] ⟨nx,xZ⟩ d σ':=by
 obtain⟨hn,h0,h1,⟨k1,k2,k3,hkk⟩,hfr,h2,h3,h4,h5,h6⟩:=hI;rcases eJ (i:Int) s.done 0 with ⟨q1,q2⟩ | ⟨y,j,q1,q2⟩
 rotate_left
 ·rw [hno] at q1; cases q1
 have hg:=sE f hi;rw [hp] at hg;have hx1:∀ k:Nat,k<7->¬ nx=k:=λk h=>by omega
 have hx2:∀ k:Nat,k<7->¬ nx+1=k:=λk h=>by omega
 have hx3:¬ nx+1=nx:=by omega
 have hmg:∀ {nx':Nat} {objs':List (Nat × Ob)} {zero:D} {ok:Bool} {K:D->Prop},St.look objs' 2=some ⟨0,rD (kE s.out 0)⟩->fA ⟨nx',objs'⟩ 6 zero ok (.wA 2) (.agg [.int .i64 p.op,.int .i64 p.i,.int .i64 p.e,.int .i64 p.g,.int .i64 p.x,.int .i64 p.y]) K=K (mB ok zero ((rE p s.out 0).map λ(j:Nat)=>(j,D.int .i64 (j:Int)))):=λ{nx' objs' zero ok K} hl=>by rw [<- oE p s.out 0];exact wh hl (x:=p.key) rfl rfl (jF _ _)
 refine xI func202 PZ λhf=>?_;simp only [simprocAttr,-ZA,↓zU,↓zD,zV,zT,zW,h5,h4,q2,h0,xM,hg,Nd.row]
 (repeat refine sd ?_)
 refine .go (cq (zn p.op)) ?_
 have hl2:St.look ((nx+1,aL (xY p.op).1) :: (nx,wC p.op p.i p.e p.g p.x p.y) :: xZ) 2=some ⟨0,rD (kE s.out 0)⟩:=by rw [xX,if_neg (by omega),xX,if_neg (by omega)]; exact h2
 simp only [aL,wC,hux,huy] at hl2
 rcases h with ⟨k,e1,rfl,rfl⟩ | ⟨e1,e2,rfl,rfl⟩
 ·have hmg2:=@hmg;rw [e1] at hmg2;simp only [simprocAttr,-ZA,↓zU,↓zD,zV,zT,zW,ry.row,hux,huy,h3,hx1 3 (by omega),hx2 3 (by omega),hx1 5 (by omega),hx2 5 (by omega),hx1 4 (by omega),hx2 4 (by omega),hx1 2 (by omega),hx2 2 (by omega),hx3,h2,hmg2,γ,h5,h4]
  (repeat refine sd ?_)
  rw [lK];simp only [aL,wC,hux,huy];exact .same
 ·have hmg2:=@hmg;rw [e1] at hmg2;have hx4:¬ nx=key:=by omega
  have hx5:¬ nx+1=key:=by omega
  have hx6:∀ k:Nat,k<7->¬ nx+1+1=k:=λk h=>by omega
  have hx7:¬ nx+1+1=nx:=by omega
  have hx8:¬ nx+1+1=nx+1:=by omega
  have he:∀ k:Nat,k<7->St.look (yN xZ key) k=St.look xZ k:=λk h=>by rw [xC,if_neg (by omega)]
  have he1:=he 1 (by omega);have he2:=he 2 (by omega);have he3:=he 3 (by omega);have he4:=he 4 (by omega);have he5:=he 5 (by omega);rw [h1] at he1;rw [h2] at he2;rw [h3] at he3;rw [h4] at he4;rw [h5] at he5;have hpz:D.xR [.int .i64 p.op,.int .i64 p.i,.int .i64 p.e,.int .i64 p.g,.int .i64 p.x,.int .i64 p.y]=true:=by simp [D.xR,D.xF]
  have hms:∀ {nx':Nat} {objs':List (Nat × Ob)} {x:D} {K:D->St->Prop},St.look objs' 2=some ⟨0,rD (kE s.out 0)⟩->iK ⟨nx',objs'⟩ 6 (.wA 2) (.agg [.int .i64 p.op,.int .i64 p.i,.int .i64 p.e,.int .i64 p.g,.int .i64 p.x,.int .i64 p.y]) x K=K .rJ ⟨nx',zC objs' 2 ⟨0,rD (kE s.out 0 ++ [(p.key,x)])⟩⟩:=λ{nx' objs' x K} hl=> wj hl (y:=p.key) rfl rfl (jF _ _) (by rw [oE,e1]; rfl)
  simp only [simprocAttr,-ZA,↓zU,↓zD,zV,zT,zW,ry.row,hux,huy,h3,hx1 3 (by omega),hx2 3 (by omega),hx1 5 (by omega),hx2 5 (by omega),hx1 4 (by omega),hx2 4 (by omega),hx1 2 (by omega),hx2 2 (by omega),hx1 1 (by omega),hx2 1 (by omega),hx6 1 (by omega),hx6 2 (by omega),hx6 3 (by omega),hx6 4 (by omega),hx6 5 (by omega),he1,he2,he3,he4,he5,hx3,hx7,hx8,h1,h2,hmg2,hms,hpz,xP,δ,h5,h4,hkk,xM,hx4,hx5]
  (repeat refine sd ?_)
  have er:wN (s.out ++ [p])= wN s.out ++ [[.int .i64 p.op,.int .i64 p.i,.int .i64 p.e,.int .i64 p.g,.int .i64 p.x,.int .i64 p.y]]:=by simp [wN,Nd.row]
  rw [lK,er,cP,ν];simp only [aL,wC,hux,huy];exact .same
open Rs Fm
theorem Rq {f:List Nd} {nx:Nat} {xZ:List (Nat × Ob)} {key:Nat} {s:CS} {i:Nat} {d:D} {σ':St} (hI:kB f nx xZ key s) (hi:i<f.length) (hlen:f.length<=1000) {p:Nd} (hp:f.getD i vV=p) (hno:vX i s.done=none) (hux:(xY p.op).1.x=true) (huy:(xY p.op).1.y=false)
  {a:Int} {nx1:Nat} {objs1:List (Nat × Ob)} {key1:Nat} {s1:CS}
  (hcall:xQ prog 202 [.int .i64 p.x,.ref 5 1 0 0,.ref 0 1 0 0,.ref 6 1 0 0,.ref 3 1 0 0,.ref 1 1 0 0] ⟨nx+1+1,(nx+1,aL (xY p.op).1) :: (nx,wC p.op p.i p.e p.g p.x p.y) :: xZ⟩ (.int .i64 a) ⟨nx1,objs1⟩)
  (hI1:kB f nx1 objs1 key1 s1) (hN:St.look objs1 nx=some (wC p.op p.i p.e p.g p.x p.y)) (hU:St.look objs1 (nx+1)= some (aL (xY p.op).1)) (hle:nx+1+1<=nx1) (hke:key1≠nx)
  (h:PR i nx nx1 objs1 key1 s1 ⟨p.op,p.i,p.e,p.g,a,p.y⟩ d σ') :
  xQ prog 202 [.int .i64 i,.ref 5 1 0 0,.ref 0 1 0 0,.ref 6 1 0 0,.ref 3 1 0 0,.ref 1 1 0 0] ⟨nx,xZ⟩ d σ':=by
 obtain⟨hn,h0,h1,⟨k1,k2,k3,hkk⟩,hfr,h2,h3,h4,h5,h6⟩:=hI;obtain⟨hn',h0',h1',⟨k1',k2',k3',hkk'⟩,hfr',h2',h3',h4',h5',h6'⟩:=hI1;rcases eJ (i:Int) s.done 0 with ⟨q1,q2⟩ | ⟨y,j,q1,q2⟩
 rotate_left
 ·rw [hno] at q1; cases q1
 have hg:=sE f hi;rw [hp] at hg;have hx1:∀ k:Nat,k<7->¬ nx=k:=λk h=>by omega
 have hx2:∀ k:Nat,k<7->¬ nx+1=k:=λk h=>by omega
 have hx3:¬ nx+1=nx:=by omega
 have hx9:¬ nx=nx+1:=by omega
 have hmg:∀ {nx':Nat} {objs':List (Nat × Ob)} {zero:D} {ok:Bool} {K:D->Prop},St.look objs' 2=some ⟨0,rD (kE s1.out 0)⟩->fA ⟨nx',objs'⟩ 6 zero ok (.wA 2) (.agg [.int .i64 p.op,.int .i64 p.i,.int .i64 p.e,.int .i64 p.g,.int .i64 a,.int .i64 p.y]) K=K (mB ok zero ((rE ⟨p.op,p.i,p.e,p.g,a,p.y⟩ s1.out 0).map λ(j:Nat)=>(j,D.int .i64 (j:Int)))):=λ{nx' objs' zero ok K} hl=>by rw [<- oE ⟨p.op,p.i,p.e,p.g,a,p.y⟩ s1.out 0];exact wh hl (x:=Nd.key ⟨p.op,p.i,p.e,p.g,a,p.y⟩) rfl rfl (jF _ _)
 simp only [wC] at hN hcall;simp only [aL] at hU hcall;rw [hux,huy] at hU hcall;refine xI func202 PZ λhf=>?_;simp only [simprocAttr,-ZA,↓zU,↓zD,zV,zT,zW,h5,h4,q2,h0,xM,hg,Nd.row]
 (repeat refine sd ?_)
 refine .go (cq (zn p.op)) ?_;simp only [simprocAttr,-ZA,↓zU,↓zD,zV,zT,zW,ry.row,hux,huy,h6,hx1 6 (by omega),hx2 6 (by omega),hx3]
 (repeat refine sd ?_)
 refine .go hcall ?_
 rcases h with ⟨k,e1,rfl,rfl⟩ | ⟨e1,e2,rfl,rfl⟩
 ·have hmg2:=@hmg;rw [e1] at hmg2;simp only [simprocAttr,-ZA,↓zU,↓zD,zV,zT,zW,hN,hU,h3',h2',hmg2,γ,h5',h4',xP,hx1 3 (by omega),hx1 5 (by omega),hx1 4 (by omega),hx1 2 (by omega),hx1 1 (by omega),hx3,hx9]
  (repeat refine sd ?_)
  rw [lK];simp only [wC];exact .same
 ·have hmg2:=@hmg;rw [e1] at hmg2;have y1:∀ k:Nat,k<7->¬ key1=k:=λk h=>by omega
  have y2:¬ nx=key1:=λe=>hke e.symm;have y3:∀ k:Nat,k<7->¬ nx1=k:=λk h=>by omega
  have y4:¬ nx1=nx:=by omega
  have z1:∀ k:Nat,k<7->¬ k=nx:=λk h=>by omega
  have z2:∀ k:Nat,k<7->¬ k=nx1:=λk h=>by omega
  have hpz:D.xR [.int .i64 p.op,.int .i64 p.i,.int .i64 p.e,.int .i64 p.g,.int .i64 a,.int .i64 p.y]=true:=by simp [D.xR,D.xF]
  have hms:∀ {nx':Nat} {objs':List (Nat × Ob)} {x:D} {K:D->St->Prop},St.look objs' 2=some ⟨0,rD (kE s1.out 0)⟩->iK ⟨nx',objs'⟩ 6 (.wA 2) (.agg [.int .i64 p.op,.int .i64 p.i,.int .i64 p.e,.int .i64 p.g,.int .i64 a,.int .i64 p.y]) x K=K .rJ ⟨nx',zC objs' 2 ⟨0,rD (kE s1.out 0 ++ [(Nd.key ⟨p.op,p.i,p.e,p.g,a,p.y⟩,x)])⟩⟩:=λ{nx' objs' x K} hl=> wj hl (y:=Nd.key ⟨p.op,p.i,p.e,p.g,a,p.y⟩) rfl rfl (jF _ _) (by rw [oE,e1]; rfl)
  simp only [simprocAttr,-ZA,↓zU,↓zD,zV,zT,zW,hN,hU,h1',h3',h2',hmg2,hms,hpz,δ,γ,h5',h4',hkk',xM,xP,xC,hx1 3 (by omega),hx1 5 (by omega),hx1 4 (by omega),hx1 2 (by omega),hx1 1 (by omega),hx3,hx9,y1 1 (by omega),y1 2 (by omega),y1 3 (by omega),y1 4 (by omega),y1 5 (by omega),y2,hke,y3 1 (by omega),y3 2 (by omega),y3 3 (by omega),y3 4 (by omega),y3 5 (by omega),y4,z1 1 (by omega),z1 2 (by omega),z1 4 (by omega),z2 1 (by omega),z2 2 (by omega),z2 4 (by omega)]
  (repeat refine sd ?_)
  have er:wN (s1.out ++ [⟨p.op,p.i,p.e,p.g,a,p.y⟩])= wN s1.out ++ [[.int .i64 p.op,.int .i64 p.i,.int .i64 p.e,.int .i64 p.g,.int .i64 a,.int .i64 p.y]]:=by simp [wN,Nd.row]
  rw [lK,er,cP,ν];simp only [wC];exact .same
open Rs Fm
theorem Un {f:List Nd} {nx:Nat} {xZ:List (Nat × Ob)} {key:Nat} {s:CS} {i:Nat} {d:D} {σ':St} (hI:kB f nx xZ key s) (hi:i<f.length) (hlen:f.length<=1000) {p:Nd} (hp:f.getD i vV=p) (hno:vX i s.done=none) (hux:(xY p.op).1.x=true) (huy:(xY p.op).1.y=true)
  {a:Int} {nx1:Nat} {objs1:List (Nat × Ob)} {key1:Nat} {s1:CS}
  (hcall:xQ prog 202 [.int .i64 p.x,.ref 5 1 0 0,.ref 0 1 0 0,.ref 6 1 0 0,.ref 3 1 0 0,.ref 1 1 0 0] ⟨nx+1+1,(nx+1,aL (xY p.op).1) :: (nx,wC p.op p.i p.e p.g p.x p.y) :: xZ⟩ (.int .i64 a) ⟨nx1,objs1⟩)
  (hI1:kB f nx1 objs1 key1 s1) (hN:St.look objs1 nx=some (wC p.op p.i p.e p.g p.x p.y)) (hU:St.look objs1 (nx+1)= some (aL (xY p.op).1))
  {b:Int} {nx2:Nat} {objs2:List (Nat × Ob)} {key2:Nat} {s2:CS}
  (hcall2:xQ prog 202 [.int .i64 p.y,.ref 5 1 0 0,.ref 0 1 0 0,.ref 6 1 0 0,.ref 3 1 0 0,.ref 1 1 0 0] ⟨nx1,zC objs1 nx (wC p.op p.i p.e p.g a p.y)⟩ (.int .i64 b) ⟨nx2,objs2⟩)
  (hI2:kB f nx2 objs2 key2 s2) (hN2:St.look objs2 nx=some (wC p.op p.i p.e p.g a p.y)) (hle:nx+1+1<=nx2) (hke:key2≠nx)
  (h:PR i nx nx2 objs2 key2 s2 ⟨p.op,p.i,p.e,p.g,a,b⟩ d σ') :
  xQ prog 202 [.int .i64 i,.ref 5 1 0 0,.ref 0 1 0 0,.ref 6 1 0 0,.ref 3 1 0 0,.ref 1 1 0 0] ⟨nx,xZ⟩ d σ':=by
 obtain⟨hn,h0,h1,⟨k1,k2,k3,hkk⟩,hfr,h2,h3,h4,h5,h6⟩:=hI;have h61:=hI1.h6;obtain⟨hn',h0',h1',⟨k1',k2',k3',hkk'⟩,hfr',h2',h3',h4',h5',h6'⟩:=hI2;rcases eJ (i:Int) s.done 0 with ⟨q1,q2⟩ | ⟨y,j,q1,q2⟩
 rotate_left
 ·rw [hno] at q1; cases q1
 have hg:=sE f hi;rw [hp] at hg;have hx1:∀ k:Nat,k<7->¬ nx=k:=λk h=>by omega
 have hx2:∀ k:Nat,k<7->¬ nx+1=k:=λk h=>by omega
 have hx3:¬ nx+1=nx:=by omega
 have hx9:¬ nx=nx+1:=by omega
 have hmg:∀ {nx':Nat} {objs':List (Nat × Ob)} {zero:D} {ok:Bool} {K:D->Prop},St.look objs' 2=some ⟨0,rD (kE s2.out 0)⟩->fA ⟨nx',objs'⟩ 6 zero ok (.wA 2) (.agg [.int .i64 p.op,.int .i64 p.i,.int .i64 p.e,.int .i64 p.g,.int .i64 a,.int .i64 b]) K=K (mB ok zero ((rE ⟨p.op,p.i,p.e,p.g,a,b⟩ s2.out 0).map λ(j:Nat)=>(j,D.int .i64 (j:Int)))):=λ{nx' objs' zero ok K} hl=>by rw [<- oE ⟨p.op,p.i,p.e,p.g,a,b⟩ s2.out 0];exact wh hl (x:=Nd.key ⟨p.op,p.i,p.e,p.g,a,b⟩) rfl rfl (jF _ _)
 simp only [wC] at hN hcall hcall2 hN2;simp only [aL] at hU hcall;rw [hux,huy] at hU hcall;refine xI func202 PZ λhf=>?_;simp only [simprocAttr,-ZA,↓zU,↓zD,zV,zT,zW,h5,h4,q2,h0,xM,hg,Nd.row]
 (repeat refine sd ?_)
 refine .go (cq (zn p.op)) ?_;simp only [simprocAttr,-ZA,↓zU,↓zD,zV,zT,zW,ry.row,hux,huy,h6,hx1 6 (by omega),hx2 6 (by omega),hx3]
 (repeat refine sd ?_)
 refine .go hcall ?_;simp only [simprocAttr,-ZA,↓zU,↓zD,zV,zT,zW,hN,hU,h61,xP,hx1 6 (by omega),hx3,hx9,γ]
 (repeat refine sd ?_)
 refine .go hcall2 ?_
 rcases h with ⟨k,e1,rfl,rfl⟩ | ⟨e1,e2,rfl,rfl⟩
 ·have hmg2:=@hmg;rw [e1] at hmg2;simp only [simprocAttr,-ZA,↓zU,↓zD,zV,zT,zW,hN2,h3',h2',hmg2,γ,h5',h4',xP,hx1 3 (by omega),hx1 5 (by omega),hx1 4 (by omega),hx1 2 (by omega),hx1 1 (by omega),hx3,hx9]
  (repeat refine sd ?_)
  rw [lK];simp only [wC];exact .same
 ·have hmg2:=@hmg;rw [e1] at hmg2;have y1:∀ k:Nat,k<7->¬ key2=k:=λk h=>by omega
  have y2:¬ nx=key2:=λe=>hke e.symm;have y3:∀ k:Nat,k<7->¬ nx2=k:=λk h=>by omega
  have y4:¬ nx2=nx:=by omega
  have z1:∀ k:Nat,k<7->¬ k=nx:=λk h=>by omega
  have z2:∀ k:Nat,k<7->¬ k=nx2:=λk h=>by omega
  have hpz:D.xR [.int .i64 p.op,.int .i64 p.i,.int .i64 p.e,.int .i64 p.g,.int .i64 a,.int .i64 b]=true:=by simp [D.xR,D.xF]
  have hms:∀ {nx':Nat} {objs':List (Nat × Ob)} {x:D} {K:D->St->Prop},St.look objs' 2=some ⟨0,rD (kE s2.out 0)⟩->iK ⟨nx',objs'⟩ 6 (.wA 2) (.agg [.int .i64 p.op,.int .i64 p.i,.int .i64 p.e,.int .i64 p.g,.int .i64 a,.int .i64 b]) x K=K .rJ ⟨nx',zC objs' 2 ⟨0,rD (kE s2.out 0 ++ [(Nd.key ⟨p.op,p.i,p.e,p.g,a,b⟩,x)])⟩⟩:=λ{nx' objs' x K} hl=> wj hl (y:=Nd.key ⟨p.op,p.i,p.e,p.g,a,b⟩) rfl rfl (jF _ _) (by rw [oE,e1]; rfl)
  simp only [simprocAttr,-ZA,↓zU,↓zD,zV,zT,zW,hN2,h1',h3',h2',hmg2,hms,hpz,δ,γ,h5',h4',hkk',xM,xP,xC,hx1 3 (by omega),hx1 5 (by omega),hx1 4 (by omega),hx1 2 (by omega),hx1 1 (by omega),hx3,hx9,y1 1 (by omega),y1 2 (by omega),y1 3 (by omega),y1 4 (by omega),y1 5 (by omega),y2,hke,y3 1 (by omega),y3 2 (by omega),y3 3 (by omega),y3 4 (by omega),y3 5 (by omega),y4,z1 1 (by omega),z1 2 (by omega),z1 4 (by omega),z2 1 (by omega),z2 2 (by omega),z2 4 (by omega)]
  (repeat refine sd ?_)
  have er:wN (s2.out ++ [⟨p.op,p.i,p.e,p.g,a,b⟩])= wN s2.out ++ [[.int .i64 p.op,.int .i64 p.i,.int .i64 p.e,.int .i64 p.g,.int .i64 a,.int .i64 b]]:=by simp [wN,Nd.row]
  rw [lK,er,cP,ν];simp only [wC];exact .same
open Rs Fm
namespace Fm
def jP (i:Nat) (q:Nd) (s:CS):Int × CS:=match rE q s.out 0 with
 | some k=>(k,⟨s.out,mE i k s.done⟩)
 | none=>(s.out.length,⟨s.out ++ [q],mE i s.out.length s.done⟩)
theorem vO {xZ:List (Nat × Ob)} {k j:Nat} {o:Ob} (h:St.look xZ k=none):St.look (zC xZ j o) k=none:=by
 rw [xP]; split
 ·rw [h]; rfl
 ·exact h
theorem Sd (l:List Nd) (q:Nd):∃ e r,wN (l ++ [q])= e :: r:=by
 cases h:wN (l ++ [q]) with
 | nil=>simp [wN] at h
 | cons e r=>exact⟨e,r,rfl⟩
theorem u0 {f:List Nd} {nx nx2:Nat} {objs2:List (Nat × Ob)} {key2:Nat} {s2:CS} {q:Nd} {i:Nat} (hI:kB f nx2 objs2 key2 s2) (h7:7<=nx) (hle:nx+1+1<=nx2) (hke:key2≠nx) (hlen:s2.out.length<=1000) :
  ∃ nx' objs' key',PR i nx nx2 objs2 key2 s2 q (.int .i64 (jP i q s2).1) ⟨nx',objs'⟩/\ kB f nx' objs' key' (jP i q s2).2/\nx2<=nx'/\(key'=key2\/nx2<=key')/\ ∀ k,7<=k->k<nx2->k≠key2->k≠nx->St.look objs' k=St.look objs2 k:=by
 obtain⟨hn,h0,h1,⟨k1,k2,k3,hkk⟩,hfr,h2,h3,h4,h5,h6⟩:=hI;unfold jP
 cases he:rE q s2.out 0 with
 | some k=>
  refine⟨nx2,_,key2,.inl ⟨k,he,rfl,rfl⟩,⟨hn,?_,?_,⟨k1,k2,k3,?_⟩,?_,?_,?_,?_,?_,?_⟩,μ _,.inl rfl,?_⟩
  ·rw [xP,if_neg (by omega),xP,if_neg (by omega)]; exact h0
  ·rw [xP,if_neg (by omega),xP,if_neg (by omega)]; exact h1
  ·rw [xP,if_neg (by omega),xP,if_neg (λe=>hke e.symm)]; exact hkk
  ·exact λj hj=>vO (vO (hfr j hj))
  ·rw [xP,if_neg (by omega),xP,if_neg (by omega)]; exact h2
  ·rw [xP,if_neg (by omega),xP,if_neg (by omega)]; exact h3
  ·rw [xP,if_pos rfl,xP,if_neg (by omega),h4]; rfl
  ·rw [xP,if_neg (by omega),xP,if_neg (by omega)]; exact h5
  ·rw [xP,if_neg (by omega),xP,if_neg (by omega)]; exact h6
  ·intro j a1 a2 a3 a4;rw [xP,if_neg (by omega),xP,if_neg (λe=>a4 e.symm)]
 | none=>
  obtain⟨e,r,hr⟩:=Sd s2.out q
  have hlk:∀ j,j≠nx2->∀ (o1 o2 o4 oq:Ob),j≠1->j≠2->j≠4->j≠key2->j≠nx->St.look (yX nx2 6 (wN (s2.out ++ [q]))++ zC (zC (zC (yN (zC objs2 nx oq) key2) 1 o1) 2 o2) 4 o4) j=St.look objs2 j:=λj b1 o1 o2 o4 oq b2 b3 b4 b5 b6=>by rw [wZ,if_neg (λe=>b1 e.symm),xP,if_neg (λe=>b4 e.symm),xP,if_neg (λe=>b3 e.symm),xP,if_neg (λe=>b2 e.symm),xC,if_neg (λe=>b5 e.symm),xP,if_neg (λe=>b6 e.symm)]
  refine⟨nx2+1,_,nx2,.inr ⟨he,hlen,rfl,rfl⟩,⟨by omega,?_,?_,⟨by omega,by omega,by omega,?_⟩,?_,?_,?_,?_,?_,?_⟩,by omega,.inr (μ _),?_⟩
  ·rw [hlk 0 (by omega) _ _ _ _ (by omega) (by omega) (by omega) (by omega) (by omega)]; exact h0
  ·rw [wZ,if_neg (by omega),xP,if_neg (by omega),xP,if_neg (by omega),xP,if_pos rfl,xC,if_neg (by omega),xP,if_neg (by omega),h1]; rfl
  ·rw [wZ,if_pos rfl];show (vA 6 (wN (s2.out ++ [q]))).or _=vA 6 (wN (s2.out ++ [q]));rw [hr]; rfl
  ·intro j hj;rw [wZ,if_neg (by omega)];refine vO (vO (vO ?_))
   rw [xC]; split
   ·rfl
   ·exact vO (hfr j (by omega))
  ·rw [wZ,if_neg (by omega),xP,if_neg (by omega),xP,if_pos rfl,xP,if_neg (by omega),xC,if_neg (by omega),xP,if_neg (by omega),h2]; rfl
  ·rw [hlk 3 (by omega) _ _ _ _ (by omega) (by omega) (by omega) (by omega) (by omega)]; exact h3
  ·rw [wZ,if_neg (by omega),xP,if_pos rfl,xP,if_neg (by omega),xP,if_neg (by omega),xC,if_neg (by omega),xP,if_neg (by omega),h4]; rfl
  ·rw [hlk 5 (by omega) _ _ _ _ (by omega) (by omega) (by omega) (by omega) (by omega)]; exact h5
  ·rw [hlk 6 (by omega) _ _ _ _ (by omega) (by omega) (by omega) (by omega) (by omega)]; exact h6
  ·intro j a1 a2 a3 a4;exact hlk j (by omega) _ _ _ _ (by omega) (by omega) (by omega) a3 a4
end Fm
open Rs Fm
namespace Fm
theorem ny {x:Int}:∀ {u:List (Int × Int)},vX x u=none->∀ p ∈ u,p.1≠x
 | [],_,p,hp=>by cases hp
 | (k,y) :: r,h,p,hp=>by
  unfold vX at h
  by_cases e:x=k
  ·rw [if_pos e] at h; cases h
  ·rw [if_neg e] at h
   rcases η.1 hp with rfl | hp
   ·exact λe'=>e e'.symm
   ·exact ny h p hp
theorem Xq {x y:Int}:∀ {u:List (Int × Int)},vX x u=none->mE x y u=u ++ [(x,y)]
 | [],_=>rfl
 | (k,z) :: r,h=>by
  unfold vX at h
  by_cases e:x=k
  ·rw [if_pos e] at h; cases h
  ·rw [if_neg e] at h;unfold mE;rw [if_neg e,Xq h]; rfl
structure jJ (f : List Nd) (s : CS) : Prop where
 le:s.out.length<=s.done.length
 nd:(s.done.map (·.1)).Nodup
 rg:∀ p ∈ s.done,0<=p.1/\p.1<f.length
theorem jJ.len {f:List Nd} {s:CS} (h:jJ f s):s.out.length<=f.length:=by
 have:=XM f.length (s.done.map λp=>p.1.toNat) ?_ ?_
 ·rw [List.length_map] at this; have:=h.le; omega
 ·have h1:=h.nd;unfold List.Nodup at h1 ⊢;rw [List.pairwise_map] at h1 ⊢;refine h1.imp_of_mem λ{a b} ha hb hne e=>hne ?_;have:=(h.rg a ha).1;have:=(h.rg b hb).1;omega
 ·intro x hx;simp only [ε] at hx;obtain⟨p,hp,rfl⟩:=hx;have:=h.rg p hp;omega
theorem Lx {f:List Nd} {s:CS} {i:Nat} {q:Nd} (h:jJ f s) (hi:i<f.length) (hno:vX i s.done=none):jJ f (jP i q s).2/\∀ z:Int,z≠i->vX z (jP i q s).2.done=vX z s.done:=by
 have hput:∀ y,jJ f ⟨s.out,mE i y s.done⟩/\ (mE i y s.done).length=s.done.length+1:=λy=>by
  rw [Xq hno]
  refine⟨⟨by simp only [κ]; have:=h.le; omega,?_,?_⟩,by simp⟩
  ·rw [List.map_append];refine List.nodup_append.2 ⟨h.nd,by simp,λa ha b hb=>?_⟩;simp only [ε] at ha;obtain⟨p,hp,rfl⟩:=ha;simp only [List.map_cons,List.map_nil,θ] at hb;subst hb;exact ny hno p hp
  ·intro p hp
   rcases List.mem_append.1 hp with hp | hp
   ·exact h.rg p hp
   ·rw [θ.1 hp]; exact⟨by simp,by simpa using hi⟩
 unfold jP
 cases he:rE q s.out 0 with
 | some k=>exact⟨(hput _).1,λz hz=>by simp only; rw [qX,if_neg hz]⟩
 | none=> refine⟨⟨?_,(hput _).1.nd,(hput _).1.rg⟩,λz hz=>by simp only; rw [qX,if_neg hz]⟩;have:=(hput s.out.length).2;have:=h.le;simp only [κ,List.length_singleton]; omega
theorem nI {p:Nd} {k:Int} (h:zP p k=0):((xY p.op).1.x=true->0<=p.x/\p.x<k)/\ ((xY p.op).1.y=true->0<=p.y/\p.y<k):=by
 unfold zP at h
 by_cases h1:(xY p.op).2=false
 ·rw [if_pos h1] at h; cases h
 rw [if_neg h1] at h
 by_cases h2:(yQ (xY p.op).1.x p.x k&&yQ (xY p.op).1.y p.y k)= false
 ·rw [if_pos h2] at h; cases h
 simp only [Bool.not_eq_false,Bool.and_eq_true] at h2
 refine⟨λhx=>?_,λhy=>?_⟩
 ·have:=h2.1;unfold yQ at this;rw [if_pos hx,Bool.and_eq_true,decide_eq_true_eq,decide_eq_true_eq] at this;exact this
 ·have:=h2.2;unfold yQ at this;rw [if_pos hy,Bool.and_eq_true,decide_eq_true_eq,decide_eq_true_eq] at this;exact this
theorem lG {f:List Nd} {n i:Nat} {s:CS} (hno:vX i s.done=none):xE f (n+1) i s =
  (let p:=f.getD i vV
   let a:=if (xY p.op).1.x=true then xE f n p.x.toNat s else(p.x,s)
   let b:=if (xY p.op).1.y=true then xE f n p.y.toNat a.2 else(p.y,a.2)
   jP i ⟨p.op,p.i,p.e,p.g,a.1,b.1⟩ b.2):=by
 rw [xE,hno]; rfl
theorem oD {f:List Nd} (hc:∀ k,k<f.length->zP (f.getD k vV) k=0):∀ (n:Nat) {i:Nat} {s:CS},i<n->i<f.length->jJ f s->jJ f (xE f n i s).2/\∀ z:Int,(i:Int)<z->vX z (xE f n i s).2.done=vX z s.done
 | 0,i,s,h,_,_=>by omega
 | n + 1,i,s,h,hi,hs=>by
  cases hu:vX i s.done with
  | some k=>rw [xE,hu]; exact⟨hs,λ_ _=>rfl⟩
  | none=>
   rw [lG hu];obtain⟨ox,oy⟩:=nI (hc i hi);simp only;generalize f.getD i vV=p at ox oy
   have ha:jJ f (if (xY p.op).1.x=true then xE f n p.x.toNat s else(p.x,s)).2/\∀ z:Int,(i:Int)<=z->vX z (if (xY p.op).1.x=true then xE f n p.x.toNat s else(p.x,s)).2.done=vX z s.done:=by
    by_cases hx:(xY p.op).1.x=true
    ·rw [if_pos hx];have:=ox hx;obtain⟨b1,b2⟩:=oD hc n (i:=p.x.toNat) (s:=s) (by omega) (by omega) hs;exact⟨b1,λz hz=>b2 z (by omega)⟩
    ·rw [if_neg hx]; exact⟨hs,λ_ _=>rfl⟩
   generalize (if (xY p.op).1.x=true then xE f n p.x.toNat s else(p.x,s))= a at ha;obtain⟨a1,a2⟩:=ha
   have hb:jJ f (if (xY p.op).1.y=true then xE f n p.y.toNat a.2 else(p.y,a.2)).2/\∀ z:Int,(i:Int)<=z->vX z (if (xY p.op).1.y=true then xE f n p.y.toNat a.2 else(p.y,a.2)).2.done=vX z a.2.done:=by
    by_cases hy:(xY p.op).1.y=true
    ·rw [if_pos hy];have:=oy hy;obtain⟨b1,b2⟩:=oD hc n (i:=p.y.toNat) (s:=a.2) (by omega) (by omega) a1;exact⟨b1,λz hz=>b2 z (by omega)⟩
    ·rw [if_neg hy]; exact⟨a1,λ_ _=>rfl⟩
   generalize (if (xY p.op).1.y=true then xE f n p.y.toNat a.2 else(p.y,a.2))= b at hb;obtain⟨b1,b2⟩:=hb;obtain⟨e1,e2⟩:=Lx (q:=⟨p.op,p.i,p.e,p.g,a.1,b.1⟩) b1 hi (by rw [b2 i (by omega),a2 i (by omega)]; exact hu);exact⟨e1,λz hz=>by rw [e2 z (by omega),b2 z (by omega),a2 z (by omega)]⟩
end Fm
open Rs Fm
namespace Fm
theorem PF (op:Int) (h:(xY op).1.y=true):(xY op).1.x=true:=by
 have hc:op=1\/op=2\/op=3\/op=4\/op=5\/op=6\/op=7\/op=8\/op=9\/op=10\/op=11\/op=12\/op=13\/op=14\/op=15\/op=16\/op=17\/op=18\/op=19\/op=20\/op=21\/(op<1\/21<op):=by omega
 rcases hc with rfl | rfl | rfl | rfl | rfl | rfl | rfl | rfl | rfl | rfl | rfl | rfl | rfl | rfl | rfl | rfl | rfl | rfl | rfl | rfl | rfl | hc
 rotate_right
 ·rw [show xY op=(rB,false) from if_pos hc] at h; cases h
 all_goals simp [xY,rB] at h ⊢
theorem kB.Kd {f:List Nd} {nx:Nat} {xZ:List (Nat × Ob)} {key:Nat} {s:CS} (h:kB f nx xZ key s):∃ key',kB f nx xZ key' s/\((s.out = []/\key'=nx+4)\/(s.out ≠ []/\key'=key/\key'<nx)):=by
 obtain⟨hn,h0,h1,⟨k1,k2,k3,hkk⟩,hfr,h2,h3,h4,h5,h6⟩:=h
 by_cases ho:s.out = []
 ·refine⟨nx+4,⟨hn,h0,?_,⟨by omega,by omega,by omega,?_⟩,hfr,h2,h3,h4,h5,h6⟩,.inl ⟨ho,rfl⟩⟩
  ·rw [h1,ho]; rfl
  ·rw [hfr _ (by omega),ho]; rfl
 ·refine⟨key,⟨hn,h0,h1,⟨k1,k2,k3,hkk⟩,hfr,h2,h3,h4,h5,h6⟩,.inr ⟨ho,rfl,?_⟩⟩
  by_cases hlt:key<nx
  ·exact hlt
  ·rw [hfr key (by omega)] at hkk
   cases hd:wN s.out with
   | nil=>simp [wN] at hd; exact absurd hd ho
   | cons e r=>rw [hd] at hkk; cases hkk
theorem kB.alloc {f:List Nd} {nx:Nat} {xZ:List (Nat × Ob)} {key:Nat} {s:CS} (h:kB f nx xZ key s) (hk:key<nx\/key=nx+4) (o1 o2:Ob):kB f (nx+1+1) ((nx+1,o1) :: (nx,o2) :: xZ) key s:=by
 obtain⟨hn,h0,h1,⟨k1,k2,k3,hkk⟩,hfr,h2,h3,h4,h5,h6⟩:=h
 have hl:∀ k,k≠nx->k≠nx+1->St.look ((nx+1,o1) :: (nx,o2) :: xZ) k=St.look xZ k:=λk a b=>by rw [xX,if_neg (λe=>b e.symm),xX,if_neg (λe=>a e.symm)]
 refine⟨by omega,?_,?_,⟨k1,by omega,by omega,?_⟩,?_,?_,?_,?_,?_,?_⟩
 ·rw [hl 0 (by omega) (by omega)]; exact h0
 ·rw [hl 1 (by omega) (by omega)]; exact h1
 ·rw [hl key k2 k3]; exact hkk
 ·intro k hk2; rw [hl k (by omega) (by omega)]; exact hfr k (by omega)
 ·rw [hl 2 (by omega) (by omega)]; exact h2
 ·rw [hl 3 (by omega) (by omega)]; exact h3
 ·rw [hl 4 (by omega) (by omega)]; exact h4
 ·rw [hl 5 (by omega) (by omega)]; exact h5
 ·rw [hl 6 (by omega) (by omega)]; exact h6
theorem kB.set {f:List Nd} {nx:Nat} {xZ:List (Nat × Ob)} {key:Nat} {s:CS} (h:kB f nx xZ key s) {j:Nat} (hj:7<=j) (hk:key≠j) (o:Ob):kB f nx (zC xZ j o) key s:=by
 obtain⟨hn,h0,h1,⟨k1,k2,k3,hkk⟩,hfr,h2,h3,h4,h5,h6⟩:=h;have hl:∀ k,k≠j->St.look (zC xZ j o) k=St.look xZ k:=λk a=>by rw [xP,if_neg (λe=>a e.symm)]
 refine⟨hn,?_,?_,⟨k1,k2,k3,?_⟩,?_,?_,?_,?_,?_,?_⟩
 ·rw [hl 0 (by omega)]; exact h0
 ·rw [hl 1 (by omega)]; exact h1
 ·rw [hl key hk]; exact hkk
 ·exact λk hk2=>vO (hfr k hk2)
 ·rw [hl 2 (by omega)]; exact h2
 ·rw [hl 3 (by omega)]; exact h3
 ·rw [hl 4 (by omega)]; exact h4
 ·rw [hl 5 (by omega)]; exact h5
 ·rw [hl 6 (by omega)]; exact h6
end Fm
theorem Ro {f:List Nd} {nx:Nat} {xZ:List (Nat × Ob)} {key:Nat} {s:CS} {i:Nat} {k:Int} (hI:kB f nx xZ key s) (hu:vX i s.done=some k) :
  xQ prog 202 [.int .i64 i,.ref 5 1 0 0,.ref 0 1 0 0,.ref 6 1 0 0,.ref 3 1 0 0,.ref 1 1 0 0] ⟨nx,xZ⟩ (.int .i64 k) ⟨nx,xZ⟩:=by
 obtain⟨hn,h0,h1,hk,hfr,h2,h3,h4,h5,h6⟩:=hI
 rcases eJ (i:Int) s.done 0 with ⟨q1,q2⟩ | ⟨y,j,q1,q2⟩
 ·rw [hu] at q1; cases q1
 ·rw [hu] at q1; cases q1;refine xI func202 PZ λhf=>?_;refine rF h5 h4 q2 ?_;exact .same
theorem wa {f:List Nd} (hc:∀ k,k<f.length->zP (f.getD k vV) k=0) (hlen:f.length<=900):∀ (n:Nat) {i nx:Nat} {xZ:List (Nat × Ob)} {key:Nat} {s:CS},i<n->i<f.length->jJ f s->kB f nx xZ key s ->
  ∃ nx' objs' key',kB f nx' objs' key' (xE f n i s).2/\nx<=nx'/\(key'=key\/nx<=key')/\ (∀ k,7<=k->k<nx->(k≠key\/s.out = [])->St.look objs' k=St.look xZ k)/\
   xQ prog 202 [.int .i64 i,.ref 5 1 0 0,.ref 0 1 0 0,.ref 6 1 0 0,.ref 3 1 0 0,.ref 1 1 0 0] ⟨nx,xZ⟩ (.int .i64 (xE f n i s).1) ⟨nx',objs'⟩
 | 0,i,nx,xZ,key,s,h,_,_,_=>by omega
 | n + 1,i,nx,xZ,key,s,h,hi,hs,hI=>by
  cases hu:vX i s.done with
  | some k=> rw [xE,hu];exact⟨nx,xZ,key,hI,μ _,.inl rfl,λ_ _ _ _=>rfl,Ro hI hu⟩
  | none=>
   rw [lG hu];obtain⟨ox,oy⟩:=nI (hc i hi);simp only;generalize hp:f.getD i vV=p at ox oy;obtain⟨ky,hI',hky⟩:=hI.Kd;have hn:=hI'.hn;have hkc:ky<nx\/ky=nx+4:=by rcases hky with ⟨_,h⟩ | ⟨_,_,h⟩; exact .inr h; exact .inl h
   have hA:=hI'.alloc hkc (aL (xY p.op).1) (wC p.op p.i p.e p.g p.x p.y)
   have hkk:∀ k,k<nx->(k≠key\/s.out = [])->k≠ky:=λk h1 h2=>by
    rcases hky with ⟨_,e⟩ | ⟨ho,e,_⟩
    ·omega
    ·rcases h2 with h2 | h2
     ·rw [e]; exact h2
     ·exact absurd h2 ho
   have hkey:∀ k',k'=ky\/nx<=k'->k'=key\/nx<=k':=λk' h=>by
    rcases h with h | h
    ·rcases hky with ⟨_,e⟩ | ⟨_,e,_⟩
     ·exact .inr (by omega)
     ·exact .inl (by rw [h,e])
    ·exact .inr h
   have hA0:∀ k,k<nx->St.look ((nx+1,aL (xY p.op).1) :: (nx,wC p.op p.i p.e p.g p.x p.y) :: xZ) k=St.look xZ k:=λk hk=>by rw [xX,if_neg (by omega),xX,if_neg (by omega)]
   by_cases hx:(xY p.op).1.x=true
   ·obtain⟨hx1,hx2⟩:=ox hx;have hxn:((p.x.toNat:Nat):Int)= p.x:=ο hx1;obtain⟨nx1,objs1,key1,I1,l1,kk1,fr1,c1⟩:=wa hc hlen n (i:=p.x.toNat) (by omega) (by omega) hs hA;have f1:=(oD hc n (i:=p.x.toNat) (s:=s) (by omega) (by omega) hs);rw [if_pos hx];rw [hxn] at c1;generalize xE f n p.x.toNat s=a at I1 c1 f1
    have hN:St.look objs1 nx=some (wC p.op p.i p.e p.g p.x p.y):=by rw [fr1 nx hn (by omega) (.inl (by omega)),xX,if_neg (by omega),xX,if_pos rfl]
    have hU:St.look objs1 (nx+1)= some (aL (xY p.op).1):=by rw [fr1 (nx+1) (by omega) (by omega) (.inl (by omega)),xX,if_pos rfl]
    have hk1:key1≠nx:=by omega
    by_cases hy:(xY p.op).1.y=true
    ·obtain⟨hy1,hy2⟩:=oy hy;have hyn:((p.y.toNat:Nat):Int)= p.y:=ο hy1;obtain⟨nx2,objs2,key2,I2,l2,kk2,fr2,c2⟩:=wa hc hlen n (i:=p.y.toNat) (by omega) (by omega) f1.1 (I1.set (j:=nx) hn hk1 (wC p.op p.i p.e p.g a.1 p.y));have f2:=(oD hc n (i:=p.y.toNat) (s:=a.2) (by omega) (by omega) f1.1);rw [if_pos hy];rw [hyn] at c2;generalize xE f n p.y.toNat a.2=b at I2 c2 f2
     have hN2:St.look objs2 nx=some (wC p.op p.i p.e p.g a.1 p.y):=by rw [fr2 nx hn (by omega) (.inl (by omega)),xP,if_pos rfl,hN]; rfl
     have hk2:key2≠nx:=by omega
     obtain⟨nx',objs',key',e1,e2,e3,e4,e5⟩:=u0 (q:=⟨p.op,p.i,p.e,p.g,a.1,b.1⟩) (i:=i) (nx:=nx) I2 (by omega) (by omega) hk2 (by have:=f2.1.len; omega);refine⟨nx',objs',key',e2,by omega,hkey _ (by omega),λk a1 a2 a3=>?_,Un hI' hi (by omega) hp hu hx hy c1 I1 hN hU c2 I2 hN2 (by omega) hk2 e1⟩;have hk3:=hkk k a2 a3;rw [e5 k a1 (by omega) (by omega) (by omega),fr2 k a1 (by omega) (.inl (by omega)),xP,if_neg (by omega),fr1 k a1 (by omega) (.inl hk3)];exact hA0 k a2
    ·rw [if_neg hy];obtain⟨nx',objs',key',e1,e2,e3,e4,e5⟩:=u0 (q:=⟨p.op,p.i,p.e,p.g,a.1,p.y⟩) (i:=i) (nx:=nx) I1 (by omega) (by omega) hk1 (by have:=f1.1.len; omega);refine⟨nx',objs',key',e2,by omega,hkey _ (by omega),λk a1 a2 a3=>?_,Rq hI' hi (by omega) hp hu hx (by simpa using hy) c1 I1 hN hU (by omega) hk1 e1⟩;have hk3:=hkk k a2 a3;rw [e5 k a1 (by omega) (by omega) (by omega),fr1 k a1 (by omega) (.inl hk3)];exact hA0 k a2
   ·have hy:¬ (xY p.op).1.y=true:=λhy=>hx (PF _ hy);rw [if_neg hx,if_neg hy];obtain⟨nx',objs',key',e1,e2,e3,e4,e5⟩:=u0 (q:=p) (i:=i) (nx:=nx) hA (by omega) (by omega) (by omega) (by have:=hs.len; omega)
    refine⟨nx',objs',key',e2,by omega,?_,λk a1 a2 a3=>?_,PL hI' hi (by omega) hp hu (by simpa using hx) (by simpa using hy) e1⟩
    ·rcases e4 with e4 | e4
     ·exact hkey _ (.inl e4)
     ·exact .inr (by omega)
    ·rw [e5 k a1 (by omega) (hkk k a2 a3) (by omega)];exact hA0 k a2
open Rs Fm
theorem df {f:List Nd} {i:Nat} (hc:∀ k,k<f.length->zP (f.getD k vV) k=0) (hlen:f.length<=900) (hi:i<f.length):xA prog 143 [.sl 6 (wN f),.int .i64 i] (.sl 6 (wN (tC f i))):=by
 have hI0:kB f 7 [(6,⟨1,[[.fn 202 [.ref 5 1 0 0,.ref 0 1 0 0,.ref 6 1 0 0,.ref 3 1 0 0,.ref 1 1 0 0]]]⟩),(5,⟨1,[[.wA 4]]⟩),(4,⟨0,[]⟩),(3,⟨1,[[.wA 2]]⟩),(2,⟨0,[]⟩),(1,⟨1,[[.xL]]⟩),(0,⟨1,[[.sl 6 (wN f)]]⟩)] 11 ⟨[],[]⟩:=by refine⟨μ _,by simp [St.look],by simp [St.look,wN,xB],⟨by omega,by omega,by omega,by simp [St.look,wN,vA]⟩,λk hk=>?_,by simp [St.look,kE,rD],by simp [St.look],by simp [St.look,mo,cC],by simp [St.look],by simp [St.look]⟩;simp only [xX,look_nil];rw [if_neg (by omega),if_neg (by omega),if_neg (by omega),if_neg (by omega),if_neg (by omega),if_neg (by omega),if_neg (by omega)]
 obtain⟨nx',objs',key',I1,_,_,_,c1⟩:=wa hc hlen (i+1) (i:=i) (by omega) hi ⟨μ _,by simp,λp hp=>by cases hp⟩ hI0;have e:(xE f (i+1) i ⟨[],[]⟩).2.out=tC f i:=rfl;have h1:=I1.h1;have hk:=I1.hk.2.2.2;rw [e] at h1 hk;refine xI func143 Im λhf=>?_;refine zI ?_;refine .go c1 ?_;refine vR h1 ?_;exact .drop (by simp) (aT (by simp) (xc _) hk)
namespace Fm
theorem zE {f:List Nd} (h:yW f=0):f ≠ []/\f.length<=200/\∀ k,k<f.length->zP (f.getD k vV) k=0:=by
 unfold yW at h
 by_cases h1:f = []
 ·rw [if_pos h1] at h; cases h
 rw [if_neg h1] at h
 by_cases h2:200<f.length
 ·rw [if_pos h2] at h; cases h
 rw [if_neg h2] at h;refine⟨h1,by omega,λk hk=>?_⟩;have:=Th h k hk
 rwa [Int.zero_add] at this
def rY (f:List Nd) (i:Int):List Nd:=if yW f≠0\/i<0\/(f.length:Int)<=i then [] else tC f i.toNat
def xD (f:List Nd):List Nd:=rY f ((f.length:Int)-1)
end Fm
theorem K7 (f:List Nd) (i:Int):xA prog 149 [.sl 6 (wN f),.int .i64 i] (.sl 6 (wN (rY f i))):=by
 refine xI func149 Ir λhf=>?_;refine xJ ?_;refine .go (cr (eN f)) ?_;by_cases hc:yW f=0
 case neg=> have e:(yW f != 0)= true:=bne_iff_ne.2 hc;refine xH e ?_;rw [show rY f i = [] from if_pos (.inl hc)];exact .drop (by simp) (by simp [vw,wN])
 have e:(yW f != 0)= false:=by simpa using hc
 by_cases h1:i<0
 ·refine yO e h1 ?_;rw [show rY f i = [] from if_pos (.inr (.inl h1))];exact .drop (by simp) (by simp [vw,wN])
 by_cases h2:(f.length:Int)<=i
 ·refine cE e h1 xM h2 ?_;rw [show rY f i = [] from if_pos (.inr (.inr h2))];exact .drop (by simp) (by simp [vw,wN])
 obtain⟨j,rfl⟩:=ξ (show 0<=i by omega);obtain⟨c1,c2,c3⟩:=zE hc;rw [show rY f j=tC f j by rw [rY,if_neg (by omega),π]];refine cE e h1 xM h2 ?_;refine .go (xQ.yP (df c3 (by omega) (show j<f.length by omega)) (by simp [D.xR,D.xF])) ?_;refine xJ ?_;exact .same
theorem bz (f:List Nd):xA prog 103 [.sl 6 (wN f)] (.sl 6 (wN (xD f))):=by refine xI func103 ID λhf=>?_;simp only [D.sR,D.fact,xM] at hf;have hlen:=hf.1.1;have e:IntKind.i64.wrap ((f.length:Int)-1)= (f.length:Int)-1:=wrap_i64 (by omega);refine yO xM e ?_;refine .go (xQ.yP (K7 f ((f.length:Int)-1)) (by simp [D.xR,D.xF])) ?_;refine xJ ?_;exact .same
end Go.Pd
