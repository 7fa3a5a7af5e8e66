/- Part X9. -/
import Derived.Test.YtndfaefmmcoapaaGreatUcX6
import Derived.Test.YtndfaefmmcoapaaGreatUcCode
set_option linter.unusedSectionVars false
set_option linter.unusedVariables false
set_option linter.unusedSimpArgs false
set_option linter.defProp false
set_option maxRecDepth 20000
set_option maxHeartbeats 1000000
open Go.Proofs.Tryz
open List renaming getD_eq_getElem?_getD->γ,length_append->δ,length_singleton->ε,mem_map->ζ,getElem?_append_left->η,getElem?_eq_getElem->θ,length_map->κ,mem_cons->μ,filter_cons->ν,drop_eq_nil_of_le->ξ,getElem_of_mem->ο,mem_singleton->π
open Nat renaming le_refl->τ,mod_eq_of_lt->υ,zero_le->χ,zero_add->ω,pow_le_pow_right->Aa,or_lt_two_pow->Ab
open Option renaming map_some->Ac,map_none->Ad,getD_some->Ae
open Bool renaming and_eq_true->Af,or_eq_false_iff->Ag,true_and->Ah
open BitVec renaming toNat_ofNat->Ai,ofInt_natCast->Aj
open Int renaming eq_ofNat_of_zero_le->Ak,toNat_of_nonneg->Al,toNat_natCast->Am
namespace Go.Pd
open Go Go.Proofs
theorem TO {n:Nat} (hn:n<=61):nk .i64 1 (n:Int)= ((2 ^ n:Nat):Int):=cm (by omega)
theorem WU {n:Nat} (hn:n<=1000000):IntKind.u64.wrap (n:Int)= (n:Int):=wrap_u64 (by omega)
theorem Rn {k:Nat} (h:k<18446744073709551616):ui (BitVec.ofNat 64 k)= (k:Int):=by unfold ui; rw [Ai,υ h]
theorem zA {α:Type} {l:List α} {k:Nat} {d:α} (h:k<l.length):l.take (k+1)= l.take k ++ [l.getD k d]:=by rw [List.take_add_one]; simp [List.getD,h]
theorem drop_cons {α:Type} {l:List α} {k:Nat} {d:α} (h:k<l.length):l.drop k=l.getD k d :: l.drop (k+1):=by simp [List.getD,h]
theorem xL {α:Type} {l:List α} {k:Nat} {d:α} (h:k<l.length):l.getD k d ∈ l:=by simp [List.getD,h]
theorem pM {α:Type} {l:List α} {k:Nat} (h:k=l.length):l.take k=l:=by rw [h,List.take_length]
theorem Ly (x y:Int):(if x<y then y else x)= max x y:=by rw [Int.max_def]; split <;> split <;> omega
theorem j4 (k:IntKind) (l:List Int) (i:Nat) (n:Int):(rows k l).set i [.int k n]=rows k (l.set i n):=by simp [rows,List.map_set]
variable [uM]
theorem xY.KH {P:Program} {g:FuncId} {args:List D} {σ:St} {sz len:Nat} {xV:List (List D)} (hc:xY P g args gY (.yM 0 sz len) ⟨1,[(0,⟨sz,xV⟩)]⟩) (hp:D.xR args=true) (he:∀ e ∈ xV,D.xR e=true) :
  xY P g args σ (.yM σ.nx sz len) ⟨σ.nx+1,(σ.nx,⟨sz,xV⟩) :: σ.xZ⟩:=by
 have h:=xY.own (σ:=σ) hc hp;simpa [zN,Ob.shift,fZ _ he,D.shift] using h
theorem Xp {key m n sz len:Nat} {xV:List (List D)} (hs:0<sz) (hp:∀ e ∈ xV,D.xR e=true) (hl:len=xV.length) {ρ:Nat->Nat} {r:List (Nat × Ob)}:vw ⟨m,(key,⟨sz,xV⟩) :: r⟩ ⟨n,[]⟩ ρ (.yM key sz len) (.sl sz xV):=by subst hl;simp only [vw];exact⟨trivial,hs,by simp,⟨sz,xV⟩,by simp [St.get,St.look],rfl,τ _,by simp,hp⟩
theorem ml {key m n sz len:Nat} {xV els':List (List D)} (hs:0<sz) (hp:∀ e ∈ els',D.xR e=true) (hl:len<=xV.length) (he:xV.take len=els') {ρ:Nat->Nat} {r:List (Nat × Ob)}:vw ⟨m,(key,⟨sz,xV⟩) :: r⟩ ⟨n,[]⟩ ρ (.yM key sz len) (.sl sz els'):=by subst he;simp only [vw];exact⟨trivial,hs,by simp,⟨sz,xV⟩,by simp [St.get,St.look],rfl,hl,rfl,hp⟩
theorem xY.ret {P:Program} {g:FuncId} {args:List D} {σ σ1 σ':St} {d1 d:D} (hc:xY P g args σ d1 σ1) (hr:pC σ.nx σ1 d1 σ' d):xY P g args σ d σ':=by
 refine⟨hc.ord,λM0 w ι vals hS hl hv=>(hc.run M0 w ι vals hS hl hv).mono λe w' hh=>?_⟩;obtain⟨v,ι1,he,kept,nL,nx,stay,rH,hR⟩:=hh
 rcases hr with ⟨rfl,rfl⟩ | ⟨ρ,r1,r2,r3,r4,r5⟩
 ·exact⟨v,ι1,he,kept,nL,nx,stay,rH,hR⟩
 ·have hlive:∀ p ∈ σ'.xZ,∃ ob,σ1.get (ρ p.1)= some ob:=λp hp=>by obtain⟨_,ob,h,_⟩:=r4 p hp;exact⟨ob,h⟩
  refine⟨v,λk=>ι1 (ρ k),he,kept,nL.view r4 r5,r1,λk hk=>?_,λk o hk=>?_,jY nL hlive _ _ hR r3⟩
  ·show ι1 (ρ k)= ι k;rw [r2 k hk]; exact stay k hk
  ·obtain⟨ob,h⟩:=hlive _ (wB hk);exact rH _ _ h
theorem mP {k s:Nat} {xV:List (List D)} (h:xV ≠ []):xB k s xV = .yM k s xV.length:=by cases xV with
 | nil=>exact absurd rfl h
 | cons e r=>rfl
theorem qx {k s:Nat} {xV:List (List D)} (h:xV ≠ []):yZ k s xV = [(k,⟨s,xV⟩)]:=by cases xV with
 | nil=>exact absurd rfl h
 | cons e r=>rfl
def rl (ll:List (List Int)):List (List D):=ll.map λl=>[.sl 1 (rows .i64 l)]
theorem wG (l:List (List Int)):(rl l).length=l.length:=by simp [rl]
theorem pS (l:List (List Int)) {i:Nat} (h:i<l.length):(rl l).getD i [] = [.sl 1 (rows .i64 (l.getD i []))]:=by simp [rl,List.getD,h]
theorem Ow (l:List (List Int)) (n:Nat):(rl l).take n=rl (l.take n):=by simp [rl,List.map_take]
theorem cd (l:List (List Int)) (r:List Int):rl l ++ [[.sl 1 (rows .i64 r)]]=rl (l ++ [r]):=by simp [rl]
theorem MB : rl [] = []:=rfl
theorem ca (l:List (List Int)):∀ e ∈ rl l,D.xR e=true:=by intro e he;simp only [rl,ζ] at he;obtain⟨r,_,rfl⟩:=he;have h:∀ e ∈ rows .i64 r,D.xR e=true:=tI _ r;have:(rows .i64 r).all D.xR=true:=List.all_eq_true.2 h;simp [D.xR,D.xD,this]
theorem gJ (l:List (List Int)):tW (rl l):=ca l
theorem xY.Sf {P:Program} {g:FuncId} {fn:Func} {own:List Nat} {N:Nat} {dc:DC} {rs:List bW} {args:List D} {σ:St} {d:D} {σ':St} (hm:P.follows .mixedOrders=true) (hf:P.funcs[g]?=some fn)
  (hc:xQ P own fn=some (N,dc,rs)) (hla:args.length<=N)
  (h:D.sZ args->wpS ⟨P,N,σ.nx,own,none⟩ dc (gT 0 args) σ (o8 ⟨P,N,σ.nx,own,none⟩ rs d σ')):xY P g args σ d σ':=by
 unfold xQ at hc
 split at hc
 ·cases hc
 ·rename_i c hb
  split at hc
  ·cases hc
  ·rename_i hname
   split at hc
   ·rename_i dc' rs' h1 h2;simp at hc;obtain⟨rfl,rfl,rfl⟩:=hc;refine xY.facts ⟨fn,hf,by simpa using hname,by rw [hb]; rfl⟩ λhfa=>?_;exact xY.W9 hm hf hb (by simpa using hname) h1 h2 hla (h hfa)
   ·cases hc
theorem vy {C} {x y:DC} {f σ Q} (f0:Fr) (σ0:St) (h:wpS C x f σ (oK (λf' σ'=>xT C f' σ' f0 σ0) Q)) (h2:wpS C y f0 σ0 Q):wpS C (.seq x y) f σ Q:= wpS_seq (o5 h λe f' σ' hq=>by cases e with | normal=>exact S4 hq h2 | _=>exact hq)
section
variable [uM]
def WY (C:Cx) (pre mid1:List yX) (f f1 fd:Fr) (dst2:Option Nat) (mid2 post:List yX) (Q:Exit->Fr->St->Prop) (f2:Fr) (d2:D) (σ2:St):Prop:= rZ C σ2 pre (Pg f1) f/\rZ C σ2 mid1 (Pg f2) fd/\rZ C σ2 mid2 (kn C post Q σ2) (f2.put dst2 d2)
def WZ (C:Cx) (pre:List yX) (dst:Option Nat) (mid1:List yX) (dst2:Option Nat) (k2:DK) (mid2 post:List yX) (Q:Exit->Fr->St->Prop) (f:Fr) (f1:Fr) (d1:D) (σ1:St):Prop:= rZ C σ1 pre (Pg f1) f/\rZ C σ1 mid1 (nD C k2 (WY C pre mid1 f f1 (f1.put dst d1) dst2 mid2 post Q) σ1) (f1.put dst d1)
theorem SA {C:Cx} {σ:St} {f:Fr} {Q:Exit->Fr->St->Prop} {pre mid1 mid2 post:List yX} {dst dst2:Option Nat} {g g2:Option (Nat × Bool)} {k k2:DK} :
  vf C (.nf pre ⟨dst,g,k⟩ mid1 ⟨dst2,g2,k2⟩ mid2 post) Q f σ=rZ C σ pre (nD C k (WZ C pre dst mid1 dst2 k2 mid2 post Q f) σ) f:=by
 rw [rK];show cH C _ f σ Q=_;unfold cH;rw [oP,<- rU]
 have:(λf1=>sR C σ (rB f1) k λd1 σ1=>wL C σ1 pre f (λg=>g=f1)/\ wL C σ1 mid1 (f1.put dst d1) λf2=>sR C σ1 (rB f2) k2 λd2 σ2=> wL C σ2 pre f (λg=>g=f1)/\ wL C σ2 mid1 (f1.put dst d1) (λg=>g=f2)/\ wL C σ2 mid2 (f2.put dst2 d2) λf3=>tS C post f3 σ2 λf σ=>Q .normal f σ)= nD C k (WZ C pre dst mid1 dst2 k2 mid2 post Q f) σ:=by
  funext f1;unfold nD;rw [ua];congr 1;funext d1 σ1;unfold WZ;rw [oP,rU,rU]
  have e2:(λf2=>sR C σ1 (rB f2) k2 λd2 σ2=> wL C σ2 pre f (λg=>g=f1)/\ wL C σ2 mid1 (f1.put dst d1) (λg=>g=f2)/\ wL C σ2 mid2 (f2.put dst2 d2) λf3=>tS C post f3 σ2 λf σ=>Q .normal f σ)= nD C k2 (WY C pre mid1 f f1 (f1.put dst d1) dst2 mid2 post Q) σ1:=by
   funext f2;unfold nD;rw [ua];congr 1;funext d2 σ2;unfold WY kn;rw [oP,lR,rU,rU,rU]
   have e3:aA C post (kG Q)= λf σ=>tS C post f σ λf σ=>Q .normal f σ:=by funext f σ; rw [jA]; rfl
   rw [e3];rfl
  rw [e2];rfl
 rw [this]
end
section
variable [uM]
mutual
/-- All objects that a datum names are below n. -/
def D.under (n:Nat):D->Prop
 | .ref k _ _ _=>k<n
 | .yM k _ _=>k<n
 | .sub k _ _ _=>k<n
 | .yI k=>k<n
 | .agg cs=>D.vK n cs
 | .wK cs=>D.vK n cs
 | .fn _ cs=>D.vK n cs
 | _=>True
def D.vK (n:Nat):List D->Prop
 | []=>True
 | d :: r=>d.under n/\D.vK n r
end
theorem qO {n:Nat}:∀ {cs:List D},(∀ j,j<cs.length->(cs.getD j .top).under n)->D.vK n cs
 | [],_=>by simp only [D.vK]
 | d :: r,h=>by simp only [D.vK];exact⟨by simpa using h 0 (by simp),qO λj hj=>by simpa using h (j+1) (by simpa using hj)⟩
theorem RP.under {M:Nat->Prop} {w:World} {n:Nat} {v:Value} {d:D} (h:RP M w v d):d.under n:=by
 induction h with
 | agg _ _ ih=>simp only [D.under]; exact qO ih
 | wK _ _ ih=>simp only [D.under]; exact qO ih
 | fn _ _ ih=>simp only [D.under]; exact qO ih
 | _=>simp only [D.under]
theorem R.under {M:Nat->Prop} {w:World} {ι:Nat->Nat} {n:Nat} {v:Value} {d:D} (h:R M w ι n v d):d.under n:=by
 induction h with
 | pure h=>exact h.under
 | ref hk _=>simp only [D.under]; exact hk
 | yM hk _ _ _ _=>simp only [D.under]; exact hk
 | sub hk _ _ _ _=>simp only [D.under]; exact hk
 | yI hk=>simp only [D.under]; exact hk
 | agg _ _ ih=>simp only [D.under]; exact qO ih
 | wK _ _ ih=>simp only [D.under]; exact qO ih
 | fn _ _ ih=>simp only [D.under]; exact qO ih
def vh (σ:St):Prop:=∀ k o,σ.get k=some o->k<σ.nx/\∀ e ∈ o.xV,D.vK σ.nx e
theorem wZ.under {M0:Nat->Prop} {w:World} {σ:St} {ι:Nat->Nat} (h:wZ M0 w σ ι):vh σ:=by
 intro k o hk;obtain⟨h1,h2⟩:=h.holds k o hk;refine⟨h1,λe he=>?_⟩;obtain⟨i,hi,rfl⟩:=ο he;have e2:o.xV.getD i []=o.xV[i]:=by simp [List.getD,hi]
 rcases h2 with ⟨_,cur,_,_,c2,_,c4⟩ | ⟨_,es,_,_,c3⟩
 ·have hl:=c2 _ (List.getElem_mem hi);refine qO λj hj=>?_;have:=(c4 i hi j (by omega)).2.under;rw [e2] at this;exact this
 ·obtain⟨kv,v,x,d,r1,_,r3,r4⟩:=c3 i hi;rw [e2] at r1;rw [r1];simp only [D.vK];exact⟨r3.under,r4.under,trivial⟩
theorem xY.gS {P:Program} {g:FuncId} {args:List D} {σ:St} {d:D} {σ':St} (ho:tJ P g) (h:vh σ->xY P g args σ d σ'):xY P g args σ d σ':=⟨ho,λM0 w ι vals hS hl hv=>(h hS.under).run M0 w ι vals hS hl hv⟩
mutual
theorem PD {σ σ':St}:∀ {d:D},d.under σ'.nx->vw σ σ' (λk=>k) d d
 | .top,_=>by simp only [vw]
 | .tF,_=>by simp only [vw]
 | .int _ _,_=>by simp only [vw]
 | .bool _,_=>by simp only [vw]
 | .str _,_=>by simp only [vw]
 | .sl _ _,_=>by simp only [vw]; exact⟨trivial,trivial⟩
 | .xO,_=>by simp only [vw]
 | .emp,_=>by simp only [vw]
 | .agg cs,h=>by simp only [vw]; simp only [D.under] at h; exact⟨trivial,gL h⟩
 | .wK cs,h=>by simp only [vw]; simp only [D.under] at h; exact⟨trivial,gL h⟩
 | .fn _ cs,h=>by simp only [vw]; simp only [D.under] at h; exact⟨trivial,trivial,gL h⟩
 | .ref _ _ _ _,h=>by simp only [vw]; simp only [D.under] at h; exact⟨h,trivial⟩
 | .yM _ _ _,h=>by simp only [vw]; simp only [D.under] at h; exact⟨h,trivial⟩
 | .sub _ _ _ _,h=>by simp only [vw]; simp only [D.under] at h; exact⟨h,trivial⟩
 | .ptr _,_=>by simp [vw]
 | .yI _,h=>by simp only [vw]; simp only [D.under] at h; exact⟨h,trivial⟩
 | .oM,_=>by simp only [vw]
 | .qY,_=>by simp only [vw]
 | .sP,_=>by simp only [vw]
 | .aG _,_=>by simp only [vw]
theorem gL {σ σ':St}:∀ {cs:List D},D.vK σ'.nx cs->vI σ σ' (λk=>k) cs cs
 | [],_=>by simp only [vI]
 | d :: r,h=>by simp only [vI]; simp only [D.vK] at h; exact⟨PD h.1,gL h.2⟩
end
theorem bB {σ σ':St}:∀ {xV:List (List D)},(∀ e ∈ xV,D.vK σ'.nx e)->u6 σ σ' (λk=>k) xV xV
 | [],_=>.nil
 | e :: r,h=>.cons rfl (gL (h e (by simp))) (bB λx hx=>h x (List.mem_cons_of_mem _ hx))
def YG : List (Nat × Ob)->List (Nat × Ob)
 | []=>[]
 | (k,o) :: r=>(k,o) :: (YG r).filter λp=>p.1 != k
theorem fV {k k':Nat} (h:¬ k'=k):∀ l:List (Nat × Ob),St.look (l.filter λp=>p.1 != k) k'=St.look l k'
 | []=>rfl
 | (j,o) :: r=>by
  rw [ν]
  by_cases e:j=k
  ·rw [if_neg (by simp [e]),fV h r,xX,if_neg (by omega)]
  ·rw [if_pos (by simpa using e),xX,xX,fV h r]
theorem aT (k:Nat):∀ l:List (Nat × Ob),St.look (YG l) k=St.look l k
 | []=>rfl
 | (j,o) :: r=>by
  unfold YG;rw [xX,xX]
  by_cases e:j=k
  ·rw [if_pos e,if_pos e]
  ·rw [if_neg e,if_neg e,fV (λh=>e h.symm),aT k r]
theorem iY : ∀ {l:List (Nat × Ob)} {p:Nat × Ob},p ∈ YG l->St.look l p.1=some p.2
 | [],p,h=>by cases h
 | (j,o) :: r,p,h=>by
  unfold YG at h;rw [xX]
  rcases μ.1 h with e | e
  ·rw [e,if_pos rfl]
  ·rw [List.mem_filter] at e;have hne:¬ j=p.1:=λh=>by have:=e.2; simp [h] at this
   rw [if_neg hne];exact iY e.1
theorem xY.clean {P:Program} {g:FuncId} {args:List D} {σ:St} {d:D} {nx:Nat} {xZ:List (Nat × Ob)} (h:xY P g args σ d ⟨nx,YG xZ⟩):xY P g args σ d ⟨nx,xZ⟩:=by
 refine⟨h.ord,λM0 w ι vals hS hl hv=>(h.run M0 w ι vals hS hl hv).mono λe w' hh=>?_⟩;obtain⟨v,ι',h1,h2,h3,h4,h5,h6,h7⟩:=hh;have hg:∀ k,St.get ⟨nx,xZ⟩ k=St.get ⟨nx,YG xZ⟩ k:=λk=>(aT k xZ).symm
 have hM:yG M0 ι' ⟨nx,xZ⟩= yG M0 ι' ⟨nx,YG xZ⟩:=by funext b;unfold yG;simp only [hg]
 refine⟨v,ι',h1,h2,⟨h3.sO,λk o hk=>?_,λk k' o o' a b=>?_,λk o hk=>?_,?_⟩,h4,h5,λk o hk=>h6 k o (by rw [<- hg]; exact hk),by rw [hM]; exact h7⟩
 ·rw [hM]; exact h3.holds k o (by rw [<- hg]; exact hk)
 ·exact h3.inj k k' o o' (by rw [<- hg]; exact a) (by rw [<- hg]; exact b)
 ·exact h3.notM k o (by rw [<- hg]; exact hk)
 ·rw [hM]; exact h3.pE
theorem pC.gone {n0:Nat} {xZ:List (Nat × Ob)} {σ1:St} {d1 d:D} (hu:vh ⟨n0,xZ⟩) (hk:∀ k o,St.look xZ k=some o->σ1.get k=some o) (hd:vw σ1 ⟨n0,YG xZ⟩ (λk=>k) d1 d):pC n0 σ1 d1 ⟨n0,YG xZ⟩ d:=
 .inr ⟨λk=>k,τ _,λ_ _=>rfl,hd,λp hp=>by have h:=iY hp;obtain⟨h1,h2⟩:=hu p.1 p.2 h;exact⟨h1,p.2,hk _ _ h,rfl,bB h2⟩,λp _ q _ e=>e⟩
end
theorem mixed : prog.follows .mixedOrders=true:=by kernel_rfl
instance : uM := ⟨[]⟩
theorem gR (v w:Nat) (hw:w<=60):fb .i64 (v:Int) (w:Int)= ((v / 2 ^ w:Nat):Int):=by
 unfold fb
 have e:min (w:Int).toNat IntKind.i64.bits=w:=by have:IntKind.i64.bits=64:=rfl;rw [this,Am]; omega
 rw [e,Int.fdiv_eq_ediv_of_nonneg _ (by have:(0:Int)<2 ^ w:=Int.pow_pos (by decide); omega)];simp
theorem NV {a:Nat} (h:a<2 ^ 62):tY .and .i64 (a:Int) 1=((a % 2:Nat):Int):=by show IntKind.i64.wrap ((BitVec.ofInt 64 (a:Int)&&& BitVec.ofInt 64 1).toNat:Int)= _;rw [Aj,BitVec.toNat_and,Ai,υ (by omega)];have:(BitVec.ofInt 64 1).toNat=1:=rfl;rw [this,Nat.and_one_is_mod];exact wrap_i64 (by omega)
theorem ND (a:Nat):((a:Int)).tmod 2=((a % 2:Nat):Int):=by rw [Int.tmod_eq_emod_of_nonneg (by omega)]; omega
theorem SU (v w:Nat):(((v / 2 ^ w % 2:Nat):Int)== 1)= v.testBit w:=by rw [Nat.testBit_eq_decide_div_mod_eq,Bool.eq_iff_iff,beq_iff_eq,decide_eq_true_iff]; omega
namespace Rs
theorem Xo : ∀ (n:Nat) (l:List Nat),l.Nodup->(∀ x ∈ l,x<n)->l.length<=n
 | 0,[],_,_=>τ _
 | 0,x :: l,_,h=>by have:=h x (by simp); omega
 | n + 1,l,hn,h=>by
  have h1:=Xo n (l.filter λx=>x != n) (hn.filter _) λx hx=>by
   rw [List.mem_filter] at hx;have:=h x hx.1;have:x≠n:=by simpa using hx.2
   omega
  have h2:l.length<=(l.filter λx=>x != n).length+1:=by
   clear h1
   induction l with
   | nil=>simp
   | cons y l ih=>
    rw [List.nodup_cons] at hn
    by_cases e:y=n
    ·subst e
     have:l.filter (λx=>x != y)= l:=List.filter_eq_self.2 λx hx=>by have:x≠y:=λe=>hn.1 (e ▸ hx);simpa using this
     rw [ν,if_neg (by simp),this]; simp
    ·rw [ν,if_pos (by simpa using e)];have:=ih hn.2 λx hx=>h x (by simp [hx]);simp; omega
  omega
def mo (u:List (Int × Int)):List (Int × D):=u.map λp=>(p.1,.int .i64 p.2)
def wO (x:Int):List (Int × Int)->Option Int
 | []=>none
 | (k,y) :: r=>if x=k then some y else wO x r
theorem fY (x:Int):∀ (u:List (Int × Int)) (i:Nat),(wO x u=none/\wI x (mo u) i=none)\/∃ y j,wO x u=some y/\wI x (mo u) i=some (j,.int .i64 y)
 | [],i=>.inl ⟨rfl,rfl⟩
 | (k,y) :: r,i=>by
  show (wO x ((k,y) :: r)= none/\wI x ((k,.int .i64 y) :: mo r) i=none)\/∃ y' j,wO x ((k,y) :: r)= some y'/\wI x ((k,.int .i64 y) :: mo r) i=some (j,.int .i64 y');unfold wO wI
  by_cases h:x=k
  ·rw [if_pos h,if_pos h]; exact .inr ⟨y,i,rfl,rfl⟩
  ·rw [if_neg h,if_neg h]; exact fY x r (i+1)
theorem iO {nx n key sz:Nat} {xZ:List (Nat × Ob)} {xV:List (List D)} (hs:0<sz) (hp:∀ e ∈ xV,D.xR e=true) (h:St.look xZ key=wU sz xV) {ρ:Nat->Nat}:vw ⟨nx,xZ⟩ ⟨n,[]⟩ ρ (xB key sz xV) (.sl sz xV):=by
 cases xV with
 | nil=>simp [xB,vw]
 | cons e t=> simp only [xB,vw];exact⟨trivial,hs,by simp,⟨sz,e :: t⟩,h,rfl,τ _,by simp,hp⟩
end Rs
end Go.Pd

/- Part F4. -/
namespace Go.Pd
open Go Go.Proofs
open BitVec renaming isValue -> ZA
open Rs
namespace Fm
structure vd where
 x:Bool
 y:Bool
 fa:Bool
 ag:Bool
 gr:Bool
 ev:Bool
 fr:Int
def vd.row (u:vd):List D:=[.bool u.x,.bool u.y,.bool u.fa,.bool u.ag,.bool u.gr,.bool u.ev,.int .i64 u.fr]
def sI : vd:=⟨false,false,false,false,false,false,0⟩
def xW (op:Int):vd × Bool:=
 if op<1\/21<op then(sI,false) else if op<=2 then(sI,true) else if op=3 then(⟨false,false,true,false,false,false,0⟩,true) else if op=4 then(⟨true,false,false,false,false,false,0⟩,true)
 else if op<=8 then(⟨true,true,false,false,false,false,0⟩,true) else if op<=10 then(⟨true,false,false,true,false,false,1⟩,true) else if op=11 then(⟨true,false,false,false,true,false,2⟩,true)
 else if op=12 then(⟨true,false,false,false,true,false,4⟩,true) else if op=13 then(⟨true,true,false,false,true,false,8⟩,true) else if op=14 then(⟨true,true,false,true,false,false,16⟩,true)
 else if op=15 then(⟨true,false,false,true,false,false,32⟩,true) else if op=16 then(⟨true,true,false,false,false,false,64⟩,true) else if op=17 then(⟨true,false,false,false,false,true,128⟩,true)
 else if op=18\/op=20 then(⟨true,false,false,false,false,false,256⟩,true) else(⟨true,true,false,false,false,false,256⟩,true)
end Fm
open Fm
theorem xu (op:Int):yU prog 141 [.int .i64 op] (.wK [.agg (xW op).1.row,.bool (xW op).2]):=by
 have hc:op=1\/op=2\/op=3\/op=4\/op=5\/op=6\/op=7\/op=8\/op=9\/op=10\/op=11\/op=12\/op=13\/op=14\/op=15\/op=16\/op=17\/op=18\/op=19\/op=20\/op=21\/(op<1\/21<op):=by omega
 rcases hc with rfl | rfl | rfl | rfl | rfl | rfl | rfl | rfl | rfl | rfl | rfl | rfl | rfl | rfl | rfl | rfl | rfl | rfl | rfl | rfl | rfl | hc
 rotate_right
 ·have e:∀ i:Int,1<=i->i<=21->(op==i)= false:=λi h1 h2=>by simp; omega
  refine xY.xN mixed func141 Kn (by simp) λhf=>?_;simp only [simprocAttr,-ZA,↓zU,↓zD,zV,zT,zW,e 1 (by omega) (by omega),e 2 (by omega) (by omega),e 3 (by omega) (by omega),e 4 (by omega) (by omega),e 5 (by omega) (by omega),e 6 (by omega) (by omega),e 7 (by omega) (by omega),e 8 (by omega) (by omega),e 9 (by omega) (by omega),e 10 (by omega) (by omega),e 11 (by omega) (by omega),e 12 (by omega) (by omega),e 13 (by omega) (by omega),e 14 (by omega) (by omega),e 15 (by omega) (by omega),e 16 (by omega) (by omega),e 17 (by omega) (by omega),e 18 (by omega) (by omega),e 19 (by omega) (by omega),e 20 (by omega) (by omega),e 21 (by omega) (by omega)];rw [show xW op=(sI,false) from if_pos hc];exact .drop (by simp) (by simp [vw,vI,vd.row,sI])
 all_goals
  refine xY.xN mixed func141 Kn (by simp) λhf=>?_;simp only [simprocAttr,-ZA,↓zU,↓zD,zV,zT,zW];exact .drop (by simp) (by simp [vw,vI,xW,vd.row,sI])
open Rs Fm
namespace Fm
structure Nd where
 op:Int
 i:Int
 e:Int
 g:Int
 x:Int
 y:Int
 deriving DecidableEq
def Nd.row (p:Nd):List D:=[.int .i64 p.op,.int .i64 p.i,.int .i64 p.e,.int .i64 p.g,.int .i64 p.x,.int .i64 p.y]
def yR (u:Bool) (f at_:Int):Bool:=if u=true then decide (0<=f)&& decide (f<at_) else decide (f=0)
def xH (u:Bool) (v lo hi:Int):Bool:=u&&(decide (v<lo) || decide (hi<v))
def zY (p:Nd) (k:Int):Int:=
 if (xW p.op).2=false then 10 else
 if (yR (xW p.op).1.x p.x k&&yR (xW p.op).1.y p.y k)= false then 3 else
 if ((!((xW p.op).1.fa || (xW p.op).1.ag || (xW p.op).1.ev)&& decide (p.i≠0)) || (!(xW p.op).1.ev&&decide (p.e≠0)) || (!(xW p.op).1.gr&&decide (p.g≠0)))= true then 3 else
 if (xH (xW p.op).1.fa p.i 0 7 || xH (xW p.op).1.ag p.i 0 3 || xH (xW p.op).1.ev p.i 0 7 || xH (xW p.op).1.ev p.e 0 7 || xH (xW p.op).1.gr p.g 1 15)= true then 2 else 0
theorem cS (op:Int):((xW op).1.fa=false/\(xW op).1.ag=false/\(xW op).1.gr=false/\(xW op).1.ev=false)\/((xW op).1.fa=true/\(xW op).1.ag=false/\(xW op).1.gr=false/\(xW op).1.ev=false) \/
  ((xW op).1.fa=false/\(xW op).1.ag=true/\(xW op).1.gr=false/\(xW op).1.ev=false)\/((xW op).1.fa=false/\(xW op).1.ag=false/\(xW op).1.gr=true/\(xW op).1.ev=false)\/((xW op).1.fa=false/\(xW op).1.ag=false/\(xW op).1.gr=false/\(xW op).1.ev=true):=by
 have hc:op=1\/op=2\/op=3\/op=4\/op=5\/op=6\/op=7\/op=8\/op=9\/op=10\/op=11\/op=12\/op=13\/op=14\/op=15\/op=16\/op=17\/op=18\/op=19\/op=20\/op=21\/(op<1\/21<op):=by omega
 rcases hc with rfl | rfl | rfl | rfl | rfl | rfl | rfl | rfl | rfl | rfl | rfl | rfl | rfl | rfl | rfl | rfl | rfl | rfl | rfl | rfl | rfl | hc
 rotate_right
 ·rw [show xW op=(sI,false) from if_pos hc]; exact .inl ⟨rfl,rfl,rfl,rfl⟩
 all_goals simp [xW,sI]
end Fm
theorem jb (u:Bool) (f k:Int):yU prog 200 [.bool u,.int .i64 f,.int .i64 k] (.bool (yR u f k)):=by
 refine xY.xN mixed func200 J7 (by simp) λhf=>?_
 cases u
 ·simp only [simprocAttr,-ZA,↓zU,↓zD,zV,zT,zW]
  by_cases h:f=0
  ·have e:(f==0)= true:=by simpa using h
   exact .drop (by simp) (by simp [vw,yR,e,h])
  ·have e:(f==0)= false:=by simpa using h
   exact .drop (by simp) (by simp [vw,yR,e,h])
 ·by_cases h1:0<=f
  ·by_cases h2:f<k
   ·simp only [simprocAttr,-ZA,↓zU,↓zD,zV,zT,zW,h1,h2];exact .drop (by simp) (by simp [vw,yR,h1,h2])
   ·simp only [simprocAttr,-ZA,↓zU,↓zD,zV,zT,zW,h1,h2];exact .drop (by simp) (by simp [vw,yR,h1,h2])
  ·simp only [simprocAttr,-ZA,↓zU,↓zD,zV,zT,zW,h1];exact .drop (by simp) (by simp [vw,yR,h1])
theorem yB (u:Bool) (v lo hi:Int):yU prog 201 [.bool u,.int .i64 v,.int .i64 lo,.int .i64 hi] (.bool (xH u v lo hi)):=by
 refine xY.xN mixed func201 J8 (by simp) λhf=>?_
 cases u
 ·simp only [simprocAttr,-ZA,↓zU,↓zD,zV,zT,zW];exact .drop (by simp) (by simp [vw,xH])
 ·by_cases h1:v<lo
  ·simp only [simprocAttr,-ZA,↓zU,↓zD,zV,zT,zW,h1];exact .drop (by simp) (by simp [vw,xH,h1])
  ·by_cases h2:hi<v
   ·simp only [simprocAttr,-ZA,↓zU,↓zD,zV,zT,zW,h1,h2];exact .drop (by simp) (by simp [vw,xH,h1,h2])
   ·simp only [simprocAttr,-ZA,↓zU,↓zD,zV,zT,zW,h1,h2];exact .drop (by simp) (by simp [vw,xH,h1,h2])
theorem za (p:Nd) (k:Int):yU prog 142 [.agg p.row,.int .i64 k] (.int .i64 (zY p k)):=by
 have hk:=cS p.op;have hu:=xu p.op
 have en:zY p k=if (xW p.op).2=false then 10 else
  if (yR (xW p.op).1.x p.x k&&yR (xW p.op).1.y p.y k)= false then 3 else
  if ((!((xW p.op).1.fa || (xW p.op).1.ag || (xW p.op).1.ev)&& decide (p.i≠0)) || (!(xW p.op).1.ev&&decide (p.e≠0)) || (!(xW p.op).1.gr&&decide (p.g≠0)))= true then 3 else
  if (xH (xW p.op).1.fa p.i 0 7 || xH (xW p.op).1.ag p.i 0 3 || xH (xW p.op).1.ev p.i 0 7 || xH (xW p.op).1.ev p.e 0 7 || xH (xW p.op).1.gr p.g 1 15)= true then 2 else 0:=rfl
 rw [en];generalize xW p.op=q at hk hu;obtain⟨⟨ux,uy,fa,ag,gr,ev,fr⟩,ok⟩:=q;simp only [vd.row] at hk hu ⊢;refine xY.xN mixed func142 Ic (by simp) λhf=>?_;simp only [simprocAttr,-ZA,↓zU,↓zD,zV,zT,zW,Nd.row]
 (repeat refine sd ?_)
 refine .go (cq hu) ?_
 cases ok
 ·simp only [simprocAttr,-ZA,↓zU,↓zD,zV,zT,zW];exact .dv
 simp only [simprocAttr,-ZA,↓zU,↓zD,zV,zT,zW];refine .go (cq (jb ux p.x k)) ?_
 cases hx:yR ux p.x k
 ·simp only [simprocAttr,-ZA,↓zU,↓zD,zV,zT,zW];exact .dv
 simp only [simprocAttr,-ZA,↓zU,↓zD,zV,zT,zW];refine .go (cq (jb uy p.y k)) ?_
 cases hy:yR uy p.y k
 ·simp only [simprocAttr,-ZA,↓zU,↓zD,zV,zT,zW];exact .dv
 have ob:∀ v lo hi,xH false v lo hi=false:=λ_ _ _=>rfl
 rcases hk with ⟨rfl,rfl,rfl,rfl⟩ | ⟨rfl,rfl,rfl,rfl⟩ | ⟨rfl,rfl,rfl,rfl⟩ | ⟨rfl,rfl,rfl,rfl⟩ | ⟨rfl,rfl,rfl,rfl⟩
 ·skip;by_cases hi:p.i=0
  case neg=> have ei:(p.i != 0)= true:=bne_iff_ne.2 hi;simp only [simprocAttr,-ZA,↓zU,↓zD,zV,zT,zW,ei];exact .drop (by simp) (by simp [vw,hi])
  have ei:(p.i != 0)= false:=by simpa using hi
  by_cases he:p.e=0
  case neg=> have ee:(p.e != 0)= true:=bne_iff_ne.2 he;simp only [simprocAttr,-ZA,↓zU,↓zD,zV,zT,zW,ei,ee];exact .drop (by simp) (by simp [vw,he,hi])
  have ee:(p.e != 0)= false:=by simpa using he
  by_cases hg:p.g=0
  case neg=> have eg:(p.g != 0)= true:=bne_iff_ne.2 hg;simp only [simprocAttr,-ZA,↓zU,↓zD,zV,zT,zW,ei,ee,eg];exact .drop (by simp) (by simp [vw,hg,hi,he])
  have eg:(p.g != 0)= false:=by simpa using hg
  simp only [simprocAttr,-ZA,↓zU,↓zD,zV,zT,zW,ei,ee,eg];refine .go (cq (yB false p.i 0 7)) ?_;simp only [simprocAttr,-ZA,↓zU,↓zD,zV,zT,zW,ob];refine .go (cq (yB false p.i 0 3)) ?_;simp only [simprocAttr,-ZA,↓zU,↓zD,zV,zT,zW,ob];refine .go (cq (yB false p.i 0 7)) ?_;simp only [simprocAttr,-ZA,↓zU,↓zD,zV,zT,zW,ob];refine .go (cq (yB false p.e 0 7)) ?_;simp only [simprocAttr,-ZA,↓zU,↓zD,zV,zT,zW,ob];refine .go (cq (yB false p.g 1 15)) ?_;simp only [simprocAttr,-ZA,↓zU,↓zD,zV,zT,zW,ob];exact .drop (by simp) (by simp [vw,ob,hi,he,hg])
 ·skip;by_cases he:p.e=0
  case neg=> have ee:(p.e != 0)= true:=bne_iff_ne.2 he;simp only [simprocAttr,-ZA,↓zU,↓zD,zV,zT,zW,ee];exact .drop (by simp) (by simp [vw,he])
  have ee:(p.e != 0)= false:=by simpa using he
  by_cases hg:p.g=0
  case neg=> have eg:(p.g != 0)= true:=bne_iff_ne.2 hg;simp only [simprocAttr,-ZA,↓zU,↓zD,zV,zT,zW,ee,eg];exact .drop (by simp) (by simp [vw,hg,he])
  have eg:(p.g != 0)= false:=by simpa using hg
  simp only [simprocAttr,-ZA,↓zU,↓zD,zV,zT,zW,ee,eg];refine .go (cq (yB true p.i 0 7)) ?_;cases oi:xH true p.i 0 7
  case true=> simp only [simprocAttr,-ZA,↓zU,↓zD,zV,zT,zW];exact .drop (by simp) (by simp [vw,ob,he,hg,oi])
  simp only [simprocAttr,-ZA,↓zU,↓zD,zV,zT,zW];refine .go (cq (yB false p.i 0 3)) ?_;simp only [simprocAttr,-ZA,↓zU,↓zD,zV,zT,zW,ob];refine .go (cq (yB false p.i 0 7)) ?_;simp only [simprocAttr,-ZA,↓zU,↓zD,zV,zT,zW,ob];refine .go (cq (yB false p.e 0 7)) ?_;simp only [simprocAttr,-ZA,↓zU,↓zD,zV,zT,zW,ob];refine .go (cq (yB false p.g 1 15)) ?_;simp only [simprocAttr,-ZA,↓zU,↓zD,zV,zT,zW,ob];exact .drop (by simp) (by simp [vw,ob,he,hg,oi])
 ·skip;by_cases he:p.e=0
  case neg=> have ee:(p.e != 0)= true:=bne_iff_ne.2 he;simp only [simprocAttr,-ZA,↓zU,↓zD,zV,zT,zW,ee];exact .drop (by simp) (by simp [vw,he])
  have ee:(p.e != 0)= false:=by simpa using he
  by_cases hg:p.g=0
  case neg=> have eg:(p.g != 0)= true:=bne_iff_ne.2 hg;simp only [simprocAttr,-ZA,↓zU,↓zD,zV,zT,zW,ee,eg];exact .drop (by simp) (by simp [vw,hg,he])
  have eg:(p.g != 0)= false:=by simpa using hg
  simp only [simprocAttr,-ZA,↓zU,↓zD,zV,zT,zW,ee,eg];refine .go (cq (yB false p.i 0 7)) ?_;simp only [simprocAttr,-ZA,↓zU,↓zD,zV,zT,zW,ob];refine .go (cq (yB true p.i 0 3)) ?_;cases oi:xH true p.i 0 3
  case true=> simp only [simprocAttr,-ZA,↓zU,↓zD,zV,zT,zW];exact .drop (by simp) (by simp [vw,ob,he,hg,oi])
  simp only [simprocAttr,-ZA,↓zU,↓zD,zV,zT,zW];refine .go (cq (yB false p.i 0 7)) ?_;simp only [simprocAttr,-ZA,↓zU,↓zD,zV,zT,zW,ob];refine .go (cq (yB false p.e 0 7)) ?_;simp only [simprocAttr,-ZA,↓zU,↓zD,zV,zT,zW,ob];refine .go (cq (yB false p.g 1 15)) ?_;simp only [simprocAttr,-ZA,↓zU,↓zD,zV,zT,zW,ob];exact .drop (by simp) (by simp [vw,ob,he,hg,oi])
 ·skip;by_cases hi:p.i=0
  case neg=> have ei:(p.i != 0)= true:=bne_iff_ne.2 hi;simp only [simprocAttr,-ZA,↓zU,↓zD,zV,zT,zW,ei];exact .drop (by simp) (by simp [vw,hi])
  have ei:(p.i != 0)= false:=by simpa using hi
  by_cases he:p.e=0
  case neg=> have ee:(p.e != 0)= true:=bne_iff_ne.2 he;simp only [simprocAttr,-ZA,↓zU,↓zD,zV,zT,zW,ei,ee];exact .drop (by simp) (by simp [vw,he,hi])
  have ee:(p.e != 0)= false:=by simpa using he
  simp only [simprocAttr,-ZA,↓zU,↓zD,zV,zT,zW,ei,ee];refine .go (cq (yB false p.i 0 7)) ?_;simp only [simprocAttr,-ZA,↓zU,↓zD,zV,zT,zW,ob];refine .go (cq (yB false p.i 0 3)) ?_;simp only [simprocAttr,-ZA,↓zU,↓zD,zV,zT,zW,ob];refine .go (cq (yB false p.i 0 7)) ?_;simp only [simprocAttr,-ZA,↓zU,↓zD,zV,zT,zW,ob];refine .go (cq (yB false p.e 0 7)) ?_;simp only [simprocAttr,-ZA,↓zU,↓zD,zV,zT,zW,ob];refine .go (cq (yB true p.g 1 15)) ?_;cases og:xH true p.g 1 15
  case true=> simp only [simprocAttr,-ZA,↓zU,↓zD,zV,zT,zW];exact .drop (by simp) (by simp [vw,ob,hi,he,og])
  simp only [simprocAttr,-ZA,↓zU,↓zD,zV,zT,zW];exact .drop (by simp) (by simp [vw,ob,hi,he,og])
 ·skip;by_cases hg:p.g=0
  case neg=> have eg:(p.g != 0)= true:=bne_iff_ne.2 hg;simp only [simprocAttr,-ZA,↓zU,↓zD,zV,zT,zW,eg];exact .drop (by simp) (by simp [vw,hg])
  have eg:(p.g != 0)= false:=by simpa using hg
  simp only [simprocAttr,-ZA,↓zU,↓zD,zV,zT,zW,eg];refine .go (cq (yB false p.i 0 7)) ?_;simp only [simprocAttr,-ZA,↓zU,↓zD,zV,zT,zW,ob];refine .go (cq (yB false p.i 0 3)) ?_;simp only [simprocAttr,-ZA,↓zU,↓zD,zV,zT,zW,ob];refine .go (cq (yB true p.i 0 7)) ?_;cases oi:xH true p.i 0 7
  case true=> simp only [simprocAttr,-ZA,↓zU,↓zD,zV,zT,zW];exact .drop (by simp) (by simp [vw,ob,hg,oi])
  simp only [simprocAttr,-ZA,↓zU,↓zD,zV,zT,zW];refine .go (cq (yB true p.e 0 7)) ?_;cases oe:xH true p.e 0 7
  case true=> simp only [simprocAttr,-ZA,↓zU,↓zD,zV,zT,zW];exact .drop (by simp) (by simp [vw,ob,hg,oi,oe])
  simp only [simprocAttr,-ZA,↓zU,↓zD,zV,zT,zW];refine .go (cq (yB false p.g 1 15)) ?_;simp only [simprocAttr,-ZA,↓zU,↓zD,zV,zT,zW,ob];exact .drop (by simp) (by simp [vw,ob,hg,oi,oe])
open Rs Fm
namespace Fm
def wA : Nd:=⟨0,0,0,0,0,0⟩
def zB (l:List Nd):List (List D):=l.map Nd.row
theorem xG (l:List Nd):(zB l).length=l.length:=by simp [zB]
theorem sT (l:List Nd) {i:Nat} (h:i<l.length):(zB l).getD i []=(l.getD i wA).row:=by simp [zB,List.getD,h]
theorem aW (l:List Nd):∀ e ∈ zB l,D.xR e=true:=by intro e he;simp only [zB,ζ] at he;obtain⟨p,_,rfl⟩:=he;simp [Nd.row,D.xR,D.xD]
def bX : List Nd->Int->Int
 | [],_=>0
 | p :: r,i=>if zY p i≠0 then zY p i else bX r (i+1)
def yT (f:List Nd):Int:=if f = [] then 3 else if 200<f.length then 8 else bX f 0
theorem Ty {f:List Nd}:∀ {i:Int},bX f i=0->∀ k,k<f.length->zY (f.getD k wA) (i+k)= 0:=by
 induction f with
 | nil=>intro i _ k hk; simp at hk
 | cons p r ih=>
  intro i h k hk;unfold bX at h
  by_cases hp:zY p i≠0
  ·rw [if_pos hp] at h; exact absurd h hp
  ·rw [if_neg hp] at h
   cases k with
   | zero=>simpa using hp
   | succ k=> have:=ih h k (by simpa using hk);rw [List.getD_cons_succ,show i+((k+1:Nat):Int)= i+1+k by omega];exact this
end Fm
theorem jR (f:List Nd):yU prog 100 [.sl 6 (zB f)] (.int .i64 (yT f)):=by
 refine xY.xN mixed func100 I4 (by simp) λhf=>?_;simp only [D.sZ,D.fact,xG] at hf;have hlen:=hf.1.1
 by_cases h1:f.length=0
 ·have e1:((f.length:Int)== 0)= true:=by simpa using h1
  simp only [simprocAttr,-ZA,↓zU,↓zD,zV,zT,zW,xG,e1];rw [show yT f=3 from if_pos (List.length_eq_zero_iff.1 h1)];exact .same
 have e1:((f.length:Int)== 0)= false:=by simpa using h1
 have hne:f ≠ []:=λe=>h1 (by rw [e]; rfl)
 by_cases h2:200<f.length
 ·have h2':(200:Int)<(f.length:Int):=by omega
  simp only [simprocAttr,-ZA,↓zU,↓zD,zV,zT,zW,xG,e1,h2'];rw [show yT f=8 by rw [yT,if_neg hne,if_pos h2]];exact .same
 have h2':¬ (200:Int)<(f.length:Int):=by omega
 rw [show yT f=bX f 0 by rw [yT,if_neg hne,if_neg h2]];simp only [simprocAttr,-ZA,↓zU,↓zD,zV,zT,zW,xG,e1,h2']
 refine xP (λk:Nat=>[(14,.int .i64 k),(13,.int .i64 f.length),(12,.sl 6 (zB f))]) (λ_=>⟨0,[]⟩) (λk=>k<=f.length/\bX f 0=bX (f.drop k) k) (λk=>f.length-k) 0 ⟨χ _,rfl⟩ ?_ ?_
 ·(refine xT.same ?_; simp [xS,Fr.get])
 intro k ⟨hk,hi⟩;refine xM mixed ?_;by_cases h:k<f.length
 case neg=>
  have hd:¬ ((k:Int)<(f.length:Int)):=by omega
  rw [ξ (by omega),bX] at hi;simp only [simprocAttr,-ZA,↓zU,↓zD,zV,zT,zW,hd];rw [hi];exact .same
 have hd:((k:Int)<(f.length:Int)):=by omega
 rw [drop_cons (d:=wA) h,bX] at hi;have hg:=sT f h;generalize f.getD k wA=p at hg hi;simp only [simprocAttr,-ZA,↓zU,↓zD,zV,zT,zW,hd,xG,hg,Nd.row]
 (repeat refine sd ?_)
 refine .go (xY.yH (za p k) (by simp [D.xR,D.xD,Nd.row])) ?_
 by_cases he:zY p k=0
 ·have e:(zY p k != 0)= false:=by simpa using he
  rw [if_neg (by simpa using he)] at hi;simp only [simprocAttr,-ZA,↓zU,↓zD,zV,zT,zW,e];refine⟨k+1,⟨by omega,hi⟩,?_,by omega⟩
  (refine xT.view (λk=>k) (by simp) (by simp) ?_ (by simp [stays]) (by simp [rY]); simp [YR,vw,vI,Fr.get])
  exact wrap_i64 (by omega)
 ·have e:(zY p k != 0)= true:=bne_iff_ne.2 he;rw [if_pos he] at hi;simp only [simprocAttr,-ZA,↓zU,↓zD,zV,zT,zW,e];rw [hi];exact .dv
open Rs Fm
namespace Fm
end Fm
theorem Nr (p:Nd) (u:vd):yU prog 112 [.agg p.row,.agg u.row] (.int .i64 u.fr):=by
 refine xY.xN mixed func112 IG (by simp) λhf=>?_;simp only [simprocAttr,-ZA,↓zU,↓zD,zV,zT,zW,Nd.row,vd.row]
 (repeat refine sd ?_)
 exact .dv
theorem Np (p:Nd) (u:vd) (h:u.fa=true->0<=p.i/\p.i<=7):yU prog 204 [.agg p.row,.agg u.row] (.int .i64 (if u.fa=true then((2 ^ p.i.toNat:Nat):Int) else 0)):=by
 refine xY.xN mixed func204 JA (by simp) λhf=>?_
 cases hu:u.fa
 ·simp only [simprocAttr,-ZA,↓zU,↓zD,zV,zT,zW,Nd.row,vd.row,hu]
  (repeat refine sd ?_)
  exact .dv
 ·obtain⟨i,hi⟩:=Ak (h hu).1;have hi7:=(h hu).2;simp only [simprocAttr,-ZA,↓zU,↓zD,zV,zT,zW,Nd.row,vd.row,hu,hi,TO (show i<=61 by omega)]
  (repeat refine sd ?_)
  exact .dv
theorem Pm (p:Nd) (u:vd) (h:u.ag=true->0<=p.i/\p.i<=7):yU prog 203 [.agg p.row,.agg u.row] (.int .i64 (if u.ag=true then((2 ^ p.i.toNat:Nat):Int) else p.g)):=by
 refine xY.xN mixed func203 J9 (by simp) λhf=>?_
 cases hu:u.ag
 ·simp only [simprocAttr,-ZA,↓zU,↓zD,zV,zT,zW,Nd.row,vd.row,hu]
  (repeat refine sd ?_)
  exact .dv
 ·obtain⟨i,hi⟩:=Ak (h hu).1;have hi7:=(h hu).2;simp only [simprocAttr,-ZA,↓zU,↓zD,zV,zT,zW,Nd.row,vd.row,hu,hi,TO (show i<=61 by omega)]
  (repeat refine sd ?_)
  exact .dv
open Rs Fm
namespace Fm
def Nd.key (p:Nd):List Int:=[p.op,p.i,p.e,p.g,p.x,p.y]
theorem key_inj {p q:Nd} (h:p.key=q.key):p=q:=by cases p; cases q;simp only [Nd.key,List.cons.injEq,and_true] at h;simp only [Nd.mk.injEq];exact h
def lE : List Nd->Nat->List (List Int × D)
 | [],_=>[]
 | q :: r,k=>(q.key,.int .i64 k) :: lE r (k+1)
def sN (q:Nd):List Nd->Nat->Option Nat
 | [],_=>none
 | p :: r,k=>if q=p then some k else sN q r (k+1)
theorem oY (q:Nd):∀ (l:List Nd) (k:Nat),mZ q.key (lE l k) k=(sN q l k).map λ(j:Nat)=>(j,D.int .i64 (j:Int))
 | [],k=>rfl
 | p :: r,k=>by
  unfold lE mZ sN
  by_cases h:q=p
  ·rw [if_pos (by rw [h]),if_pos h]; rfl
  ·rw [if_neg (λe=>h (key_inj e)),if_neg h]; exact oY q r (k+1)
theorem eR (q:Nd):∀ (l:List Nd) (k:Nat),lE (l ++ [q]) k=lE l k ++ [(q.key,.int .i64 (k+l.length:Nat))]
 | [],k=>rfl
 | p :: r,k=>by show _ :: lE (r ++ [q]) (k+1)= _;rw [eR q r (k+1)];simp [lE,Nat.add_assoc,Nat.add_comm 1]
theorem jV (l:List Nd):∀ (k:Nat),∀ p ∈ lE l k,p.1.length=6:=by
 induction l with
 | nil=>intro k p hp; cases hp
 | cons q r ih=>
  intro k p hp
  rcases μ.1 hp with rfl | hp
  ·rfl
  ·exact ih _ p hp
def nH (x y:Int):List (Int × Int)->List (Int × Int)
 | []=>[(x,y)]
 | (k,z) :: r=>if x=k then(x,y) :: r else(k,z) :: nH x y r
theorem vA (x:Int) (l:List (Int × D)):∀ i,wI x l (i+1)= (wI x l i).map λp=>(p.1+1,p.2):=by
 induction l with
 | nil=>intro i; rfl
 | cons p r ih=>
  intro i;obtain⟨k,d⟩:=p;unfold wI
  by_cases h:x=k
  ·rw [if_pos h,if_pos h]; rfl
  ·rw [if_neg h,if_neg h]; exact ih (i+1)
theorem mM (x y:Int):∀ (u:List (Int × Int)),eD (mo u) x (.int .i64 y)= mo (nH x y u)
 | []=>rfl
 | (k,z) :: r=>by
  have ih:=mM x y r;unfold eD at ih ⊢
  show (match wI x ((k,D.int .i64 z) :: mo r) 0 with
   | some (i,_)=>((k,D.int .i64 z) :: mo r).set i (x,D.int .i64 y)
   | none=>((k,D.int .i64 z) :: mo r)++ [(x,D.int .i64 y)])= _
  unfold wI nH
  by_cases h:x=k
  ·rw [if_pos h,if_pos h]; rfl
  ·rw [if_neg h,if_neg h,vA]
   cases ha:wI x (mo r) 0 with
   | none=>rw [ha] at ih; simp only [Ad]; show _=(k,D.int .i64 z) :: mo (nH x y r); rw [<- ih]; rfl
   | some p=>rw [ha] at ih; obtain⟨i,d⟩:=p; simp only [Ac]; show _=(k,D.int .i64 z) :: mo (nH x y r); rw [<- ih]; rfl
theorem sC (x y z:Int):∀ (u:List (Int × Int)),wO z (nH x y u)= if z=x then some y else wO z u
 | []=>by simp [nH,wO]
 | (k,w) :: r=>by
  unfold nH
  by_cases h:x=k
  ·rw [if_pos h];subst h;unfold wO
   by_cases e:z=x
   ·rw [if_pos e,if_pos e]
   ·rw [if_neg e,if_neg e,if_neg e]
  ·rw [if_neg h];unfold wO;rw [sC x y z r]
   by_cases e:z=k
   ·rw [if_pos e,if_neg (by omega),if_pos e]
   ·rw [if_neg e,if_neg e]
structure CS where
 out:List Nd
 done:List (Int × Int)
def xE (f:List Nd):Nat->Nat->CS->Int × CS
 | 0,_,s=>(0,s)
 | n+1,i,s=>match wO i s.done with
  | some k=>(k,s)
  | none=>
   let p:=f.getD i wA
   let a:=if (xW p.op).1.x=true then xE f n p.x.toNat s else(p.x,s)
   let b:=if (xW p.op).1.y=true then xE f n p.y.toNat a.2 else(p.y,a.2)
   let q:Nd:=⟨p.op,p.i,p.e,p.g,a.1,b.1⟩
   match sN q b.2.out 0 with
   | some k=>(k,⟨b.2.out,nH i k b.2.done⟩)
   | none=>(b.2.out.length,⟨b.2.out ++ [q],nH i b.2.out.length b.2.done⟩)
def uF (f:List Nd) (i:Nat):List Nd:=(xE f (i+1) i ⟨[],[]⟩).2.out
end Fm
open Rs Fm
namespace Fm
structure lB (f : List Nd) (nx : Nat) (xZ : List (Nat × Ob)) (key : Nat) (s : CS) : Prop where
 hn:7<=nx
 h0:St.look xZ 0=some ⟨1,[[.sl 6 (zB f)]]⟩
 h1:St.look xZ 1=some ⟨1,[[xB key 6 (zB s.out)]]⟩
 hk:7<=key/\key≠nx/\key≠nx+1/\St.look xZ key=wU 6 (zB s.out)
 fr:∀ k,nx<=k->St.look xZ k=none
 h2:St.look xZ 2=some ⟨0,sM (lE s.out 0)⟩
 h3:St.look xZ 3=some ⟨1,[[.yI 2]]⟩
 h4:St.look xZ 4=some ⟨0,uA .i64 (mo s.done)⟩
 h5:St.look xZ 5=some ⟨1,[[.yI 4]]⟩
 h6:St.look xZ 6=some ⟨1,[[.fn 202 [.ref 5 1 0 0,.ref 0 1 0 0,.ref 6 1 0 0,.ref 3 1 0 0,.ref 1 1 0 0]]]⟩
def wQ (op i e g x y:Int):Ob:=⟨6,[[.int .i64 op,.int .i64 i,.int .i64 e,.int .i64 g,.int .i64 x,.int .i64 y]]⟩
def cG (u:vd):Ob:=⟨7,[[.bool u.x,.bool u.y,.bool u.fa,.bool u.ag,.bool u.gr,.bool u.ev,.int .i64 u.fr]]⟩
def PJ (i:Nat) (nx nx2:Nat) (objs2:List (Nat × Ob)) (key2:Nat) (s2:CS) (q:Nd) (d:D) (σ':St):Prop:=
 (∃ k,sN q s2.out 0=some k/\d = .int .i64 k/\σ'=⟨nx2,zL (zL objs2 nx (wQ q.op q.i q.e q.g q.x q.y)) 4 ⟨0,uA .i64 (mo (nH i k s2.done))⟩⟩) \/
 (sN q s2.out 0=none/\s2.out.length<=1000/\d = .int .i64 s2.out.length/\σ'=⟨nx2+1,yZ nx2 6 (zB (s2.out ++ [q]))++ zL (zL (zL (yC (zL objs2 nx (wQ q.op q.i q.e q.g q.x q.y)) key2) 1 ⟨1,[[xB nx2 6 (zB (s2.out ++ [q]))]]⟩) 2 ⟨0,sM (lE (s2.out ++ [q]) 0)⟩) 4 ⟨0,uA .i64 (mo (nH i s2.out.length s2.done))⟩⟩)
end Fm
theorem PE {f:List Nd} {nx:Nat} {xZ:List (Nat × Ob)} {key:Nat} {s:CS} {i:Nat} {d:D} {σ':St} (hI:lB f nx xZ key s) (hi:i<f.length) (hlen:f.length<=1000) {p:Nd} (hp:f.getD i wA=p) (hno:wO i s.done=none) (hux:(xW p.op).1.x=false) (huy:(xW p.op).1.y=false)
  (h:PJ i nx (nx+1+1) ((nx+1,cG (xW p.op).1) :: (nx,wQ p.op p.i p.e p.g p.x p.y) :: xZ) key s p d σ') :
  xY prog 202 [.int .i64 i,.ref 5 1 0 0,.ref 0 1 0 0,.ref 6 1 0 0,.ref 3 1 0 0,.ref 1 1 0 0] ⟨nx,xZ⟩ d σ':=by
 obtain⟨hn,h0,h1,⟨k1,k2,k3,hkk⟩,hfr,h2,h3,h4,h5,h6⟩:=hI;rcases fY (i:Int) s.done 0 with ⟨q1,q2⟩ | ⟨y,j,q1,q2⟩
 rotate_left
 ·rw [hno] at q1; cases q1
 have hg:=sT f hi;rw [hp] at hg;have hx1:∀ k:Nat,k<7->¬ nx=k:=λk h=>by omega
 have hx2:∀ k:Nat,k<7->¬ nx+1=k:=λk h=>by omega
 have hx3:¬ nx+1=nx:=by omega
 have hmg:∀ {nx':Nat} {objs':List (Nat × Ob)} {zero:D} {ok:Bool} {K:D->Prop},St.look objs' 2=some ⟨0,sM (lE s.out 0)⟩->gQ ⟨nx',objs'⟩ 6 zero ok (.yI 2) (.agg [.int .i64 p.op,.int .i64 p.i,.int .i64 p.e,.int .i64 p.g,.int .i64 p.x,.int .i64 p.y]) K=K (qC ok zero ((sN p s.out 0).map λ(j:Nat)=>(j,D.int .i64 (j:Int)))):=λ{nx' objs' zero ok K} hl=>by rw [<- oY p s.out 0];exact yt hl (x:=p.key) rfl rfl (jV _ _)
 refine xY.xN mixed func202 PP (by simp) λhf=>?_;simp only [simprocAttr,-ZA,↓zU,↓zD,zV,zT,zW,h5,h4,q2,h0,xG,hg,Nd.row]
 (repeat refine sd ?_)
 refine .go (cq (xu p.op)) ?_
 have hl2:St.look ((nx+1,cG (xW p.op).1) :: (nx,wQ p.op p.i p.e p.g p.x p.y) :: xZ) 2=some ⟨0,sM (lE s.out 0)⟩:=by rw [xX,if_neg (by omega),xX,if_neg (by omega)]; exact h2
 simp only [cG,wQ,hux,huy] at hl2
 rcases h with ⟨k,e1,rfl,rfl⟩ | ⟨e1,e2,rfl,rfl⟩
 ·have hmg2:=@hmg;rw [e1] at hmg2;simp only [simprocAttr,-ZA,↓zU,↓zD,zV,zT,zW,vd.row,hux,huy,h3,hx1 3 (by omega),hx2 3 (by omega),hx1 5 (by omega),hx2 5 (by omega),hx1 4 (by omega),hx2 4 (by omega),hx1 2 (by omega),hx2 2 (by omega),hx3,h2,hmg2,Ac,h5,h4]
  (repeat refine sd ?_)
  rw [mM];simp only [cG,wQ,hux,huy];exact .same
 ·have hmg2:=@hmg;rw [e1] at hmg2;have hx4:¬ nx=key:=by omega
  have hx5:¬ nx+1=key:=by omega
  have hx6:∀ k:Nat,k<7->¬ nx+1+1=k:=λk h=>by omega
  have hx7:¬ nx+1+1=nx:=by omega
  have hx8:¬ nx+1+1=nx+1:=by omega
  have he:∀ k:Nat,k<7->St.look (yC xZ key) k=St.look xZ k:=λk h=>by rw [xF,if_neg (by omega)]
  have he1:=he 1 (by omega);have he2:=he 2 (by omega);have he3:=he 3 (by omega);have he4:=he 4 (by omega);have he5:=he 5 (by omega);rw [h1] at he1;rw [h2] at he2;rw [h3] at he3;rw [h4] at he4;rw [h5] at he5;have hpz:D.xR [.int .i64 p.op,.int .i64 p.i,.int .i64 p.e,.int .i64 p.g,.int .i64 p.x,.int .i64 p.y]=true:=by simp [D.xR,D.xD]
  have hms:∀ {nx':Nat} {objs':List (Nat × Ob)} {x:D} {K:D->St->Prop},St.look objs' 2=some ⟨0,sM (lE s.out 0)⟩->jB ⟨nx',objs'⟩ 6 (.yI 2) (.agg [.int .i64 p.op,.int .i64 p.i,.int .i64 p.e,.int .i64 p.g,.int .i64 p.x,.int .i64 p.y]) x K=K .tF ⟨nx',zL objs' 2 ⟨0,sM (lE s.out 0 ++ [(p.key,x)])⟩⟩:=λ{nx' objs' x K} hl=> yw hl (y:=p.key) rfl rfl (jV _ _) (by rw [oY,e1]; rfl)
  simp only [simprocAttr,-ZA,↓zU,↓zD,zV,zT,zW,vd.row,hux,huy,h3,hx1 3 (by omega),hx2 3 (by omega),hx1 5 (by omega),hx2 5 (by omega),hx1 4 (by omega),hx2 4 (by omega),hx1 2 (by omega),hx2 2 (by omega),hx1 1 (by omega),hx2 1 (by omega),hx6 1 (by omega),hx6 2 (by omega),hx6 3 (by omega),hx6 4 (by omega),hx6 5 (by omega),he1,he2,he3,he4,he5,hx3,hx7,hx8,h1,h2,hmg2,hms,hpz,xU,Ad,h5,h4,hkk,xG,hx4,hx5]
  (repeat refine sd ?_)
  have er:zB (s.out ++ [p])= zB s.out ++ [[.int .i64 p.op,.int .i64 p.i,.int .i64 p.e,.int .i64 p.g,.int .i64 p.x,.int .i64 p.y]]:=by simp [zB,Nd.row]
  rw [mM,er,eR,ω];simp only [cG,wQ,hux,huy];exact .same
open Rs Fm
theorem Rz {f:List Nd} {nx:Nat} {xZ:List (Nat × Ob)} {key:Nat} {s:CS} {i:Nat} {d:D} {σ':St} (hI:lB f nx xZ key s) (hi:i<f.length) (hlen:f.length<=1000) {p:Nd} (hp:f.getD i wA=p) (hno:wO i s.done=none) (hux:(xW p.op).1.x=true) (huy:(xW p.op).1.y=false)
  {a:Int} {nx1:Nat} {objs1:List (Nat × Ob)} {key1:Nat} {s1:CS}
  (hcall:xY prog 202 [.int .i64 p.x,.ref 5 1 0 0,.ref 0 1 0 0,.ref 6 1 0 0,.ref 3 1 0 0,.ref 1 1 0 0] ⟨nx+1+1,(nx+1,cG (xW p.op).1) :: (nx,wQ p.op p.i p.e p.g p.x p.y) :: xZ⟩ (.int .i64 a) ⟨nx1,objs1⟩)
  (hI1:lB f nx1 objs1 key1 s1) (hN:St.look objs1 nx=some (wQ p.op p.i p.e p.g p.x p.y)) (hU:St.look objs1 (nx+1)= some (cG (xW p.op).1)) (hle:nx+1+1<=nx1) (hke:key1≠nx)
  (h:PJ i nx nx1 objs1 key1 s1 ⟨p.op,p.i,p.e,p.g,a,p.y⟩ d σ') :
  xY prog 202 [.int .i64 i,.ref 5 1 0 0,.ref 0 1 0 0,.ref 6 1 0 0,.ref 3 1 0 0,.ref 1 1 0 0] ⟨nx,xZ⟩ d σ':=by
 obtain⟨hn,h0,h1,⟨k1,k2,k3,hkk⟩,hfr,h2,h3,h4,h5,h6⟩:=hI;obtain⟨hn',h0',h1',⟨k1',k2',k3',hkk'⟩,hfr',h2',h3',h4',h5',h6'⟩:=hI1;rcases fY (i:Int) s.done 0 with ⟨q1,q2⟩ | ⟨y,j,q1,q2⟩
 rotate_left
 ·rw [hno] at q1; cases q1
 have hg:=sT f hi;rw [hp] at hg;have hx1:∀ k:Nat,k<7->¬ nx=k:=λk h=>by omega
 have hx2:∀ k:Nat,k<7->¬ nx+1=k:=λk h=>by omega
 have hx3:¬ nx+1=nx:=by omega
 have hx9:¬ nx=nx+1:=by omega
 have hmg:∀ {nx':Nat} {objs':List (Nat × Ob)} {zero:D} {ok:Bool} {K:D->Prop},St.look objs' 2=some ⟨0,sM (lE s1.out 0)⟩->gQ ⟨nx',objs'⟩ 6 zero ok (.yI 2) (.agg [.int .i64 p.op,.int .i64 p.i,.int .i64 p.e,.int .i64 p.g,.int .i64 a,.int .i64 p.y]) K=K (qC ok zero ((sN ⟨p.op,p.i,p.e,p.g,a,p.y⟩ s1.out 0).map λ(j:Nat)=>(j,D.int .i64 (j:Int)))):=λ{nx' objs' zero ok K} hl=>by rw [<- oY ⟨p.op,p.i,p.e,p.g,a,p.y⟩ s1.out 0];exact yt hl (x:=Nd.key ⟨p.op,p.i,p.e,p.g,a,p.y⟩) rfl rfl (jV _ _)
 simp only [wQ] at hN hcall;simp only [cG] at hU hcall;rw [hux,huy] at hU hcall;refine xY.xN mixed func202 PP (by simp) λhf=>?_;simp only [simprocAttr,-ZA,↓zU,↓zD,zV,zT,zW,h5,h4,q2,h0,xG,hg,Nd.row]
 (repeat refine sd ?_)
 refine .go (cq (xu p.op)) ?_;simp only [simprocAttr,-ZA,↓zU,↓zD,zV,zT,zW,vd.row,hux,huy,h6,hx1 6 (by omega),hx2 6 (by omega),hx3]
 (repeat refine sd ?_)
 refine .go hcall ?_
 rcases h with ⟨k,e1,rfl,rfl⟩ | ⟨e1,e2,rfl,rfl⟩
 ·have hmg2:=@hmg;rw [e1] at hmg2;simp only [simprocAttr,-ZA,↓zU,↓zD,zV,zT,zW,hN,hU,h3',h2',hmg2,Ac,h5',h4',xU,hx1 3 (by omega),hx1 5 (by omega),hx1 4 (by omega),hx1 2 (by omega),hx1 1 (by omega),hx3,hx9]
  (repeat refine sd ?_)
  rw [mM];simp only [wQ];exact .same
 ·have hmg2:=@hmg;rw [e1] at hmg2;have y1:∀ k:Nat,k<7->¬ key1=k:=λk h=>by omega
  have y2:¬ nx=key1:=λe=>hke e.symm;have y3:∀ k:Nat,k<7->¬ nx1=k:=λk h=>by omega
  have y4:¬ nx1=nx:=by omega
  have z1:∀ k:Nat,k<7->¬ k=nx:=λk h=>by omega
  have z2:∀ k:Nat,k<7->¬ k=nx1:=λk h=>by omega
  have hpz:D.xR [.int .i64 p.op,.int .i64 p.i,.int .i64 p.e,.int .i64 p.g,.int .i64 a,.int .i64 p.y]=true:=by simp [D.xR,D.xD]
  have hms:∀ {nx':Nat} {objs':List (Nat × Ob)} {x:D} {K:D->St->Prop},St.look objs' 2=some ⟨0,sM (lE s1.out 0)⟩->jB ⟨nx',objs'⟩ 6 (.yI 2) (.agg [.int .i64 p.op,.int .i64 p.i,.int .i64 p.e,.int .i64 p.g,.int .i64 a,.int .i64 p.y]) x K=K .tF ⟨nx',zL objs' 2 ⟨0,sM (lE s1.out 0 ++ [(Nd.key ⟨p.op,p.i,p.e,p.g,a,p.y⟩,x)])⟩⟩:=λ{nx' objs' x K} hl=> yw hl (y:=Nd.key ⟨p.op,p.i,p.e,p.g,a,p.y⟩) rfl rfl (jV _ _) (by rw [oY,e1]; rfl)
  simp only [simprocAttr,-ZA,↓zU,↓zD,zV,zT,zW,hN,hU,h1',h3',h2',hmg2,hms,hpz,Ad,Ac,h5',h4',hkk',xG,xU,xF,hx1 3 (by omega),hx1 5 (by omega),hx1 4 (by omega),hx1 2 (by omega),hx1 1 (by omega),hx3,hx9,y1 1 (by omega),y1 2 (by omega),y1 3 (by omega),y1 4 (by omega),y1 5 (by omega),y2,hke,y3 1 (by omega),y3 2 (by omega),y3 3 (by omega),y3 4 (by omega),y3 5 (by omega),y4,z1 1 (by omega),z1 2 (by omega),z1 4 (by omega),z2 1 (by omega),z2 2 (by omega),z2 4 (by omega)]
  (repeat refine sd ?_)
  have er:zB (s1.out ++ [⟨p.op,p.i,p.e,p.g,a,p.y⟩])= zB s1.out ++ [[.int .i64 p.op,.int .i64 p.i,.int .i64 p.e,.int .i64 p.g,.int .i64 a,.int .i64 p.y]]:=by simp [zB,Nd.row]
  rw [mM,er,eR,ω];simp only [wQ];exact .same
open Rs Fm
theorem VE {f:List Nd} {nx:Nat} {xZ:List (Nat × Ob)} {key:Nat} {s:CS} {i:Nat} {d:D} {σ':St} (hI:lB f nx xZ key s) (hi:i<f.length) (hlen:f.length<=1000) {p:Nd} (hp:f.getD i wA=p) (hno:wO i s.done=none) (hux:(xW p.op).1.x=true) (huy:(xW p.op).1.y=true)
  {a:Int} {nx1:Nat} {objs1:List (Nat × Ob)} {key1:Nat} {s1:CS}
  (hcall:xY prog 202 [.int .i64 p.x,.ref 5 1 0 0,.ref 0 1 0 0,.ref 6 1 0 0,.ref 3 1 0 0,.ref 1 1 0 0] ⟨nx+1+1,(nx+1,cG (xW p.op).1) :: (nx,wQ p.op p.i p.e p.g p.x p.y) :: xZ⟩ (.int .i64 a) ⟨nx1,objs1⟩)
  (hI1:lB f nx1 objs1 key1 s1) (hN:St.look objs1 nx=some (wQ p.op p.i p.e p.g p.x p.y)) (hU:St.look objs1 (nx+1)= some (cG (xW p.op).1))
  {b:Int} {nx2:Nat} {objs2:List (Nat × Ob)} {key2:Nat} {s2:CS}
  (hcall2:xY prog 202 [.int .i64 p.y,.ref 5 1 0 0,.ref 0 1 0 0,.ref 6 1 0 0,.ref 3 1 0 0,.ref 1 1 0 0] ⟨nx1,zL objs1 nx (wQ p.op p.i p.e p.g a p.y)⟩ (.int .i64 b) ⟨nx2,objs2⟩)
  (hI2:lB f nx2 objs2 key2 s2) (hN2:St.look objs2 nx=some (wQ p.op p.i p.e p.g a p.y)) (hle:nx+1+1<=nx2) (hke:key2≠nx)
  (h:PJ i nx nx2 objs2 key2 s2 ⟨p.op,p.i,p.e,p.g,a,b⟩ d σ') :
  xY prog 202 [.int .i64 i,.ref 5 1 0 0,.ref 0 1 0 0,.ref 6 1 0 0,.ref 3 1 0 0,.ref 1 1 0 0] ⟨nx,xZ⟩ d σ':=by
 obtain⟨hn,h0,h1,⟨k1,k2,k3,hkk⟩,hfr,h2,h3,h4,h5,h6⟩:=hI;have h61:=hI1.h6;obtain⟨hn',h0',h1',⟨k1',k2',k3',hkk'⟩,hfr',h2',h3',h4',h5',h6'⟩:=hI2;rcases fY (i:Int) s.done 0 with ⟨q1,q2⟩ | ⟨y,j,q1,q2⟩
 rotate_left
 ·rw [hno] at q1; cases q1
 have hg:=sT f hi;rw [hp] at hg;have hx1:∀ k:Nat,k<7->¬ nx=k:=λk h=>by omega
 have hx2:∀ k:Nat,k<7->¬ nx+1=k:=λk h=>by omega
 have hx3:¬ nx+1=nx:=by omega
 have hx9:¬ nx=nx+1:=by omega
 have hmg:∀ {nx':Nat} {objs':List (Nat × Ob)} {zero:D} {ok:Bool} {K:D->Prop},St.look objs' 2=some ⟨0,sM (lE s2.out 0)⟩->gQ ⟨nx',objs'⟩ 6 zero ok (.yI 2) (.agg [.int .i64 p.op,.int .i64 p.i,.int .i64 p.e,.int .i64 p.g,.int .i64 a,.int .i64 b]) K=K (qC ok zero ((sN ⟨p.op,p.i,p.e,p.g,a,b⟩ s2.out 0).map λ(j:Nat)=>(j,D.int .i64 (j:Int)))):=λ{nx' objs' zero ok K} hl=>by rw [<- oY ⟨p.op,p.i,p.e,p.g,a,b⟩ s2.out 0];exact yt hl (x:=Nd.key ⟨p.op,p.i,p.e,p.g,a,b⟩) rfl rfl (jV _ _)
 simp only [wQ] at hN hcall hcall2 hN2;simp only [cG] at hU hcall;rw [hux,huy] at hU hcall;refine xY.xN mixed func202 PP (by simp) λhf=>?_;simp only [simprocAttr,-ZA,↓zU,↓zD,zV,zT,zW,h5,h4,q2,h0,xG,hg,Nd.row]
 (repeat refine sd ?_)
 refine .go (cq (xu p.op)) ?_;simp only [simprocAttr,-ZA,↓zU,↓zD,zV,zT,zW,vd.row,hux,huy,h6,hx1 6 (by omega),hx2 6 (by omega),hx3]
 (repeat refine sd ?_)
 refine .go hcall ?_;simp only [simprocAttr,-ZA,↓zU,↓zD,zV,zT,zW,hN,hU,h61,xU,hx1 6 (by omega),hx3,hx9,Ac]
 (repeat refine sd ?_)
 refine .go hcall2 ?_
 rcases h with ⟨k,e1,rfl,rfl⟩ | ⟨e1,e2,rfl,rfl⟩
 ·have hmg2:=@hmg;rw [e1] at hmg2;simp only [simprocAttr,-ZA,↓zU,↓zD,zV,zT,zW,hN2,h3',h2',hmg2,Ac,h5',h4',xU,hx1 3 (by omega),hx1 5 (by omega),hx1 4 (by omega),hx1 2 (by omega),hx1 1 (by omega),hx3,hx9]
  (repeat refine sd ?_)
  rw [mM];simp only [wQ];exact .same
 ·have hmg2:=@hmg;rw [e1] at hmg2;have y1:∀ k:Nat,k<7->¬ key2=k:=λk h=>by omega
  have y2:¬ nx=key2:=λe=>hke e.symm;have y3:∀ k:Nat,k<7->¬ nx2=k:=λk h=>by omega
  have y4:¬ nx2=nx:=by omega
  have z1:∀ k:Nat,k<7->¬ k=nx:=λk h=>by omega
  have z2:∀ k:Nat,k<7->¬ k=nx2:=λk h=>by omega
  have hpz:D.xR [.int .i64 p.op,.int .i64 p.i,.int .i64 p.e,.int .i64 p.g,.int .i64 a,.int .i64 b]=true:=by simp [D.xR,D.xD]
  have hms:∀ {nx':Nat} {objs':List (Nat × Ob)} {x:D} {K:D->St->Prop},St.look objs' 2=some ⟨0,sM (lE s2.out 0)⟩->jB ⟨nx',objs'⟩ 6 (.yI 2) (.agg [.int .i64 p.op,.int .i64 p.i,.int .i64 p.e,.int .i64 p.g,.int .i64 a,.int .i64 b]) x K=K .tF ⟨nx',zL objs' 2 ⟨0,sM (lE s2.out 0 ++ [(Nd.key ⟨p.op,p.i,p.e,p.g,a,b⟩,x)])⟩⟩:=λ{nx' objs' x K} hl=> yw hl (y:=Nd.key ⟨p.op,p.i,p.e,p.g,a,b⟩) rfl rfl (jV _ _) (by rw [oY,e1]; rfl)
  simp only [simprocAttr,-ZA,↓zU,↓zD,zV,zT,zW,hN2,h1',h3',h2',hmg2,hms,hpz,Ad,Ac,h5',h4',hkk',xG,xU,xF,hx1 3 (by omega),hx1 5 (by omega),hx1 4 (by omega),hx1 2 (by omega),hx1 1 (by omega),hx3,hx9,y1 1 (by omega),y1 2 (by omega),y1 3 (by omega),y1 4 (by omega),y1 5 (by omega),y2,hke,y3 1 (by omega),y3 2 (by omega),y3 3 (by omega),y3 4 (by omega),y3 5 (by omega),y4,z1 1 (by omega),z1 2 (by omega),z1 4 (by omega),z2 1 (by omega),z2 2 (by omega),z2 4 (by omega)]
  (repeat refine sd ?_)
  have er:zB (s2.out ++ [⟨p.op,p.i,p.e,p.g,a,b⟩])= zB s2.out ++ [[.int .i64 p.op,.int .i64 p.i,.int .i64 p.e,.int .i64 p.g,.int .i64 a,.int .i64 b]]:=by simp [zB,Nd.row]
  rw [mM,er,eR,ω];simp only [wQ];exact .same
open Rs Fm
namespace Fm
def kK (i:Nat) (q:Nd) (s:CS):Int × CS:=match sN q s.out 0 with
 | some k=>(k,⟨s.out,nH i k s.done⟩)
 | none=>(s.out.length,⟨s.out ++ [q],nH i s.out.length s.done⟩)
theorem wJ {xZ:List (Nat × Ob)} {k j:Nat} {o:Ob} (h:St.look xZ k=none):St.look (zL xZ j o) k=none:=by
 rw [xU]; split
 ·rw [h]; rfl
 ·exact h
theorem Sl (l:List Nd) (q:Nd):∃ e r,zB (l ++ [q])= e :: r:=by
 cases h:zB (l ++ [q]) with
 | nil=>simp [zB] at h
 | cons e r=>exact⟨e,r,rfl⟩
theorem bf {f:List Nd} {nx nx2:Nat} {objs2:List (Nat × Ob)} {key2:Nat} {s2:CS} {q:Nd} {i:Nat} (hI:lB f nx2 objs2 key2 s2) (h7:7<=nx) (hle:nx+1+1<=nx2) (hke:key2≠nx) (hlen:s2.out.length<=1000) :
  ∃ nx' objs' key',PJ i nx nx2 objs2 key2 s2 q (.int .i64 (kK i q s2).1) ⟨nx',objs'⟩/\ lB f nx' objs' key' (kK i q s2).2/\nx2<=nx'/\(key'=key2\/nx2<=key')/\ ∀ k,7<=k->k<nx2->k≠key2->k≠nx->St.look objs' k=St.look objs2 k:=by
 obtain⟨hn,h0,h1,⟨k1,k2,k3,hkk⟩,hfr,h2,h3,h4,h5,h6⟩:=hI;unfold kK
 cases he:sN q s2.out 0 with
 | some k=>
  refine⟨nx2,_,key2,.inl ⟨k,he,rfl,rfl⟩,⟨hn,?_,?_,⟨k1,k2,k3,?_⟩,?_,?_,?_,?_,?_,?_⟩,τ _,.inl rfl,?_⟩
  ·rw [xU,if_neg (by omega),xU,if_neg (by omega)]; exact h0
  ·rw [xU,if_neg (by omega),xU,if_neg (by omega)]; exact h1
  ·rw [xU,if_neg (by omega),xU,if_neg (λe=>hke e.symm)]; exact hkk
  ·exact λj hj=>wJ (wJ (hfr j hj))
  ·rw [xU,if_neg (by omega),xU,if_neg (by omega)]; exact h2
  ·rw [xU,if_neg (by omega),xU,if_neg (by omega)]; exact h3
  ·rw [xU,if_pos rfl,xU,if_neg (by omega),h4]; rfl
  ·rw [xU,if_neg (by omega),xU,if_neg (by omega)]; exact h5
  ·rw [xU,if_neg (by omega),xU,if_neg (by omega)]; exact h6
  ·intro j a1 a2 a3 a4;rw [xU,if_neg (by omega),xU,if_neg (λe=>a4 e.symm)]
 | none=>
  obtain⟨e,r,hr⟩:=Sl s2.out q
  have hlk:∀ j,j≠nx2->∀ (o1 o2 o4 oq:Ob),j≠1->j≠2->j≠4->j≠key2->j≠nx->St.look (yZ nx2 6 (zB (s2.out ++ [q]))++ zL (zL (zL (yC (zL objs2 nx oq) key2) 1 o1) 2 o2) 4 o4) j=St.look objs2 j:=λj b1 o1 o2 o4 oq b2 b3 b4 b5 b6=>by rw [xA,if_neg (λe=>b1 e.symm),xU,if_neg (λe=>b4 e.symm),xU,if_neg (λe=>b3 e.symm),xU,if_neg (λe=>b2 e.symm),xF,if_neg (λe=>b5 e.symm),xU,if_neg (λe=>b6 e.symm)]
  refine⟨nx2+1,_,nx2,.inr ⟨he,hlen,rfl,rfl⟩,⟨by omega,?_,?_,⟨by omega,by omega,by omega,?_⟩,?_,?_,?_,?_,?_,?_⟩,by omega,.inr (τ _),?_⟩
  ·rw [hlk 0 (by omega) _ _ _ _ (by omega) (by omega) (by omega) (by omega) (by omega)]; exact h0
  ·rw [xA,if_neg (by omega),xU,if_neg (by omega),xU,if_neg (by omega),xU,if_pos rfl,xF,if_neg (by omega),xU,if_neg (by omega),h1]; rfl
  ·rw [xA,if_pos rfl];show (wU 6 (zB (s2.out ++ [q]))).or _=wU 6 (zB (s2.out ++ [q]));rw [hr]; rfl
  ·intro j hj;rw [xA,if_neg (by omega)];refine wJ (wJ (wJ ?_))
   rw [xF]; split
   ·rfl
   ·exact wJ (hfr j (by omega))
  ·rw [xA,if_neg (by omega),xU,if_neg (by omega),xU,if_pos rfl,xU,if_neg (by omega),xF,if_neg (by omega),xU,if_neg (by omega),h2]; rfl
  ·rw [hlk 3 (by omega) _ _ _ _ (by omega) (by omega) (by omega) (by omega) (by omega)]; exact h3
  ·rw [xA,if_neg (by omega),xU,if_pos rfl,xU,if_neg (by omega),xU,if_neg (by omega),xF,if_neg (by omega),xU,if_neg (by omega),h4]; rfl
  ·rw [hlk 5 (by omega) _ _ _ _ (by omega) (by omega) (by omega) (by omega) (by omega)]; exact h5
  ·rw [hlk 6 (by omega) _ _ _ _ (by omega) (by omega) (by omega) (by omega) (by omega)]; exact h6
  ·intro j a1 a2 a3 a4;exact hlk j (by omega) _ _ _ _ (by omega) (by omega) (by omega) a3 a4
end Fm
open Rs Fm
namespace Fm
theorem qi {x:Int}:∀ {u:List (Int × Int)},wO x u=none->∀ p ∈ u,p.1≠x
 | [],_,p,hp=>by cases hp
 | (k,y) :: r,h,p,hp=>by
  unfold wO at h
  by_cases e:x=k
  ·rw [if_pos e] at h; cases h
  ·rw [if_neg e] at h
   rcases μ.1 hp with rfl | hp
   ·exact λe'=>e e'.symm
   ·exact qi h p hp
theorem l7 {x y:Int}:∀ {u:List (Int × Int)},wO x u=none->nH x y u=u ++ [(x,y)]
 | [],_=>rfl
 | (k,z) :: r,h=>by
  unfold wO at h
  by_cases e:x=k
  ·rw [if_pos e] at h; cases h
  ·rw [if_neg e] at h;unfold nH;rw [if_neg e,l7 h]; rfl
structure kB (f : List Nd) (s : CS) : Prop where
 le:s.out.length<=s.done.length
 nd:(s.done.map (·.1)).Nodup
 rg:∀ p ∈ s.done,0<=p.1/\p.1<f.length
theorem kB.len {f:List Nd} {s:CS} (h:kB f s):s.out.length<=f.length:=by
 have:=Xo f.length (s.done.map λp=>p.1.toNat) ?_ ?_
 ·rw [κ] at this; have:=h.le; omega
 ·have h1:=h.nd;unfold List.Nodup at h1 ⊢;rw [List.pairwise_map] at h1 ⊢;refine h1.imp_of_mem λ{a b} ha hb hne e=>hne ?_;have:=(h.rg a ha).1;have:=(h.rg b hb).1;omega
 ·intro x hx;simp only [ζ] at hx;obtain⟨p,hp,rfl⟩:=hx;have:=h.rg p hp;omega
theorem Lh {f:List Nd} {s:CS} {i:Nat} {q:Nd} (h:kB f s) (hi:i<f.length) (hno:wO i s.done=none):kB f (kK i q s).2/\∀ z:Int,z≠i->wO z (kK i q s).2.done=wO z s.done:=by
 have hput:∀ y,kB f ⟨s.out,nH i y s.done⟩/\ (nH i y s.done).length=s.done.length+1:=λy=>by
  rw [l7 hno]
  refine⟨⟨by simp only [δ]; have:=h.le; omega,?_,?_⟩,by simp⟩
  ·rw [List.map_append];refine List.nodup_append.2 ⟨h.nd,by simp,λa ha b hb=>?_⟩;simp only [ζ] at ha;obtain⟨p,hp,rfl⟩:=ha;simp only [List.map_cons,List.map_nil,π] at hb;subst hb;exact qi hno p hp
  ·intro p hp
   rcases List.mem_append.1 hp with hp | hp
   ·exact h.rg p hp
   ·rw [π.1 hp]; exact⟨by simp,by simpa using hi⟩
 unfold kK
 cases he:sN q s.out 0 with
 | some k=>exact⟨(hput _).1,λz hz=>by simp only; rw [sC,if_neg hz]⟩
 | none=> refine⟨⟨?_,(hput _).1.nd,(hput _).1.rg⟩,λz hz=>by simp only; rw [sC,if_neg hz]⟩;have:=(hput s.out.length).2;have:=h.le;simp only [δ,ε]; omega
theorem mR {p:Nd} {k:Int} (h:zY p k=0):((xW p.op).1.x=true->0<=p.x/\p.x<k)/\ ((xW p.op).1.y=true->0<=p.y/\p.y<k):=by
 unfold zY at h
 by_cases h1:(xW p.op).2=false
 ·rw [if_pos h1] at h; cases h
 rw [if_neg h1] at h
 by_cases h2:(yR (xW p.op).1.x p.x k&&yR (xW p.op).1.y p.y k)= false
 ·rw [if_pos h2] at h; cases h
 simp only [Bool.not_eq_false,Af] at h2
 refine⟨λhx=>?_,λhy=>?_⟩
 ·have:=h2.1;unfold yR at this;rw [if_pos hx,Af,decide_eq_true_eq,decide_eq_true_eq] at this;exact this
 ·have:=h2.2;unfold yR at this;rw [if_pos hy,Af,decide_eq_true_eq,decide_eq_true_eq] at this;exact this
theorem mI {f:List Nd} {n i:Nat} {s:CS} (hno:wO i s.done=none):xE f (n+1) i s =
  (let p:=f.getD i wA
   let a:=if (xW p.op).1.x=true then xE f n p.x.toNat s else(p.x,s)
   let b:=if (xW p.op).1.y=true then xE f n p.y.toNat a.2 else(p.y,a.2)
   kK i ⟨p.op,p.i,p.e,p.g,a.1,b.1⟩ b.2):=by
 rw [xE,hno]; rfl
theorem oZ {f:List Nd} (hc:∀ k,k<f.length->zY (f.getD k wA) k=0):∀ (n:Nat) {i:Nat} {s:CS},i<n->i<f.length->kB f s->kB f (xE f n i s).2/\∀ z:Int,(i:Int)<z->wO z (xE f n i s).2.done=wO z s.done
 | 0,i,s,h,_,_=>by omega
 | n + 1,i,s,h,hi,hs=>by
  cases hu:wO i s.done with
  | some k=>rw [xE,hu]; exact⟨hs,λ_ _=>rfl⟩
  | none=>
   rw [mI hu];obtain⟨ox,oy⟩:=mR (hc i hi);simp only;generalize f.getD i wA=p at ox oy
   have ha:kB f (if (xW p.op).1.x=true then xE f n p.x.toNat s else(p.x,s)).2/\∀ z:Int,(i:Int)<=z->wO z (if (xW p.op).1.x=true then xE f n p.x.toNat s else(p.x,s)).2.done=wO z s.done:=by
    by_cases hx:(xW p.op).1.x=true
    ·rw [if_pos hx];have:=ox hx;obtain⟨b1,b2⟩:=oZ hc n (i:=p.x.toNat) (s:=s) (by omega) (by omega) hs;exact⟨b1,λz hz=>b2 z (by omega)⟩
    ·rw [if_neg hx]; exact⟨hs,λ_ _=>rfl⟩
   generalize (if (xW p.op).1.x=true then xE f n p.x.toNat s else(p.x,s))= a at ha;obtain⟨a1,a2⟩:=ha
   have hb:kB f (if (xW p.op).1.y=true then xE f n p.y.toNat a.2 else(p.y,a.2)).2/\∀ z:Int,(i:Int)<=z->wO z (if (xW p.op).1.y=true then xE f n p.y.toNat a.2 else(p.y,a.2)).2.done=wO z a.2.done:=by
    by_cases hy:(xW p.op).1.y=true
    ·rw [if_pos hy];have:=oy hy;obtain⟨b1,b2⟩:=oZ hc n (i:=p.y.toNat) (s:=a.2) (by omega) (by omega) a1;exact⟨b1,λz hz=>b2 z (by omega)⟩
    ·rw [if_neg hy]; exact⟨a1,λ_ _=>rfl⟩
   generalize (if (xW p.op).1.y=true then xE f n p.y.toNat a.2 else(p.y,a.2))= b at hb;obtain⟨b1,b2⟩:=hb;obtain⟨e1,e2⟩:=Lh (q:=⟨p.op,p.i,p.e,p.g,a.1,b.1⟩) b1 hi (by rw [b2 i (by omega),a2 i (by omega)]; exact hu);exact⟨e1,λz hz=>by rw [e2 z (by omega),b2 z (by omega),a2 z (by omega)]⟩
end Fm
open Rs Fm
namespace Fm
theorem P8 (op:Int) (h:(xW op).1.y=true):(xW op).1.x=true:=by
 have hc:op=1\/op=2\/op=3\/op=4\/op=5\/op=6\/op=7\/op=8\/op=9\/op=10\/op=11\/op=12\/op=13\/op=14\/op=15\/op=16\/op=17\/op=18\/op=19\/op=20\/op=21\/(op<1\/21<op):=by omega
 rcases hc with rfl | rfl | rfl | rfl | rfl | rfl | rfl | rfl | rfl | rfl | rfl | rfl | rfl | rfl | rfl | rfl | rfl | rfl | rfl | rfl | rfl | hc
 rotate_right
 ·rw [show xW op=(sI,false) from if_pos hc] at h; cases h
 all_goals simp [xW,sI] at h ⊢
theorem lB.KK {f:List Nd} {nx:Nat} {xZ:List (Nat × Ob)} {key:Nat} {s:CS} (h:lB f nx xZ key s):∃ key',lB f nx xZ key' s/\((s.out = []/\key'=nx+4)\/(s.out ≠ []/\key'=key/\key'<nx)):=by
 obtain⟨hn,h0,h1,⟨k1,k2,k3,hkk⟩,hfr,h2,h3,h4,h5,h6⟩:=h
 by_cases ho:s.out = []
 ·refine⟨nx+4,⟨hn,h0,?_,⟨by omega,by omega,by omega,?_⟩,hfr,h2,h3,h4,h5,h6⟩,.inl ⟨ho,rfl⟩⟩
  ·rw [h1,ho]; rfl
  ·rw [hfr _ (by omega),ho]; rfl
 ·refine⟨key,⟨hn,h0,h1,⟨k1,k2,k3,hkk⟩,hfr,h2,h3,h4,h5,h6⟩,.inr ⟨ho,rfl,?_⟩⟩
  by_cases hlt:key<nx
  ·exact hlt
  ·rw [hfr key (by omega)] at hkk
   cases hd:zB s.out with
   | nil=>simp [zB] at hd; exact absurd hd ho
   | cons e r=>rw [hd] at hkk; cases hkk
theorem lB.alloc {f:List Nd} {nx:Nat} {xZ:List (Nat × Ob)} {key:Nat} {s:CS} (h:lB f nx xZ key s) (hk:key<nx\/key=nx+4) (o1 o2:Ob):lB f (nx+1+1) ((nx+1,o1) :: (nx,o2) :: xZ) key s:=by
 obtain⟨hn,h0,h1,⟨k1,k2,k3,hkk⟩,hfr,h2,h3,h4,h5,h6⟩:=h
 have hl:∀ k,k≠nx->k≠nx+1->St.look ((nx+1,o1) :: (nx,o2) :: xZ) k=St.look xZ k:=λk a b=>by rw [xX,if_neg (λe=>b e.symm),xX,if_neg (λe=>a e.symm)]
 refine⟨by omega,?_,?_,⟨k1,by omega,by omega,?_⟩,?_,?_,?_,?_,?_,?_⟩
 ·rw [hl 0 (by omega) (by omega)]; exact h0
 ·rw [hl 1 (by omega) (by omega)]; exact h1
 ·rw [hl key k2 k3]; exact hkk
 ·intro k hk2; rw [hl k (by omega) (by omega)]; exact hfr k (by omega)
 ·rw [hl 2 (by omega) (by omega)]; exact h2
 ·rw [hl 3 (by omega) (by omega)]; exact h3
 ·rw [hl 4 (by omega) (by omega)]; exact h4
 ·rw [hl 5 (by omega) (by omega)]; exact h5
 ·rw [hl 6 (by omega) (by omega)]; exact h6
theorem lB.set {f:List Nd} {nx:Nat} {xZ:List (Nat × Ob)} {key:Nat} {s:CS} (h:lB f nx xZ key s) {j:Nat} (hj:7<=j) (hk:key≠j) (o:Ob):lB f nx (zL xZ j o) key s:=by
 obtain⟨hn,h0,h1,⟨k1,k2,k3,hkk⟩,hfr,h2,h3,h4,h5,h6⟩:=h;have hl:∀ k,k≠j->St.look (zL xZ j o) k=St.look xZ k:=λk a=>by rw [xU,if_neg (λe=>a e.symm)]
 refine⟨hn,?_,?_,⟨k1,k2,k3,?_⟩,?_,?_,?_,?_,?_,?_⟩
 ·rw [hl 0 (by omega)]; exact h0
 ·rw [hl 1 (by omega)]; exact h1
 ·rw [hl key hk]; exact hkk
 ·exact λk hk2=>wJ (hfr k hk2)
 ·rw [hl 2 (by omega)]; exact h2
 ·rw [hl 3 (by omega)]; exact h3
 ·rw [hl 4 (by omega)]; exact h4
 ·rw [hl 5 (by omega)]; exact h5
 ·rw [hl 6 (by omega)]; exact h6
end Fm
theorem Rw {f:List Nd} {nx:Nat} {xZ:List (Nat × Ob)} {key:Nat} {s:CS} {i:Nat} {k:Int} (hI:lB f nx xZ key s) (hu:wO i s.done=some k) :
  xY prog 202 [.int .i64 i,.ref 5 1 0 0,.ref 0 1 0 0,.ref 6 1 0 0,.ref 3 1 0 0,.ref 1 1 0 0] ⟨nx,xZ⟩ (.int .i64 k) ⟨nx,xZ⟩:=by
 obtain⟨hn,h0,h1,hk,hfr,h2,h3,h4,h5,h6⟩:=hI
 rcases fY (i:Int) s.done 0 with ⟨q1,q2⟩ | ⟨y,j,q1,q2⟩
 ·rw [hu] at q1; cases q1
 ·rw [hu] at q1; cases q1;refine xY.xN mixed func202 PP (by simp) λhf=>?_;simp only [simprocAttr,-ZA,↓zU,↓zD,zV,zT,zW,h5,h4,q2]
  (repeat refine sd ?_)
  exact .same
theorem ym {f:List Nd} (hc:∀ k,k<f.length->zY (f.getD k wA) k=0) (hlen:f.length<=900):∀ (n:Nat) {i nx:Nat} {xZ:List (Nat × Ob)} {key:Nat} {s:CS},i<n->i<f.length->kB f s->lB f nx xZ key s ->
  ∃ nx' objs' key',lB f nx' objs' key' (xE f n i s).2/\nx<=nx'/\(key'=key\/nx<=key')/\ (∀ k,7<=k->k<nx->(k≠key\/s.out = [])->St.look objs' k=St.look xZ k)/\
   xY prog 202 [.int .i64 i,.ref 5 1 0 0,.ref 0 1 0 0,.ref 6 1 0 0,.ref 3 1 0 0,.ref 1 1 0 0] ⟨nx,xZ⟩ (.int .i64 (xE f n i s).1) ⟨nx',objs'⟩
 | 0,i,nx,xZ,key,s,h,_,_,_=>by omega
 | n + 1,i,nx,xZ,key,s,h,hi,hs,hI=>by
  cases hu:wO i s.done with
  | some k=> rw [xE,hu];exact⟨nx,xZ,key,hI,τ _,.inl rfl,λ_ _ _ _=>rfl,Rw hI hu⟩
  | none=>
   rw [mI hu];obtain⟨ox,oy⟩:=mR (hc i hi);simp only;generalize hp:f.getD i wA=p at ox oy;obtain⟨ky,hI',hky⟩:=hI.KK;have hn:=hI'.hn;have hkc:ky<nx\/ky=nx+4:=by rcases hky with ⟨_,h⟩ | ⟨_,_,h⟩; exact .inr h; exact .inl h
   have hA:=hI'.alloc hkc (cG (xW p.op).1) (wQ p.op p.i p.e p.g p.x p.y)
   have hkk:∀ k,k<nx->(k≠key\/s.out = [])->k≠ky:=λk h1 h2=>by
    rcases hky with ⟨_,e⟩ | ⟨ho,e,_⟩
    ·omega
    ·rcases h2 with h2 | h2
     ·rw [e]; exact h2
     ·exact absurd h2 ho
   have hkey:∀ k',k'=ky\/nx<=k'->k'=key\/nx<=k':=λk' h=>by
    rcases h with h | h
    ·rcases hky with ⟨_,e⟩ | ⟨_,e,_⟩
     ·exact .inr (by omega)
     ·exact .inl (by rw [h,e])
    ·exact .inr h
   have hA0:∀ k,k<nx->St.look ((nx+1,cG (xW p.op).1) :: (nx,wQ p.op p.i p.e p.g p.x p.y) :: xZ) k=St.look xZ k:=λk hk=>by rw [xX,if_neg (by omega),xX,if_neg (by omega)]
   by_cases hx:(xW p.op).1.x=true
   ·obtain⟨hx1,hx2⟩:=ox hx;have hxn:((p.x.toNat:Nat):Int)= p.x:=Al hx1;obtain⟨nx1,objs1,key1,I1,l1,kk1,fr1,c1⟩:=ym hc hlen n (i:=p.x.toNat) (by omega) (by omega) hs hA;have f1:=(oZ hc n (i:=p.x.toNat) (s:=s) (by omega) (by omega) hs);rw [if_pos hx];rw [hxn] at c1;generalize xE f n p.x.toNat s=a at I1 c1 f1
    have hN:St.look objs1 nx=some (wQ p.op p.i p.e p.g p.x p.y):=by rw [fr1 nx hn (by omega) (.inl (by omega)),xX,if_neg (by omega),xX,if_pos rfl]
    have hU:St.look objs1 (nx+1)= some (cG (xW p.op).1):=by rw [fr1 (nx+1) (by omega) (by omega) (.inl (by omega)),xX,if_pos rfl]
    have hk1:key1≠nx:=by omega
    by_cases hy:(xW p.op).1.y=true
    ·obtain⟨hy1,hy2⟩:=oy hy;have hyn:((p.y.toNat:Nat):Int)= p.y:=Al hy1;obtain⟨nx2,objs2,key2,I2,l2,kk2,fr2,c2⟩:=ym hc hlen n (i:=p.y.toNat) (by omega) (by omega) f1.1 (I1.set (j:=nx) hn hk1 (wQ p.op p.i p.e p.g a.1 p.y));have f2:=(oZ hc n (i:=p.y.toNat) (s:=a.2) (by omega) (by omega) f1.1);rw [if_pos hy];rw [hyn] at c2;generalize xE f n p.y.toNat a.2=b at I2 c2 f2
     have hN2:St.look objs2 nx=some (wQ p.op p.i p.e p.g a.1 p.y):=by rw [fr2 nx hn (by omega) (.inl (by omega)),xU,if_pos rfl,hN]; rfl
     have hk2:key2≠nx:=by omega
     obtain⟨nx',objs',key',e1,e2,e3,e4,e5⟩:=bf (q:=⟨p.op,p.i,p.e,p.g,a.1,b.1⟩) (i:=i) (nx:=nx) I2 (by omega) (by omega) hk2 (by have:=f2.1.len; omega);refine⟨nx',objs',key',e2,by omega,hkey _ (by omega),λk a1 a2 a3=>?_,VE hI' hi (by omega) hp hu hx hy c1 I1 hN hU c2 I2 hN2 (by omega) hk2 e1⟩;have hk3:=hkk k a2 a3;rw [e5 k a1 (by omega) (by omega) (by omega),fr2 k a1 (by omega) (.inl (by omega)),xU,if_neg (by omega),fr1 k a1 (by omega) (.inl hk3)];exact hA0 k a2
    ·rw [if_neg hy];obtain⟨nx',objs',key',e1,e2,e3,e4,e5⟩:=bf (q:=⟨p.op,p.i,p.e,p.g,a.1,p.y⟩) (i:=i) (nx:=nx) I1 (by omega) (by omega) hk1 (by have:=f1.1.len; omega);refine⟨nx',objs',key',e2,by omega,hkey _ (by omega),λk a1 a2 a3=>?_,Rz hI' hi (by omega) hp hu hx (by simpa using hy) c1 I1 hN hU (by omega) hk1 e1⟩;have hk3:=hkk k a2 a3;rw [e5 k a1 (by omega) (by omega) (by omega),fr1 k a1 (by omega) (.inl hk3)];exact hA0 k a2
   ·have hy:¬ (xW p.op).1.y=true:=λhy=>hx (P8 _ hy);rw [if_neg hx,if_neg hy];obtain⟨nx',objs',key',e1,e2,e3,e4,e5⟩:=bf (q:=p) (i:=i) (nx:=nx) hA (by omega) (by omega) (by omega) (by have:=hs.len; omega)
    refine⟨nx',objs',key',e2,by omega,?_,λk a1 a2 a3=>?_,PE hI' hi (by omega) hp hu (by simpa using hx) (by simpa using hy) e1⟩
    ·rcases e4 with e4 | e4
     ·exact hkey _ (.inl e4)
     ·exact .inr (by omega)
    ·rw [e5 k a1 (by omega) (hkk k a2 a3) (by omega)];exact hA0 k a2
open Rs Fm
theorem gh {f:List Nd} {i:Nat} (hc:∀ k,k<f.length->zY (f.getD k wA) k=0) (hlen:f.length<=900) (hi:i<f.length):yU prog 143 [.sl 6 (zB f),.int .i64 i] (.sl 6 (zB (uF f i))):=by
 have hI0:lB f 7 [(6,⟨1,[[.fn 202 [.ref 5 1 0 0,.ref 0 1 0 0,.ref 6 1 0 0,.ref 3 1 0 0,.ref 1 1 0 0]]]⟩),(5,⟨1,[[.yI 4]]⟩),(4,⟨0,[]⟩),(3,⟨1,[[.yI 2]]⟩),(2,⟨0,[]⟩),(1,⟨1,[[.xO]]⟩),(0,⟨1,[[.sl 6 (zB f)]]⟩)] 11 ⟨[],[]⟩:=by refine⟨τ _,by simp [St.look],by simp [St.look,zB,xB],⟨by omega,by omega,by omega,by simp [St.look,zB,wU]⟩,λk hk=>?_,by simp [St.look,lE,sM],by simp [St.look],by simp [St.look,mo,uA],by simp [St.look],by simp [St.look]⟩;simp only [xX,look_nil];rw [if_neg (by omega),if_neg (by omega),if_neg (by omega),if_neg (by omega),if_neg (by omega),if_neg (by omega),if_neg (by omega)]
 obtain⟨nx',objs',key',I1,_,_,_,c1⟩:=ym hc hlen (i+1) (i:=i) (by omega) hi ⟨τ _,by simp,λp hp=>by cases hp⟩ hI0;have e:(xE f (i+1) i ⟨[],[]⟩).2.out=uF f i:=rfl;have h1:=I1.h1;have hk:=I1.hk.2.2.2;rw [e] at h1 hk;refine xY.xN mixed func143 Ie (by simp) λhf=>?_;simp only [simprocAttr,-ZA,↓zU,↓zD,zV,zT,zW]
 (repeat refine sd ?_)
 refine .go c1 ?_;simp only [simprocAttr,-ZA,↓zU,↓zD,zV,zT,zW,h1]
 (repeat refine sd ?_)
 exact .drop (by simp) (iO (by simp) (aW _) hk)
namespace Fm
theorem vB {f:List Nd} (h:yT f=0):f ≠ []/\f.length<=200/\∀ k,k<f.length->zY (f.getD k wA) k=0:=by
 unfold yT at h
 by_cases h1:f = []
 ·rw [if_pos h1] at h; cases h
 rw [if_neg h1] at h
 by_cases h2:200<f.length
 ·rw [if_pos h2] at h; cases h
 rw [if_neg h2] at h;refine⟨h1,by omega,λk hk=>?_⟩;have:=Ty h k hk
 rwa [Int.zero_add] at this
def nS (f:List Nd) (i:Int):List Nd:=if yT f≠0\/i<0\/(f.length:Int)<=i then [] else uF f i.toNat
def yY (f:List Nd):List Nd:=nS f ((f.length:Int)-1)
end Fm
theorem Jo (f:List Nd) (i:Int):yU prog 149 [.sl 6 (zB f),.int .i64 i] (.sl 6 (zB (nS f i))):=by
 refine xY.xN mixed func149 Ik (by simp) λhf=>?_;simp only [simprocAttr,-ZA,↓zU,↓zD,zV,zT,zW];refine .go (cr (jR f)) ?_;by_cases hc:yT f=0
 case neg=> have e:(yT f != 0)= true:=bne_iff_ne.2 hc;simp only [simprocAttr,-ZA,↓zU,↓zD,zV,zT,zW,e];rw [show nS f i = [] from if_pos (.inl hc)];exact .drop (by simp) (by simp [vw,zB])
 have e:(yT f != 0)= false:=by simpa using hc
 by_cases h1:i<0
 ·simp only [simprocAttr,-ZA,↓zU,↓zD,zV,zT,zW,e,h1];rw [show nS f i = [] from if_pos (.inr (.inl h1))];exact .drop (by simp) (by simp [vw,zB])
 by_cases h2:(f.length:Int)<=i
 ·simp only [simprocAttr,-ZA,↓zU,↓zD,zV,zT,zW,e,h1,xG,h2];rw [show nS f i = [] from if_pos (.inr (.inr h2))];exact .drop (by simp) (by simp [vw,zB])
 obtain⟨j,rfl⟩:=Ak (show 0<=i by omega);obtain⟨c1,c2,c3⟩:=vB hc;rw [show nS f j=uF f j by rw [nS,if_neg (by omega),Am]];simp only [simprocAttr,-ZA,↓zU,↓zD,zV,zT,zW,e,h1,xG,h2];refine .go (xY.yH (gh c3 (by omega) (show j<f.length by omega)) (by simp [D.xR,D.xD])) ?_;simp only [simprocAttr,-ZA,↓zU,↓zD,zV,zT,zW];exact .same
theorem zu (f:List Nd):yU prog 103 [.sl 6 (zB f)] (.sl 6 (zB (yY f))):=by refine xY.xN mixed func103 I7 (by simp) λhf=>?_;simp only [D.sZ,D.fact,xG] at hf;have hlen:=hf.1.1;have e:IntKind.i64.wrap ((f.length:Int)-1)= (f.length:Int)-1:=wrap_i64 (by omega);simp only [simprocAttr,-ZA,↓zU,↓zD,zV,zT,zW,xG,e];refine .go (xY.yH (Jo f ((f.length:Int)-1)) (by simp [D.xR,D.xD])) ?_;simp only [simprocAttr,-ZA,↓zU,↓zD,zV,zT,zW];exact .same
open Rs Fm
theorem kh {a b:Nat} (ha:a<2 ^ 62) (hb:b<2 ^ 62):tY .or .i64 (a:Int) (b:Int)= ((a ||| b:Nat):Int):=by show IntKind.i64.wrap ((BitVec.ofInt 64 (a:Int) ||| BitVec.ofInt 64 (b:Int)).toNat:Int)= _;rw [Aj,Aj,BitVec.toNat_or,Ai,Ai,υ (by omega),υ (by omega)];have:=Ab ha hb;exact wrap_i64 (by omega)
namespace Fm
def zZ (m:Nd->Nat) (l:List Nd):Nat:=l.foldl (λa p=>a ||| m p) 0
theorem lN (m:Nd->Nat) (l:List Nd) (p:Nd):zZ m (l ++ [p])= zZ m l ||| m p:=by simp [zZ]
theorem nK {m:Nd->Nat} {l:List Nd} (h:∀ p ∈ l,m p<4096):zZ m l<2 ^ 12:=by
 have key:∀ (l:List Nd) (a:Nat),a<2 ^ 12->(∀ p ∈ l,m p<4096)->l.foldl (λa p=>a ||| m p) a<2 ^ 12:=by
  intro l
  induction l with
  | nil=>intro a ha _; exact ha
  | cons p r ih=>intro a ha h; exact ih _ (Ab ha (h p (by simp))) λq hq=>h q (by simp [hq])
 exact key l 0 (by decide) h
end Fm
theorem cp {f:List Nd} {g:FuncId} {m:Nd->Nat} (hm:∀ p ∈ yY f,m p<4096) (h:∀ p ∈ yY f,yU prog g [.agg p.row,.agg (xW p.op).1.row] (.int .i64 (m p))) (hlen:(yY f).length<=1000) :
  yU prog 111 [.sl 6 (zB f),.fn g []] (.int .i64 (zZ m (yY f))):=by
 refine xY.xN mixed func111 IF (by simp) λhf=>?_;simp only [simprocAttr,-ZA,↓zU,↓zD,zV,zT,zW];refine .go (cr (zu f)) ?_;generalize yY f=l at hm h hlen;simp only [simprocAttr,-ZA,↓zU,↓zD,zV,zT,zW,xG]
 refine xP (λk:Nat=>[(13,.int .i64 k),(12,.int .i64 l.length),(11,.sl 6 (zB l)),(5,.int .i64 (zZ m (l.take k))),(1,.fn g [])]) (λ_=>⟨0,[]⟩) (λk=>k<=l.length) (λk=>l.length-k) 0 (χ _) ?_ ?_
 ·(refine xT.same ?_; simp [xS,Fr.get,zZ])
 intro k hk;refine xM mixed ?_;by_cases hh:k<l.length
 case neg=>
  have hd:¬ ((k:Int)<(l.length:Int)):=by omega
  rw [pM (show k=l.length by omega)];simp only [simprocAttr,-ZA,↓zU,↓zD,zV,zT,zW,hd];exact .same
 have hd:((k:Int)<(l.length:Int)):=by omega
 have hs:zZ m (l.take (k+1))= zZ m (l.take k) ||| m (l.getD k wA):=by rw [zA (d:=wA) hh,lN]
 have hg:=sT l hh;have hmem:=xL (d:=wA) hh;have hlt:zZ m (l.take k)<2 ^ 12:=nK λp hp=>hm p (List.mem_of_mem_take hp);generalize l.getD k wA=p at hs hg hmem;have hmp:=hm p hmem;simp only [simprocAttr,-ZA,↓zU,↓zD,zV,zT,zW,hd,xG,hg,Nd.row]
 (repeat refine sd ?_)
 refine .go (cq (xu p.op)) ?_;simp only [simprocAttr,-ZA,↓zU,↓zD,zV,zT,zW,vd.row]
 (repeat refine sd ?_)
 refine .go (xY.yH (h p hmem) (by simp [D.xR,D.xD,Nd.row,vd.row])) ?_;simp only [simprocAttr,-ZA,↓zU,↓zD,zV,zT,zW,kh (show zZ m (l.take k)<2 ^ 62 by omega) (show m p<2 ^ 62 by omega)];refine⟨k+1,by omega,?_,by omega⟩;rw [hs]
 (refine xT.view (λk=>k) (by simp) (by simp) ?_ (by simp [stays]) (by simp [rY]); simp [YR,vw,vI,Fr.get])
 exact wrap_i64 (by omega)
open Rs Fm
namespace Fm
theorem fO (op:Int):0<=(xW op).1.fr/\(xW op).1.fr<=256:=by
 have hc:op=1\/op=2\/op=3\/op=4\/op=5\/op=6\/op=7\/op=8\/op=9\/op=10\/op=11\/op=12\/op=13\/op=14\/op=15\/op=16\/op=17\/op=18\/op=19\/op=20\/op=21\/(op<1\/21<op):=by omega
 rcases hc with rfl | rfl | rfl | rfl | rfl | rfl | rfl | rfl | rfl | rfl | rfl | rfl | rfl | rfl | rfl | rfl | rfl | rfl | rfl | rfl | rfl | hc
 rotate_right
 ·rw [show xW op=(sI,false) from if_pos hc]; exact⟨by decide,by decide⟩
 all_goals simp [xW,sI]
def rF (p:Nd):Nat:=(xW p.op).1.fr.toNat
def wT (f:List Nd):Nat:=zZ rF (yY f)
theorem Z4 {f:List Nd} {i:Nat} (hc:∀ k,k<f.length->zY (f.getD k wA) k=0) (hi:i<f.length):(uF f i).length<=f.length:=(oZ hc (i+1) (i:=i) (s:=⟨[],[]⟩) (by omega) hi ⟨τ _,by simp,λp hp=>by cases hp⟩).1.len
theorem lV (f:List Nd) (i:Int):(nS f i).length<=200:=by
 unfold nS
 by_cases h:yT f≠0\/i<0\/(f.length:Int)<=i
 ·rw [if_pos h]; simp
 ·rw [if_neg h];obtain⟨c1,c2,c3⟩:=vB (f:=f) (by omega);have:=Z4 c3 (i:=i.toNat) (by omega);omega
end Fm
theorem ao (f:List Nd):yU prog 53 [.sl 6 (zB f)] (.int .i64 (wT f)):=by
 refine xY.xN mixed func53 FS (by simp) λhf=>?_;simp only [simprocAttr,-ZA,↓zU,↓zD,zV,zT,zW]
 refine .go (xY.yH (cp (m:=rF) (λp _=>by have:=fO p.op; unfold rF; omega) (λp _=>?_) (by have:=lV f ((f.length:Int)-1); unfold yY; omega)) rfl) ?_
 ·have h:=Nr p (xW p.op).1;have:=fO p.op;rw [show ((rF p:Nat):Int)= (xW p.op).1.fr from Al this.1];exact h
 simp only [simprocAttr,-ZA,↓zU,↓zD,zV,zT,zW];exact .same
open Rs Fm
namespace Fm
def kT (m:Nat) (n:Int):Bool:=decide (31<=n) || decide (m / 2 ^ n.toNat=0)
end Fm
theorem Sb (m:Nat) (n:Int):yU prog 146 [.int .i64 m,.int .i64 n] (.bool (kT m n)):=by
 refine xY.xN mixed func146 Ih (by simp) λhf=>?_
 by_cases h1:31<=n
 ·simp only [simprocAttr,-ZA,↓zU,↓zD,zV,zT,zW,h1];exact .drop (by simp) (by simp [vw,kT,h1])
 have e:max n 0=((n.toNat:Nat):Int):=by omega
 have e2:max 0 n=((n.toNat:Nat):Int):=by omega
 have hb:(((m / 2 ^ n.toNat:Nat):Int)== 0)= decide (m / 2 ^ n.toNat=0):=by rw [Bool.eq_iff_iff,beq_iff_eq,decide_eq_true_iff]; omega
 simp only [simprocAttr,-ZA,↓zU,↓zD,zV,zT,zW,h1,Ly,e,e2,gR m n.toNat (by omega),hb]
 (repeat refine sd ?_)
 exact .drop (by simp) (by simp [vw,kT,h1])
open Rs Fm
namespace Fm
theorem vN {p:Nd} {k:Int}:zY p k=0 ↔ (xW p.op).2=true/\yR (xW p.op).1.x p.x k=true/\yR (xW p.op).1.y p.y k=true /\
  ((!((xW p.op).1.fa || (xW p.op).1.ag || (xW p.op).1.ev)&& decide (p.i≠0)) || (!(xW p.op).1.ev&&decide (p.e≠0)) || (!(xW p.op).1.gr&&decide (p.g≠0)))= false /\
  (xH (xW p.op).1.fa p.i 0 7 || xH (xW p.op).1.ag p.i 0 3 || xH (xW p.op).1.ev p.i 0 7 || xH (xW p.op).1.ev p.e 0 7 || xH (xW p.op).1.gr p.g 1 15)= false:=by
 unfold zY
 cases h1:(xW p.op).2
 ·simp
 cases h2:yR (xW p.op).1.x p.x k
 ·simp
 cases h3:yR (xW p.op).1.y p.y k
 ·simp
 generalize ((!((xW p.op).1.fa || (xW p.op).1.ag || (xW p.op).1.ev)&& decide (p.i≠0)) || (!(xW p.op).1.ev&&decide (p.e≠0)) || (!(xW p.op).1.gr&&decide (p.g≠0)))= c;generalize (xH (xW p.op).1.fa p.i 0 7 || xH (xW p.op).1.ag p.i 0 3 || xH (xW p.op).1.ev p.i 0 7 || xH (xW p.op).1.ev p.e 0 7 || xH (xW p.op).1.gr p.g 1 15)= d;cases c <;> cases d <;> simp
theorem eQ {p:Nd} {a b k k':Int} (h:zY p k=0) (ha:if (xW p.op).1.x=true then 0<=a/\a<k' else a=p.x) (hb:if (xW p.op).1.y=true then 0<=b/\b<k' else b=p.y):zY ⟨p.op,p.i,p.e,p.g,a,b⟩ k'=0:=by
 rw [vN] at h ⊢;obtain⟨h1,h2,h3,h4,h5⟩:=h
 refine⟨h1,?_,?_,h4,h5⟩
 ·simp only
  cases hx:(xW p.op).1.x
  ·rw [hx] at ha h2;rw [if_neg (by simp)] at ha;rw [ha]; exact h2
  ·rw [hx,if_pos rfl] at ha;simp [yR,ha]
 ·simp only
  cases hx:(xW p.op).1.y
  ·rw [hx] at hb h3;rw [if_neg (by simp)] at hb;rw [hb]; exact h3
  ·rw [hx,if_pos rfl] at hb;simp [yR,hb]
structure VK (s : CS) : Prop where
 nd:∀ k,k<s.out.length->zY (s.out.getD k wA) k=0
 dn:∀ z k:Int,wO z s.done=some k->0<=k/\k<s.out.length
theorem Vz {q:Nd}:∀ {l:List Nd} {k j:Nat},sN q l k=some j->k<=j/\j<k+l.length
 | [],_,_,h=>by cases h
 | p :: r,k,j,h=>by
  unfold sN at h
  by_cases e:q=p
  ·rw [if_pos e] at h; cases h; simp
  ·rw [if_neg e] at h;have:=Vz h;simp only [List.length_cons]; omega
theorem Lg {s:CS} {i:Nat} {q:Nd} (h:VK s) (hq:zY q s.out.length=0):VK (kK i q s).2/\0<=(kK i q s).1/\(kK i q s).1<(kK i q s).2.out.length/\s.out.length<=(kK i q s).2.out.length:=by
 unfold kK
 cases he:sN q s.out 0 with
 | some k=>
  have hk:=Vz he;refine⟨⟨h.nd,λz j hz=>?_⟩,by simp,by simp only; omega,τ _⟩;simp only at hz;rw [sC] at hz
  by_cases e:z=i
  ·rw [if_pos e] at hz; cases hz; simp only; omega
  ·rw [if_neg e] at hz; exact h.dn z j hz
 | none=>
  refine⟨⟨λk hk=>?_,λz j hz=>?_⟩,by simp,by simp; omega,by simp⟩
  ·simp only [δ,ε] at hk
   by_cases hl:k<s.out.length
   ·have:=h.nd k hl;simp only [γ] at this ⊢
    rwa [η hl]
   ·obtain rfl:k=s.out.length:=by omega
    simpa [γ] using hq
  ·simp only at hz;rw [sC] at hz
   by_cases e:z=i
   ·rw [if_pos e] at hz; cases hz; simp; omega
   ·rw [if_neg e] at hz;have:=h.dn z j hz;simp only [δ,ε]; omega
theorem eN {f:List Nd} (hc:∀ k,k<f.length->zY (f.getD k wA) k=0):∀ (n:Nat) {i:Nat} {s:CS},i<n->i<f.length->VK s ->
  VK (xE f n i s).2/\0<=(xE f n i s).1/\(xE f n i s).1<(xE f n i s).2.out.length/\s.out.length<=(xE f n i s).2.out.length
 | 0,i,s,h,_,_=>by omega
 | n + 1,i,s,h,hi,hs=>by
  cases hu:wO i s.done with
  | some k=>rw [xE,hu]; exact⟨hs,(hs.dn _ _ hu).1,(hs.dn _ _ hu).2,τ _⟩
  | none=>
   rw [mI hu];have hp:=hc i hi;obtain⟨ox,oy⟩:=mR hp;simp only;generalize f.getD i wA=p at ox oy hp
   have ha:VK (if (xW p.op).1.x=true then xE f n p.x.toNat s else(p.x,s)).2/\(if (xW p.op).1.x=true then 0<=(if (xW p.op).1.x=true then xE f n p.x.toNat s else(p.x,s)).1/\(if (xW p.op).1.x=true then xE f n p.x.toNat s else(p.x,s)).1<(if (xW p.op).1.x=true then xE f n p.x.toNat s else(p.x,s)).2.out.length else(if (xW p.op).1.x=true then xE f n p.x.toNat s else(p.x,s)).1=p.x)/\ s.out.length<=(if (xW p.op).1.x=true then xE f n p.x.toNat s else(p.x,s)).2.out.length:=by
    by_cases hx:(xW p.op).1.x=true
    ·simp only [if_pos hx];have:=ox hx;obtain⟨b1,b2,b3,b4⟩:=eN hc n (i:=p.x.toNat) (s:=s) (by omega) (by omega) hs;exact⟨b1,⟨b2,b3⟩,b4⟩
    ·simp only [if_neg hx]; exact⟨hs,trivial,τ _⟩
   generalize (if (xW p.op).1.x=true then xE f n p.x.toNat s else(p.x,s))= a at ha;obtain⟨a1,a2,a3⟩:=ha
   have hb:VK (if (xW p.op).1.y=true then xE f n p.y.toNat a.2 else(p.y,a.2)).2/\(if (xW p.op).1.y=true then 0<=(if (xW p.op).1.y=true then xE f n p.y.toNat a.2 else(p.y,a.2)).1/\(if (xW p.op).1.y=true then xE f n p.y.toNat a.2 else(p.y,a.2)).1<(if (xW p.op).1.y=true then xE f n p.y.toNat a.2 else(p.y,a.2)).2.out.length else(if (xW p.op).1.y=true then xE f n p.y.toNat a.2 else(p.y,a.2)).1=p.y)/\ a.2.out.length<=(if (xW p.op).1.y=true then xE f n p.y.toNat a.2 else(p.y,a.2)).2.out.length:=by
    by_cases hy:(xW p.op).1.y=true
    ·simp only [if_pos hy];have:=oy hy;obtain⟨b1,b2,b3,b4⟩:=eN hc n (i:=p.y.toNat) (s:=a.2) (by omega) (by omega) a1;exact⟨b1,⟨b2,b3⟩,b4⟩
    ·simp only [if_neg hy]; exact⟨a1,trivial,τ _⟩
   generalize (if (xW p.op).1.y=true then xE f n p.y.toNat a.2 else(p.y,a.2))= b at hb;obtain⟨b1,b2,b3⟩:=hb
   have hq:zY ⟨p.op,p.i,p.e,p.g,a.1,b.1⟩ b.2.out.length=0:=by
    refine eQ hp ?_ b2
    split
    ·rename_i hx;rw [if_pos hx] at a2; omega
    ·rename_i hx;rw [if_neg hx] at a2; exact a2
   obtain⟨e1,e2,e3,e4⟩:=Lg (i:=i) b1 hq;exact⟨e1,e2,e3,by omega⟩
theorem jC (f:List Nd) (i:Int):∀ k,k<(nS f i).length->zY ((nS f i).getD k wA) k=0:=by
 unfold nS
 by_cases h:yT f≠0\/i<0\/(f.length:Int)<=i
 ·rw [if_pos h]; intro k hk; simp at hk
 ·rw [if_neg h];obtain⟨c1,c2,c3⟩:=vB (f:=f) (by omega);exact(eN c3 (i.toNat+1) (i:=i.toNat) (s:=⟨[],[]⟩) (by omega) (by omega) ⟨λk hk=>by simp at hk,λz k hz=>by cases hz⟩).1.nd
theorem ME {f:List Nd} {i:Nat} (hc:yT f=0) (hi:i<f.length):0<(nS f i).length:=by obtain⟨c1,c2,c3⟩:=vB hc;unfold nS;rw [if_neg (by omega)];have:=(eN c3 ((i:Int).toNat+1) (i:=(i:Int).toNat) (s:=⟨[],[]⟩) (by omega) (by omega) ⟨λk hk=>by simp at hk,λz k hz=>by cases hz⟩).2;unfold uF;omega
theorem ot {f:List Nd} (hc:yT f=0):0<(yY f).length:=by
 have h1:=(vB hc).1;have:0<f.length:=List.length_pos_iff.2 h1;have:=ME (i:=f.length-1) hc (by omega);unfold yY
 rwa [show ((f.length:Int)-1)= ((f.length-1:Nat):Int) by omega]
theorem kY {l:List Nd} (h:∀ k,k<l.length->zY (l.getD k wA) k=0) {p:Nd} (hp:p ∈ l):∃ k:Nat,zY p k=0:=by
 obtain⟨k,hk,rfl⟩:=ο hp;refine⟨k,?_⟩;have:=h k hk
 rwa [γ,θ hk] at this
theorem lP {p:Nd} {k:Int} (h:zY p k=0) (hf:(xW p.op).1.fa=true):0<=p.i/\p.i<=7:=by have:=(vN.1 h).2.2.2.2;simp only [xH,hf,Ag,Ah,decide_eq_false_iff_not] at this;omega
theorem sF {p:Nd} {k:Int} (h:zY p k=0) (hf:(xW p.op).1.ag=true):0<=p.i/\p.i<=3:=by have:=(vN.1 h).2.2.2.2;simp only [xH,hf,Ag,Ah,decide_eq_false_iff_not] at this;omega
theorem jS {p:Nd} {k:Int} (h:zY p k=0):0<=p.g/\p.g<=15:=by
 have h1:=(vN.1 h).2.2.2.2;have h2:=(vN.1 h).2.2.2.1
 cases hg:(xW p.op).1.gr
 ·simp only [hg,Ag,Bool.not_false,Ah,decide_eq_false_iff_not] at h2;omega
 ·simp only [xH,hg,Ag,Ah,decide_eq_false_iff_not] at h1;omega
def vY (p:Nd):Nat:=if (xW p.op).1.ag=true then 2 ^ p.i.toNat else p.g.toNat
def rE (p:Nd):Nat:=if (xW p.op).1.fa=true then 2 ^ p.i.toNat else 0
def qX (f:List Nd):Nat:=zZ vY (yY f)
def kV (f:List Nd):Nat:=zZ rE (yY f)
theorem fk {p:Nd} {k:Int} (h:zY p k=0):vY p<4096:=by
 unfold vY
 split
 ·rename_i hf;have:=sF h hf;have:2 ^ p.i.toNat<=2 ^ 3:=Aa (by decide) (by omega);omega
 ·have:=jS h;omega
theorem XS {p:Nd} {k:Int} (h:zY p k=0):rE p<4096:=by
 unfold rE
 split
 ·rename_i hf;have:=lP h hf;have:2 ^ p.i.toNat<=2 ^ 7:=Aa (by decide) (by omega);omega
 ·omega
def tU (f:List Nd) (a b:Int):Bool:=decide (yT f=0)&& kT (qX f) a&&kT (kV f) b
end Fm
theorem Pk (f:List Nd):yU prog 147 [.sl 6 (zB f)] (.int .i64 (qX f)):=by
 refine xY.xN mixed func147 Ii (by simp) λhf=>?_;simp only [simprocAttr,-ZA,↓zU,↓zD,zV,zT,zW]
 refine .go (xY.yH (cp (m:=vY) (λp hp=>?_) (λp hp=>?_) (by have:=lV f ((f.length:Int)-1); unfold yY; omega)) rfl) ?_
 ·obtain⟨k,hk⟩:=kY (jC f _) hp;exact fk hk
 ·obtain⟨k,hk⟩:=kY (jC f _) hp;have h:=Pm p (xW p.op).1 (λha=>by have:=sF hk ha; omega)
  rw [show ((vY p:Nat):Int)= (if (xW p.op).1.ag=true then((2 ^ p.i.toNat:Nat):Int) else p.g) by
   unfold vY
   split
   ·rfl
   ·have:=jS hk; omega]
  exact h
 simp only [simprocAttr,-ZA,↓zU,↓zD,zV,zT,zW];exact .same
theorem NR (f:List Nd):yU prog 148 [.sl 6 (zB f)] (.int .i64 (kV f)):=by
 refine xY.xN mixed func148 Ij (by simp) λhf=>?_;simp only [simprocAttr,-ZA,↓zU,↓zD,zV,zT,zW]
 refine .go (xY.yH (cp (m:=rE) (λp hp=>?_) (λp hp=>?_) (by have:=lV f ((f.length:Int)-1); unfold yY; omega)) rfl) ?_
 ·obtain⟨k,hk⟩:=kY (jC f _) hp;exact XS hk
 ·obtain⟨k,hk⟩:=kY (jC f _) hp;have h:=Np p (xW p.op).1 (λha=>by have:=lP hk ha; omega)
  rw [show ((rE p:Nat):Int)= (if (xW p.op).1.fa=true then((2 ^ p.i.toNat:Nat):Int) else 0) by unfold rE;split <;> rfl]
  exact h
 simp only [simprocAttr,-ZA,↓zU,↓zD,zV,zT,zW];exact .same
theorem Zt (f:List Nd) (a b:Int):yU prog 101 [.sl 6 (zB f),.int .i64 a,.int .i64 b] (.bool (tU f a b)):=by
 refine xY.xN mixed func101 I5 (by simp) λhf=>?_;simp only [simprocAttr,-ZA,↓zU,↓zD,zV,zT,zW];refine .go (cr (jR f)) ?_;by_cases hc:yT f=0
 case neg=>
  have e:(yT f==0)= false:=by simpa using hc
  simp only [simprocAttr,-ZA,↓zU,↓zD,zV,zT,zW,e];exact .drop (by simp) (by simp [vw,tU,hc])
 have e:(yT f==0)= true:=by simpa using hc
 simp only [simprocAttr,-ZA,↓zU,↓zD,zV,zT,zW,e];refine .go (cr (Pk f)) ?_;simp only [simprocAttr,-ZA,↓zU,↓zD,zV,zT,zW];refine .go (xY.yH (Sb (qX f) a) rfl) ?_
 cases hb:kT (qX f) a
 ·simp only [simprocAttr,-ZA,↓zU,↓zD,zV,zT,zW];exact .drop (by simp) (by simp [vw,tU,hb])
 simp only [simprocAttr,-ZA,↓zU,↓zD,zV,zT,zW];refine .go (cr (NR f)) ?_;simp only [simprocAttr,-ZA,↓zU,↓zD,zV,zT,zW];refine .go (xY.yH (Sb (kV f) b) rfl) ?_;simp only [simprocAttr,-ZA,↓zU,↓zD,zV,zT,zW];exact .drop (by simp) (by simp [vw,tU,hb,hc])
open Rs Fm
namespace Fm
def rb (l:List Bool):List (List D):=l.map λb=>[.bool b]
theorem rJ (l:List Bool):(rb l).length=l.length:=by simp [rb]
theorem Y4 (l:List Bool) {i:Nat} (h:i<l.length):(rb l).getD i [] = [.bool (l.getD i false)]:=by simp [rb,List.getD,h]
theorem uc (l:List Bool) (i:Nat) (b:Bool):(rb l).set i [.bool b]=rb (l.set i b):=by simp [rb,List.map_set]
theorem z7 (n:Nat) (b:Bool):List.replicate n [D.bool b]=rb (List.replicate n b):=by simp [rb]
theorem Oo (l:List Bool):∀ e ∈ rb l,D.xR e=true:=by intro e he;simp only [rb,ζ] at he;obtain⟨n,_,rfl⟩:=he;rfl
theorem sH (l:List Bool):tW (rb l)= True:=eq_true (Oo l)
theorem eI (a b:D):List.set [a] 0 b = [b]:=rfl
theorem W7 {p:Nd} {k:Nat} (h:zY p k=0):(∃ x:Nat,p.x=x/\x<=k)/\ (∃ y:Nat,p.y=y/\y<=k):=by
 obtain⟨_,h2,h3,_⟩:=vN.1 h
 refine⟨?_,?_⟩
 ·unfold yR at h2
  split at h2
  ·simp only [Af,decide_eq_true_eq] at h2;exact⟨p.x.toNat,by omega,by omega⟩
  ·simp only [decide_eq_true_eq] at h2;exact⟨0,by omega,by omega⟩
 ·unfold yR at h3
  split at h3
  ·simp only [Af,decide_eq_true_eq] at h3;exact⟨p.y.toNat,by omega,by omega⟩
  ·simp only [decide_eq_true_eq] at h3;exact⟨0,by omega,by omega⟩
end Fm
open Rs Fm
namespace Fm
end Fm
open Rs Fm
namespace Fm
def nl (ops:List (List Nd)):List (List D):=ops.map λo=>[.sl 6 (zB o)]
theorem Sm (l:List (List Nd)):(nl l).length=l.length:=by simp [nl]
theorem M3 (l:List (List Nd)) {i:Nat} (h:i<l.length):(nl l).getD i [] = [.sl 6 (zB (l.getD i []))]:=by simp [nl,List.getD,h]
theorem xb (l:List Nd):tW (zB l)= True:=eq_true (aW l)
theorem Xn (l:List Nd) (a b c d e f:Int):zB l ++ [[.int .i64 a,.int .i64 b,.int .i64 c,.int .i64 d,.int .i64 e,.int .i64 f]]=zB (l ++ [⟨a,b,c,d,e,f⟩]):=by simp [zB,Nd.row]
theorem OQ : zB [] = []:=rfl
theorem OR (l:List Nd):∀ e ∈ zB l,e.length=6:=by intro e he;simp only [zB,ζ] at he;obtain⟨p,_,rfl⟩:=he;rfl
def qW (n:Nat) (p:Nd):Nd:=⟨p.op,p.i,p.e,p.g,if (xW p.op).1.x=true then p.x+n else p.x,if (xW p.op).1.y=true then p.y+n else p.y⟩
def vU (f:List Nd):Prop:=∀ k,k<f.length->zY (f.getD k wA) k=0
theorem RX {p:Nd} {k n:Nat} (h:zY p k=0):zY (qW n p) ((n+k:Nat):Int)= 0:=by
 obtain⟨ox,oy⟩:=mR h
 refine eQ h ?_ ?_
 ·split
  ·rename_i hx; have:=ox hx; omega
  ·rfl
 ·split
  ·rename_i hy; have:=oy hy; omega
  ·rfl
theorem Zn {f c:List Nd} (hf:vU f) (hc:vU c):vU (f++c.map (qW f.length)):=by
 intro k hk;simp only [δ,κ] at hk;simp only [γ]
 by_cases h:k<f.length
 ·rw [η h];have:=hf k h
  rwa [γ] at this
 ·rw [List.getElem?_append_right (by omega),List.getElem?_map];have hk':k-f.length<c.length:=by omega
  have h1:=hc (k-f.length) hk';rw [γ,θ hk',Ae] at h1;rw [θ hk',Ac,Ae];have:=RX (n:=f.length) h1
  rwa [show f.length+(k-f.length)= k by omega] at this
theorem zi {f:List Nd} {p:Nd} (hf:vU f) (hp:zY p f.length=0):vU (f ++ [p]):=by
 intro k hk;simp only [δ,ε] at hk;simp only [γ]
 by_cases h:k<f.length
 ·rw [η h];have:=hf k h
  rwa [γ] at this
 ·obtain rfl:k=f.length:=by omega
  simpa using hp
theorem xv (o:List Nd):vU (yY o):=jC o _
def TC (k:Nat) (x:Nd) (v:Int):Nd:=if k=0 then⟨x.op,x.i,x.e,x.g,v,x.y⟩ else⟨x.op,x.i,x.e,x.g,x.x,v⟩
def xl : Nat->List (List Nd)->List Nd->Nd->Option (List Nd × Nd)
 | _,[],f,x=>some (f,x)
 | k,o :: r,f,x=>if yT o≠0 then none else
  xl (k+1) r (f++(yY o).map (qW f.length)) (TC k x (((f++(yY o).map (qW f.length)).length:Int)-1))
def kU (x:Nd) (ops:List (List Nd)):List Nd:=match xl 0 ops [] x with
 | none=>[]
 | some (f,x')=>if zY x' f.length≠0 then [] else if 200<(uF (f ++ [x']) f.length).length then [] else uF (f ++ [x']) f.length
end Fm
theorem vj (x:Nd) (ops:List (List Nd)) (ho:ops.length<=2):yU prog 91 [.agg x.row,.sl 1 (nl ops)] (.sl 6 (zB (kU x ops))):=by
 refine xY.xN mixed func91 Fv (by simp) λhf=>?_;simp only [simprocAttr,-ZA,↓zU,↓zD,zV,zT,zW,Sm,Nd.row]
 (repeat refine sd ?_)
 refine xP (λa:Nat × List Nd × Nd=>[(16,.int .i64 a.1),(15,.int .i64 ops.length),(14,.sl 1 (nl ops)),(5,xB 1 6 (zB a.2.1)),(2,.ref 0 6 0 0)]) (λa=>⟨2,yZ 1 6 (zB a.2.1)++ [(0,⟨6,[a.2.2.row]⟩)]⟩)
  (λa=>a.1<=ops.length/\vU a.2.1/\a.2.1.length<=200*a.1/\xl 0 ops [] x=xl a.1 (ops.drop a.1) a.2.1 a.2.2) (λa=>ops.length-a.1) (0,[],x) ⟨χ _,λk hk=>by simp at hk,by simp,rfl⟩ ?_ ?_
 ·(refine xT.tP [] [0] (by simp) (by simp) (by decide) ?_; simp only [yQ,zQ,simprocAttr,-ZA,exists_eq_left',ne_eq,zR,OQ,wR,wS,List.nil_append,Nd.row])
 rintro ⟨k,f,x1⟩ ⟨hk,hf,hfl,hb⟩;simp only at hk hf hfl hb;refine xM mixed ?_;by_cases h:k<ops.length
 case neg=>
  have hd:¬ ((k:Int)<(ops.length:Int)):=by omega
  rw [ξ (by omega),xl] at hb;have eb:kU x ops=if zY x1 f.length≠0 then [] else if 200<(uF (f ++ [x1]) f.length).length then [] else uF (f ++ [x1]) f.length:=by rw [kU,hb]
  rw [eb];simp only [simprocAttr,-ZA,↓zU,↓zD,zV,zT,zW,hd,Nd.row,xG]
  (repeat refine sd ?_)
  refine .go (xY.yH (za x1 f.length) (by simp [D.xR,D.xD,Nd.row])) ?_;by_cases hn:zY x1 f.length=0
  case neg=>
   have e:(zY x1 f.length != 0)= true:=by simpa using hn
   rw [if_pos hn];simp only [simprocAttr,-ZA,↓zU,↓zD,zV,zT,zW,e];exact .drop (by simp) (by simp [vw,zB])
  have e:(zY x1 f.length != 0)= false:=by simpa using hn
  rw [if_neg (by simpa using hn)];simp only [simprocAttr,-ZA,↓zU,↓zD,zV,zT,zW,e,Nd.row,xG]
  (repeat refine sd ?_)
  have hv:vU (f ++ [x1]):=zi hf hn;have hlen:(f ++ [x1]).length<=900:=by rw [δ,ε]; omega
  have hcall:=xY.Ma (σ:=⟨3,yZ 2 6 (zB (f ++ [x1]))++ [(0,⟨6,[x1.row]⟩)]⟩) (args:=[xB 2 6 (zB (f ++ [x1])),.int .i64 f.length]) (objs':=[]) (λ_=>False) (gh (i:=f.length) hv hlen (by simp))
   ⟨Seen.grow (by rw [St.get,xA,if_pos rfl]; cases wU 6 (zB (f ++ [x1])) <;> rfl) id (by omega) (OR _) (aW _),.pure rfl,trivial⟩ (λk o hk=>by cases hk)
  rw [Xn];simp only [Nd.row] at hcall;refine .go hcall ?_;generalize uF (f ++ [x1]) f.length=c
  by_cases hc:200<c.length
  ·have hc':(200:Int)<(c.length:Int):=by omega
   rw [if_pos hc];simp only [simprocAttr,-ZA,↓zU,↓zD,zV,zT,zW,xG,hc'];exact .drop (by simp) (by simp [vw,zB])
  ·have hc':¬ (200:Int)<(c.length:Int):=by omega
   rw [if_neg hc];simp only [simprocAttr,-ZA,↓zU,↓zD,zV,zT,zW,xG,hc'];exact .dv
 have hd:((k:Int)<(ops.length:Int)):=by omega
 have hg:=M3 ops h;rw [drop_cons (d:=[]) h,xl] at hb;generalize ops.getD k []=o at hg hb;have hw:IntKind.i64.wrap ((k:Int)+ 1)= ((k+1:Nat):Int):=wrap_i64 (by omega);simp only [simprocAttr,-ZA,↓zU,↓zD,zV,zT,zW,hd,Sm,hg]
 (repeat refine sd ?_)
 refine .go (cr (jR o)) ?_;by_cases hc:yT o=0
 case neg=>
  have e:(yT o != 0)= true:=by simpa using hc
  rw [if_pos hc] at hb;simp only [simprocAttr,-ZA,↓zU,↓zD,zV,zT,zW,e];rw [show kU x ops = [] by rw [kU,hb]];exact .drop (by simp) (by simp [vw,zB])
 have e:(yT o != 0)= false:=by simpa using hc
 rw [if_neg (by simpa using hc)] at hb;simp only [simprocAttr,-ZA,↓zU,↓zD,zV,zT,zW,e,xG];refine .go (cr (zu o)) ?_;have hcv:=xv o;have hcl:(yY o).length<=200:=lV o _;generalize yY o=c at hb hcv hcl;simp only [simprocAttr,-ZA,↓zU,↓zD,zV,zT,zW,xG]
 refine xP (λj:Nat=>[(29,.int .i64 j),(28,.int .i64 c.length),(27,.sl 6 (zB c)),(16,.int .i64 k),(15,.int .i64 ops.length),(14,.sl 1 (nl ops)),(8,.int .i64 f.length),(6,.int .i64 k),(5,xB 1 6 (zB (f++(c.take j).map (qW f.length)))),(2,.ref 0 6 0 0)]) (λj=>⟨2,yZ 1 6 (zB (f++(c.take j).map (qW f.length)))++ [(0,⟨6,[x1.row]⟩)]⟩)
  (λj=>j<=c.length) (λj=>c.length-j) 0 (χ _) ?_ ?_
 ·rw [show f++(c.take 0).map (qW f.length)= f by simp]
  (refine xT.same ?_; simp [xS,Fr.get])
 intro j hj;refine xM mixed ?_;by_cases hjl:j<c.length
 case neg=>
  have hd2:¬ ((j:Int)<(c.length:Int)):=by omega
  rw [pM (show j=c.length by omega)];have hfl2:(f++c.map (qW f.length)).length<=200*(k+1):=by rw [δ,κ]; omega
  have hv2:=Zn hf hcv;generalize f++c.map (qW f.length)= f2 at hb hfl2 hv2;have hw2:IntKind.i64.wrap ((f2.length:Int)-1)= (f2.length:Int)-1:=wrap_i64 (by omega)
  by_cases hk0:k=0
  ·have e0:((k:Int)== 0)= true:=by rw [hk0]; rfl
   rw [TC,if_pos hk0] at hb;simp only [simprocAttr,-ZA,↓zU,↓zD,zV,zT,zW,hd2,e0,xG,hw2,Nd.row]
   (repeat refine sd ?_)
   refine⟨(k+1,f2,⟨x1.op,x1.i,x1.e,x1.g,(f2.length:Int)-1,x1.y⟩),⟨by omega,hv2,hfl2,hb⟩,?_,by simp only; omega⟩
   (refine xT.tP [] [1,0] (by simp) (by simp) (by decide) ?_; simp only [yQ,zQ,simprocAttr,-ZA,exists_eq_left',ne_eq,zR,xb,Nd.row,hw])
  ·have e0:((k:Int)== 0)= false:=by rw [beq_eq_false_iff_ne]; omega
   rw [TC,if_neg hk0] at hb;simp only [simprocAttr,-ZA,↓zU,↓zD,zV,zT,zW,hd2,e0,xG,hw2,Nd.row]
   (repeat refine sd ?_)
   refine⟨(k+1,f2,⟨x1.op,x1.i,x1.e,x1.g,x1.x,(f2.length:Int)-1⟩),⟨by omega,hv2,hfl2,hb⟩,?_,by simp only; omega⟩
   (refine xT.tP [] [1,0] (by simp) (by simp) (by decide) ?_; simp only [yQ,zQ,simprocAttr,-ZA,exists_eq_left',ne_eq,zR,xb,Nd.row,hw])
 have hd2:((j:Int)<(c.length:Int)):=by omega
 have hgj:=sT c hjl;have hnj:=hcv j hjl;obtain⟨⟨px,hpx,hpx2⟩,⟨py,hpy,hpy2⟩⟩:=W7 hnj;have hsn:f++(c.take (j+1)).map (qW f.length)= f++(c.take j).map (qW f.length)++ [qW f.length (c.getD j wA)]:=by rw [zA (d:=wA) hjl,List.map_append,<- List.append_assoc]; rfl
 generalize c.getD j wA=p at hgj hnj hpx hpy hsn;have hwj:IntKind.i64.wrap ((j:Int)+ 1)= ((j+1:Nat):Int):=wrap_i64 (by omega);have hl2:(f++(c.take j).map (qW f.length)).length<=1000:=by rw [δ,κ,List.length_take]; omega
 generalize f++(c.take j).map (qW f.length)= f1 at hsn hl2;have hwx:IntKind.i64.wrap (p.x+(f.length:Int))= p.x+(f.length:Int):=wrap_i64 (by omega);have hwy:IntKind.i64.wrap (p.y+(f.length:Int))= p.y+(f.length:Int):=wrap_i64 (by omega);simp only [simprocAttr,-ZA,↓zU,↓zD,zV,zT,zW,hd2,xG,hgj,Nd.row]
 (repeat refine sd ?_)
 refine .go (cq (xu p.op)) ?_;have es:qW f.length p=⟨p.op,p.i,p.e,p.g,if (xW p.op).1.x=true then p.x+f.length else p.x,if (xW p.op).1.y=true then p.y+f.length else p.y⟩:=rfl;cases hux:(xW p.op).1.x <;> cases huy:(xW p.op).1.y <;> rw [hux,huy] at es
 all_goals
  simp only [simprocAttr,-ZA,↓zU,↓zD,zV,zT,zW,vd.row,hux,huy,hwx,hwy,Xn,xG,δ,ε]
  (repeat refine sd ?_)
  refine⟨j+1,by omega,?_,by omega⟩;rw [hsn,es]
  (refine xT.tP [(1,4)] [1,0] (by simp) (by simp) (by decide) ?_; simp only [yQ,zQ,simprocAttr,-ZA,exists_eq_left',ne_eq,zR,xb,hwj,Nd.row,Bool.false_eq_true,if_false,if_true])
section
open Rs Fm
namespace Fm
def VV (f:List Nd):List Nd:=kU ⟨4,0,0,0,0,0⟩ [f]
def PL (f g:List Nd):List Nd:=kU ⟨5,0,0,0,0,0⟩ [f,g]
def kE (a:Int) (f:List Nd):List Nd:=kU ⟨9,a,0,0,0,0⟩ [f]
def sW (i:Int):List Nd:=kU ⟨3,i,0,0,0,0⟩ []
end Fm
theorem Pw (x:Nd):yU prog 91 [.agg x.row,.xO] (.sl 6 (zB (kU x []))):= xY.Ma (σ:=gY) (objs':=[]) (λ_=>False) (vj x [] (by simp)) ⟨.pure (by simp [D.xD,D.xR,Nd.row]),.nil 1,trivial⟩ (λk o hk=>by cases hk)
theorem Jm (f:List Nd):yU prog 35 [.sl 6 (zB f)] (.sl 6 (zB (VV f))):=by
 refine xY.xN mixed func35 FM (by simp) λhf=>?_;simp only [simprocAttr,-ZA,↓zU,↓zD,zV,zT,zW]
 (repeat refine sd ?_)
 refine .go (xY.yH (vj ⟨4,0,0,0,0,0⟩ [f] (by simp)) (by simp [D.xR,D.xD,Nd.row,nl])) ?_;simp only [simprocAttr,-ZA,↓zU,↓zD,zV,zT,zW];exact .same
theorem SL (a:Int) (f:List Nd):yU prog 33 [.int .i64 a,.sl 6 (zB f)] (.sl 6 (zB (kE a f))):=by
 refine xY.xN mixed func33 FK (by simp) λhf=>?_;simp only [simprocAttr,-ZA,↓zU,↓zD,zV,zT,zW]
 (repeat refine sd ?_)
 refine .go (xY.yH (vj ⟨9,a,0,0,0,0⟩ [f] (by simp)) (by simp [D.xR,D.xD,Nd.row,nl])) ?_;simp only [simprocAttr,-ZA,↓zU,↓zD,zV,zT,zW];exact .same
theorem SK (i:Int):yU prog 34 [.int .i64 i] (.sl 6 (zB (sW i))):=by
 refine xY.xN mixed func34 FL (by simp) λhf=>?_;simp only [simprocAttr,-ZA,↓zU,↓zD,zV,zT,zW]
 (repeat refine sd ?_)
 refine .go (xY.yH (Pw ⟨3,i,0,0,0,0⟩) (by simp [D.xR,D.xD,Nd.row])) ?_;simp only [simprocAttr,-ZA,↓zU,↓zD,zV,zT,zW];exact .same
end
section
open Rs Fm
namespace Fm
theorem Vx (a b c d e f:Int):xm [.int .i64 a,.int .i64 b,.int .i64 c,.int .i64 d,.int .i64 e,.int .i64 f]=some [a,b,c,d,e,f]:=rfl
end Fm
end
open Rs Fm
namespace Fm
end Fm
open Rs Fm
namespace Fm
theorem sG (op:Int):op=1\/op=2\/op=3\/op=4\/op=5\/op=6\/op=7\/op=8\/op=9\/op=10\/op=11\/op=12\/op=13\/op=14\/op=15\/op=16\/op=17\/op=18\/op=19\/op=20\/op=21\/op<1\/21<op:=by omega
theorem vS {op:Int} (h:op<1\/21<op):xW op=(sI,false):=if_pos h
theorem Ss (op:Int):(xW op).1.x=(decide (4<=op)&& decide (op<=21)):=by
 rcases sG op with rfl | rfl | rfl | rfl | rfl | rfl | rfl | rfl | rfl | rfl | rfl | rfl | rfl | rfl | rfl | rfl | rfl | rfl | rfl | rfl | rfl | h | h
 rotate_right 2
 ·rw [vS (.inl h),decide_eq_false (by omega)]; rfl
 ·rw [vS (.inr h),decide_eq_false (show ¬ op<=21 by omega),Bool.and_false]; rfl
 all_goals rfl
theorem MQ (op:Int):(xW op).1.gr=(decide (11<=op)&& decide (op<=13)):=by
 rcases sG op with rfl | rfl | rfl | rfl | rfl | rfl | rfl | rfl | rfl | rfl | rfl | rfl | rfl | rfl | rfl | rfl | rfl | rfl | rfl | rfl | rfl | h | h
 rotate_right 2
 ·rw [vS (.inl h),decide_eq_false (by omega)]; rfl
 ·rw [vS (.inr h),decide_eq_false (show ¬ op<=13 by omega),Bool.and_false]; rfl
 all_goals rfl
theorem WQ (op:Int):(op==3)= (xW op).1.fa:=by
 rcases sG op with rfl | rfl | rfl | rfl | rfl | rfl | rfl | rfl | rfl | rfl | rfl | rfl | rfl | rfl | rfl | rfl | rfl | rfl | rfl | rfl | rfl | h | h
 rotate_right 2
 ·rw [vS (.inl h)]; simp [sI]; omega
 ·rw [vS (.inr h)]; simp [sI]; omega
 all_goals rfl
theorem P6 (op:Int):(op==17)= (xW op).1.ev:=by
 rcases sG op with rfl | rfl | rfl | rfl | rfl | rfl | rfl | rfl | rfl | rfl | rfl | rfl | rfl | rfl | rfl | rfl | rfl | rfl | rfl | rfl | rfl | h | h
 rotate_right 2
 ·rw [vS (.inl h)]; simp [sI]; omega
 ·rw [vS (.inr h)]; simp [sI]; omega
 all_goals rfl
theorem P7 {op:Int} (h1:¬ op<1) (h2:¬ 21<op):(xW op).2=true:=by
 rcases sG op with rfl | rfl | rfl | rfl | rfl | rfl | rfl | rfl | rfl | rfl | rfl | rfl | rfl | rfl | rfl | rfl | rfl | rfl | rfl | rfl | rfl | h | h
 rotate_right 2
 ·omega
 ·omega
 all_goals rfl
theorem oF {m:Nd->Nat}:∀ {l:List Nd},zZ m l=0 ↔ ∀ p ∈ l,m p=0:=by
 intro l
 have key:∀ (l:List Nd) (a:Nat),l.foldl (λa p=>a ||| m p) a=0 ↔ a=0/\∀ p ∈ l,m p=0:=by
  intro l
  induction l with
  | nil=>simp
  | cons p r ih=>
   intro a;simp only [List.foldl_cons,ih,μ,forall_eq_or_imp];rw [Nat.or_eq_zero_iff]
   constructor
   ·rintro ⟨⟨h1,h2⟩,h3⟩; exact⟨h1,h2,h3⟩
   ·rintro ⟨h1,h2,h3⟩; exact⟨⟨h1,h2⟩,h3⟩
 rw [zZ,key];simp
end Fm
end Go.Pd
