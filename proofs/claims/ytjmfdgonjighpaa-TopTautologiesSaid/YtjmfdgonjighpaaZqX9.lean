/- Part X9. -/
import Derived.Test.YtjmfdgonjighpaaZqXS
import Derived.Test.YtjmfdgonjighpaaZqCode
set_option linter.unusedSectionVars false
set_option linter.unusedVariables false
set_option linter.unusedSimpArgs false
set_option linter.defProp false
set_option maxRecDepth 20000
set_option maxHeartbeats 1000000
open Go.Proofs.Try
namespace Go.Pd
open Go Go.Proofs
theorem W0 {n:Nat} (hn:n<=61):yp .i64 1 (n:Int)= ((2 ^ n:Nat):Int):=YH (by omega)
theorem qY {α:Type} {l:List α} {k:Nat} {d:α} (h:k<l.length):l.take (k+1)= l.take k ++ [l.getD k d]:=by rw [List.take_add_one]; simp [List.getD,h]
theorem drop_cons {α:Type} {l:List α} {k:Nat} {d:α} (h:k<l.length):l.drop k=l.getD k d :: l.drop (k+1):=by simp [List.getD,h]
theorem wR {α:Type} {l:List α} {k:Nat} {d:α} (h:k<l.length):l.getD k d ∈ l:=by simp [List.getD,h]
theorem iN {α:Type} {l:List α} {k:Nat} (h:k=l.length):l.take k=l:=by rw [h,List.take_length]
theorem QC (x y:Int):(if x<y then y else x)= max x y:=by rw [Int.max_def]; split <;> split <;> omega
theorem ak {α:Type} (o:List α) (i j:Nat) (x d:α):(o.set i x).getD j d=if i=j/\j<o.length then x else o.getD j d:=by
 simp only [List.getD,List.getElem?_set]
 split
 ·rename_i h; subst h; by_cases hj:i<o.length
  ·simp [hj]
  ·simp [hj]
 ·rename_i h; simp [h]
theorem aT {α:Type} {l:List α} (h:0<l.length):l ≠ []:=List.length_pos_iff.1 h
theorem cg (k:IntKind) (l:List Int) (i:Nat) (n:Int):(rows k l).set i [.int k n]=rows k (l.set i n):=by simp [rows,List.map_set]
theorem gT (k:IntKind) (n:Nat) (s:Int):List.replicate n [D.int k s]=rows k (List.replicate n s):=by simp [rows]
theorem Ub (k:IntKind) (a b:List Int):rows k (a++b)= rows k a++rows k b:=by simp [rows]
section
variable [vA]
theorem br {key m n sz len:Nat} {xZ:List (List D)} (hs:0<sz) (hp:∀ e ∈ xZ,D.xT e=true) (hl:len=xZ.length) {ρ:Nat->Nat} {r:List (Nat × Ob)}:vw ⟨m,(key,⟨sz,xZ⟩) :: r⟩ ⟨n,[]⟩ ρ (.wZ key sz len) (.sl sz xZ):=by subst hl;simp only [vw];exact⟨trivial,hs,by simp,⟨sz,xZ⟩,by simp [St.get,St.look],rfl,Nat.le_refl _,by simp,hp⟩
theorem rp {key m n sz len:Nat} {xZ els':List (List D)} (hs:0<sz) (hp:∀ e ∈ els',D.xT e=true) (hl:len<=xZ.length) (he:xZ.take len=els') {ρ:Nat->Nat} {r:List (Nat × Ob)}:vw ⟨m,(key,⟨sz,xZ⟩) :: r⟩ ⟨n,[]⟩ ρ (.wZ key sz len) (.sl sz els'):=by subst he;simp only [vw];exact⟨trivial,hs,by simp,⟨sz,xZ⟩,by simp [St.get,St.look],rfl,hl,rfl,hp⟩
theorem xU.ret {P:Program} {g:FuncId} {args:List D} {σ σ1 σ':St} {d1 d:D} (hc:xU P g args σ d1 σ1) (hr:bV σ.nx σ1 d1 σ' d):xU P g args σ d σ':=by
 refine⟨hc.ord,λM0 w ι vals hS hl hv=>(hc.run M0 w ι vals hS hl hv).mono λe w' hh=>?_⟩;obtain⟨v,ι1,he,kept,oC,nx,stay,rQ,hR⟩:=hh
 rcases hr with ⟨rfl,rfl⟩ | ⟨ρ,r1,r2,r3,r4,r5⟩
 ·exact⟨v,ι1,he,kept,oC,nx,stay,rQ,hR⟩
 ·have hlive:∀ p ∈ σ'.xX,∃ ob,σ1.get (ρ p.1)= some ob:=λp hp=>by obtain⟨_,ob,h,_⟩:=r4 p hp;exact⟨ob,h⟩
  refine⟨v,λk=>ι1 (ρ k),he,kept,oC.view r4 r5,r1,λk hk=>?_,λk o hk=>?_,lJ oC hlive _ _ hR r3⟩
  ·show ι1 (ρ k)= ι k;rw [r2 k hk]; exact stay k hk
  ·obtain⟨ob,h⟩:=hlive _ (vU hk);exact rQ _ _ h
theorem Tl {k s:Nat} {xZ:List (List D)} (h:xZ ≠ []):xJ k s xZ = .wZ k s xZ.length:=by cases xZ with
 | nil=>exact absurd rfl h
 | cons e r=>rfl
def rl (ll:List (List Int)):List (List D):=ll.map λl=>[.sl 1 (rows .i64 l)]
theorem tI (l:List (List Int)):(rl l).length=l.length:=by simp [rl]
theorem kl (l:List (List Int)) {i:Nat} (h:i<l.length):(rl l).getD i [] = [.sl 1 (rows .i64 (l.getD i []))]:=by simp [rl,List.getD,h]
theorem YE (l:List (List Int)) (r:List Int):rl l ++ [[.sl 1 (rows .i64 r)]]=rl (l ++ [r]):=by simp [rl]
theorem ji (l:List (List Int)):∀ e ∈ rl l,D.xT e=true:=by intro e he;simp only [rl,List.mem_map] at he;obtain⟨r,_,rfl⟩:=he;have h:∀ e ∈ rows .i64 r,D.xT e=true:=sX _ r;have:(rows .i64 r).all D.xT=true:=List.all_eq_true.2 h;simp [D.xT,D.xO,this]
theorem iM (l:List (List Int)):rP (rl l):=ji l
end
section
variable [vA]
def qp (C:Cx) (pre mid1:List xN) (f f1 fd:Fr) (dst2:Option Nat) (mid2 post:List xN) (Q:Exit->Fr->St->Prop) (f2:Fr) (d2:D) (σ2:St):Prop:= fU C σ2 pre (RU f1) f/\fU C σ2 mid1 (RU f2) fd/\fU C σ2 mid2 (qv C post Q σ2) (f2.put dst2 d2)
def qo (C:Cx) (pre:List xN) (dst:Option Nat) (mid1:List xN) (dst2:Option Nat) (k2:DK) (mid2 post:List xN) (Q:Exit->Fr->St->Prop) (f:Fr) (f1:Fr) (d1:D) (σ1:St):Prop:= fU C σ1 pre (RU f1) f/\fU C σ1 mid1 (fS C k2 (qp C pre mid1 f f1 (f1.put dst d1) dst2 mid2 post Q) σ1) (f1.put dst d1)
theorem vx {C:Cx} {σ:St} {f:Fr} {Q:Exit->Fr->St->Prop} {pre mid1 mid2 post:List xN} {dst dst2:Option Nat} {g g2:Option (Nat × Bool)} {k k2:DK} :
  si C (.ym pre ⟨dst,g,k⟩ mid1 ⟨dst2,g2,k2⟩ mid2 post) Q f σ=fU C σ pre (fS C k (qo C pre dst mid1 dst2 k2 mid2 post Q f) σ) f:=by
 rw [rI];show mX C _ f σ Q=_;unfold mX;rw [oM,<- rK]
 have:(λf1=>zC C σ (wP f1) k λd1 σ1=>uX C σ1 pre f (λg=>g=f1)/\ uX C σ1 mid1 (f1.put dst d1) λf2=>zC C σ1 (wP f2) k2 λd2 σ2=> uX C σ2 pre f (λg=>g=f1)/\ uX C σ2 mid1 (f1.put dst d1) (λg=>g=f2)/\ uX C σ2 mid2 (f2.put dst2 d2) λf3=>tP C post f3 σ2 λf σ=>Q .normal f σ)= fS C k (qo C pre dst mid1 dst2 k2 mid2 post Q f) σ:=by
  funext f1;unfold fS;rw [kj];congr 1;funext d1 σ1;unfold qo;rw [oM,rK,rK]
  have e2:(λf2=>zC C σ1 (wP f2) k2 λd2 σ2=> uX C σ2 pre f (λg=>g=f1)/\ uX C σ2 mid1 (f1.put dst d1) (λg=>g=f2)/\ uX C σ2 mid2 (f2.put dst2 d2) λf3=>tP C post f3 σ2 λf σ=>Q .normal f σ)= fS C k2 (qp C pre mid1 f f1 (f1.put dst d1) dst2 mid2 post Q) σ1:=by
   funext f2;unfold fS;rw [kj];congr 1;funext d2 σ2;unfold qp qv;rw [oM,gO,rK,rK,rK]
   have e3:bZ C post (eA Q)= λf σ=>tP C post f σ λf σ=>Q .normal f σ:=by funext f σ; rw [cX]; rfl
   rw [e3];rfl
  rw [e2];rfl
 rw [this]
end
section
variable [vA]
mutual
/-- All objects that a datum names are below n. -/
def D.under (n:Nat):D->Prop
 | .ref k _ _ _=>k<n
 | .wZ k _ _=>k<n
 | .sub k _ _ _=>k<n
 | .yV k=>k<n
 | .agg cs=>D.oY n cs
 | .yD cs=>D.oY n cs
 | .fn _ cs=>D.oY n cs
 | _=>True
def D.oY (n:Nat):List D->Prop
 | []=>True
 | d :: r=>d.under n/\D.oY n r
end
theorem qX {n:Nat}:∀ {cs:List D},(∀ j,j<cs.length->(cs.getD j .top).under n)->D.oY n cs
 | [],_=>by simp only [D.oY]
 | d :: r,h=>by simp only [D.oY];exact⟨by simpa using h 0 (by simp),qX λj hj=>by simpa using h (j+1) (by simpa using hj)⟩
theorem RP.under {M:Nat->Prop} {w:World} {n:Nat} {v:Value} {d:D} (h:RP M w v d):d.under n:=by
 induction h with
 | agg _ _ ih=>simp only [D.under]; exact qX ih
 | yD _ _ ih=>simp only [D.under]; exact qX ih
 | fn _ _ ih=>simp only [D.under]; exact qX ih
 | _=>simp only [D.under]
theorem R.under {M:Nat->Prop} {w:World} {ι:Nat->Nat} {n:Nat} {v:Value} {d:D} (h:R M w ι n v d):d.under n:=by
 induction h with
 | pure h=>exact h.under
 | ref hk _=>simp only [D.under]; exact hk
 | wZ hk _ _ _ _=>simp only [D.under]; exact hk
 | sub hk _ _ _ _=>simp only [D.under]; exact hk
 | yV hk=>simp only [D.under]; exact hk
 | agg _ _ ih=>simp only [D.under]; exact qX ih
 | yD _ _ ih=>simp only [D.under]; exact qX ih
 | fn _ _ ih=>simp only [D.under]; exact qX ih
def il (σ:St):Prop:=∀ k o,σ.get k=some o->k<σ.nx/\∀ e ∈ o.xZ,D.oY σ.nx e
theorem zI.under {M0:Nat->Prop} {w:World} {σ:St} {ι:Nat->Nat} (h:zI M0 w σ ι):il σ:=by
 intro k o hk;obtain⟨h1,h2⟩:=h.holds k o hk;refine⟨h1,λe he=>?_⟩;obtain⟨i,hi,rfl⟩:=List.getElem_of_mem he;have e2:o.xZ.getD i []=o.xZ[i]:=by simp [List.getD,hi]
 rcases h2 with ⟨_,cur,_,_,c2,_,c4⟩ | ⟨_,es,_,_,c3⟩
 ·have hl:=c2 _ (List.getElem_mem hi);refine qX λj hj=>?_;have:=(c4 i hi j (by omega)).2.under;rw [e2] at this;exact this
 ·obtain⟨kv,v,x,d,r1,_,r3,r4⟩:=c3 i hi;rw [e2] at r1;rw [r1];simp only [D.oY];exact⟨r3.under,r4.under,trivial⟩
theorem xU.Qb {P:Program} {g:FuncId} {args:List D} {σ:St} {d:D} {σ':St} (ho:sI P g) (h:il σ->xU P g args σ d σ'):xU P g args σ d σ':=⟨ho,λM0 w ι vals hS hl hv=>(h hS.under).run M0 w ι vals hS hl hv⟩
mutual
theorem Sq {σ σ':St}:∀ {d:D},d.under σ'.nx->vw σ σ' (λk=>k) d d
 | .top,_=>by simp only [vw]
 | .uO,_=>by simp only [vw]
 | .int _ _,_=>by simp only [vw]
 | .bool _,_=>by simp only [vw]
 | .str _,_=>by simp only [vw]
 | .sl _ _,_=>by simp only [vw]; exact⟨trivial,trivial⟩
 | .xI,_=>by simp only [vw]
 | .emp,_=>by simp only [vw]
 | .agg cs,h=>by simp only [vw]; simp only [D.under] at h; exact⟨trivial,iP h⟩
 | .yD cs,h=>by simp only [vw]; simp only [D.under] at h; exact⟨trivial,iP h⟩
 | .fn _ cs,h=>by simp only [vw]; simp only [D.under] at h; exact⟨trivial,trivial,iP h⟩
 | .ref _ _ _ _,h=>by simp only [vw]; simp only [D.under] at h; exact⟨h,trivial⟩
 | .wZ _ _ _,h=>by simp only [vw]; simp only [D.under] at h; exact⟨h,trivial⟩
 | .sub _ _ _ _,h=>by simp only [vw]; simp only [D.under] at h; exact⟨h,trivial⟩
 | .ptr _,_=>by simp [vw]
 | .yV _,h=>by simp only [vw]; simp only [D.under] at h; exact⟨h,trivial⟩
 | .pA,_=>by simp only [vw]
 | .sP,_=>by simp only [vw]
 | .pN,_=>by simp only [vw]
 | .zo _,_=>by simp only [vw]
theorem iP {σ σ':St}:∀ {cs:List D},D.oY σ'.nx cs->sV σ σ' (λk=>k) cs cs
 | [],_=>by simp only [sV]
 | d :: r,h=>by simp only [sV]; simp only [D.oY] at h; exact⟨Sq h.1,iP h.2⟩
end
theorem cz {σ σ':St}:∀ {xZ:List (List D)},(∀ e ∈ xZ,D.oY σ'.nx e)->WC σ σ' (λk=>k) xZ xZ
 | [],_=>.nil
 | e :: r,h=>.cons rfl (iP (h e (by simp))) (cz λx hx=>h x (List.mem_cons_of_mem _ hx))
def W4 : List (Nat × Ob)->List (Nat × Ob)
 | []=>[]
 | (k,o) :: r=>(k,o) :: (W4 r).filter λp=>p.1 != k
theorem iA {k k':Nat} (h:¬ k'=k):∀ l:List (Nat × Ob),St.look (l.filter λp=>p.1 != k) k'=St.look l k'
 | []=>rfl
 | (j,o) :: r=>by
  rw [List.filter_cons]
  by_cases e:j=k
  ·rw [if_neg (by simp [e]),iA h r,xY,if_neg (by omega)]
  ·rw [if_pos (by simpa using e),xY,xY,iA h r]
theorem bb (k:Nat):∀ l:List (Nat × Ob),St.look (W4 l) k=St.look l k
 | []=>rfl
 | (j,o) :: r=>by
  unfold W4;rw [xY,xY]
  by_cases e:j=k
  ·rw [if_pos e,if_pos e]
  ·rw [if_neg e,if_neg e,iA (λh=>e h.symm),bb k r]
theorem iv : ∀ {l:List (Nat × Ob)} {p:Nat × Ob},p ∈ W4 l->St.look l p.1=some p.2
 | [],p,h=>by cases h
 | (j,o) :: r,p,h=>by
  unfold W4 at h;rw [xY]
  rcases List.mem_cons.1 h with e | e
  ·rw [e,if_pos rfl]
  ·rw [List.mem_filter] at e;have zL:¬ j=p.1:=λh=>by have:=e.2; simp [h] at this
   rw [if_neg zL];exact iv e.1
theorem xU.clean {P:Program} {g:FuncId} {args:List D} {σ:St} {d:D} {nx:Nat} {xX:List (Nat × Ob)} (h:xU P g args σ d ⟨nx,W4 xX⟩):xU P g args σ d ⟨nx,xX⟩:=by
 refine⟨h.ord,λM0 w ι vals hS hl hv=>(h.run M0 w ι vals hS hl hv).mono λe w' hh=>?_⟩;obtain⟨v,ι',h1,h2,h3,h4,h5,h6,h7⟩:=hh;have hg:∀ k,St.get ⟨nx,xX⟩ k=St.get ⟨nx,W4 xX⟩ k:=λk=>(bb k xX).symm
 have hM:yO M0 ι' ⟨nx,xX⟩= yO M0 ι' ⟨nx,W4 xX⟩:=by funext b;unfold yO;simp only [hg]
 refine⟨v,ι',h1,h2,⟨h3.oS,λk o hk=>?_,λk k' o o' a b=>?_,λk o hk=>?_,?_⟩,h4,h5,λk o hk=>h6 k o (by rw [<- hg]; exact hk),by rw [hM]; exact h7⟩
 ·rw [hM]; exact h3.holds k o (by rw [<- hg]; exact hk)
 ·exact h3.inj k k' o o' (by rw [<- hg]; exact a) (by rw [<- hg]; exact b)
 ·exact h3.notM k o (by rw [<- hg]; exact hk)
 ·rw [hM]; exact h3.sR
theorem bV.gone {n0:Nat} {xX:List (Nat × Ob)} {σ1:St} {d1 d:D} (hu:il ⟨n0,xX⟩) (hk:∀ k o,St.look xX k=some o->σ1.get k=some o) (hd:vw σ1 ⟨n0,W4 xX⟩ (λk=>k) d1 d):bV n0 σ1 d1 ⟨n0,W4 xX⟩ d:=
 .inr ⟨λk=>k,Nat.le_refl _,λ_ _=>rfl,hd,λp hp=>by have h:=iv hp;obtain⟨h1,h2⟩:=hu p.1 p.2 h;exact⟨h1,p.2,hk _ _ h,rfl,cz h2⟩,λp _ q _ e=>e⟩
end
theorem mixed : prog.follows .mixedOrders=true:=by kernel_rfl
instance : vA := ⟨[], []⟩
theorem yS {g:FuncId} {fn:Func} {own:List Nat} {N:Nat} {dc:DC} {rs:List lT} {args:List D} {σ:St} {d:D} {σ':St} (hf:prog.funcs[g]?=some fn) (hc:xP prog own fn=some (N,dc,rs))
  (h:D.pJ args->si ⟨prog,N,σ.nx,own,none⟩ dc (dp ⟨prog,N,σ.nx,own,none⟩ rs d σ') (lO 0 args) σ) (hla:args.length<=N:=by simp):xU prog g args σ d σ':=xU.Of mixed hf hc hla h
theorem bP (v w:Nat) (hw:w<=60):b9 .i64 (v:Int) (w:Int)= ((v / 2 ^ w:Nat):Int):=by
 unfold b9
 have e:min (w:Int).toNat IntKind.i64.bits=w:=by have:IntKind.i64.bits=64:=rfl;rw [this,Int.toNat_natCast]; omega
 rw [e,Int.fdiv_eq_ediv_of_nonneg _ (by have:(0:Int)<2 ^ w:=Int.pow_pos (by decide); omega)];simp
theorem cV {a:Nat} (h:a<2 ^ 62):mH .and .i64 (a:Int) 1=((a % 2:Nat):Int):=by show IntKind.i64.wrap ((BitVec.ofInt 64 (a:Int)&&& BitVec.ofInt 64 1).toNat:Int)= _;rw [BitVec.ofInt_natCast,BitVec.toNat_and,BitVec.toNat_ofNat,Nat.mod_eq_of_lt (by omega)];have:(BitVec.ofInt 64 1).toNat=1:=rfl;rw [this,Nat.and_one_is_mod];exact wrap_i64 (by omega)
theorem wg (v w:Nat):(((v / 2 ^ w % 2:Nat):Int)== 1)= v.testBit w:=by rw [Nat.testBit_eq_decide_div_mod_eq,Bool.eq_iff_iff,beq_iff_eq,decide_eq_true_iff]; omega
theorem iH {v:Nat} (h:v<2 ^ 62) (w:Nat):v / 2 ^ w<2 ^ 62:=Nat.lt_of_le_of_lt (Nat.div_le_self _ _) h
namespace Rs
theorem lG : ∀ (n:Nat) (l:List Nat),l.Nodup->(∀ x ∈ l,x<n)->l.length<=n
 | 0,[],_,_=>Nat.le_refl _
 | 0,x :: l,_,h=>by have:=h x (by simp); omega
 | n + 1,l,hn,h=>by
  have h1:=lG n (l.filter λx=>x != n) (hn.filter _) λx hx=>by
   rw [List.mem_filter] at hx;have:=h x hx.1;have:x≠n:=by simpa using hx.2
   omega
  have h2:l.length<=(l.filter λx=>x != n).length+1:=by
   clear h1
   induction l with
   | nil=>simp
   | cons y l ih=>
    rw [List.nodup_cons] at hn
    by_cases e:y=n
    ·subst e
     have:l.filter (λx=>x != y)= l:=List.filter_eq_self.2 λx hx=>by have:x≠y:=λe=>hn.1 (e ▸ hx);simpa using this
     rw [List.filter_cons,if_neg (by simp),this]; simp
    ·rw [List.filter_cons,if_pos (by simpa using e)];have:=ih hn.2 λx hx=>h x (by simp [hx]);simp; omega
  omega
def mo (u:List (Int × Int)):List (Int × D):=u.map λp=>(p.1,.int .i64 p.2)
def zZ (x:Int):List (Int × Int)->Option Int
 | []=>none
 | (k,y) :: r=>if x=k then some y else zZ x r
theorem sJ (x:Int):∀ (u:List (Int × Int)) (i:Nat),(zZ x u=none/\qG x (mo u) i=none)\/∃ y j,zZ x u=some y/\qG x (mo u) i=some (j,.int .i64 y)
 | [],i=>.inl ⟨rfl,rfl⟩
 | (k,y) :: r,i=>by
  show (zZ x ((k,y) :: r)= none/\qG x ((k,.int .i64 y) :: mo r) i=none)\/∃ y' j,zZ x ((k,y) :: r)= some y'/\qG x ((k,.int .i64 y) :: mo r) i=some (j,.int .i64 y');unfold zZ qG
  by_cases h:x=k
  ·rw [if_pos h,if_pos h]; exact .inr ⟨y,i,rfl,rfl⟩
  ·rw [if_neg h,if_neg h]; exact sJ x r (i+1)
theorem eN {nx n key sz:Nat} {xX:List (Nat × Ob)} {xZ:List (List D)} (hs:0<sz) (hp:∀ e ∈ xZ,D.xT e=true) (h:St.look xX key=wW sz xZ) {ρ:Nat->Nat}:vw ⟨nx,xX⟩ ⟨n,[]⟩ ρ (xJ key sz xZ) (.sl sz xZ):=by
 cases xZ with
 | nil=>simp [xJ,vw]
 | cons e t=> simp only [xJ,vw];exact⟨trivial,hs,by simp,⟨sz,e :: t⟩,h,rfl,Nat.le_refl _,by simp,hp⟩
end Rs
end Go.Pd

/- Part F4. -/
namespace Go.Pd
open Go Go.Proofs
open BitVec renaming isValue -> ZA
open Rs
namespace Fm
structure zn where
 x:Bool
 y:Bool
 fa:Bool
 ag:Bool
 gr:Bool
 ev:Bool
 fr:Int
def zn.row (u:zn):List D:=[.bool u.x,.bool u.y,.bool u.fa,.bool u.ag,.bool u.gr,.bool u.ev,.int .i64 u.fr]
def mZ : zn:=⟨false,false,false,false,false,false,0⟩
def xW (op:Int):zn × Bool:=
 if op<1\/21<op then(mZ,false) else if op<=2 then(mZ,true) else if op=3 then(⟨false,false,true,false,false,false,0⟩,true) else if op=4 then(⟨true,false,false,false,false,false,0⟩,true)
 else if op<=8 then(⟨true,true,false,false,false,false,0⟩,true) else if op<=10 then(⟨true,false,false,true,false,false,1⟩,true) else if op=11 then(⟨true,false,false,false,true,false,2⟩,true)
 else if op=12 then(⟨true,false,false,false,true,false,4⟩,true) else if op=13 then(⟨true,true,false,false,true,false,8⟩,true) else if op=14 then(⟨true,true,false,true,false,false,16⟩,true)
 else if op=15 then(⟨true,false,false,true,false,false,32⟩,true) else if op=16 then(⟨true,true,false,false,false,false,64⟩,true) else if op=17 then(⟨true,false,false,false,false,true,128⟩,true)
 else if op=18\/op=20 then(⟨true,false,false,false,false,false,256⟩,true) else(⟨true,true,false,false,false,false,256⟩,true)
end Fm
open Fm
theorem bS (op:Int):zX prog 52 [.int .i64 op] (.yD [.agg (xW op).1.row,.bool (xW op).2]):=by
 have hc:op=1\/op=2\/op=3\/op=4\/op=5\/op=6\/op=7\/op=8\/op=9\/op=10\/op=11\/op=12\/op=13\/op=14\/op=15\/op=16\/op=17\/op=18\/op=19\/op=20\/op=21\/(op<1\/21<op):=by omega
 rcases hc with rfl | rfl | rfl | rfl | rfl | rfl | rfl | rfl | rfl | rfl | rfl | rfl | rfl | rfl | rfl | rfl | rfl | rfl | rfl | rfl | rfl | hc
 rotate_right
 ·have e:∀ i:Int,1<=i->i<=21->(op==i)= false:=λi h1 h2=>by simp; omega
  refine yS func52 MW λhf=>?_;simp only [simprocAttr,-ZA,↓zU,↓zD,zV,zT,zW,e 1 (by omega) (by omega),e 2 (by omega) (by omega),e 3 (by omega) (by omega),e 4 (by omega) (by omega),e 5 (by omega) (by omega),e 6 (by omega) (by omega),e 7 (by omega) (by omega),e 8 (by omega) (by omega),e 9 (by omega) (by omega),e 10 (by omega) (by omega),e 11 (by omega) (by omega),e 12 (by omega) (by omega),e 13 (by omega) (by omega),e 14 (by omega) (by omega),e 15 (by omega) (by omega),e 16 (by omega) (by omega),e 17 (by omega) (by omega),e 18 (by omega) (by omega),e 19 (by omega) (by omega),e 20 (by omega) (by omega),e 21 (by omega) (by omega)];rw [show xW op=(mZ,false) from if_pos hc];exact .drop (by simp) (by simp [vw,sV,zn.row,mZ])
 all_goals
  refine yS func52 MW λhf=>?_;refine xB ?_;exact .drop (by simp) (by simp [vw,sV,xW,zn.row,mZ])
open Rs Fm
namespace Fm
structure Nd where
 op:Int
 i:Int
 e:Int
 g:Int
 x:Int
 y:Int
 deriving DecidableEq
def Nd.row (p:Nd):List D:=[.int .i64 p.op,.int .i64 p.i,.int .i64 p.e,.int .i64 p.g,.int .i64 p.x,.int .i64 p.y]
def zM (u:Bool) (f at_:Int):Bool:=if u=true then decide (0<=f)&& decide (f<at_) else decide (f=0)
def yW (u:Bool) (v lo hi:Int):Bool:=u&&(decide (v<lo) || decide (hi<v))
def zK (p:Nd) (k:Int):Int:=
 if (xW p.op).2=false then 10 else
 if (zM (xW p.op).1.x p.x k&&zM (xW p.op).1.y p.y k)= false then 3 else
 if ((!((xW p.op).1.fa || (xW p.op).1.ag || (xW p.op).1.ev)&& decide (p.i≠0)) || (!(xW p.op).1.ev&&decide (p.e≠0)) || (!(xW p.op).1.gr&&decide (p.g≠0)))= true then 3 else
 if (yW (xW p.op).1.fa p.i 0 7 || yW (xW p.op).1.ag p.i 0 3 || yW (xW p.op).1.ev p.i 0 7 || yW (xW p.op).1.ev p.e 0 7 || yW (xW p.op).1.gr p.g 1 15)= true then 2 else 0
theorem um (op:Int):((xW op).1.fa=false/\(xW op).1.ag=false/\(xW op).1.gr=false/\(xW op).1.ev=false)\/((xW op).1.fa=true/\(xW op).1.ag=false/\(xW op).1.gr=false/\(xW op).1.ev=false) \/
  ((xW op).1.fa=false/\(xW op).1.ag=true/\(xW op).1.gr=false/\(xW op).1.ev=false)\/((xW op).1.fa=false/\(xW op).1.ag=false/\(xW op).1.gr=true/\(xW op).1.ev=false)\/((xW op).1.fa=false/\(xW op).1.ag=false/\(xW op).1.gr=false/\(xW op).1.ev=true):=by
 have hc:op=1\/op=2\/op=3\/op=4\/op=5\/op=6\/op=7\/op=8\/op=9\/op=10\/op=11\/op=12\/op=13\/op=14\/op=15\/op=16\/op=17\/op=18\/op=19\/op=20\/op=21\/(op<1\/21<op):=by omega
 rcases hc with rfl | rfl | rfl | rfl | rfl | rfl | rfl | rfl | rfl | rfl | rfl | rfl | rfl | rfl | rfl | rfl | rfl | rfl | rfl | rfl | rfl | hc
 rotate_right
 ·rw [show xW op=(mZ,false) from if_pos hc]; exact .inl ⟨rfl,rfl,rfl,rfl⟩
 all_goals simp [xW,mZ]
end Fm
theorem pd (u:Bool) (f k:Int):zX prog 64 [.bool u,.int .i64 f,.int .i64 k] (.bool (zM u f k)):=by
 refine yS func64 Lr λhf=>?_
 cases u
 ·refine xB ?_
  by_cases h:f=0
  ·have e:(f==0)= true:=by simpa using h
   exact .drop (by simp) (by simp [vw,zM,e,h])
  ·have e:(f==0)= false:=by simpa using h
   exact .drop (by simp) (by simp [vw,zM,e,h])
 ·by_cases h1:0<=f
  ·by_cases h2:f<k
   ·refine sC h1 h2 ?_;exact .drop (by simp) (by simp [vw,zM,h1,h2])
   ·refine sC h1 h2 ?_;exact .drop (by simp) (by simp [vw,zM,h1,h2])
  ·refine yK h1 ?_;exact .drop (by simp) (by simp [vw,zM,h1])
theorem yF (u:Bool) (v lo hi:Int):zX prog 65 [.bool u,.int .i64 v,.int .i64 lo,.int .i64 hi] (.bool (yW u v lo hi)):=by
 refine yS func65 Ls λhf=>?_
 cases u
 ·refine xB ?_;exact .drop (by simp) (by simp [vw,yW])
 ·by_cases h1:v<lo
  ·refine yK h1 ?_;exact .drop (by simp) (by simp [vw,yW,h1])
  ·by_cases h2:hi<v
   ·refine sC h1 h2 ?_;exact .drop (by simp) (by simp [vw,yW,h1,h2])
   ·refine sC h1 h2 ?_;exact .drop (by simp) (by simp [vw,yW,h1,h2])
theorem xg (p:Nd) (k:Int):zX prog 37 [.agg p.row,.int .i64 k] (.int .i64 (zK p k)):=by
 have hk:=um p.op;have hu:=bS p.op
 have en:zK p k=if (xW p.op).2=false then 10 else
  if (zM (xW p.op).1.x p.x k&&zM (xW p.op).1.y p.y k)= false then 3 else
  if ((!((xW p.op).1.fa || (xW p.op).1.ag || (xW p.op).1.ev)&& decide (p.i≠0)) || (!(xW p.op).1.ev&&decide (p.e≠0)) || (!(xW p.op).1.gr&&decide (p.g≠0)))= true then 3 else
  if (yW (xW p.op).1.fa p.i 0 7 || yW (xW p.op).1.ag p.i 0 3 || yW (xW p.op).1.ev p.i 0 7 || yW (xW p.op).1.ev p.e 0 7 || yW (xW p.op).1.gr p.g 1 15)= true then 2 else 0:=rfl
 rw [en];generalize xW p.op=q at hk hu;obtain⟨⟨ux,uy,fa,ag,gr,ev,fr⟩,ok⟩:=q;simp only [zn.row] at hk hu ⊢;refine yS func37 LR λhf=>?_;simp only [simprocAttr,-ZA,↓zU,↓zD,zV,zT,zW,Nd.row]
 (repeat refine sd ?_)
 refine .go (cq hu) ?_
 cases ok
 ·refine xB ?_;exact .dv
 refine xB ?_;refine .go (cq (pd ux p.x k)) ?_
 cases hx:zM ux p.x k
 ·refine xB ?_;exact .dv
 refine xB ?_;refine .go (cq (pd uy p.y k)) ?_
 cases hy:zM uy p.y k
 ·refine xB ?_;exact .dv
 have ob:∀ v lo hi,yW false v lo hi=false:=λ_ _ _=>rfl
 rcases hk with ⟨rfl,rfl,rfl,rfl⟩ | ⟨rfl,rfl,rfl,rfl⟩ | ⟨rfl,rfl,rfl,rfl⟩ | ⟨rfl,rfl,rfl,rfl⟩ | ⟨rfl,rfl,rfl,rfl⟩
 ·skip;by_cases hi:p.i=0
  case neg=> have ei:(p.i != 0)= true:=bne_iff_ne.2 hi;refine yK ei ?_;exact .drop (by simp) (by simp [vw,hi])
  have ei:(p.i != 0)= false:=by simpa using hi
  by_cases he:p.e=0
  case neg=> have ee:(p.e != 0)= true:=bne_iff_ne.2 he;refine sC ei ee ?_;exact .drop (by simp) (by simp [vw,he,hi])
  have ee:(p.e != 0)= false:=by simpa using he
  by_cases hg:p.g=0
  case neg=> have eg:(p.g != 0)= true:=bne_iff_ne.2 hg;refine zl ei ee eg ?_;exact .drop (by simp) (by simp [vw,hg,hi,he])
  have eg:(p.g != 0)= false:=by simpa using hg
  refine zl ei ee eg ?_;refine .go (cq (yF false p.i 0 7)) ?_;refine yK ob ?_;refine .go (cq (yF false p.i 0 3)) ?_;refine yK ob ?_;refine .go (cq (yF false p.i 0 7)) ?_;refine yK ob ?_;refine .go (cq (yF false p.e 0 7)) ?_;refine yK ob ?_;refine .go (cq (yF false p.g 1 15)) ?_;refine yK ob ?_;exact .drop (by simp) (by simp [vw,ob,hi,he,hg])
 ·skip;by_cases he:p.e=0
  case neg=> have ee:(p.e != 0)= true:=bne_iff_ne.2 he;refine yK ee ?_;exact .drop (by simp) (by simp [vw,he])
  have ee:(p.e != 0)= false:=by simpa using he
  by_cases hg:p.g=0
  case neg=> have eg:(p.g != 0)= true:=bne_iff_ne.2 hg;refine sC ee eg ?_;exact .drop (by simp) (by simp [vw,hg,he])
  have eg:(p.g != 0)= false:=by simpa using hg
  refine sC ee eg ?_;refine .go (cq (yF true p.i 0 7)) ?_;cases oi:yW true p.i 0 7
  case true=> refine xB ?_;exact .drop (by simp) (by simp [vw,ob,he,hg,oi])
  refine xB ?_;refine .go (cq (yF false p.i 0 3)) ?_;refine yK ob ?_;refine .go (cq (yF false p.i 0 7)) ?_;refine yK ob ?_;refine .go (cq (yF false p.e 0 7)) ?_;refine yK ob ?_;refine .go (cq (yF false p.g 1 15)) ?_;refine yK ob ?_;exact .drop (by simp) (by simp [vw,ob,he,hg,oi])
 ·skip;by_cases he:p.e=0
  case neg=> have ee:(p.e != 0)= true:=bne_iff_ne.2 he;refine yK ee ?_;exact .drop (by simp) (by simp [vw,he])
  have ee:(p.e != 0)= false:=by simpa using he
  by_cases hg:p.g=0
  case neg=> have eg:(p.g != 0)= true:=bne_iff_ne.2 hg;refine sC ee eg ?_;exact .drop (by simp) (by simp [vw,hg,he])
  have eg:(p.g != 0)= false:=by simpa using hg
  refine sC ee eg ?_;refine .go (cq (yF false p.i 0 7)) ?_;refine yK ob ?_;refine .go (cq (yF true p.i 0 3)) ?_;cases oi:yW true p.i 0 3
  case true=> refine xB ?_;exact .drop (by simp) (by simp [vw,ob,he,hg,oi])
  refine xB ?_;refine .go (cq (yF false p.i 0 7)) ?_;refine yK ob ?_;refine .go (cq (yF false p.e 0 7)) ?_;refine yK ob ?_;refine .go (cq (yF false p.g 1 15)) ?_;refine yK ob ?_;exact .drop (by simp) (by simp [vw,ob,he,hg,oi])
 ·skip;by_cases hi:p.i=0
  case neg=> have ei:(p.i != 0)= true:=bne_iff_ne.2 hi;refine yK ei ?_;exact .drop (by simp) (by simp [vw,hi])
  have ei:(p.i != 0)= false:=by simpa using hi
  by_cases he:p.e=0
  case neg=> have ee:(p.e != 0)= true:=bne_iff_ne.2 he;refine sC ei ee ?_;exact .drop (by simp) (by simp [vw,he,hi])
  have ee:(p.e != 0)= false:=by simpa using he
  refine sC ei ee ?_;refine .go (cq (yF false p.i 0 7)) ?_;refine yK ob ?_;refine .go (cq (yF false p.i 0 3)) ?_;refine yK ob ?_;refine .go (cq (yF false p.i 0 7)) ?_;refine yK ob ?_;refine .go (cq (yF false p.e 0 7)) ?_;refine yK ob ?_;refine .go (cq (yF true p.g 1 15)) ?_;cases og:yW true p.g 1 15
  case true=> refine xB ?_;exact .drop (by simp) (by simp [vw,ob,hi,he,og])
  refine xB ?_;exact .drop (by simp) (by simp [vw,ob,hi,he,og])
 ·skip;by_cases hg:p.g=0
  case neg=> have eg:(p.g != 0)= true:=bne_iff_ne.2 hg;refine yK eg ?_;exact .drop (by simp) (by simp [vw,hg])
  have eg:(p.g != 0)= false:=by simpa using hg
  refine yK eg ?_;refine .go (cq (yF false p.i 0 7)) ?_;refine yK ob ?_;refine .go (cq (yF false p.i 0 3)) ?_;refine yK ob ?_;refine .go (cq (yF true p.i 0 7)) ?_;cases oi:yW true p.i 0 7
  case true=> refine xB ?_;exact .drop (by simp) (by simp [vw,ob,hg,oi])
  refine xB ?_;refine .go (cq (yF true p.e 0 7)) ?_;cases oe:yW true p.e 0 7
  case true=> refine xB ?_;exact .drop (by simp) (by simp [vw,ob,hg,oi,oe])
  refine xB ?_;refine .go (cq (yF false p.g 1 15)) ?_;refine yK ob ?_;exact .drop (by simp) (by simp [vw,ob,hg,oi,oe])
open Rs Fm
namespace Fm
def yG : Nd:=⟨0,0,0,0,0,0⟩
def vW (l:List Nd):List (List D):=l.map Nd.row
theorem xF (l:List Nd):(vW l).length=l.length:=by simp [vW]
theorem rX (l:List Nd) {i:Nat} (h:i<l.length):(vW l).getD i []=(l.getD i yG).row:=by simp [vW,List.getD,h]
theorem vh (l:List Nd):∀ e ∈ vW l,D.xT e=true:=by intro e he;simp only [vW,List.mem_map] at he;obtain⟨p,_,rfl⟩:=he;simp [Nd.row,D.xT,D.xO]
def zg : List Nd->Int->Int
 | [],_=>0
 | p :: r,i=>if zK p i≠0 then zK p i else zg r (i+1)
def yQ (f:List Nd):Int:=if f = [] then 3 else if 200<f.length then 8 else zg f 0
theorem Wd {f:List Nd}:∀ {i:Int},zg f i=0->∀ k,k<f.length->zK (f.getD k yG) (i+k)= 0:=by
 induction f with
 | nil=>intro i _ k hk; simp at hk
 | cons p r ih=>
  intro i h k hk;unfold zg at h
  by_cases hp:zK p i≠0
  ·rw [if_pos hp] at h; exact absurd h hp
  ·rw [if_neg hp] at h
   cases k with
   | zero=>simpa using hp
   | succ k=> have:=ih h k (by simpa using hk);rw [List.getD_cons_succ,show i+((k+1:Nat):Int)= i+1+k by omega];exact this
end Fm
theorem iG (f:List Nd):zX prog 16 [.sl 6 (vW f)] (.int .i64 (yQ f)):=by
 refine yS func16 L7 λhf=>?_;simp only [D.pJ,D.fact,xF] at hf;have hlen:=hf.1.1
 by_cases h1:f.length=0
 ·have e1:((f.length:Int)== 0)= true:=by simpa using h1
  refine sC xF e1 ?_;rw [show yQ f=3 from if_pos (List.length_eq_zero_iff.1 h1)];exact .same
 have e1:((f.length:Int)== 0)= false:=by simpa using h1
 have zL:f ≠ []:=λe=>h1 (by rw [e]; rfl)
 by_cases h2:200<f.length
 ·have h2':(200:Int)<(f.length:Int):=by omega
  refine zl xF e1 h2' ?_;rw [show yQ f=8 by rw [yQ,if_neg zL,if_pos h2]];exact .same
 have h2':¬ (200:Int)<(f.length:Int):=by omega
 rw [show yQ f=zg f 0 by rw [yQ,if_neg zL,if_neg h2]];refine zl xF e1 h2' ?_
 refine yM (λk:Nat=>[(14,.int .i64 k),(13,.int .i64 f.length),(12,.sl 6 (vW f))]) (λ_=>⟨0,[]⟩) (λk=>k<=f.length/\zg f 0=zg (f.drop k) k) (λk=>f.length-k) 0 ⟨Nat.zero_le _,rfl⟩ ?_ ?_
 ·exact lQ
 intro k ⟨hk,hi⟩;refine wH mixed ?_;by_cases h:k<f.length
 case neg=>
  have hd:¬ ((k:Int)<(f.length:Int)):=by omega
  rw [List.drop_eq_nil_of_le (by omega),zg] at hi;refine yK hd ?_;rw [hi];exact .same
 have hd:((k:Int)<(f.length:Int)):=by omega
 rw [drop_cons (d:=yG) h,zg] at hi;have hg:=rX f h;generalize f.getD k yG=p at hg hi;simp only [simprocAttr,-ZA,↓zU,↓zD,zV,zT,zW,hd,xF,hg,Nd.row]
 (repeat refine sd ?_)
 refine .go (xU.yU (xg p k) (by simp [D.xT,D.xO,Nd.row])) ?_
 by_cases he:zK p k=0
 ·have e:(zK p k != 0)= false:=by simpa using he
  rw [if_neg (by simpa using he)] at hi;refine yK e ?_;refine⟨k+1,⟨by omega,hi⟩,?_,by omega⟩
  (refine yJ.view (λk=>k) (by simp) (by simp) ?_ (by simp [stays]) (by simp [wQ]); simp [aK,vw,sV,Fr.get])
  exact wrap_i64 (by omega)
 ·have e:(zK p k != 0)= true:=bne_iff_ne.2 he;rw [if_pos he] at hi;refine yK e ?_;rw [hi];exact .dv
open Rs Fm
namespace Fm
def mV (op:Int) (x y:Bool):Bool:=if op=1 then true else if op=4 then !x else if op=5 then x&&y else if op=6 then x || y else if op=7 then !x || y else if op=8 then x==y else false
end Fm
theorem lE (op:Int):zX prog 44 [.int .i64 op] (.bool (decide (op<=8))):=by refine yS func44 La λhf=>?_;refine xB ?_;exact .same
theorem WY (op:Int) (x y:Bool):zX prog 45 [.int .i64 op,.bool x,.bool y] (.bool (mV op x y)):=by
 have hc:op=1\/op=4\/op=5\/op=6\/op=7\/op=8\/(op≠1/\op≠4/\op≠5/\op≠6/\op≠7/\op≠8):=by omega
 rcases hc with rfl | rfl | rfl | rfl | rfl | rfl | ⟨h1,h2,h3,h4,h5,h6⟩
 rotate_right
 ·have e1:(op==1)= false:=by simpa using h1
  have e2:(op==4)= false:=by simpa using h2
  have e3:(op==5)= false:=by simpa using h3
  have e4:(op==6)= false:=by simpa using h4
  have e5:(op==7)= false:=by simpa using h5
  have e6:(op==8)= false:=by simpa using h6
  refine yS func45 MV λhf=>?_;refine MJ e1 e2 e3 e4 e5 e6 ?_;exact .drop (by simp) (by simp [vw,mV,h1,h2,h3,h4,h5,h6])
 all_goals
  refine yS func45 MV λhf=>?_;cases x <;> cases y
  all_goals
   refine xB ?_;exact .drop (by simp) (by simp [vw,mV])
theorem Ry (p:Nd) (u:zn):zX prog 39 [.agg p.row,.agg u.row] (.int .i64 u.fr):=by
 refine yS func39 LU λhf=>?_;simp only [simprocAttr,-ZA,↓zU,↓zD,zV,zT,zW,Nd.row,zn.row]
 (repeat refine sd ?_)
 exact .dv
theorem Rz (p:Nd) (u:zn) (h:u.fa=true->0<=p.i/\p.i<=7):zX prog 67 [.agg p.row,.agg u.row] (.int .i64 (if u.fa=true then((2 ^ p.i.toNat:Nat):Int) else 0)):=by
 refine yS func67 Lu λhf=>?_
 cases hu:u.fa
 ·simp only [simprocAttr,-ZA,↓zU,↓zD,zV,zT,zW,Nd.row,zn.row,hu]
  (repeat refine sd ?_)
  exact .dv
 ·obtain⟨i,hi⟩:=Int.eq_ofNat_of_zero_le (h hu).1;have hi7:=(h hu).2;simp only [simprocAttr,-ZA,↓zU,↓zD,zV,zT,zW,Nd.row,zn.row,hu,hi,W0 (show i<=61 by omega)]
  (repeat refine sd ?_)
  exact .dv
theorem TS (p:Nd) (u:zn) (h:u.ag=true->0<=p.i/\p.i<=7):zX prog 66 [.agg p.row,.agg u.row] (.int .i64 (if u.ag=true then((2 ^ p.i.toNat:Nat):Int) else p.g)):=by
 refine yS func66 Lt λhf=>?_
 cases hu:u.ag
 ·simp only [simprocAttr,-ZA,↓zU,↓zD,zV,zT,zW,Nd.row,zn.row,hu]
  (repeat refine sd ?_)
  exact .dv
 ·obtain⟨i,hi⟩:=Int.eq_ofNat_of_zero_le (h hu).1;have hi7:=(h hu).2;simp only [simprocAttr,-ZA,↓zU,↓zD,zV,zT,zW,Nd.row,zn.row,hu,hi,W0 (show i<=61 by omega)]
  (repeat refine sd ?_)
  exact .dv
end Go.Pd
