/- Part XE. -/
import Derived.Test.YtccobgpcnfjbhaaZtXS
set_option linter.unusedSectionVars false
set_option linter.unusedVariables false
set_option linter.unusedSimpArgs false
set_option linter.defProp false
set_option maxRecDepth 20000
set_option maxHeartbeats 1000000
open Option renaming map_eq_some_iff->γ
open List renaming all_eq_true->δ,length_take->ε
open Bool renaming and_eq_true->ζ
open Nat renaming le_refl->η
namespace Go.Pd
open Go
variable [vU]
structure Fn where
 n:Nat
 code:DC
 res:List oV
 own:List Nat
inductive Ex where
 | normal
 | exit (id:Nat)
 | ret
def Ex.to : Ex->Exit
 | .normal=>.normal
 | .exit i=>.exit i
 | .ret=>.ret
def TK (op:BinOp) (k:IntKind) (a:Int) (k':IntKind) (b:Int):Option D:=
 match op with
 | .shl=>if 0<=b then some (.int k (ud k a b)) else none
 | .shr=>if 0<=b then some (.int k (ue k a b)) else none
 | .quo=>if k=k'/\b≠0 then some (.int k (k.wrap (a.tdiv b))) else none
 | .rem=>if k=k'/\b≠0 then some (.int k (a.tmod b)) else none
 | .add=>if k=k' then some (.int k (k.wrap (a+b))) else none
 | .sub=>if k=k' then some (.int k (k.wrap (a-b))) else none
 | .mul=>if k=k' then some (.int k (k.wrap (a*b))) else none
 | .and=>if k=k' then some (.int k (rL .and k a b)) else none
 | .or=>if k=k' then some (.int k (rL .or k a b)) else none
 | .xor=>if k=k' then some (.int k (rL .xor k a b)) else none
 | .andNot=>if k=k' then some (.int k (rL .andNot k a b)) else none
 | .eql=>if k=k' then some (.bool (a==b)) else none
 | .neq=>if k=k' then some (.bool (a != b)) else none
 | .lss=>if k=k' then some (.bool (decide (a<b))) else none
 | .leq=>if k=k' then some (.bool (decide (a<=b))) else none
 | .gtr=>if k=k' then some (.bool (decide (a > b))) else none
 | .geq=>if k=k' then some (.bool (decide (a >= b))) else none
theorem UH {op:BinOp} {k:IntKind} {a:Int} {k':IntKind} {b:Int} {d:D} (h:TK op k a k' b=some d) {K:D->Prop} (hK:K d):sI op k a k' b K:=by cases op <;> simp only [TK] at h <;> split at h <;> simp at h <;> subst h <;> simp_all [sI]
def LL (φ:D->Option D) (sz:Nat) (xZ:List (List D)):Option (List (List D)):=zK (λrow=>if row.length=sz then zK φ row else none) xZ
def fz (σ:St):Nat->D->Option D
 | 0,_=>none
 | n+1,d=>if d.xH=true then some d else match d with
  | .agg cs=>(zK (fz σ n) cs).map .agg
  | .fn f cs=>(zK (fz σ n) cs).map (.fn f)
  | .xI cs=>(zK (fz σ n) cs).map .xI
  | .xP key sz len=>match σ.get key with
   | some ob=>if 0<sz/\ob.sz=sz/\len<=ob.xZ.length then(LL (fz σ n) sz (ob.xZ.take len)).map (.sl sz) else if sz=1/\0<ob.xZ.length/\0<ob.sz/\len<=ob.sz/\(ob.xZ.getD 0 []).length=ob.sz then(zK (fz σ n) ((ob.xZ.getD 0 []).take len)).map (λcs=>.sl 1 (cs.map λc=>[c])) else none
   | none=>none
  | .ref key sz i off=>match σ.get key with
   | some ob=>if ob.sz=sz/\i<ob.xZ.length/\off<sz/\(ob.xZ.getD i []).length=sz then(zK (fz σ n) ((ob.xZ.getD i []).drop off)).map .ptr else none
   | none=>none
  | _=>none
theorem Seen.flat {σ:St} {K:Nat->Prop} {key n:Nat} {ob:Ob} {cs:List D} (hob:σ.get key=some ob) (hk:¬ K key) (h0:0<ob.xZ.length) (hs:0<ob.sz) (hn:n<=ob.sz) (hl:cs.length=n)
  (h:∀ j,j<n->Seen σ K ((ob.xZ.getD 0 []).getD j .top) (cs.getD j .top)):Seen σ K (.xP key 1 n) (.sl 1 (cs.map λc=>[c])):=λM0 w ι v hS hR=>by
 subst hl;obtain⟨cap,cur,e,rfl,k1,k2,k3,k4,k5⟩:=hR.uD;obtain⟨_,cur',e',c1,c2,c3,c4⟩:=xB.rows (hS.holds key ob hob).2 k4;rw [k4] at c1;simp at c1;obtain⟨rfl,rfl⟩:=c1;have el:(cs.map λc=>[c]).length=cs.length:=List.length_map ..;have hsz:ob.sz<=ob.xZ.length*ob.sz:=Nat.le_mul_of_pos_left _ h0
 have:=RP.sl (M:=Mk M0 ι σ K) (w:=w) (b:=ι key) (off:=0) (cap:=cap) (sz:=1) (xZ:=cs.map λc=>[c]) (λi _=>cur.getD i undef) Nat.one_pos (Mk.not hS hob hk) (by rw [el]; exact k2) k3 (λe he=>by
  obtain⟨c,_,rfl⟩:=List.mem_map.1 he; rfl) (λi hi j hj=>by
  rw [el] at hi;obtain rfl:j=0:=by omega
  have:i<cur.size:=by omega
  rw [Nat.zero_add,Nat.mul_one,Nat.add_zero,cell_of_row _ _ _ _ _ _ k4];simp [this]) (λi hi j hj=>by
  rw [el] at hi;obtain rfl:j=0:=by omega
  have h1:=c4 0 h0 i (by omega);rw [Nat.zero_mul,Nat.zero_add] at h1;have h2:=h i hi M0 w ι _ hS h1.2;have e3:((cs.map λc=>[c]).getD i []).getD 0 .top=cs.getD i .top:=by simp [List.getD,hi]
  rw [e3]; exact h2)
 rw [el] at this;exact this
theorem uG {σ:St} {φ:D->Option D} (hφ:∀ d d',φ d=some d'->Seen σ (λ_=>False) d d'):∀ {cs ds:List D},zK φ cs=some ds->pR σ (λ_=>False) cs ds
 | [],ds,h=>by simp [zK] at h; subst h; trivial
 | c :: cs,ds,h=>by
  unfold zK at h
  split at h
  ·rename_i b bs h1 h2;simp at h; subst h;exact⟨hφ _ _ h1,uG hφ h2⟩
  ·cases h
theorem jD {σ:St}:∀ (n:Nat) (d d':D),fz σ n d=some d'->Seen σ (λ_=>False) d d'
 | 0,d,d',h=>by simp [fz] at h
 | n + 1,d,d',h=>by
  have ih:=jD (σ:=σ) n;unfold fz at h
  split at h
  ·rename_i hp;simp at h; subst h;exact Seen.pure hp
  split at h
  ·rw [γ] at h;obtain⟨cs,h1,rfl⟩:=h;exact Seen.agg (uG ih h1)
  ·rw [γ] at h;obtain⟨cs,h1,rfl⟩:=h;exact Seen.fn (uG ih h1)
  ·rw [γ] at h;obtain⟨cs,h1,rfl⟩:=h;exact Seen.xI (uG ih h1)
  ·split at h
   ·rename_i key sz len _ _ ob hob
    split at h
    ·rename_i hc;rw [γ] at h;obtain⟨xZ,h1,rfl⟩:=h;obtain⟨l1,l2⟩:=yJ h1;have hl:xZ.length=len:=by rw [l1,ε]; omega
     have row:∀ i,i<len->∃ r,xZ.getD i []=r/\(ob.xZ.getD i []).length=sz/\zK (fz σ n) (ob.xZ.getD i [])= some r:=λi hi=>by
      have hi':i<ob.xZ.length:=by omega
      obtain⟨b,h2,h3⟩:=l2 i (ob.xZ.getD i []) (by simp [List.getD,hi',hi])
      split at h3
      ·rename_i h4;exact⟨b,by simp [List.getD,h2],h4,h3⟩
      ·cases h3
     refine Seen.xP hob id hc.1 hc.2.1 hc.2.2 hl (λe he=>?_) λi hi j hj=>?_
     ·obtain⟨i,hi,rfl⟩:=List.getElem_of_mem he;obtain⟨r,r1,r2,r3⟩:=row i (by omega);have:xZ[i]=r:=by rw [<- r1]; simp [List.getD,hi]
      rw [this,(yJ r3).1,r2]
     ·obtain⟨r,r1,r2,r3⟩:=row i hi;rw [r1];exact(uG ih r3).at_ j (by rw [(yJ r3).1]; omega)
    ·split at h
     ·rename_i hc;obtain⟨rfl,hc⟩:=hc;rw [γ] at h;obtain⟨cs,h1,rfl⟩:=h;have hl:=(yJ h1).1;rw [ε] at hl;have hcl:cs.length=len:=by rw [hl]; omega
      refine Seen.flat hob id hc.1 hc.2.1 hc.2.2.1 hcl λj hj=>?_;have:=(uG ih h1).at_ j (by omega);have e:((ob.xZ.getD 0 []).take len).getD j .top=(ob.xZ.getD 0 []).getD j .top:=by simp only [List.getD,List.getElem?_take,if_pos hj]
      rwa [e] at this
     ·cases h
   ·cases h
  ·split at h
   ·rename_i key sz i off _ _ ob hob
    split at h
    ·rename_i hc;rw [γ] at h;obtain⟨cs,h1,rfl⟩:=h;have hl:=(yJ h1).1;rw [List.length_drop] at hl;refine Seen.ref hob id hc.1 hc.2.1 (by omega) (by omega) λj hj=>?_;have:=(uG ih h1).at_ j hj;have e:((ob.xZ.getD i []).drop off).getD j .top=(ob.xZ.getD i []).getD (off+j) .top:=by simp [List.getD,List.getElem?_drop]
     rwa [e] at this
    ·cases h
   ·cases h
  ·cases h
theorem xW.gc {P:Program} {g:FuncId} {args:List D} {σ σ1:St} {d:D} {objs':List (Nat × Ob)} (h:xW P g args σ d σ1) (hs:∀ k o,St.look objs' k=some o->σ1.get k=some o):xW P g args σ d ⟨σ1.nx,objs'⟩:=by refine⟨h.ord,λM0 w ι vals hS hl hv=>(h.run M0 w ι vals hS hl hv).mono λe w' hh=>?_⟩;obtain⟨v,ι',rfl,k1,k2,k3,k4,k5,k6⟩:=hh;exact⟨v,ι',rfl,k1,k2.sub hs,k3,k4,λk o hk=>k5 k o (hs k o hk),k6.yY (λ_ _ _=>rfl) (λb _ hb=>hb.imp id λ⟨k,o,h1,h2⟩=>⟨k,o,hs k o h1,h2⟩) (λ_ cur _ h=>⟨cur,h,rfl⟩) (λ_ _=>rfl) (η _)⟩
theorem xW.jd {P:Program} {g:FuncId} {args:List D} {σ1:St} {d:D} (h:xW P g args tQ d σ1) (hp:d.xH=true):xK P g args d:=by
 refine⟨h.ord,λM0 w ι vals hS hl hv=>(h.run M0 w ι vals hS hl hv).mono λe w' hh=>?_⟩;obtain⟨v,ι',rfl,k1,k2,k3,k4,k5,k6⟩:=hh;have k2':yC M0 w' ⟨σ1.nx,[]⟩ ι':=k2.sub (objs':=[]) λk o hk=>by cases hk
 refine⟨v,ι',rfl,k1,⟨k2'.uJ,(λk o hk=>by cases hk),(λk k' o o' hk=>by cases hk),(λk o hk=>by cases hk),k2'.tN⟩,η _,k4,(λk o hk=>by cases hk),.pure ?_⟩;exact(k6.eI hp).yY (λ_ _ _=>rfl) λb _ hb=>hb.elim .inl λ⟨k,o,h1,h2⟩=>by cases h1
theorem xW.eO {P:Program} {g:FuncId} {args:List D} {σ1:St} {d d':D} (h:xW P g args tQ d σ1) (hd:Seen σ1 (λ_=>False) d d'):xK P g args d':=by
 refine⟨h.ord,λM0 w ι vals hS hl hv=>(h.run M0 w ι vals hS hl hv).mono λe w' hh=>?_⟩;obtain⟨v,ι',rfl,k1,k2,k3,k4,k5,k6⟩:=hh;have k2':yC M0 w' ⟨σ1.nx,[]⟩ ι':=k2.sub (objs':=[]) λk o hk=>by cases hk
 refine⟨v,ι',rfl,k1,⟨k2'.uJ,(λk o hk=>by cases hk),(λk k' o o' hk=>by cases hk),(λk o hk=>by cases hk),k2'.tN⟩,η _,k4,(λk o hk=>by cases hk),.pure ?_⟩;exact(hd M0 w' ι' v k2 k6).yY (λ_ _ _=>rfl) λb _ hb=>hb.elim .inl λ⟨k,o,h1,h2⟩=>by cases h1
def iF {α:Type} (φ:α->α->Bool):List α->List α->Bool
 | [],[]=>true
 | a :: l,b :: m=>φ a b&&iF φ l m
 | _,_=>false
theorem pA {α:Type} {φ:α->α->Bool} (hφ:∀ a b,φ a b=true->a=b):∀ {l m:List α},iF φ l m=true->l=m
 | [],[],_=>rfl
 | a :: l,b :: m,h=>by simp only [iF,ζ] at h;rw [hφ _ _ h.1,pA hφ h.2]
 | [],_ :: _,h=>by simp [iF] at h
 | _ :: _,[],h=>by simp [iF] at h
def xk : Nat->D->D->Bool
 | n+1,.sl s e,.sl s' e'=>decide (s=s')&& iF (iF (xk n)) e e'
 | n+1,.agg a,.agg b=>iF (xk n) a b
 | n+1,.xI a,.xI b=>iF (xk n) a b
 | n+1,.fn f a,.fn g b=>decide (f=g)&& iF (xk n) a b
 | n+1,.ptr a,.ptr b=>iF (xk n) a b
 | _,.top,.top=>true
 | _,.vP,.vP=>true
 | _,.int k n,.int k' n'=>decide (k=k')&& decide (n=n')
 | _,.bool a,.bool b=>decide (a=b)
 | _,.xU,.xU=>true
 | _,.emp,.emp=>true
 | _,.ref a b c d,.ref a' b' c' d'=>decide (a=a')&& decide (b=b')&& decide (c=c')&& decide (d=d')
 | _,.xP a b c,.xP a' b' c'=>decide (a=a')&& decide (b=b')&& decide (c=c')
 | _,.sub a b c d,.sub a' b' c' d'=>decide (a=a')&& decide (b=b')&& decide (c=c')&& decide (d=d')
 | _,.xG a,.xG a'=>decide (a=a')
 | _,.sY,.sY=>true
 | _,.uA,.uA=>true
 | _,.uL,.uL=>true
 | _,_,_=>false
theorem rJ : ∀ (n:Nat) (a b:D),xk n a b=true->a=b
 | 0,a,b,h=>by cases a <;> cases b <;> simp [xk] at h <;> simp [h]
 | n+1,a,b,h=>by
  have ih:=rJ n
  cases a <;> cases b <;> simp only [xk,ζ,decide_eq_true_eq,Bool.false_eq_true] at h <;>
   first
   | rfl
   | (rw [pA ih h]; done)
   | (rw [h.1,pA ih h.2]; done)
   | (rw [h.1,pA (λ_ _ h=>pA ih h) h.2]; done)
   | simp [h]
def jf (f g:Fr):Bool:=iF (λp q=>decide (p.1=q.1)&& xk 30 p.2 q.2) f g
theorem lG {f g:Fr} (h:jf f g=true):f=g:=pA (λa b h=>by simp only [ζ,decide_eq_true_eq] at h;exact Prod.ext h.1 (rJ _ _ _ h.2)) h
def U3 : Nat->D->Bool
 | n+1,.agg cs=>cs.all (U3 n)
 | n+1,.xI cs=>cs.all (U3 n)
 | _,.int _ _=>true
 | _,.bool _=>true
 | _,.xU=>true
 | _,.emp=>true
 | _,.vP=>true
 | _,.xP ..=>true
 | _,.sub ..=>true
 | _,.ref ..=>true
 | _,.xG _=>true
 | _,_=>false
theorem wm : ∀ (n:Nat) (d:D),U3 n d=true->d.fl=true
 | 0,d,h=>by cases d <;> simp [U3] at h <;> simp [D.fl]
 | n+1,d,h=>by
  have ih:=wm n
  cases d <;> simp only [U3,δ] at h <;> first
   | (rw [iv]; exact δ.2 λe he=>ih e (h e he))
   | (rw [iw]; exact δ.2 λe he=>ih e (h e he))
   | (exact Bool.noConfusion h)
   | simp [D.fl]
def OL (xY:List (Nat × Ob)):Bool:=xY.all λp=>p.2.xZ.all λe=>e.all (U3 30)
theorem Yd {xY:List (Nat × Ob)} (h:OL xY=true):∀ p ∈ xY,∀ e ∈ p.2.xZ,D.Wb e=true:=λp hp e he=> δ.2 λd hd=>wm 30 d (δ.1 (δ.1 (δ.1 h p hp) e he) d hd)
theorem xW.QL {P:Program} {g:FuncId} {args args':List D} {d d':D} {σ:St} {m:Nat} {xY:List (Nat × Ob)} (hc:xW P g args' tQ d ⟨m,xY⟩) (hl':pR σ (λ_=>False) args args') (hf:d.fl=true) (ho:∀ p ∈ xY,∀ e ∈ p.2.xZ,D.Wb e=true)
  (hd:Seen ⟨m,xY⟩ (λ_=>False) d d'):xW P g args σ d' σ:=by
 refine⟨hc.ord,λM0 w ι vals hS hl hv=>?_⟩;have S1:yC (λ_=>False) w tQ ι:=⟨λb hb=>hb.elim,(λk o hk=>by cases hk),(λk k' o o' hk=>by cases hk),(λk o hk=>by cases hk),hS.tN.yY (η _) (λ_ _ _=>rfl) λb _ hb=>hb.elim False.elim λ⟨k,o,hk,_⟩=>by cases hk⟩
 have e1:∀ (ι':Nat->Nat) b,yR (λ_=>False) ι' tQ b->False:=by
  intro ι' b hb
  rcases hb with hb | ⟨k,o,hk,_⟩
  ·exact hb
  ·cases hk
 have hlen:=hl'.len;refine(hc.run _ w ι vals S1 (by omega) λj hj=>.pure (((hl'.at_ j hj).f M0 w ι _ hS (hv j (by omega))).yY (λ_ _ _=>rfl) λb _ hb=>e1 ι b hb)).mono λe w' hh=>?_;obtain⟨v,ι',rfl,k1,k2,k3,k4,k5,k6⟩:=hh;have K0:Kept w w' λ_=>False:=k1.mono λb _ ⟨k,o,hk,_⟩=>by cases hk
 have fresh:∀ k o,St.get ⟨m,xY⟩ k=some o->w.heap.size<=ι' k:=by
  intro k o hk
  rcases k5 _ _ hk with h | ⟨k0,o0,hk0,_⟩
  ·exact h
  ·cases hk0
 have S2:yC (yR M0 ι σ) w' ⟨m,xY⟩ ι':=by
  refine⟨λb hb=>Nat.lt_of_lt_of_le (yR.lt hS hb) K0.size,λk o hk=>?_,k2.inj,λk o hk hm=>?_,hS.tN.yY K0.size (λb hb hM=>K0.block b hb id) λb hb hm=>?_⟩
  ·obtain⟨g1,g20⟩:=k2.holds k o hk;exact⟨g1,xB.fl g20 (ho (k,o) (wT hk))⟩
  ·have:=fresh _ _ hk;have:=yR.lt hS hm;omega
  ·rcases hm with hm | ⟨k,o,hk,rfl⟩
   ·exact hm
   ·have:=fresh _ _ hk;omega
 exact⟨v,ι,rfl,K0.none _,hS.ext K0,η _,λ_ _=>rfl,λk o hk=>.inr ⟨k,o,hk,rfl⟩,.pure ((hd _ w' ι' v S2 (k6.fl hf)).yY (λ_ _ _=>rfl) λb _ hb=>.inl hb)⟩
abbrev yN :=FuncId->List D->St->Option (D × St)
def jc (call:yN) (σ:St) (g:FuncId) (args:List D):Option D:=
 if D.xJ args=true then match call g args tQ with
  | some (d,σ1)=>if d.xH=true then some d else fz σ1 30 d
  | none=>none
 else match zK (fz σ 30) args with
  | some args'=>match call g args' tQ with
   | some (d,σ1)=>if d.flat=true/\d.xH=true then some d else if (U3 30 d&&OL σ1.xY)= true then fz σ1 30 d else none
   | none=>none
  | none=>none
def Yx (call:yN) (σ:St) (g:FuncId) (args:List D):Option (D × St):=
 if D.xJ args=true then match call g args tQ with
  | some (d,σ1)=>if d.xH=true then some (d,σ) else some (d.shift σ.nx,⟨σ.nx+σ1.nx,zZ σ.nx σ1.xY++σ.xY⟩)
  | none=>none
 else match call g args σ with
  | some r=>some r
  | none=>match zK (fz σ 30) args with
   | some args'=>match call g args' tQ with
    | some (d,σ1)=>if (U3 30 d&&OL σ1.xY)= true then some (d.shift σ.nx,⟨σ.nx+σ1.nx,zZ σ.nx σ1.xY++σ.xY⟩) else none
    | none=>none
   | none=>none
def uZ (P:Program) (call:yN):Prop:=∀ g args σ d σ',call g args σ=some (d,σ')->xW P g args σ d σ'
theorem s8 {P:Program} {call:yN} (hc:uZ P call) {σ:St} {g:FuncId} {args:List D} {d:D} (h:jc call σ g args=some d):xW P g args σ d σ:=by
 unfold jc at h
 split at h
 ·rename_i hp
  split at h
  ·rename_i d1 σ1 h1
   split at h
   ·rename_i h2;simp at h; subst h;exact xW.vZ ((hc _ _ _ _ _ h1).jd h2) hp
   ·exact xW.vZ ((hc _ _ _ _ _ h1).eO (jD 30 _ _ h)) hp
  ·cases h
 ·split at h
  ·rename_i args' h0
   split at h
   ·rename_i d1 σ1 h1
    split at h
    ·rename_i h2;simp at h; subst h;exact xW.QM ((hc _ _ _ _ _ h1).jd h2.2) (uG (jD 30) h0) h2.1
    ·split at h
     ·rename_i h3;rw [ζ] at h3;exact xW.QL (hc _ _ _ _ _ h1) (uG (jD 30) h0) (wm 30 _ h3.1) (Yd h3.2) (jD 30 _ _ h)
     ·cases h
   ·cases h
  ·cases h
theorem ZC {P:Program} {call:yN} (hc:uZ P call) {σ:St} {g:FuncId} {args:List D} {d:D} {σ':St} (h:Yx call σ g args=some (d,σ')):xW P g args σ d σ':=by
 unfold Yx at h
 split at h
 ·rename_i hp
  split at h
  ·rename_i d1 σ1 h1
   split at h
   ·rename_i h2;simp at h;obtain⟨rfl,rfl⟩:=h;exact xW.vZ ((hc _ _ _ _ _ h1).jd h2) hp
   ·simp at h;obtain⟨rfl,rfl⟩:=h;exact xW.own (hc _ _ _ _ _ h1) hp
  ·cases h
 ·split at h
  ·rename_i r h1;cases h;exact hc _ _ _ _ _ h1
  ·split at h
   ·rename_i args' h2
    split at h
    ·rename_i d1 σ1 h3
     split at h
     ·rename_i h4;simp at h;obtain⟨rfl,rfl⟩:=h;rw [ζ] at h4;exact xW.SM (hc _ _ _ _ _ h3) (uG (jD 30) h2) (wm 30 _ h4.1) (Yd h4.2)
     ·cases h
    ·cases h
   ·cases h
def ry (kk:IntKind):List (List D)->Bool
 | []=>true
 | [.int k _,_] :: r=>if k=kk then ry kk r else false
 | _=>false
theorem iM {kk:IntKind}:∀ {xZ:List (List D)},ry kk xZ=true->oT kk xZ
 | [],_=>λrow h=>by cases h
 | e :: r,h=>by
  unfold ry at h
  split at h
  ·rename_i heq; cases heq
  ·rename_i k n d r' heq;cases heq
   split at h
   ·rename_i hk;subst hk;intro row hrow
    rcases List.mem_cons.1 hrow with rfl | hrow
    ·exact⟨n,d,rfl⟩
    ·exact iM h row hrow
   ·cases h
  ·cases h
def eB : List (List D)->Option (List (List Int × D))
 | []=>some []
 | [.agg cs,d] :: r=>match qP cs,eB r with
  | some x,some l=>some ((x,d) :: l)
  | _,_=>none
 | _=>none
theorem iS : ∀ {xZ:List (List D)} {l:List (List Int × D)},eB xZ=some l->xZ=vD l
 | [],l,h=>by simp [eB] at h; subst h; rfl
 | e :: r,l,h=>by
  unfold eB at h
  split at h
  ·rename_i heq; cases heq
  ·rename_i cs d r' heq;cases heq
   split at h
   ·rename_i x l' h1 h2;simp at h; subst h;rw [tU h1,iS h2];rfl
   ·cases h
  ·cases h
def Q0 (n:Nat):Option D->Option Int
 | none=>some n
 | some (.int _ m)=>some m
 | _=>none
def TQ (sz:Nat) (x:D) (lo hi:Option D):Option D:=
 match x with
 | .sl sz' xZ=>match U4 lo,Q0 xZ.length hi with
  | some l,some h=>if sz=sz'/\0<=l/\l<=h/\h<=xZ.length then some (.sl sz ((xZ.take h.toNat).drop l.toNat)) else none
  | _,_=>none
 | .xP key sz' len=>match U4 lo,Q0 len hi with
  | some l,some h=>if sz=sz'/\0<=l/\l<=h/\h<=len then some (if l=0 then .xP key sz h.toNat else if l=h then .emp else .sub key sz l.toNat (h.toNat-l.toNat)) else none
  | _,_=>none
 | _=>none
def dh (σ:St) (n:Nat) (ag:Bool) (x:D):Option D:=
 match x with
 | .ref key sz i off=>match σ.get key with
  | some o=>if o.sz=sz/\i<o.xZ.length/\off+n<=sz/\(ag=true\/n=1) then some (uE ag (((o.xZ.getD i []).drop off).take n)) else none
  | none=>none
 | .ptr cs=>if n<=cs.length/\(ag=true\/n=1) then some (uE ag (cs.take n)) else none
 | _=>none
def X7 (σ:St) (zero:D) (ok:Bool) (m k:D):Option D:=
 match m,k with
 | .xG key,.int kk x=>match σ.get key with
  | some o=>if o.sz=0/\ry kk o.xZ=true then some (sZ ok zero (sT x o.xZ 0)) else none
  | none=>none
 | .uA,.int _ _=>some (sZ ok zero none)
 | _,_=>none
def pE (call:yN) (σ:St) (ev:wQ->D):DK->Option D
 | .mv x=>some (ev x)
 | .pick c a b=>match ev c with
  | .bool t=>if t=true then some (ev a) else some (ev b)
  | _=>none
 | .bin op x y=>match ev x,ev y with
  | .int k a,.int k' b=>TK op k a k' b
  | _,_=>none
 | .beq neg x y=>match ev x,ev y with
  | .bool a,.bool b=>some (.bool (if neg then a != b else a==b))
  | _,_=>none
 | .oU neg x y=>match ev x,ev y with
  | .xU,.xU=>some (.bool (!neg))
  | .xP ..,.xU=>some (.bool neg)
  | .emp,.xU=>some (.bool neg)
  | .sl _ (_ :: _),.xU=>some (.bool neg)
  | _,_=>none
 | .nt x=>match ev x with
  | .bool b=>some (.bool (!b))
  | _=>none
 | .neg x=>match ev x with
  | .int k a=>some (.int k (k.wrap (0-a)))
  | _=>none
 | .TS x=>match ev x with
  | .int k a=>some (.int k (rL .xor k (if k.signed then -1 else k.max) a))
  | _=>none
 | .geq neg n x y=>match ev x,ev y with
  | .agg cs,.agg ds=>match qP cs,qP ds with
   | some xs,some ys=>if xs.length=n/\ys.length=n then some (.bool (if neg then !decide (xs=ys) else decide (xs=ys))) else none
   | _,_=>none
  | _,_=>none
 | .ub x=>match ev x with
  | .xG key=>match σ.get key with
   | some o=>if o.sz=0/\o.xZ.length<=1000000 then some (.int .i64 o.xZ.length) else none
   | none=>none
  | _=>none
 | .conv k x=>match ev x with
  | .int _ n=>some (.int k (k.wrap n))
  | _=>none
 | .XT off x=>match ev x with
  | .ref key sz i o=>some (.ref key sz i (o+off))
  | .ptr cs=>if off<cs.length then some (.ptr (cs.drop off)) else none
  | _=>none
 | .jg off n ag x=>match ev x with
  | .agg cs=>if off+n<=cs.length/\(ag=true\/n=1) then some (uE ag ((cs.drop off).take n)) else none
  | _=>none
 | .idx sz x i=>match ev x,ev i with
  | .sl sz' xZ,.int _ n=>if sz=sz'/\0<=n/\n<xZ.length then some (.ptr (xZ.getD n.toNat [])) else none
  | .xP key sz' len,.int _ n=>if sz=sz'/\0<=n/\n<len then some (.ref key sz n.toNat 0) else none
  | .sub key sz' lo len,.int _ n=>if sz=sz'/\0<=n/\n<len then some (.ref key sz (lo+n.toNat) 0) else none
  | _,_=>none
 | .aj n sz x i=>match ev x,ev i with
  | .ref key s j off,.int _ p=>if 0<=p/\p<n then some (.ref key s j (off+p.toNat*sz)) else none
  | _,_=>none
 | .eD n x=>match ev x with
  | .ref key s 0 0=>match σ.get key with
   | some ob=>if ob.sz=s/\0<ob.xZ.length/\n<=s/\n<=maxLen then some (.xP key 1 n) else none
   | none=>none
  | _=>none
 | .build zero parts=>(fR zero (parts.map λp=>(p.1,p.2.1,ev p.2.2))).map .agg
 | .zG sz len zero parts=>match kO sz (List.replicate len zero) (parts.map λp=>(p.1,ev p.2)) with
  | some es=>if (es.all D.xJ)= true then some (.sl sz es) else none
  | none=>none
 | .len x=>match ev x with
  | .sl _ xZ=>some (.int .i64 xZ.length)
  | .xP _ _ n=>some (.int .i64 n)
  | .sub _ _ _ n=>some (.int .i64 n)
  | .xU=>some (.int .i64 0)
  | .emp=>some (.int .i64 0)
  | _=>none
 | .mn x y=>match ev x,ev y with
  | .int k a,.int k' b=>if k=k' then some (.int k (if b<a then b else a)) else none
  | _,_=>none
 | .mx x y=>match ev x,ev y with
  | .int k a,.int k' b=>if k=k' then some (.int k (if b > a then b else a)) else none
  | _,_=>none
 | .tx x i=>match ev x with
  | .xI vs=>if i<vs.length then some (vs.getD i .top) else none
  | _=>none
 | .eX f caps=>some (.fn f (caps.map ev))
 | .load n ag x=>dh σ n ag (ev x)
 | .xm sz x lo hi=>TQ sz (ev x) (lo.map ev) (hi.map ev)
 | .call fn args=>match ev fn with
  | .fn g caps=>jc call σ g (args.map ev++caps)
  | _=>none
 | .XY x=>match ev x with
  | .ref key sz i off=>some (.ref key sz i off)
  | .ptr cs=>some (.ptr cs)
  | .fn f cs=>some (.fn f cs)
  | _=>none
 | .mW zero ok m k=>X7 σ zero ok (ev m) (ev k)
 | .mS n zero ok m k=>match ev m,ev k with
  | .xG key,.agg cs=>match σ.get key,qP cs with
   | some o,some x=>match eB o.xZ with
    | some l=>if o.sz=0/\x.length=n/\(l.all λp=>p.1.length==n)= true then some (sZ ok zero (sR x l 0)) else none
    | none=>none
   | _,_=>none
  | _,_=>none
 | _=>none
theorem qq {C:Cx} {σ:St} {ev:wQ->D} {n:Nat} {ag:Bool} {x:wQ} {d:D} (h:dh σ n ag (ev x)= some d) {K:D->Prop} (hK:K d):pW C σ ev (.load n ag x) K:=by
 simp only [pW];unfold dh at h
 split at h
 ·rename_i key sz i off he;rw [he];simp only
  split at h
  ·rename_i o ho;rw [ho];simp only
   split at h
   ·rename_i hc;simp at h; subst h;exact⟨hc.1,hc.2.1,hc.2.2.1,hc.2.2.2,hK⟩
   ·cases h
  ·cases h
 ·rename_i cs he;rw [he];simp only
  split at h
  ·rename_i hc;simp at h; subst h;exact⟨hc.1,hc.2,hK⟩
  ·cases h
 ·cases h
theorem V2 {C:Cx} {σ:St} {ev:wQ->D} {sz:Nat} {x:wQ} {lo hi:Option wQ} {d:D} (h:TQ sz (ev x) (lo.map ev) (hi.map ev)= some d) {K:D->Prop} (hK:K d):pW C σ ev (.xm sz x lo hi) K:=by
 have hh:∀ {n:Nat} {m:Int},Q0 n (hi.map ev)= some m->(match hi.map ev with | none=>m=n | some (.int _ q)=>m=q | some _=>False):=λ{n m} he=>by
  unfold Q0 at he
  split at he
  ·rename_i e0; rw [e0]; simp at he; exact he.symm
  ·rename_i e0; rw [e0]; simp at he; exact he.symm
  ·cases he
 simp only [pW];unfold TQ at h
 split at h
 ·rename_i sz' xZ he;rw [he];simp only
  split at h
  ·rename_i l m h1 h2
   split at h
   ·rename_i hc;simp at h; subst h;exact⟨hc.1,l,m,h1,hh h2,hc.2.1,hc.2.2.1,hc.2.2.2,hK⟩
   ·cases h
  ·cases h
 ·rename_i key sz' len he;rw [he];simp only
  split at h
  ·rename_i l m h1 h2
   split at h
   ·rename_i hc;simp only [Option.some.injEq] at h; subst h;exact⟨hc.1,l,m,h1,hh h2,hc.2.1,hc.2.2.1,hc.2.2.2,hK⟩
   ·cases h
  ·cases h
 ·cases h
theorem ZE {C:Cx} {σ:St} {ev:wQ->D} {zero:D} {ok:Bool} {m k:wQ} {d:D} (h:X7 σ zero ok (ev m) (ev k)= some d) {K:D->Prop} (hK:K d):pW C σ ev (.mW zero ok m k) K:=by
 simp only [pW];unfold X7 at h
 split at h
 ·rename_i key kk x h1 h2;rw [h1,h2];simp only
  split at h
  ·rename_i o ho;rw [ho];simp only
   split at h
   ·rename_i hc;simp at h; subst h;exact⟨hc.1,iM hc.2,hK⟩
   ·cases h
  ·cases h
 ·rename_i h1 h2;rw [h1,h2];simp at h; subst h;exact hK
 ·cases h
theorem dp {C:Cx} {call:yN} (hc:uZ C.P call) {σ:St} {ev:wQ->D}:∀ {k:DK} {d:D},pE call σ ev k=some d->∀ {K:D->Prop},K d->pW C σ ev k K
 | .load n ag x,d,h,K,hK=>qq h hK
 | .xm sz x lo hi,d,h,K,hK=>V2 h hK
 | .mW zero ok m k,d,h,K,hK=>ZE h hK
 | .bin op x y,d,h,K,hK=>by
  simp only [pE] at h;simp only [pW]
  split at h
  ·rename_i h1 h2;rw [h1,h2];exact UH h hK
  ·cases h
 | .call fn args,d,h,K,hK=>by
  simp only [pE] at h;simp only [pW]
  split at h
  ·rename_i h1;rw [h1];exact⟨d,s8 hc h,hK⟩
  ·cases h
 | .mS n zero ok m k,d,h,K,hK=>by
  simp only [pE] at h;simp only [pW]
  split at h
  ·rename_i key cs h1 h2;rw [h1,h2];simp only
   split at h
   ·rename_i o x h3 h4;rw [h3];simp only
    split at h
    ·rename_i l h5
     split at h
     ·rename_i h6;simp at h; subst h;exact⟨h6.1,x,l,⟨tU h4,iS h5,h6.2.1,λp hp=>by have:=δ.1 h6.2.2 p hp; simpa using this⟩,hK⟩
     ·cases h
    ·cases h
   ·cases h
  ·cases h
 | .build zero parts,d,h,K,hK=>by simp only [pE] at h;simp only [pW];rw [γ] at h;obtain⟨cs,h1,rfl⟩:=h;rw [h1];exact hK
 | .mv x,d,h,K,hK=>by simp only [pE,Option.some.injEq] at h; subst h; exact hK
 | .eX f caps,d,h,K,hK=>by simp only [pE,Option.some.injEq] at h; subst h; exact hK
 | .pick c a b,d,h,K,hK=>by
  simp only [pE] at h;simp only [pW]
  split at h
  ·rename_i t h1;rw [h1];simp only;split at h <;> (simp only [Option.some.injEq] at h; subst h; simp_all)
  ·cases h
 | .oU neg x y,d,h,K,hK=>by simp only [pE] at h;simp only [pW];split at h <;> (first | (rename_i h1 h2; rw [h1,h2]; simp only [Option.some.injEq] at h; subst h; exact hK) | cases h)
 | .beq ..,d,h,K,hK | .nt _,d,h,K,hK | .neg _,d,h,K,hK | .TS _,d,h,K,hK | .conv ..,d,h,K,hK | .len _,d,h,K,hK | .XY _,d,h,K,hK=>by simp only [pE] at h;simp only [pW];split at h <;> first | (simp only [Option.some.injEq] at h; subst h; simp_all; done) | cases h
 | .geq neg n x y,d,h,K,hK=>by
  simp only [pE] at h;simp only [pW]
  split at h
  ·rename_i cs ds h1 h2;rw [h1,h2];simp only
   split at h
   ·rename_i xs ys h3 h4;rw [h3,h4];simp only
    split at h
    ·rename_i h5;simp only [Option.some.injEq] at h; subst h;exact⟨h5.1,h5.2,hK⟩
    ·cases h
   ·cases h
  ·cases h
 | .ub x,d,h,K,hK=>by
  simp only [pE] at h;simp only [pW]
  split at h
  ·rename_i key h1;rw [h1];simp only
   split at h
   ·rename_i o ho;rw [ho];simp only
    split at h
    ·rename_i h5;simp only [Option.some.injEq] at h; subst h;exact⟨h5.1,h5.2,hK⟩
    ·cases h
   ·cases h
  ·cases h
 | .XT off x,d,h,K,hK=>by
  simp only [pE] at h;simp only [pW]
  split at h
  ·rename_i h1;rw [h1];simp only [Option.some.injEq] at h; subst h;exact hK
  ·rename_i h1;rw [h1];simp only
   split at h
   ·rename_i h5;simp only [Option.some.injEq] at h; subst h;exact⟨h5,hK⟩
   ·cases h
  ·cases h
 | .jg off n ag x,d,h,K,hK=>by
  simp only [pE] at h;simp only [pW]
  split at h
  ·rename_i h1;rw [h1];simp only
   split at h
   ·rename_i h5;simp only [Option.some.injEq] at h; subst h;exact⟨h5.1,h5.2,hK⟩
   ·cases h
  ·cases h
 | .idx sz x i,d,h,K,hK=>by
  simp only [pE] at h;simp only [pW];split at h
  case h_4=>cases h
  all_goals
   rename_i h1 h2;rw [h1,h2];simp only
   split at h
   ·rename_i h5;simp only [Option.some.injEq] at h; subst h;exact⟨h5.1,h5.2.1,h5.2.2,hK⟩
   ·cases h
 | .aj n sz x i,d,h,K,hK=>by
  simp only [pE] at h;simp only [pW]
  split at h
  ·rename_i h1 h2;rw [h1,h2];simp only
   split at h
   ·rename_i h5;simp only [Option.some.injEq] at h; subst h;exact⟨h5.1,h5.2,hK⟩
   ·cases h
  ·cases h
 | .eD n x,d,h,K,hK=>by
  simp only [pE] at h;simp only [pW]
  split at h
  ·rename_i key s h1;rw [h1];simp only
   split at h
   ·rename_i ob ho;rw [ho];simp only
    split at h
    ·rename_i h5;simp only [Option.some.injEq] at h; subst h;exact⟨h5.1,h5.2.1,h5.2.2.1,h5.2.2.2,hK⟩
    ·cases h
   ·cases h
  ·cases h
 | .zG sz len zero parts,d,h,K,hK=>by
  simp only [pE] at h;simp only [pW]
  split at h
  ·rename_i es h1;rw [h1];simp only
   split at h
   ·rename_i h5;simp only [Option.some.injEq] at h; subst h;exact⟨h5,hK⟩
   ·cases h
  ·cases h
 | .mn x y,d,h,K,hK | .mx x y,d,h,K,hK=>by
  simp only [pE] at h;simp only [pW]
  split at h
  ·rename_i h1 h2;rw [h1,h2];simp only
   split at h
   ·rename_i h5;simp only [Option.some.injEq] at h; subst h;exact⟨h5,hK⟩
   ·cases h
  ·cases h
 | .tx x i,d,h,K,hK=>by
  simp only [pE] at h;simp only [pW]
  split at h
  ·rename_i h1;rw [h1];simp only
   split at h
   ·rename_i h5;simp only [Option.some.injEq] at h; subst h;exact⟨h5,hK⟩
   ·cases h
  ·cases h
 | .box _,d,h,K,hK | .alloc _,d,h,K,hK | .store ..,d,h,K,hK | .app ..,d,h,K,hK | .oZ ..,d,h,K,hK | .tK ..,d,h,K,hK | .ug ..,d,h,K,hK | .fA,d,h,K,hK | .pU ..,d,h,K,hK | .rH ..,d,h,K,hK | .kG ..,d,h,K,hK | .rQ ..,d,h,K,hK | .kR ..,d,h,K,hK | .jn ..,d,h,K,hK=>by simp [pE] at h
end Go.Pd
