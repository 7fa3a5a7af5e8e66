/- Part XE. -/
import Derived.Test.YtccobgpcnfjbhaaDoorSlX8
set_option linter.unusedSectionVars false
set_option linter.unusedVariables false
set_option linter.unusedSimpArgs false
set_option linter.defProp false
set_option maxRecDepth 20000
set_option maxHeartbeats 1000000
open Option renaming map_eq_some_iff->γ
namespace Go.Pd
open Go
variable [zJ]
structure Fn where
 n:Nat
 code:DC
 res:List rO
 own:List Nat
inductive Ex where
 | normal
 | exit (id:Nat)
 | ret
def Ex.to : Ex->Exit
 | .normal=>.normal
 | .exit i=>.exit i
 | .ret=>.ret
def cg (op:BinOp) (k:IntKind) (a:Int) (k':IntKind) (b:Int):Option D:=
 match op with
 | .shl=>if 0<=b then some (.int k (cO k a b)) else none
 | .shr=>if 0<=b then some (.int k (qg k a b)) else none
 | .quo=>if k=k'/\b≠0 then some (.int k (k.wrap (a.tdiv b))) else none
 | .rem=>if k=k'/\b≠0 then some (.int k (a.tmod b)) else none
 | .add=>if k=k' then some (.int k (k.wrap (a+b))) else none
 | .sub=>if k=k' then some (.int k (k.wrap (a-b))) else none
 | .mul=>if k=k' then some (.int k (k.wrap (a*b))) else none
 | .and=>if k=k' then some (.int k (pS .and k a b)) else none
 | .or=>if k=k' then some (.int k (pS .or k a b)) else none
 | .xor=>if k=k' then some (.int k (pS .xor k a b)) else none
 | .andNot=>if k=k' then some (.int k (pS .andNot k a b)) else none
 | .eql=>if k=k' then some (.bool (a==b)) else none
 | .neq=>if k=k' then some (.bool (a != b)) else none
 | .lss=>if k=k' then some (.bool (decide (a<b))) else none
 | .leq=>if k=k' then some (.bool (decide (a<=b))) else none
 | .gtr=>if k=k' then some (.bool (decide (a > b))) else none
 | .geq=>if k=k' then some (.bool (decide (a >= b))) else none
theorem fm {op:BinOp} {k:IntKind} {a:Int} {k':IntKind} {b:Int} {d:D} (h:cg op k a k' b=some d) {K:D->Prop} (hK:K d):uR op k a k' b K:=by cases op <;> simp only [cg] at h <;> split at h <;> simp at h <;> subst h <;> simp_all [uR]
def ZZ (φ:D->Option D) (sz:Nat) (xX:List (List D)):Option (List (List D)):=yT (λrow=>if row.length=sz then yT φ row else none) xX
def fz (σ:St):Nat->D->Option D
 | 0,_=>none
 | n+1,d=>if d.xQ=true then some d else match d with
  | .agg cs=>(yT (fz σ n) cs).map .agg
  | .fn f cs=>(yT (fz σ n) cs).map (.fn f)
  | .zZ key sz len=>match σ.get key with
   | some ob=>if 0<sz/\ob.sz=sz/\len<=ob.xX.length then(ZZ (fz σ n) sz (ob.xX.take len)).map (.sl sz) else none
   | none=>none
  | .ref key sz i off=>match σ.get key with
   | some ob=>if ob.sz=sz/\i<ob.xX.length/\off<sz/\(ob.xX.getD i []).length=sz then(yT (fz σ n) ((ob.xX.getD i []).drop off)).map .ptr else none
   | none=>none
  | _=>none
theorem tI {σ:St} {φ:D->Option D} (hφ:∀ d d',φ d=some d'->Seen σ (λ_=>False) d d'):∀ {cs ds:List D},yT φ cs=some ds->pM σ (λ_=>False) cs ds
 | [],ds,h=>by simp [yT] at h; subst h; trivial
 | c :: cs,ds,h=>by
  unfold yT at h
  split at h
  ·rename_i b bs h1 h2;simp at h; subst h;exact⟨hφ _ _ h1,tI hφ h2⟩
  ·cases h
theorem vx {σ:St}:∀ (n:Nat) (d d':D),fz σ n d=some d'->Seen σ (λ_=>False) d d'
 | 0,d,d',h=>by simp [fz] at h
 | n + 1,d,d',h=>by
  have ih:=vx (σ:=σ) n;unfold fz at h
  split at h
  ·rename_i hp;simp at h; subst h;exact Seen.pure hp
  split at h
  ·rw [γ] at h;obtain⟨cs,h1,rfl⟩:=h;exact Seen.agg (tI ih h1)
  ·rw [γ] at h;obtain⟨cs,h1,rfl⟩:=h;exact Seen.fn (tI ih h1)
  ·split at h
   ·rename_i key sz len _ _ ob hob
    split at h
    ·rename_i hc;rw [γ] at h;obtain⟨xX,h1,rfl⟩:=h;obtain⟨l1,l2⟩:=yZ h1;have hl:xX.length=len:=by rw [l1,List.length_take]; omega
     have row:∀ i,i<len->∃ r,xX.getD i []=r/\(ob.xX.getD i []).length=sz/\yT (fz σ n) (ob.xX.getD i [])= some r:=λi hi=>by
      have hi':i<ob.xX.length:=by omega
      obtain⟨b,h2,h3⟩:=l2 i (ob.xX.getD i []) (by simp [List.getD,hi',hi])
      split at h3
      ·rename_i h4;exact⟨b,by simp [List.getD,h2],h4,h3⟩
      ·cases h3
     refine Seen.zZ hob id hc.1 hc.2.1 hc.2.2 hl (λe he=>?_) λi hi j hj=>?_
     ·obtain⟨i,hi,rfl⟩:=List.getElem_of_mem he;obtain⟨r,r1,r2,r3⟩:=row i (by omega);have:xX[i]=r:=by rw [<- r1]; simp [List.getD,hi]
      rw [this,(yZ r3).1,r2]
     ·obtain⟨r,r1,r2,r3⟩:=row i hi;rw [r1];exact(tI ih r3).at_ j (by rw [(yZ r3).1]; omega)
    ·cases h
   ·cases h
  ·split at h
   ·rename_i key sz i off _ _ ob hob
    split at h
    ·rename_i hc;rw [γ] at h;obtain⟨cs,h1,rfl⟩:=h;have hl:=(yZ h1).1;rw [List.length_drop] at hl;refine Seen.ref hob id hc.1 hc.2.1 (by omega) (by omega) λj hj=>?_;have:=(tI ih h1).at_ j hj;have e:((ob.xX.getD i []).drop off).getD j .top=(ob.xX.getD i []).getD (off+j) .top:=by simp [List.getD,List.getElem?_drop]
     rwa [e] at this
    ·cases h
   ·cases h
  ·cases h
theorem xS.gc {P:Program} {g:FuncId} {args:List D} {σ σ1:St} {d:D} {objs':List (Nat × Ob)} (h:xS P g args σ d σ1) (hs:∀ k o,St.look objs' k=some o->σ1.get k=some o):xS P g args σ d ⟨σ1.nx,objs'⟩:=by refine⟨h.ord,λM0 w ι vals hS hl hv=>(h.run M0 w ι vals hS hl hv).mono λe w' hh=>?_⟩;obtain⟨v,ι',rfl,k1,k2,k3,k4,k5,k6⟩:=hh;exact⟨v,ι',rfl,k1,k2.sub hs,k3,k4,λk o hk=>k5 k o (hs k o hk),k6.xE (λ_ _ _=>rfl) (λb _ hb=>hb.imp id λ⟨k,o,h1,h2⟩=>⟨k,o,hs k o h1,h2⟩) (λ_ cur _ h=>⟨cur,h,rfl⟩) (λ_ _=>rfl) (Nat.le_refl _)⟩
theorem xS.eZ {P:Program} {g:FuncId} {args:List D} {σ1:St} {d:D} (h:xS P g args hU d σ1) (hp:d.xQ=true):wP P g args d:=by
 refine⟨h.ord,λM0 w ι vals hS hl hv=>(h.run M0 w ι vals hS hl hv).mono λe w' hh=>?_⟩;obtain⟨v,ι',rfl,k1,k2,k3,k4,k5,k6⟩:=hh;have k2':yY M0 w' ⟨σ1.nx,[]⟩ ι':=k2.sub (objs':=[]) λk o hk=>by cases hk
 refine⟨v,ι',rfl,k1,⟨k2'.rQ,(λk o hk=>by cases hk),(λk k' o o' hk=>by cases hk),(λk o hk=>by cases hk),k2'.tW⟩,Nat.le_refl _,k4,(λk o hk=>by cases hk),.pure ?_⟩;exact(k6.kD hp).xE (λ_ _ _=>rfl) λb _ hb=>hb.elim .inl λ⟨k,o,h1,h2⟩=>by cases h1
theorem xS.vp {P:Program} {g:FuncId} {args:List D} {σ1:St} {d d':D} (h:xS P g args hU d σ1) (hd:Seen σ1 (λ_=>False) d d'):wP P g args d':=by
 refine⟨h.ord,λM0 w ι vals hS hl hv=>(h.run M0 w ι vals hS hl hv).mono λe w' hh=>?_⟩;obtain⟨v,ι',rfl,k1,k2,k3,k4,k5,k6⟩:=hh;have k2':yY M0 w' ⟨σ1.nx,[]⟩ ι':=k2.sub (objs':=[]) λk o hk=>by cases hk
 refine⟨v,ι',rfl,k1,⟨k2'.rQ,(λk o hk=>by cases hk),(λk k' o o' hk=>by cases hk),(λk o hk=>by cases hk),k2'.tW⟩,Nat.le_refl _,k4,(λk o hk=>by cases hk),.pure ?_⟩;exact(hd M0 w' ι' v k2 k6).xE (λ_ _ _=>rfl) λb _ hb=>hb.elim .inl λ⟨k,o,h1,h2⟩=>by cases h1
def kM {α:Type} (φ:α->α->Bool):List α->List α->Bool
 | [],[]=>true
 | a :: l,b :: m=>φ a b&&kM φ l m
 | _,_=>false
theorem lR {α:Type} {φ:α->α->Bool} (hφ:∀ a b,φ a b=true->a=b):∀ {l m:List α},kM φ l m=true->l=m
 | [],[],_=>rfl
 | a :: l,b :: m,h=>by simp only [kM,Bool.and_eq_true] at h;rw [hφ _ _ h.1,lR hφ h.2]
 | [],_ :: _,h=>by simp [kM] at h
 | _ :: _,[],h=>by simp [kM] at h
def qn : Nat->D->D->Bool
 | n+1,.sl s e,.sl s' e'=>decide (s=s')&& kM (kM (qn n)) e e'
 | n+1,.agg a,.agg b=>kM (qn n) a b
 | n+1,.yN a,.yN b=>kM (qn n) a b
 | n+1,.fn f a,.fn g b=>decide (f=g)&& kM (qn n) a b
 | n+1,.ptr a,.ptr b=>kM (qn n) a b
 | _,.top,.top=>true
 | _,.wG,.wG=>true
 | _,.int k n,.int k' n'=>decide (k=k')&& decide (n=n')
 | _,.bool a,.bool b=>decide (a=b)
 | _,.xY,.xY=>true
 | _,.emp,.emp=>true
 | _,.ref a b c d,.ref a' b' c' d'=>decide (a=a')&& decide (b=b')&& decide (c=c')&& decide (d=d')
 | _,.zZ a b c,.zZ a' b' c'=>decide (a=a')&& decide (b=b')&& decide (c=c')
 | _,.sub a b c d,.sub a' b' c' d'=>decide (a=a')&& decide (b=b')&& decide (c=c')&& decide (d=d')
 | _,.yU a,.yU a'=>decide (a=a')
 | _,.qW,.qW=>true
 | _,.tS,.tS=>true
 | _,.qV,.qV=>true
 | _,_,_=>false
theorem eP : ∀ (n:Nat) (a b:D),qn n a b=true->a=b
 | 0,a,b,h=>by cases a <;> cases b <;> simp [qn] at h <;> simp [h]
 | n+1,a,b,h=>by
  have ih:=eP n
  cases a <;> cases b <;> simp only [qn,Bool.and_eq_true,decide_eq_true_eq,Bool.false_eq_true] at h <;>
   first
   | rfl
   | (rw [lR ih h]; done)
   | (rw [h.1,lR ih h.2]; done)
   | (rw [h.1,lR (λ_ _ h=>lR ih h) h.2]; done)
   | simp [h]
def xf (f g:Fr):Bool:=kM (λp q=>decide (p.1=q.1)&& qn 30 p.2 q.2) f g
theorem oU {f g:Fr} (h:xf f g=true):f=g:=lR (λa b h=>by simp only [Bool.and_eq_true,decide_eq_true_eq] at h;exact Prod.ext h.1 (eP _ _ _ h.2)) h
abbrev yQ :=FuncId->List D->St->Option (D × St)
def xb (call:yQ) (σ:St) (g:FuncId) (args:List D):Option D:=
 if D.xR args=true then match call g args hU with
  | some (d,σ1)=>if d.xQ=true then some d else fz σ1 30 d
  | none=>none
 else match yT (fz σ 30) args with
  | some args'=>match call g args' hU with
   | some (d,_)=>if d.flat=true/\d.xQ=true then some d else none
   | none=>none
  | none=>none
def pq (call:yQ) (σ:St) (g:FuncId) (args:List D):Option (D × St):=
 if D.xR args=true then match call g args hU with
  | some (d,σ1)=>if d.xQ=true then some (d,σ) else some (d.shift σ.nx,⟨σ.nx+σ1.nx,wA σ.nx σ1.xZ++σ.xZ⟩)
  | none=>none
 else call g args σ
def uY (P:Program) (call:yQ):Prop:=∀ g args σ d σ',call g args σ=some (d,σ')->xS P g args σ d σ'
theorem tn {P:Program} {call:yQ} (hc:uY P call) {σ:St} {g:FuncId} {args:List D} {d:D} (h:xb call σ g args=some d):xS P g args σ d σ:=by
 unfold xb at h
 split at h
 ·rename_i hp
  split at h
  ·rename_i d1 σ1 h1
   split at h
   ·rename_i h2;simp at h; subst h;exact xS.tP ((hc _ _ _ _ _ h1).eZ h2) hp
   ·exact xS.tP ((hc _ _ _ _ _ h1).vp (vx 30 _ _ h)) hp
  ·cases h
 ·split at h
  ·rename_i args' h0
   split at h
   ·rename_i d1 σ1 h1
    split at h
    ·rename_i h2;simp at h; subst h;exact xS.l8 ((hc _ _ _ _ _ h1).eZ h2.2) (tI (vx 30) h0) h2.1
    ·cases h
   ·cases h
  ·cases h
theorem kx {P:Program} {call:yQ} (hc:uY P call) {σ:St} {g:FuncId} {args:List D} {d:D} {σ':St} (h:pq call σ g args=some (d,σ')):xS P g args σ d σ':=by
 unfold pq at h
 split at h
 ·rename_i hp
  split at h
  ·rename_i d1 σ1 h1
   split at h
   ·rename_i h2;simp at h;obtain⟨rfl,rfl⟩:=h;exact xS.tP ((hc _ _ _ _ _ h1).eZ h2) hp
   ·simp at h;obtain⟨rfl,rfl⟩:=h;exact xS.own (hc _ _ _ _ _ h1) hp
  ·cases h
 ·exact hc _ _ _ _ _ h
def cC (kk:IntKind):List (List D)->Bool
 | []=>true
 | [.int k _,_] :: r=>if k=kk then cC kk r else false
 | _=>false
theorem mN {kk:IntKind}:∀ {xX:List (List D)},cC kk xX=true->rM kk xX
 | [],_=>λrow h=>by cases h
 | e :: r,h=>by
  unfold cC at h
  split at h
  ·rename_i heq; cases heq
  ·rename_i k n d r' heq;cases heq
   split at h
   ·rename_i hk;subst hk;intro row hrow
    rcases List.mem_cons.1 hrow with rfl | hrow
    ·exact⟨n,d,rfl⟩
    ·exact mN h row hrow
   ·cases h
  ·cases h
def gM : List (List D)->Option (List (List Int × D))
 | []=>some []
 | [.agg cs,d] :: r=>match rT cs,gM r with
  | some x,some l=>some ((x,d) :: l)
  | _,_=>none
 | _=>none
theorem jJ : ∀ {xX:List (List D)} {l:List (List Int × D)},gM xX=some l->xX=nG l
 | [],l,h=>by simp [gM] at h; subst h; rfl
 | e :: r,l,h=>by
  unfold gM at h
  split at h
  ·rename_i heq; cases heq
  ·rename_i cs d r' heq;cases heq
   split at h
   ·rename_i x l' h1 h2;simp at h; subst h;rw [vJ h1,jJ h2];rfl
   ·cases h
  ·cases h
def e7 (n:Nat):Option D->Option Int
 | none=>some n
 | some (.int _ m)=>some m
 | _=>none
def cp (sz:Nat) (x:D) (lo hi:Option D):Option D:=
 match x with
 | .sl sz' xX=>match fb lo,e7 xX.length hi with
  | some l,some h=>if sz=sz'/\0<=l/\l<=h/\h<=xX.length then some (.sl sz ((xX.take h.toNat).drop l.toNat)) else none
  | _,_=>none
 | .zZ key sz' len=>match fb lo,e7 len hi with
  | some l,some h=>if sz=sz'/\0<=l/\l<=h/\h<=len then some (if l=0 then .zZ key sz h.toNat else if l=h then .emp else .sub key sz l.toNat (h.toNat-l.toNat)) else none
  | _,_=>none
 | _=>none
def wa (σ:St) (n:Nat) (ag:Bool) (x:D):Option D:=
 match x with
 | .ref key sz i off=>match σ.get key with
  | some o=>if o.sz=sz/\i<o.xX.length/\off+n<=sz/\(ag=true\/n=1) then some (vV ag (((o.xX.getD i []).drop off).take n)) else none
  | none=>none
 | .ptr cs=>if n<=cs.length/\(ag=true\/n=1) then some (vV ag (cs.take n)) else none
 | _=>none
def pt (σ:St) (zero:D) (ok:Bool) (m k:D):Option D:=
 match m,k with
 | .yU key,.int kk x=>match σ.get key with
  | some o=>if o.sz=0/\cC kk o.xX=true then some (tR ok zero (vB x o.xX 0)) else none
  | none=>none
 | .tS,.int _ _=>some (tR ok zero none)
 | _,_=>none
def pE (call:yQ) (σ:St) (ev:yG->D):DK->Option D
 | .mv x=>some (ev x)
 | .pick c a b=>match ev c with
  | .bool t=>if t=true then some (ev a) else some (ev b)
  | _=>none
 | .bin op x y=>match ev x,ev y with
  | .int k a,.int k' b=>cg op k a k' b
  | _,_=>none
 | .beq neg x y=>match ev x,ev y with
  | .bool a,.bool b=>some (.bool (if neg then a != b else a==b))
  | _,_=>none
 | .qC neg x y=>match ev x,ev y with
  | .xY,.xY=>some (.bool (!neg))
  | .zZ ..,.xY=>some (.bool neg)
  | .emp,.xY=>some (.bool neg)
  | .sl _ (_ :: _),.xY=>some (.bool neg)
  | _,_=>none
 | .nt x=>match ev x with
  | .bool b=>some (.bool (!b))
  | _=>none
 | .neg x=>match ev x with
  | .int k a=>some (.int k (k.wrap (0-a)))
  | _=>none
 | .ct x=>match ev x with
  | .int k a=>some (.int k (pS .xor k (if k.signed then -1 else k.max) a))
  | _=>none
 | .geq neg n x y=>match ev x,ev y with
  | .agg cs,.agg ds=>match rT cs,rT ds with
   | some xs,some ys=>if xs.length=n/\ys.length=n then some (.bool (if neg then !decide (xs=ys) else decide (xs=ys))) else none
   | _,_=>none
  | _,_=>none
 | .cM x=>match ev x with
  | .yU key=>match σ.get key with
   | some o=>if o.sz=0/\o.xX.length<=1000000 then some (.int .i64 o.xX.length) else none
   | none=>none
  | _=>none
 | .conv k x=>match ev x with
  | .int _ n=>some (.int k (k.wrap n))
  | _=>none
 | .qj off x=>match ev x with
  | .ref key sz i o=>some (.ref key sz i (o+off))
  | .ptr cs=>if off<cs.length then some (.ptr (cs.drop off)) else none
  | _=>none
 | .xg off n ag x=>match ev x with
  | .agg cs=>if off+n<=cs.length/\(ag=true\/n=1) then some (vV ag ((cs.drop off).take n)) else none
  | _=>none
 | .idx sz x i=>match ev x,ev i with
  | .sl sz' xX,.int _ n=>if sz=sz'/\0<=n/\n<xX.length then some (.ptr (xX.getD n.toNat [])) else none
  | .zZ key sz' len,.int _ n=>if sz=sz'/\0<=n/\n<len then some (.ref key sz n.toNat 0) else none
  | .sub key sz' lo len,.int _ n=>if sz=sz'/\0<=n/\n<len then some (.ref key sz (lo+n.toNat) 0) else none
  | _,_=>none
 | .build zero parts=>(kY zero (parts.map λp=>(p.1,p.2.1,ev p.2.2))).map .agg
 | .wW sz len zero parts=>match oF sz (List.replicate len zero) (parts.map λp=>(p.1,ev p.2)) with
  | some es=>if (es.all D.xR)= true then some (.sl sz es) else none
  | none=>none
 | .len x=>match ev x with
  | .sl _ xX=>some (.int .i64 xX.length)
  | .zZ _ _ n=>some (.int .i64 n)
  | .sub _ _ _ n=>some (.int .i64 n)
  | .xY=>some (.int .i64 0)
  | .emp=>some (.int .i64 0)
  | _=>none
 | .mn x y=>match ev x,ev y with
  | .int k a,.int k' b=>if k=k' then some (.int k (if b<a then b else a)) else none
  | _,_=>none
 | .mx x y=>match ev x,ev y with
  | .int k a,.int k' b=>if k=k' then some (.int k (if b > a then b else a)) else none
  | _,_=>none
 | .cK x i=>match ev x with
  | .yN vs=>if i<vs.length then some (vs.getD i .top) else none
  | _=>none
 | .xv f caps=>some (.fn f (caps.map ev))
 | .load n ag x=>wa σ n ag (ev x)
 | .cR sz x lo hi=>cp sz (ev x) (lo.map ev) (hi.map ev)
 | .call fn args=>match ev fn with
  | .fn g caps=>xb call σ g (args.map ev++caps)
  | _=>none
 | .jv x=>match ev x with
  | .ref key sz i off=>some (.ref key sz i off)
  | .ptr cs=>some (.ptr cs)
  | .fn f cs=>some (.fn f cs)
  | _=>none
 | .nH zero ok m k=>pt σ zero ok (ev m) (ev k)
 | .oG n zero ok m k=>match ev m,ev k with
  | .yU key,.agg cs=>match σ.get key,rT cs with
   | some o,some x=>match gM o.xX with
    | some l=>if o.sz=0/\x.length=n/\(l.all λp=>p.1.length==n)= true then some (tR ok zero (pH x l 0)) else none
    | none=>none
   | _,_=>none
  | _,_=>none
 | _=>none
theorem bC {C:Cx} {σ:St} {ev:yG->D} {n:Nat} {ag:Bool} {x:yG} {d:D} (h:wa σ n ag (ev x)= some d) {K:D->Prop} (hK:K d):pW C σ ev (.load n ag x) K:=by
 simp only [pW];unfold wa at h
 split at h
 ·rename_i key sz i off he;rw [he];simp only
  split at h
  ·rename_i o ho;rw [ho];simp only
   split at h
   ·rename_i hc;simp at h; subst h;exact⟨hc.1,hc.2.1,hc.2.2.1,hc.2.2.2,hK⟩
   ·cases h
  ·cases h
 ·rename_i cs he;rw [he];simp only
  split at h
  ·rename_i hc;simp at h; subst h;exact⟨hc.1,hc.2,hK⟩
  ·cases h
 ·cases h
theorem ix {C:Cx} {σ:St} {ev:yG->D} {sz:Nat} {x:yG} {lo hi:Option yG} {d:D} (h:cp sz (ev x) (lo.map ev) (hi.map ev)= some d) {K:D->Prop} (hK:K d):pW C σ ev (.cR sz x lo hi) K:=by
 have hh:∀ {n:Nat} {m:Int},e7 n (hi.map ev)= some m->(match hi.map ev with | none=>m=n | some (.int _ q)=>m=q | some _=>False):=λ{n m} he=>by
  unfold e7 at he
  split at he
  ·rename_i e0; rw [e0]; simp at he; exact he.symm
  ·rename_i e0; rw [e0]; simp at he; exact he.symm
  ·cases he
 simp only [pW];unfold cp at h
 split at h
 ·rename_i sz' xX he;rw [he];simp only
  split at h
  ·rename_i l m h1 h2
   split at h
   ·rename_i hc;simp at h; subst h;exact⟨hc.1,l,m,h1,hh h2,hc.2.1,hc.2.2.1,hc.2.2.2,hK⟩
   ·cases h
  ·cases h
 ·rename_i key sz' len he;rw [he];simp only
  split at h
  ·rename_i l m h1 h2
   split at h
   ·rename_i hc;simp only [Option.some.injEq] at h; subst h;exact⟨hc.1,l,m,h1,hh h2,hc.2.1,hc.2.2.1,hc.2.2.2,hK⟩
   ·cases h
  ·cases h
 ·cases h
theorem ld {C:Cx} {σ:St} {ev:yG->D} {zero:D} {ok:Bool} {m k:yG} {d:D} (h:pt σ zero ok (ev m) (ev k)= some d) {K:D->Prop} (hK:K d):pW C σ ev (.nH zero ok m k) K:=by
 simp only [pW];unfold pt at h
 split at h
 ·rename_i key kk x h1 h2;rw [h1,h2];simp only
  split at h
  ·rename_i o ho;rw [ho];simp only
   split at h
   ·rename_i hc;simp at h; subst h;exact⟨hc.1,mN hc.2,hK⟩
   ·cases h
  ·cases h
 ·rename_i h1 h2;rw [h1,h2];simp at h; subst h;exact hK
 ·cases h
theorem ed {C:Cx} {call:yQ} (hc:uY C.P call) {σ:St} {ev:yG->D}:∀ {k:DK} {d:D},pE call σ ev k=some d->∀ {K:D->Prop},K d->pW C σ ev k K
 | .load n ag x,d,h,K,hK=>bC h hK
 | .cR sz x lo hi,d,h,K,hK=>ix h hK
 | .nH zero ok m k,d,h,K,hK=>ld h hK
 | .bin op x y,d,h,K,hK=>by
  simp only [pE] at h;simp only [pW]
  split at h
  ·rename_i h1 h2;rw [h1,h2];exact fm h hK
  ·cases h
 | .call fn args,d,h,K,hK=>by
  simp only [pE] at h;simp only [pW]
  split at h
  ·rename_i h1;rw [h1];exact⟨d,tn hc h,hK⟩
  ·cases h
 | .oG n zero ok m k,d,h,K,hK=>by
  simp only [pE] at h;simp only [pW]
  split at h
  ·rename_i key cs h1 h2;rw [h1,h2];simp only
   split at h
   ·rename_i o x h3 h4;rw [h3];simp only
    split at h
    ·rename_i l h5
     split at h
     ·rename_i h6;simp at h; subst h;exact⟨h6.1,x,l,⟨vJ h4,jJ h5,h6.2.1,λp hp=>by have:=List.all_eq_true.1 h6.2.2 p hp; simpa using this⟩,hK⟩
     ·cases h
    ·cases h
   ·cases h
  ·cases h
 | .build zero parts,d,h,K,hK=>by simp only [pE] at h;simp only [pW];rw [γ] at h;obtain⟨cs,h1,rfl⟩:=h;rw [h1];exact hK
 | .mv x,d,h,K,hK=>by simp only [pE,Option.some.injEq] at h; subst h; exact hK
 | .xv f caps,d,h,K,hK=>by simp only [pE,Option.some.injEq] at h; subst h; exact hK
 | .pick c a b,d,h,K,hK=>by
  simp only [pE] at h;simp only [pW]
  split at h
  ·rename_i t h1;rw [h1];simp only;split at h <;> (simp only [Option.some.injEq] at h; subst h; simp_all)
  ·cases h
 | .qC neg x y,d,h,K,hK=>by simp only [pE] at h;simp only [pW];split at h <;> (first | (rename_i h1 h2; rw [h1,h2]; simp only [Option.some.injEq] at h; subst h; exact hK) | cases h)
 | .beq ..,d,h,K,hK | .nt _,d,h,K,hK | .neg _,d,h,K,hK | .ct _,d,h,K,hK | .conv ..,d,h,K,hK | .len _,d,h,K,hK | .jv _,d,h,K,hK=>by simp only [pE] at h;simp only [pW];split at h <;> first | (simp only [Option.some.injEq] at h; subst h; simp_all; done) | cases h
 | .geq neg n x y,d,h,K,hK=>by
  simp only [pE] at h;simp only [pW]
  split at h
  ·rename_i cs ds h1 h2;rw [h1,h2];simp only
   split at h
   ·rename_i xs ys h3 h4;rw [h3,h4];simp only
    split at h
    ·rename_i h5;simp only [Option.some.injEq] at h; subst h;exact⟨h5.1,h5.2,hK⟩
    ·cases h
   ·cases h
  ·cases h
 | .cM x,d,h,K,hK=>by
  simp only [pE] at h;simp only [pW]
  split at h
  ·rename_i key h1;rw [h1];simp only
   split at h
   ·rename_i o ho;rw [ho];simp only
    split at h
    ·rename_i h5;simp only [Option.some.injEq] at h; subst h;exact⟨h5.1,h5.2,hK⟩
    ·cases h
   ·cases h
  ·cases h
 | .qj off x,d,h,K,hK=>by
  simp only [pE] at h;simp only [pW]
  split at h
  ·rename_i h1;rw [h1];simp only [Option.some.injEq] at h; subst h;exact hK
  ·rename_i h1;rw [h1];simp only
   split at h
   ·rename_i h5;simp only [Option.some.injEq] at h; subst h;exact⟨h5,hK⟩
   ·cases h
  ·cases h
 | .xg off n ag x,d,h,K,hK=>by
  simp only [pE] at h;simp only [pW]
  split at h
  ·rename_i h1;rw [h1];simp only
   split at h
   ·rename_i h5;simp only [Option.some.injEq] at h; subst h;exact⟨h5.1,h5.2,hK⟩
   ·cases h
  ·cases h
 | .idx sz x i,d,h,K,hK=>by
  simp only [pE] at h;simp only [pW];split at h
  case h_4=>cases h
  all_goals
   rename_i h1 h2;rw [h1,h2];simp only
   split at h
   ·rename_i h5;simp only [Option.some.injEq] at h; subst h;exact⟨h5.1,h5.2.1,h5.2.2,hK⟩
   ·cases h
 | .wW sz len zero parts,d,h,K,hK=>by
  simp only [pE] at h;simp only [pW]
  split at h
  ·rename_i es h1;rw [h1];simp only
   split at h
   ·rename_i h5;simp only [Option.some.injEq] at h; subst h;exact⟨h5,hK⟩
   ·cases h
  ·cases h
 | .mn x y,d,h,K,hK | .mx x y,d,h,K,hK=>by
  simp only [pE] at h;simp only [pW]
  split at h
  ·rename_i h1 h2;rw [h1,h2];simp only
   split at h
   ·rename_i h5;simp only [Option.some.injEq] at h; subst h;exact⟨h5,hK⟩
   ·cases h
  ·cases h
 | .cK x i,d,h,K,hK=>by
  simp only [pE] at h;simp only [pW]
  split at h
  ·rename_i h1;rw [h1];simp only
   split at h
   ·rename_i h5;simp only [Option.some.injEq] at h; subst h;exact⟨h5,hK⟩
   ·cases h
  ·cases h
 | .box _,d,h,K,hK | .alloc _,d,h,K,hK | .store ..,d,h,K,hK | .app ..,d,h,K,hK | .pP ..,d,h,K,hK | .tT ..,d,h,K,hK | .cQ ..,d,h,K,hK | .gP,d,h,K,hK | .qU ..,d,h,K,hK | .tD ..,d,h,K,hK | .nY ..,d,h,K,hK | .nZ ..,d,h,K,hK | .xm ..,d,h,K,hK=>by simp [pE] at h
end Go.Pd
