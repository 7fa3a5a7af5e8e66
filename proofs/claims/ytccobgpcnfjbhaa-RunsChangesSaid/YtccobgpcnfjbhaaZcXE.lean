/- Part XE. -/
import Derived.Test.YtccobgpcnfjbhaaZcXS
import Derived.Test.YtccobgpcnfjbhaaZcX9
import Derived.RangeFuncIn
import Derived.RangeFuncRecord
import Derived.RangeFuncSeq
set_option linter.unusedSectionVars false
set_option linter.unusedVariables false
set_option linter.unusedSimpArgs false
set_option linter.defProp false
set_option maxRecDepth 20000
set_option maxHeartbeats 1000000
open Option renaming map_eq_some_iff->γ
open Array renaming getElem?_eq_some_iff->δ
open Nat renaming le_refl->ε
namespace Go.Pd
open Go
variable [vZ]
structure Fn where
 n:Nat
 code:DC
 res:List pT
 own:List Nat
inductive Ex where
 | normal
 | exit (id:Nat)
 | ret
def Ex.to : Ex->Exit
 | .normal=>.normal
 | .exit i=>.exit i
 | .ret=>.ret
def ZP (op:BinOp) (k:IntKind) (a:Int) (k':IntKind) (b:Int):Option D:=
 match op with
 | .shl=>if 0<=b then some (.int k (ig k a b)) else none
 | .shr=>if 0<=b then some (.int k (ur k a b)) else none
 | .quo=>if k=k'/\b≠0 then some (.int k (k.wrap (a.tdiv b))) else none
 | .rem=>if k=k'/\b≠0 then some (.int k (a.tmod b)) else none
 | .add=>if k=k' then some (.int k (k.wrap (a+b))) else none
 | .sub=>if k=k' then some (.int k (k.wrap (a-b))) else none
 | .mul=>if k=k' then some (.int k (k.wrap (a*b))) else none
 | .and=>if k=k' then some (.int k (oA .and k a b)) else none
 | .or=>if k=k' then some (.int k (oA .or k a b)) else none
 | .xor=>if k=k' then some (.int k (oA .xor k a b)) else none
 | .andNot=>if k=k' then some (.int k (oA .andNot k a b)) else none
 | .eql=>if k=k' then some (.bool (a==b)) else none
 | .neq=>if k=k' then some (.bool (a != b)) else none
 | .lss=>if k=k' then some (.bool (decide (a<b))) else none
 | .leq=>if k=k' then some (.bool (decide (a<=b))) else none
 | .gtr=>if k=k' then some (.bool (decide (a > b))) else none
 | .geq=>if k=k' then some (.bool (decide (a >= b))) else none
theorem YD {op:BinOp} {k:IntKind} {a:Int} {k':IntKind} {b:Int} {d:D} (h:ZP op k a k' b=some d) {K:D->Prop} (hK:K d):sU op k a k' b K:=by cases op <;> simp only [ZP] at h <;> split at h <;> simp at h <;> subst h <;> simp_all [sU]
def R9 (φ:D->Option D) (sz:Nat) (xX:List (List D)):Option (List (List D)):=zP (λrow=>if row.length=sz then zP φ row else none) xX
def fz (σ:St):Nat->D->Option D
 | 0,_=>none
 | n+1,d=>if d.xJ=true then some d else match d with
  | .agg cs=>(zP (fz σ n) cs).map .agg
  | .fn f cs=>(zP (fz σ n) cs).map (.fn f)
  | .yW key sz len=>match σ.get key with
   | some ob=>if 0<sz/\ob.sz=sz/\len<=ob.xX.length then(R9 (fz σ n) sz (ob.xX.take len)).map (.sl sz) else none
   | none=>none
  | .ref key sz i off=>match σ.get key with
   | some ob=>if ob.sz=sz/\i<ob.xX.length/\off<sz/\(ob.xX.getD i []).length=sz then(zP (fz σ n) ((ob.xX.getD i []).drop off)).map .ptr else none
   | none=>none
  | _=>none
theorem rF {σ:St} {φ:D->Option D} (hφ:∀ d d',φ d=some d'->Seen σ (λ_=>False) d d'):∀ {cs ds:List D},zP φ cs=some ds->oG σ (λ_=>False) cs ds
 | [],ds,h=>by simp [zP] at h; subst h; trivial
 | c :: cs,ds,h=>by
  unfold zP at h
  split at h
  ·rename_i b bs h1 h2;simp at h; subst h;exact⟨hφ _ _ h1,rF hφ h2⟩
  ·cases h
theorem qd {σ:St}:∀ (n:Nat) (d d':D),fz σ n d=some d'->Seen σ (λ_=>False) d d'
 | 0,d,d',h=>by simp [fz] at h
 | n + 1,d,d',h=>by
  have ih:=qd (σ:=σ) n;unfold fz at h
  split at h
  ·rename_i hp;simp at h; subst h;exact Seen.pure hp
  split at h
  ·rw [γ] at h;obtain⟨cs,h1,rfl⟩:=h;exact Seen.agg (rF ih h1)
  ·rw [γ] at h;obtain⟨cs,h1,rfl⟩:=h;exact Seen.fn (rF ih h1)
  ·split at h
   ·rename_i key sz len _ _ ob hob
    split at h
    ·rename_i hc;rw [γ] at h;obtain⟨xX,h1,rfl⟩:=h;obtain⟨l1,l2⟩:=yC h1;have hl:xX.length=len:=by rw [l1,List.length_take]; omega
     have row:∀ i,i<len->∃ r,xX.getD i []=r/\(ob.xX.getD i []).length=sz/\zP (fz σ n) (ob.xX.getD i [])= some r:=λi hi=>by
      have hi':i<ob.xX.length:=by omega
      obtain⟨b,h2,h3⟩:=l2 i (ob.xX.getD i []) (by simp [List.getD,hi',hi])
      split at h3
      ·rename_i h4;exact⟨b,by simp [List.getD,h2],h4,h3⟩
      ·cases h3
     refine Seen.yW hob id hc.1 hc.2.1 hc.2.2 hl (λe he=>?_) λi hi j hj=>?_
     ·obtain⟨i,hi,rfl⟩:=List.getElem_of_mem he;obtain⟨r,r1,r2,r3⟩:=row i (by omega);have:xX[i]=r:=by rw [<- r1]; simp [List.getD,hi]
      rw [this,(yC r3).1,r2]
     ·obtain⟨r,r1,r2,r3⟩:=row i hi;rw [r1];exact(rF ih r3).at_ j (by rw [(yC r3).1]; omega)
    ·cases h
   ·cases h
  ·split at h
   ·rename_i key sz i off _ _ ob hob
    split at h
    ·rename_i hc;rw [γ] at h;obtain⟨cs,h1,rfl⟩:=h;have hl:=(yC h1).1;rw [List.length_drop] at hl;refine Seen.ref hob id hc.1 hc.2.1 (by omega) (by omega) λj hj=>?_;have:=(rF ih h1).at_ j hj;have e:((ob.xX.getD i []).drop off).getD j .top=(ob.xX.getD i []).getD (off+j) .top:=by simp [List.getD,List.getElem?_drop]
     rwa [e] at this
    ·cases h
   ·cases h
  ·cases h
theorem xS.gc {P:Program} {g:FuncId} {args:List D} {σ σ1:St} {d:D} {objs':List (Nat × Ob)} (h:xS P g args σ d σ1) (hs:∀ k o,St.look objs' k=some o->σ1.get k=some o):xS P g args σ d ⟨σ1.nx,objs'⟩:=by refine⟨h.ord,λM0 w ι vals hS hl hv=>(h.run M0 w ι vals hS hl hv).mono λe w' hh=>?_⟩;obtain⟨v,ι',rfl,k1,k2,k3,k4,k5,k6⟩:=hh;exact⟨v,ι',rfl,k1,k2.sub hs,k3,k4,λk o hk=>k5 k o (hs k o hk),k6.yR (λ_ _ _=>rfl) (λb _ hb=>hb.imp id λ⟨k,o,h1,h2⟩=>⟨k,o,hs k o h1,h2⟩) (λ_ cur _ h=>⟨cur,h,rfl⟩) (λ_ _=>rfl) (ε _)⟩
theorem xS.aR {P:Program} {g:FuncId} {args:List D} {σ1:St} {d:D} (h:xS P g args mR d σ1) (hp:d.xJ=true):yA P g args d:=by
 refine⟨h.ord,λM0 w ι vals hS hl hv=>(h.run M0 w ι vals hS hl hv).mono λe w' hh=>?_⟩;obtain⟨v,ι',rfl,k1,k2,k3,k4,k5,k6⟩:=hh;have k2':yG M0 w' ⟨σ1.nx,[]⟩ ι':=k2.sub (objs':=[]) λk o hk=>by cases hk
 refine⟨v,ι',rfl,k1,⟨k2'.uD,(λk o hk=>by cases hk),(λk k' o o' hk=>by cases hk),(λk o hk=>by cases hk),k2'.rZ⟩,ε _,k4,(λk o hk=>by cases hk),.pure ?_⟩;exact(k6.iN hp).yR (λ_ _ _=>rfl) λb _ hb=>hb.elim .inl λ⟨k,o,h1,h2⟩=>by cases h1
theorem xS.pz {P:Program} {g:FuncId} {args:List D} {σ1:St} {d d':D} (h:xS P g args mR d σ1) (hd:Seen σ1 (λ_=>False) d d'):yA P g args d':=by
 refine⟨h.ord,λM0 w ι vals hS hl hv=>(h.run M0 w ι vals hS hl hv).mono λe w' hh=>?_⟩;obtain⟨v,ι',rfl,k1,k2,k3,k4,k5,k6⟩:=hh;have k2':yG M0 w' ⟨σ1.nx,[]⟩ ι':=k2.sub (objs':=[]) λk o hk=>by cases hk
 refine⟨v,ι',rfl,k1,⟨k2'.uD,(λk o hk=>by cases hk),(λk k' o o' hk=>by cases hk),(λk o hk=>by cases hk),k2'.rZ⟩,ε _,k4,(λk o hk=>by cases hk),.pure ?_⟩;exact(hd M0 w' ι' v k2 k6).yR (λ_ _ _=>rfl) λb _ hb=>hb.elim .inl λ⟨k,o,h1,h2⟩=>by cases h1
def iC {α:Type} (φ:α->α->Bool):List α->List α->Bool
 | [],[]=>true
 | a :: l,b :: m=>φ a b&&iC φ l m
 | _,_=>false
theorem kA {α:Type} {φ:α->α->Bool} (hφ:∀ a b,φ a b=true->a=b):∀ {l m:List α},iC φ l m=true->l=m
 | [],[],_=>rfl
 | a :: l,b :: m,h=>by simp only [iC,Bool.and_eq_true] at h;rw [hφ _ _ h.1,kA hφ h.2]
 | [],_ :: _,h=>by simp [iC] at h
 | _ :: _,[],h=>by simp [iC] at h
def ja : Nat->D->D->Bool
 | n+1,.sl s e,.sl s' e'=>decide (s=s')&& iC (iC (ja n)) e e'
 | n+1,.agg a,.agg b=>iC (ja n) a b
 | n+1,.yE a,.yE b=>iC (ja n) a b
 | n+1,.fn f a,.fn g b=>decide (f=g)&& iC (ja n) a b
 | n+1,.ptr a,.ptr b=>iC (ja n) a b
 | _,.top,.top=>true
 | _,.vB,.vB=>true
 | _,.int k n,.int k' n'=>decide (k=k')&& decide (n=n')
 | _,.bool a,.bool b=>decide (a=b)
 | _,.xZ,.xZ=>true
 | _,.emp,.emp=>true
 | _,.ref a b c d,.ref a' b' c' d'=>decide (a=a')&& decide (b=b')&& decide (c=c')&& decide (d=d')
 | _,.yW a b c,.yW a' b' c'=>decide (a=a')&& decide (b=b')&& decide (c=c')
 | _,.sub a b c d,.sub a' b' c' d'=>decide (a=a')&& decide (b=b')&& decide (c=c')&& decide (d=d')
 | _,.zZ a,.zZ a'=>decide (a=a')
 | _,.sG,.sG=>true
 | _,.tX,.tX=>true
 | _,.uU,.uU=>true
 | _,_,_=>false
theorem aJ : ∀ (n:Nat) (a b:D),ja n a b=true->a=b
 | 0,a,b,h=>by cases a <;> cases b <;> simp [ja] at h <;> simp [h]
 | n+1,a,b,h=>by
  have ih:=aJ n
  cases a <;> cases b <;> simp only [ja,Bool.and_eq_true,decide_eq_true_eq,Bool.false_eq_true] at h <;>
   first
   | rfl
   | (rw [kA ih h]; done)
   | (rw [h.1,kA ih h.2]; done)
   | (rw [h.1,kA (λ_ _ h=>kA ih h) h.2]; done)
   | simp [h]
def uk (f g:Fr):Bool:=iC (λp q=>decide (p.1=q.1)&& ja 30 p.2 q.2) f g
theorem nF {f g:Fr} (h:uk f g=true):f=g:=kA (λa b h=>by simp only [Bool.and_eq_true,decide_eq_true_eq] at h;exact Prod.ext h.1 (aJ _ _ _ h.2)) h
abbrev zI :=FuncId->List D->St->Option (D × St)
def uh (call:zI) (σ:St) (g:FuncId) (args:List D):Option D:=
 if D.xT args=true then match call g args mR with
  | some (d,σ1)=>if d.xJ=true then some d else fz σ1 30 d
  | none=>none
 else match zP (fz σ 30) args with
  | some args'=>match call g args' mR with
   | some (d,_)=>if d.flat=true/\d.xJ=true then some d else none
   | none=>none
  | none=>none
def gp (call:zI) (σ:St) (g:FuncId) (args:List D):Option (D × St):=
 if D.xT args=true then match call g args mR with
  | some (d,σ1)=>if d.xJ=true then some (d,σ) else some (d.shift σ.nx,⟨σ.nx+σ1.nx,yN σ.nx σ1.xW++σ.xW⟩)
  | none=>none
 else call g args σ
def tC (P:Program) (call:zI):Prop:=∀ g args σ d σ',call g args σ=some (d,σ')->xS P g args σ d σ'
theorem nh {P:Program} {call:zI} (hc:tC P call) {σ:St} {g:FuncId} {args:List D} {d:D} (h:uh call σ g args=some d):xS P g args σ d σ:=by
 unfold uh at h
 split at h
 ·rename_i hp
  split at h
  ·rename_i d1 σ1 h1
   split at h
   ·rename_i h2;simp at h; subst h;exact xS.vV ((hc _ _ _ _ _ h1).aR h2) hp
   ·exact xS.vV ((hc _ _ _ _ _ h1).pz (qd 30 _ _ h)) hp
  ·cases h
 ·split at h
  ·rename_i args' h0
   split at h
   ·rename_i d1 σ1 h1
    split at h
    ·rename_i h2;simp at h; subst h;exact xS.Ve ((hc _ _ _ _ _ h1).aR h2.2) (rF (qd 30) h0) h2.1
    ·cases h
   ·cases h
  ·cases h
theorem al {P:Program} {call:zI} (hc:tC P call) {σ:St} {g:FuncId} {args:List D} {d:D} {σ':St} (h:gp call σ g args=some (d,σ')):xS P g args σ d σ':=by
 unfold gp at h
 split at h
 ·rename_i hp
  split at h
  ·rename_i d1 σ1 h1
   split at h
   ·rename_i h2;simp at h;obtain⟨rfl,rfl⟩:=h;exact xS.vV ((hc _ _ _ _ _ h1).aR h2) hp
   ·simp at h;obtain⟨rfl,rfl⟩:=h;exact xS.own (hc _ _ _ _ _ h1) hp
  ·cases h
 ·exact hc _ _ _ _ _ h
def yi (kk:IntKind):List (List D)->Bool
 | []=>true
 | [.int k _,_] :: r=>if k=kk then yi kk r else false
 | _=>false
theorem kV {kk:IntKind}:∀ {xX:List (List D)},yi kk xX=true->pQ kk xX
 | [],_=>λrow h=>by cases h
 | e :: r,h=>by
  unfold yi at h
  split at h
  ·rename_i heq; cases heq
  ·rename_i k n d r' heq;cases heq
   split at h
   ·rename_i hk;subst hk;intro row hrow
    rcases List.mem_cons.1 hrow with rfl | hrow
    ·exact⟨n,d,rfl⟩
    ·exact kV h row hrow
   ·cases h
  ·cases h
def cO : List (List D)->Option (List (List Int × D))
 | []=>some []
 | [.agg cs,d] :: r=>match qD cs,cO r with
  | some x,some l=>some ((x,d) :: l)
  | _,_=>none
 | _=>none
theorem fU : ∀ {xX:List (List D)} {l:List (List Int × D)},cO xX=some l->xX=lK l
 | [],l,h=>by simp [cO] at h; subst h; rfl
 | e :: r,l,h=>by
  unfold cO at h
  split at h
  ·rename_i heq; cases heq
  ·rename_i cs d r' heq;cases heq
   split at h
   ·rename_i x l' h1 h2;simp at h; subst h;rw [tN h1,fU h2];rfl
   ·cases h
  ·cases h
def VQ (n:Nat):Option D->Option Int
 | none=>some n
 | some (.int _ m)=>some m
 | _=>none
def ZW (sz:Nat) (x:D) (lo hi:Option D):Option D:=
 match x with
 | .sl sz' xX=>match Y3 lo,VQ xX.length hi with
  | some l,some h=>if sz=sz'/\0<=l/\l<=h/\h<=xX.length then some (.sl sz ((xX.take h.toNat).drop l.toNat)) else none
  | _,_=>none
 | .yW key sz' len=>match Y3 lo,VQ len hi with
  | some l,some h=>if sz=sz'/\0<=l/\l<=h/\h<=len then some (if l=0 then .yW key sz h.toNat else if l=h then .emp else .sub key sz l.toNat (h.toNat-l.toNat)) else none
  | _,_=>none
 | _=>none
def qe (σ:St) (n:Nat) (ag:Bool) (x:D):Option D:=
 match x with
 | .ref key sz i off=>match σ.get key with
  | some o=>if o.sz=sz/\i<o.xX.length/\off+n<=sz/\(ag=true\/n=1) then some (uL ag (((o.xX.getD i []).drop off).take n)) else none
  | none=>none
 | .ptr cs=>if n<=cs.length/\(ag=true\/n=1) then some (uL ag (cs.take n)) else none
 | _=>none
def gr (σ:St) (zero:D) (ok:Bool) (m k:D):Option D:=
 match m,k with
 | .zZ key,.int kk x=>match σ.get key with
  | some o=>if o.sz=0/\yi kk o.xX=true then some (qR ok zero (tE x o.xX 0)) else none
  | none=>none
 | .tX,.int _ _=>some (qR ok zero none)
 | _,_=>none
def pE (call:zI) (σ:St) (ev:wY->D):DK->Option D
 | .mv x=>some (ev x)
 | .pick c a b=>match ev c with
  | .bool t=>if t=true then some (ev a) else some (ev b)
  | _=>none
 | .bin op x y=>match ev x,ev y with
  | .int k a,.int k' b=>ZP op k a k' b
  | _,_=>none
 | .beq neg x y=>match ev x,ev y with
  | .bool a,.bool b=>some (.bool (if neg then a != b else a==b))
  | _,_=>none
 | .pR neg x y=>match ev x,ev y with
  | .xZ,.xZ=>some (.bool (!neg))
  | .yW ..,.xZ=>some (.bool neg)
  | .emp,.xZ=>some (.bool neg)
  | .sl _ (_ :: _),.xZ=>some (.bool neg)
  | _,_=>none
 | .nt x=>match ev x with
  | .bool b=>some (.bool (!b))
  | _=>none
 | .neg x=>match ev x with
  | .int k a=>some (.int k (k.wrap (0-a)))
  | _=>none
 | .ZX x=>match ev x with
  | .int k a=>some (.int k (oA .xor k (if k.signed then -1 else k.max) a))
  | _=>none
 | .geq neg n x y=>match ev x,ev y with
  | .agg cs,.agg ds=>match qD cs,qD ds with
   | some xs,some ys=>if xs.length=n/\ys.length=n then some (.bool (if neg then !decide (xs=ys) else decide (xs=ys))) else none
   | _,_=>none
  | _,_=>none
 | .yw x=>match ev x with
  | .zZ key=>match σ.get key with
   | some o=>if o.sz=0/\o.xX.length<=1000000 then some (.int .i64 o.xX.length) else none
   | none=>none
  | _=>none
 | .conv k x=>match ev x with
  | .int _ n=>some (.int k (k.wrap n))
  | _=>none
 | .il off x=>match ev x with
  | .ref key sz i o=>some (.ref key sz i (o+off))
  | .ptr cs=>if off<cs.length then some (.ptr (cs.drop off)) else none
  | _=>none
 | .um off n ag x=>match ev x with
  | .agg cs=>if off+n<=cs.length/\(ag=true\/n=1) then some (uL ag ((cs.drop off).take n)) else none
  | _=>none
 | .idx sz x i=>match ev x,ev i with
  | .sl sz' xX,.int _ n=>if sz=sz'/\0<=n/\n<xX.length then some (.ptr (xX.getD n.toNat [])) else none
  | .yW key sz' len,.int _ n=>if sz=sz'/\0<=n/\n<len then some (.ref key sz n.toNat 0) else none
  | .sub key sz' lo len,.int _ n=>if sz=sz'/\0<=n/\n<len then some (.ref key sz (lo+n.toNat) 0) else none
  | _,_=>none
 | .build zero parts=>(jD zero (parts.map λp=>(p.1,p.2.1,ev p.2.2))).map .agg
 | .zG sz len zero parts=>match mM sz (List.replicate len zero) (parts.map λp=>(p.1,ev p.2)) with
  | some es=>if (es.all D.xT)= true then some (.sl sz es) else none
  | none=>none
 | .len x=>match ev x with
  | .sl _ xX=>some (.int .i64 xX.length)
  | .yW _ _ n=>some (.int .i64 n)
  | .sub _ _ _ n=>some (.int .i64 n)
  | .xZ=>some (.int .i64 0)
  | .emp=>some (.int .i64 0)
  | _=>none
 | .mn x y=>match ev x,ev y with
  | .int k a,.int k' b=>if k=k' then some (.int k (if b<a then b else a)) else none
  | _,_=>none
 | .mx x y=>match ev x,ev y with
  | .int k a,.int k' b=>if k=k' then some (.int k (if b > a then b else a)) else none
  | _,_=>none
 | .yu x i=>match ev x with
  | .yE vs=>if i<vs.length then some (vs.getD i .top) else none
  | _=>none
 | .iP f caps=>some (.fn f (caps.map ev))
 | .load n ag x=>qe σ n ag (ev x)
 | .cR sz x lo hi=>ZW sz (ev x) (lo.map ev) (hi.map ev)
 | .call fn args=>match ev fn with
  | .fn g caps=>uh call σ g (args.map ev++caps)
  | _=>none
 | .jb x=>match ev x with
  | .ref key sz i off=>some (.ref key sz i off)
  | .ptr cs=>some (.ptr cs)
  | .fn f cs=>some (.fn f cs)
  | _=>none
 | .oC zero ok m k=>gr σ zero ok (ev m) (ev k)
 | .nY n zero ok m k=>match ev m,ev k with
  | .zZ key,.agg cs=>match σ.get key,qD cs with
   | some o,some x=>match cO o.xX with
    | some l=>if o.sz=0/\x.length=n/\(l.all λp=>p.1.length==n)= true then some (qR ok zero (nU x l 0)) else none
    | none=>none
   | _,_=>none
  | _,_=>none
 | _=>none
theorem wz {C:Cx} {σ:St} {ev:wY->D} {n:Nat} {ag:Bool} {x:wY} {d:D} (h:qe σ n ag (ev x)= some d) {K:D->Prop} (hK:K d):pW C σ ev (.load n ag x) K:=by
 simp only [pW];unfold qe at h
 split at h
 ·rename_i key sz i off he;rw [he];simp only
  split at h
  ·rename_i o ho;rw [ho];simp only
   split at h
   ·rename_i hc;simp at h; subst h;exact⟨hc.1,hc.2.1,hc.2.2.1,hc.2.2.2,hK⟩
   ·cases h
  ·cases h
 ·rename_i cs he;rw [he];simp only
  split at h
  ·rename_i hc;simp at h; subst h;exact⟨hc.1,hc.2,hK⟩
  ·cases h
 ·cases h
theorem Yv {C:Cx} {σ:St} {ev:wY->D} {sz:Nat} {x:wY} {lo hi:Option wY} {d:D} (h:ZW sz (ev x) (lo.map ev) (hi.map ev)= some d) {K:D->Prop} (hK:K d):pW C σ ev (.cR sz x lo hi) K:=by
 have hh:∀ {n:Nat} {m:Int},VQ n (hi.map ev)= some m->(match hi.map ev with | none=>m=n | some (.int _ q)=>m=q | some _=>False):=λ{n m} he=>by
  unfold VQ at he
  split at he
  ·rename_i e0; rw [e0]; simp at he; exact he.symm
  ·rename_i e0; rw [e0]; simp at he; exact he.symm
  ·cases he
 simp only [pW];unfold ZW at h
 split at h
 ·rename_i sz' xX he;rw [he];simp only
  split at h
  ·rename_i l m h1 h2
   split at h
   ·rename_i hc;simp at h; subst h;exact⟨hc.1,l,m,h1,hh h2,hc.2.1,hc.2.2.1,hc.2.2.2,hK⟩
   ·cases h
  ·cases h
 ·rename_i key sz' len he;rw [he];simp only
  split at h
  ·rename_i l m h1 h2
   split at h
   ·rename_i hc;simp only [Option.some.injEq] at h; subst h;exact⟨hc.1,l,m,h1,hh h2,hc.2.1,hc.2.2.1,hc.2.2.2,hK⟩
   ·cases h
  ·cases h
 ·cases h
theorem ao {C:Cx} {σ:St} {ev:wY->D} {zero:D} {ok:Bool} {m k:wY} {d:D} (h:gr σ zero ok (ev m) (ev k)= some d) {K:D->Prop} (hK:K d):pW C σ ev (.oC zero ok m k) K:=by
 simp only [pW];unfold gr at h
 split at h
 ·rename_i key kk x h1 h2;rw [h1,h2];simp only
  split at h
  ·rename_i o ho;rw [ho];simp only
   split at h
   ·rename_i hc;simp at h; subst h;exact⟨hc.1,kV hc.2,hK⟩
   ·cases h
  ·cases h
 ·rename_i h1 h2;rw [h1,h2];simp at h; subst h;exact hK
 ·cases h
theorem Zz {C:Cx} {call:zI} (hc:tC C.P call) {σ:St} {ev:wY->D}:∀ {k:DK} {d:D},pE call σ ev k=some d->∀ {K:D->Prop},K d->pW C σ ev k K
 | .load n ag x,d,h,K,hK=>wz h hK
 | .cR sz x lo hi,d,h,K,hK=>Yv h hK
 | .oC zero ok m k,d,h,K,hK=>ao h hK
 | .bin op x y,d,h,K,hK=>by
  simp only [pE] at h;simp only [pW]
  split at h
  ·rename_i h1 h2;rw [h1,h2];exact YD h hK
  ·cases h
 | .call fn args,d,h,K,hK=>by
  simp only [pE] at h;simp only [pW]
  split at h
  ·rename_i h1;rw [h1];exact⟨d,nh hc h,hK⟩
  ·cases h
 | .nY n zero ok m k,d,h,K,hK=>by
  simp only [pE] at h;simp only [pW]
  split at h
  ·rename_i key cs h1 h2;rw [h1,h2];simp only
   split at h
   ·rename_i o x h3 h4;rw [h3];simp only
    split at h
    ·rename_i l h5
     split at h
     ·rename_i h6;simp at h; subst h;exact⟨h6.1,x,l,⟨tN h4,fU h5,h6.2.1,λp hp=>by have:=List.all_eq_true.1 h6.2.2 p hp; simpa using this⟩,hK⟩
     ·cases h
    ·cases h
   ·cases h
  ·cases h
 | .build zero parts,d,h,K,hK=>by simp only [pE] at h;simp only [pW];rw [γ] at h;obtain⟨cs,h1,rfl⟩:=h;rw [h1];exact hK
 | .mv x,d,h,K,hK=>by simp only [pE,Option.some.injEq] at h; subst h; exact hK
 | .iP f caps,d,h,K,hK=>by simp only [pE,Option.some.injEq] at h; subst h; exact hK
 | .pick c a b,d,h,K,hK=>by
  simp only [pE] at h;simp only [pW]
  split at h
  ·rename_i t h1;rw [h1];simp only;split at h <;> (simp only [Option.some.injEq] at h; subst h; simp_all)
  ·cases h
 | .pR neg x y,d,h,K,hK=>by simp only [pE] at h;simp only [pW];split at h <;> (first | (rename_i h1 h2; rw [h1,h2]; simp only [Option.some.injEq] at h; subst h; exact hK) | cases h)
 | .beq ..,d,h,K,hK | .nt _,d,h,K,hK | .neg _,d,h,K,hK | .ZX _,d,h,K,hK | .conv ..,d,h,K,hK | .len _,d,h,K,hK | .jb _,d,h,K,hK=>by simp only [pE] at h;simp only [pW];split at h <;> first | (simp only [Option.some.injEq] at h; subst h; simp_all; done) | cases h
 | .geq neg n x y,d,h,K,hK=>by
  simp only [pE] at h;simp only [pW]
  split at h
  ·rename_i cs ds h1 h2;rw [h1,h2];simp only
   split at h
   ·rename_i xs ys h3 h4;rw [h3,h4];simp only
    split at h
    ·rename_i h5;simp only [Option.some.injEq] at h; subst h;exact⟨h5.1,h5.2,hK⟩
    ·cases h
   ·cases h
  ·cases h
 | .yw x,d,h,K,hK=>by
  simp only [pE] at h;simp only [pW]
  split at h
  ·rename_i key h1;rw [h1];simp only
   split at h
   ·rename_i o ho;rw [ho];simp only
    split at h
    ·rename_i h5;simp only [Option.some.injEq] at h; subst h;exact⟨h5.1,h5.2,hK⟩
    ·cases h
   ·cases h
  ·cases h
 | .il off x,d,h,K,hK=>by
  simp only [pE] at h;simp only [pW]
  split at h
  ·rename_i h1;rw [h1];simp only [Option.some.injEq] at h; subst h;exact hK
  ·rename_i h1;rw [h1];simp only
   split at h
   ·rename_i h5;simp only [Option.some.injEq] at h; subst h;exact⟨h5,hK⟩
   ·cases h
  ·cases h
 | .um off n ag x,d,h,K,hK=>by
  simp only [pE] at h;simp only [pW]
  split at h
  ·rename_i h1;rw [h1];simp only
   split at h
   ·rename_i h5;simp only [Option.some.injEq] at h; subst h;exact⟨h5.1,h5.2,hK⟩
   ·cases h
  ·cases h
 | .idx sz x i,d,h,K,hK=>by
  simp only [pE] at h;simp only [pW];split at h
  case h_4=>cases h
  all_goals
   rename_i h1 h2;rw [h1,h2];simp only
   split at h
   ·rename_i h5;simp only [Option.some.injEq] at h; subst h;exact⟨h5.1,h5.2.1,h5.2.2,hK⟩
   ·cases h
 | .zG sz len zero parts,d,h,K,hK=>by
  simp only [pE] at h;simp only [pW]
  split at h
  ·rename_i es h1;rw [h1];simp only
   split at h
   ·rename_i h5;simp only [Option.some.injEq] at h; subst h;exact⟨h5,hK⟩
   ·cases h
  ·cases h
 | .mn x y,d,h,K,hK | .mx x y,d,h,K,hK=>by
  simp only [pE] at h;simp only [pW]
  split at h
  ·rename_i h1 h2;rw [h1,h2];simp only
   split at h
   ·rename_i h5;simp only [Option.some.injEq] at h; subst h;exact⟨h5,hK⟩
   ·cases h
  ·cases h
 | .yu x i,d,h,K,hK=>by
  simp only [pE] at h;simp only [pW]
  split at h
  ·rename_i h1;rw [h1];simp only
   split at h
   ·rename_i h5;simp only [Option.some.injEq] at h; subst h;exact⟨h5,hK⟩
   ·cases h
  ·cases h
 | .box _,d,h,K,hK | .alloc _,d,h,K,hK | .store ..,d,h,K,hK | .app ..,d,h,K,hK | .pA ..,d,h,K,hK | .sV ..,d,h,K,hK | .yx ..,d,h,K,hK | .iD,d,h,K,hK | .qQ ..,d,h,K,hK | .rR ..,d,h,K,hK | .mF ..,d,h,K,hK | .mE ..,d,h,K,hK | .xa ..,d,h,K,hK=>by simp [pE] at h
end Go.Pd

/- Part XR. -/
namespace Go.Pd
open Go
section
variable [vZ]
def qa (P:Program) (gi:FuncId):Prop:=rX P gi/\∀ (l Bs o b off n cap:Nat) (sa:Option Addr) (va vb:Nat->Value) (J:Nat->World->Prop),n<=maxLen->(0<n->sa=some ⟨b,off,none⟩) ->
 (∀ k W,J k W->W.cell? ⟨Bs,o,none⟩= some (.slice sa n cap)/\ ∀ i,i<n->W.cell? ⟨b,off+i*2,none⟩= some (va i)/\ W.cell? ⟨b,off+i*2+1,none⟩= some (vb i))->(∀ k W,J k W->J k W.drew) ->
 (∀ k W,k<n->J k W->YieldAt Fence.wide 0 P l #[.int .i64 ((n-1-k:Nat):Int),.agg #[va (n-1-k),vb (n-1-k)]] W λe W'=>e = .returned (.bool true)/\ J (k+1) W') ->
 ∀ W,J 0 W->CallsIn Fence.wide 0 P gi #[.func (.yield l) #[] #[],.pointer (some ⟨Bs,o,none⟩)] W λe W'=>(∃ v,e = .returned v)/\ J n W'
variable {C : Cx} {E : Env} {a : Act} {w : World} {f : Fr} {σ : St} {ι : Nat -> Nat}
theorem xC.lay (G:xC C E a w f σ ι) (o:Obj):xC C E a (w.alloc o) f σ ι:=by have hk:=Kept.alloc w o λ_=>False;exact⟨G.size,G.defers.yR rfl hk.size (λD hD=>hk.mark id hD),G.nx,G.kept.trans hk (λ_ _ h=>h) (λ_ _ h=>h.elim),G.qP.ext hk,G.uD,G.tF,G.stay,λt=>(G.fr t).yR (λb hb _=>hk.block b hb id) (λ_ _ h=>h) hk.shape (λ_ _=>rfl) (ε _)⟩
abbrev yt (E:Env) (w:World) (σ:St) (ι:Nat->Nat) (o:Obj):Env:=⟨w.alloc o,λb=>E.M0 b\/b=w.heap.size,λb=>tU ι σ b\/b=w.heap.size,ι,E.B⟩
theorem xC.fe (G:xC C E a w f σ ι) (o:Obj):xC { C with n0:=σ.nx } (yt E w σ ι o) a (w.alloc o) f σ ι:=by
 have hk:=Kept.alloc w o λ_=>False;have hS:=G.qP.W3 o;refine⟨G.size,G.defers.yR rfl hk.size (λD hD=>hk.mark id hD),ε _,Kept.refl _ _,hS,hS.uD,λk o hk=>.inr (.inl ⟨k,o,hk,rfl⟩),λ_ _=>rfl,λt=>(G.fr t).yR (λb hb _=>hk.block b hb id) (λb hb hx=>?_) hk.shape (λ_ _=>rfl) (ε _)⟩
 rcases hx with (hx | hx) | hx
 ·exact .inl hx
 ·omega
 ·exact .inr hx
theorem xC.end_ {a0:Act} {w0:World} {f0:Fr} {σ0:St} {ι0:Nat->Nat} {q0:Obj} (G0:xC C E a0 w0 f0 σ0 ι0) (G:xC { C with n0:=σ0.nx } (yt E w0 σ0 ι0 q0) a w f σ ι):xC C E a w f σ ι:=by
 have hsz:E.w0.heap.size<=w0.heap.size:=G0.kept.size
 have hown:∀ b,tU ι0 σ0 b->E.w0.heap.size<=b\/E.K0 b:=by rintro b ⟨k,o,hk,rfl⟩;exact G0.tF k o hk
 have h1:Kept w0 (w0.alloc q0) λ_=>False:=Kept.alloc w0 q0 _;have hs1:(w0.alloc q0).heap.size=w0.heap.size+1:=by show (w0.heap.push q0).size=_; simp
 have hnx:σ0.nx<=σ.nx:=G.nx;have hnx0:=G0.nx
 refine⟨G.size,G.defers,by omega,?_,G.qP.less λb hb=>.inl hb,G0.uD,λk o hk=>?_,λk hk=>?_,λt=>(G.fr t).yR (λ_ _ _=>rfl) (λb _ hb=>hb.imp .inl id) (λb cur e h=>⟨cur,h,rfl⟩) (λ_ _=>rfl) (ε _)⟩
 ·refine G0.kept.trans (h1.trans G.kept (K'':=λb=>tU ι0 σ0 b\/b=w0.heap.size) (λ_ _ h=>h.elim) λ_ _ h=>h) (λ_ _ h=>h) λb hb hx=>?_
  rcases hx with hx | hx
  ·rcases hown b hx with h | h
   ·omega
   ·exact h
  ·omega
 ·rcases G.tF k o hk with h | h | h
  ·have h':(w0.alloc q0).heap.size<=ι k:=h;left; omega
  ·exact hown _ h
  ·left; rw [h]; exact hsz
 ·have:=G.stay k (show k<σ0.nx by omega);exact this.trans (G0.stay k hk)
theorem xC.back {a2:Act} {w2:World} {f2:Fr} {σ2:St} {ι2:Nat->Nat} {q:Obj} {rd:Option Nat} (hq:∀ x,q≠Obj.deferred x) (G1:xC C E a w f σ ι) (G2:xC { C with n0:=σ.nx,rd:=rd } (yt E w σ ι q) a2 w2 f2 σ2 ι2):xC { C with n0:=σ.nx } (yt E w σ ι q) a w2 f σ2 ι2:=by
 have G:=G1.fe q;have hl:(w.alloc q).heap[w.heap.size]?=some q:=World.alloc_heap_new w q
 refine⟨G.size,G.defers.yR rfl G2.kept.size (λD hD=>G2.kept.mark (λh=>?_) hD),G2.nx,G2.kept,G2.qP,G2.uD,G2.tF,G2.stay,λt=>?_⟩
 ·rcases h with h | h
  ·exact G.qP.lB hD h
  ·rw [h,hl] at hD;exact hq _ (Option.some.inj hD)
 ·refine(G.fr t).yR (λb hb hM=>G2.kept.block b hb λh=>hM (h.elim (λh=>.inr h) λh=>.inl (.inr h))) (λb hb hM=>?_) G2.kept.shape (λk hk=>G2.stay k hk) G2.nx
  rcases hM with hM | ⟨k,o,hk,rfl⟩
  ·exact .inl hM
  ·rcases G2.tF k o hk with h | h | h
   ·have:(w.alloc q).heap.size<=ι2 k:=h;omega
   ·exact .inr h
   ·exact .inl (.inr h)
theorem xC.WO {rd:Option Nat} (G:xC C E a w f σ ι):xC { C with rd:=rd } E a w f σ ι:=⟨G.size,G.defers,G.nx,G.kept,G.qP,G.uD,G.tF,G.stay,G.fr⟩
theorem xC.VY (G:xC C E a w f σ ι):xC C E a w.drew f σ ι:=by have hk:Kept w w.drew λ_=>False:=(Kept.refl _ _).drew;exact⟨G.size,G.defers.yR rfl (ε _) λD hD=>hD,G.nx,G.kept.drew,G.qP.ext hk,G.uD,G.tF,G.stay,G.fr.yR (λb hb _=>rfl) (λ_ _ h=>h) hk.shape (λ_ _=>rfl) (ε _)⟩
theorem xC.bare (G:xC C E a w f σ ι):xC C E { tmps:=a.tmps,defers:=[] } w f σ ι:=⟨G.size,.none rfl G.defers.1,G.nx,G.kept,G.qP,G.uD,G.tF,G.stay,G.fr⟩
theorem xC.gz {b0:Nat} {w':World} (G:xC C E a w f σ ι) (hk:Kept w w' λb=>b=b0) (hM:E.M0 b0) (hK:E.K0 b0) (hd:∀ x,w.heap[b0]?≠some (Obj.deferred x)):xC C E a w' f σ ι:=G.tick hk hM hK hd
theorem yG.pg {M0:Nat->Prop} (hS:yG M0 w σ ι) {D:Nat} {x:Loop} (h:w.heap[D]?=some (Obj.loop x)):¬ tU ι σ D:=by
 rintro ⟨k,o,hk,rfl⟩
 rcases(hS.holds k o hk).2 with ⟨_,cur,e,h1,_⟩ | ⟨_,es,h1,_⟩
 ·rw [h] at h1; cases h1
 ·rw [h] at h1; cases h1
theorem aw {P:Program} {N:Nat} {own:List Nat} {code:Code} {g:wY} {ps:List Nat} {x y:DC} (h:vG P N own code=some (.lQ g ps x y)):∃ g0 ps0 a c,code = .rangeFunc g0 ps0 a c/\xL N g0=some g/\ps0.toList=ps/\vG P N own a=some x/\vG P N own c=some y:=by
 cases code with
 | region id ops draw=>rcases wB h with ⟨_,_,e⟩ | ⟨_,⟨_,_,_,_,e⟩ | ⟨_,_,_,_,e⟩ | ⟨_,_,_,_,e⟩⟩ | ⟨_,_,⟨_,_,_,e⟩,_⟩ <;> cases e
 | rangeFunc g0 ps0 a c=> simp only [vG,zO,DC.lQ.injEq] at h;obtain⟨g',hg,dx,hx,dy,hy,rfl,rfl,rfl,rfl⟩:=h;exact⟨g0,ps0,a,c,rfl,hg,rfl,hx,hy⟩
 | seq a b=> simp only [vG,zO] at h;obtain⟨dx,hx,dy,hy,h⟩:=h;rcases zH dx dy with e | ⟨_,_,_,_,_,_,_,_,_,_,_,_,e,_⟩ <;> rw [e] at h <;> cases h
 | _=>simp [vG,Option.bind_eq_some_iff] at h
theorem zx (hrd:C.rd=none) {g:wY} {p0 p1:Nat} {dx dy:DC} {Q:Exit->Fr->St->Prop} {gi:FuncId} {xX:List (List D)} {els0:D} (hB:qa C.P gi) (hg:uX f g = .fn gi [.ptr [els0]]) (he:els0 = .sl 2 xX\/(els0 = .xZ/\xX = [])) (hp:p0<C.N/\p1<C.N)
  (J:Nat->St->Prop) (h0:J 0 σ)
  (round:∀ l k σk,k<xX.length->J k σk->wpS { C with n0:=σ.nx,rd:=some l } dx ((f.put (some p0) (.int .i64 ((xX.length-1-k:Nat):Int))).put (some p1) (.agg (xX.getD (xX.length-1-k) []))) σk
   (nX (λf1 σ1=>wpS { C with n0:=σ.nx,rd:=some l } dy f1 σ1 λe f2 σ2=>e = .normal/\∃ f3 σ3,yO { C with n0:=σ.nx,rd:=some l } f2 σ2 f3 σ3/\J (k+1) σ3) λ_ _ _=>False))
  (done:∀ σ',J xX.length σ'->Q .normal f σ'):wpS C (.lQ g [p0,p1] dx dy) f σ Q:=by
 intro code hc E a w ⟨ι,G⟩;obtain⟨g0,ps0,x,y,rfl,hg0,hps,hx,hy⟩:=aw hc;obtain rfl:ps0 = #[p0,p1]:=by rw [<- hps]
 obtain⟨vs,hv,hv1,hv2⟩:=(hg ▸ rE G.fr hg0).nV;have hv1':vs.size=1:=hv1;have hvp:=hv2 0 (by show 0<1; omega);obtain⟨Bs,o,vs0,hvB,_,hMB,hcB,hrB⟩:=R.tA (cs:=[els0]) hvp
 have hlb:vs = #[.pointer (some ⟨Bs,o,none⟩)]:=by
  refine Array.ext (by rw [hv1']; rfl) λi h1 h2=>?_;have hi0:i=0:=by rw [hv1'] at h1; omega
  subst hi0;have:vs.getD 0 undef=vs[0]:=by simp [Array.getD,h1]
  rw [this] at hvB;rw [hvB]; rfl
 have hcB0:=hcB 0 (by show 0<1; omega);have hrB0:=hrB 0 (by show 0<1; omega);generalize vs0 0=sv at hcB0 hrB0
 obtain⟨sa,b,off,cap,va,vb,hsv,hnm,hsa,hcel⟩:∃ (sa:Option Addr) (b off cap:Nat) (va vb:Nat->Value),sv = .slice sa xX.length cap/\xX.length<=maxLen/\(0<xX.length->sa=some ⟨b,off,none⟩/\ ¬ yT E.M0 ι σ b)/\
   ∀ i,i<xX.length->w.cell? ⟨b,off+i*2,none⟩= some (va i)/\ w.cell? ⟨b,off+i*2+1,none⟩= some (vb i)/\ (xX.getD i []).length=2/\RP (yT E.M0 ι σ) w (va i) ((xX.getD i []).getD 0 .top)/\ RP (yT E.M0 ι σ) w (vb i) ((xX.getD i []).getD 1 .top):=by
  rcases he with rfl | ⟨rfl,rfl⟩
  ·rcases(R.pure (ι:=ι) (n:=σ.nx) hrB0).nZ with ⟨ad,cap,e1,rfl,hcap⟩ | ⟨b,off,cap,vs,e1,g1,g2,g3,g4,g5,g6,g7⟩
   ·exact⟨ad,0,0,cap,λ_=>undef,λ_=>undef,e1,by simp,λh=>absurd h (by simp),λi hi=>absurd hi (by simp)⟩
   ·refine⟨_,b,off,cap,λi=>vs i 0,λi=>vs i 1,e1,by omega,λ_=>⟨rfl,g2⟩,λi hi=>?_⟩;have hm:xX.getD i [] ∈ xX:=by simp [List.getD,hi]
    have q0:=g6 i hi 0 (by omega);rw [Nat.add_zero] at q0;exact⟨q0,g6 i hi 1 (by omega),g5 _ hm,g7 i hi 0 (by omega),g7 i hi 1 (by omega)⟩
  ·have:=(R.pure (ι:=ι) (n:=σ.nx) hrB0).vL;exact⟨none,0,0,0,λ_=>undef,λ_=>undef,this,by simp,λh=>absurd h (by simp),λi hi=>absurd hi (by simp)⟩
 subst hsv;have hF:C.F=Fence.wide:=by unfold Cx.F; rw [hrd]; rfl
 rw [hF];obtain⟨w',hw'⟩:∃ w',w'=w.alloc (.deferred (some [])):=⟨_,rfl⟩;have G':xC C E a w' f σ ι:=by rw [hw']; exact G.lay _
 have hws:w'.heap.size=w.heap.size+1:=by rw [hw']; show (w.heap.push _).size=_; simp
 have hkw:Kept w w' λ_=>False:=by rw [hw']; exact Kept.alloc w _ _
 have hD':w'.heap[w.heap.size]?=some (Obj.deferred (some [])):=by rw [hw']; exact World.alloc_heap_new w _
 refine wpIn_rangeFunc λfn _=>?_;obtain⟨rec,hrec⟩:∃ rec:LoopState->Option Code->Loop,rec=λst pe=>{ state:=st,pending:=pe,fn,tmps:=a.tmps,params:=#[p0,p1],assign:=x,body:=y,defers:=w.heap.size }:=⟨_,rfl⟩;obtain⟨W1,hW1⟩:∃ W1,W1=w'.alloc (.loop (rec .ready none)):=⟨_,rfl⟩;have hk1:Kept w' W1 λ_=>False:=by rw [hW1]; exact Kept.alloc w' _ _
 have hl1:W1.heap[w.heap.size+1]?=some (Obj.loop (rec .ready none)):=by rw [hW1,<- hws]; exact World.alloc_heap_new w' _
 have hD1:W1.heap[w.heap.size]?=some (Obj.deferred (some [])):=hk1.mark id hD';have hs1:W1.heap.size=w.heap.size+2:=by rw [hW1]; show (w'.heap.push _).size=_; simp; omega
 refine⟨w.heap.size+1,[{ target:=.collected w.heap.size,args:=#[] }],W1,{ target:=.fn (.func gi) vs,args:=#[.func (.yield (w.heap.size+1)) #[] #[]] },W1,gi,#[.func (.yield (w.heap.size+1)) #[] #[]]++vs,W1,?_,?_,λ_ _=>trivial,?_,λh=>absurd (show false=true from h) (by decide),?_⟩
 ·have:=run_enterLoop_outer (P:=C.P) (w:=w) fn a.tmps #[p0,p1] x y;rw [hW1,hw',hrec];exact this
 ·simp only [resolve,hv];simp [go_sem]
 ·have:=rK hB.1 (#[.func (.yield (w.heap.size+1)) #[] #[]]++vs) W1;simpa [invoke,go_sem] using this
 rw [hlb]
 have hblk:∀ {W:World} {σk:St} {ιk:Nat->Nat},xC { C with n0:=σ.nx } (yt E w' σ ι (.loop (rec .ready none))) a W f σk ιk->∀ b',b'<w.heap.size->¬ yT E.M0 ι σ b'->W.heap[b']?=w.heap[b']?:=λ{W σk ιk} Gk b' hb hM=>by
  have e1:=Gk.kept.block b' (by show b'<(w'.alloc _).heap.size; rw [<- hW1]; omega) λh=>h.elim (λh=>hM (.inr h)) λh=>by omega
  have e2:(w'.alloc (.loop (rec .ready none))).heap[b']?=w'.heap[b']?:=by rw [<- hW1]; exact hk1.block b' (by omega) id
  exact e1.trans (e2.trans (hkw.block b' hb id))
 refine(hB.2 (w.heap.size+1) Bs o b off xX.length cap sa va vb (λk W=>∃ σk ιk,J k σk/\xC { C with n0:=σ.nx } (yt E w' σ ι (.loop (rec .ready none))) a W f σk ιk/\W.heap[w.heap.size+1]?=some (Obj.loop (rec .ready none))/\ W.heap[w.heap.size]?=some (Obj.deferred (some []))) hnm (λh=>(hsa h).1) ?_ ?_ ?_ W1 ⟨σ,ι,h0,by rw [hW1]; exact G'.fe _,hl1,hD1⟩).mono ?_
 ·rintro k W ⟨σk,ιk,_,Gk,_,_⟩;have hB1:=hblk Gk Bs (gU hcB0) hMB;refine⟨by rw [World.cell?_of_block (w:=w) hB1]; rw [Nat.add_zero] at hcB0; exact hcB0,λi hi=>?_⟩;obtain⟨q1,q2,_⟩:=hcel i hi;have hb1:=hblk Gk b (gU q1) (hsa (by omega)).2;exact⟨by rw [World.cell?_of_block (w:=w) hb1]; exact q1,by rw [World.cell?_of_block (w:=w) hb1]; exact q2⟩
 ·rintro k W ⟨σk,ιk,hJ,Gk,hl,hD⟩;exact⟨σk,ιk,hJ,Gk.VY,hl,hD⟩
 ·rintro k W hk ⟨σk,ιk,hJ,Gk,hl,hD⟩;obtain⟨_,_,q3,q4,q5⟩:=hcel (xX.length-1-k) (by omega);have hy0:=run_yield (P:=C.P) (args:=#[.int .i64 ((xX.length-1-k:Nat):Int),.agg #[va (xX.length-1-k),vb (xX.length-1-k)]]) hl (by rw [hrec]; rfl);rw [hrec] at hy0;refine⟨fn,_,x,y,hy0,roundIn_of_wpIn trivial ?_⟩
  have hMk:∀ b',b'<w.heap.size->yT (yt E w' σ ι (.loop (rec .ready none))).M0 ιk σk b'->yT E.M0 ι σ b':=λb' hb' hM=>by
   rcases hM with (hM | hM) | ⟨k',o',hk',rfl⟩
   ·exact .inl hM
   ·have:b'=w'.heap.size:=hM;omega
   ·rcases Gk.tF k' o' hk' with h | h | h
    ·have:W1.heap.size<=ιk k':=by rw [hW1]; exact h
     omega
    ·exact .inr h
    ·have:ιk k'=w'.heap.size:=h;omega
  have hRk:∀ {v:Value} {d:D},RP (yT E.M0 ι σ) w v d->RP (yT (yt E w' σ ι (.loop (rec .ready none))).M0 ιk σk) W v d:=λh=>h.yR (hblk Gk) hMk;have hmin:IntKind.i64.min = -9223372036854775808:=rfl;have hmax:IntKind.i64.max=9223372036854775807:=rfl;have hml:xX.length<=9223372036854775807:=by simp only [maxLen] at hnm; omega
  have G1:=((Gk.open_.WO (rd:=some (w.heap.size+1))).bare.set (dst:=some p0) (v:=.int .i64 ((xX.length-1-k:Nat):Int)) (d:=.int .i64 ((xX.length-1-k:Nat):Int)) (.pure (.int (by omega))) (λt ht=>by cases ht; exact hp.1)).set (dst:=some p1)
   (v:=.agg #[va (xX.length-1-k),vb (xX.length-1-k)]) (d:=.agg (xX.getD (xX.length-1-k) [])) (.pure (.agg (by rw [q3]; rfl) λj hj=>by
    rw [q3] at hj;have:j=0\/j=1:=by omega
    rcases this with rfl | rfl
    ·exact hRk q4
    ·exact hRk q5)) (λt ht=>by cases ht; exact hp.2)
  have hr:=round (w.heap.size+1) k σk hk hJ x hx _ _ _ ⟨ιk,G1⟩
  have hact:({ tmps:=(#[p0,p1].zip #[Value.int .i64 ((xX.length-1-k:Nat):Int),Value.agg #[va (xX.length-1-k),vb (xX.length-1-k)]]).foldl (λtmps (t,a)=>tmps.setIfInBounds t a) a.tmps,defers:=[] }:Act)=
    (({ tmps:=a.tmps,defers:=[] }:Act).put (some p0) (.int .i64 ((xX.length-1-k:Nat):Int))).put (some p1) (.agg #[va (xX.length-1-k),vb (xX.length-1-k)]):=by simp [Act.put]
  rw [<- hact] at hr;refine wpIn_mono hr λe a1 w1 hq=>?_;obtain⟨f1,σ1,⟨ι1,G1'⟩,hq⟩:=hq
  cases e with
  | normal=>
   have hl1':=G1'.kept.mark (Gk.qP.pg hl) hl;have hD1':=G1'.kept.mark (Gk.qP.lB hD) hD;have Gc:=(Gk.WO (rd:=some (w.heap.size+1))).close_ G1';have hlt1:=(δ.1 hl1').1;obtain⟨r6,hr6⟩:∃ r6,r6 = { rec .ready none with state:=.busy }:=⟨_,rfl⟩;have hbr:=run_beginRound (P:=C.P) hl1' (by rw [hrec]);rw [<- hr6] at hbr;have G2:=Gc.gz (w':=w1.putObj (w.heap.size+1) (.loop r6)) (qH hl1' λ_ _ e=>by cases e) (.inr hws.symm) (.inr hws.symm) λx e=>by rw [hl1'] at e; cases e
   have hl2:(w1.putObj (w.heap.size+1) (.loop r6)).heap[w.heap.size+1]?=some (Obj.loop r6):=World.putObj_heap_same hlt1;have hD2:(w1.putObj (w.heap.size+1) (.loop r6)).heap[w.heap.size]?=some (Obj.deferred (some [])):=(World.putObj_heap_other (by omega)).trans hD1';refine⟨_,hbr,?_⟩;have hr2:=hq y hy _ _ _ ⟨ι1,G2.open_⟩;refine wpIn_mono hr2 λe a2 w2 hq2=>?_;obtain⟨f2,σ2,⟨ι2,G3⟩,rfl,f3,σ3,hwk,hJ3⟩:=hq2;have hl3:=G3.kept.mark (G2.qP.pg hl2) hl2;have hD3:=G3.kept.mark (G2.qP.lB hD2) hD2;obtain⟨ι3,G5⟩:=hwk _ a2 w2 ⟨ι2,G2.close_ G3⟩;have hend:=run_endRound (P:=C.P) none hl3;have hr7:({ r6 with state:=if (none:Option Code).isNone then .ready else .done,pending:=none }:Loop)= rec .ready none:=by rw [hr6,hrec]; rfl
   rw [hr7] at hend;have hlt2:=(δ.1 hl3).1;have G6:=G5.gz (w':=w2.putObj (w.heap.size+1) (.loop (rec .ready none))) (qH hl3 λ_ _ e=>by cases e) (.inr hws.symm) (.inr hws.symm) λx e=>by rw [hl3] at e; cases e
   exact⟨_,_,hend,rfl,σ3,ι3,hJ3,G'.back (rd:=some (w.heap.size+1)) (λ_ e=>by cases e) G6,World.putObj_heap_same hlt2,(World.putObj_heap_other (by omega)).trans hD3⟩
  | exit id=>exact hq.elim
  | goto t=>exact hq.elim
  | ret=>exact hq.elim
  | panic ch=>exact hq.elim
  | outgrown=>exact hq.elim
 ·rintro e W' ⟨⟨v,rfl⟩,σ',ι',hJ',Ge,hl,hD⟩
  obtain⟨r5,hend⟩:∃ r5,(Instr.endLoop (w.heap.size+1)).run C.P W' = .ok none (W'.putObj (w.heap.size+1) (.loop r5)):=by
   have hend:=run_endLoop (P:=C.P) hl (by rw [hrec]; simp);have hpe:(rec .ready none).pending=none:=by rw [hrec]
   rw [hpe] at hend;exact⟨_,hend⟩
  refine⟨none,_,hend,f,σ',⟨ι',?_⟩,done σ' hJ'⟩;have hlt:w.heap.size+1<W'.heap.size:=(δ.1 hl).1;have G3:=Ge.gz (w':=W'.putObj (w.heap.size+1) (.loop r5)) (qH hl λ_ _ e=>by cases e) (.inr hws.symm) (.inr hws.symm) λx e=>by rw [hl] at e; cases e
  have G4:=G'.end_ G3;have hD4:(W'.putObj (w.heap.size+1) (.loop r5)).heap[w.heap.size]?=some (Obj.deferred (some [])):=(World.putObj_heap_other (by omega)).trans hD;obtain⟨hB0,l0,hd1,hd2,hd3⟩:=G4.defers;obtain⟨_,l1,he1,_,he3⟩:=G.defers
  refine⟨G4.size,⟨hB0,w.heap.size :: l0,?_,?_,?_⟩,G4.nx,G4.kept,G4.qP,G4.uD,G4.tF,G4.stay,G4.fr⟩
  ·show [_]++a.defers=_;rw [hd1]; rfl
  ·refine List.nodup_cons.2 ⟨λhm=>?_,hd2⟩;have hmem:({ target:=.collected w.heap.size,args:=#[] }:Deferred)∈ a.defers:=by rw [hd1]; exact List.mem_map.2 ⟨_,hm,rfl⟩
   rw [he1] at hmem;obtain⟨D,hDl,hDe⟩:=List.mem_map.1 hmem
   have hDw:D=w.heap.size:=by have:=congrArg Deferred.target hDe;simpa using this
   have:=(δ.1 (he3 D hDl).1).1;omega
  ·intro D hD2
   rcases List.mem_cons.1 hD2 with rfl | hD2
   ·exact⟨hD4,G.defers.1⟩
   ·exact hd3 D hD2
end
end Go.Pd
