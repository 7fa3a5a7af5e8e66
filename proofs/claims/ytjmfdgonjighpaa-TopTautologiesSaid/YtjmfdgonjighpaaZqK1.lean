/- Part K1. -/
import Derived.Test.YtjmfdgonjighpaaZqX1
import Derived.ChangeKeysEq
import Derived.Laws.StructEq
set_option linter.unusedSectionVars false
set_option linter.unusedVariables false
set_option linter.unusedSimpArgs false
set_option linter.defProp false
open List renaming drop_eq_nil_of_le->γ,length_cons->δ
namespace Go.Pd
open Go
def uY (ks:List Int):Value:=.agg (ks.map (Value.int .i64)).toArray
section
variable {P : Program} {w : World}
theorem oc {f:Field} {fs:List Field} {o:Nat} (h:aA P (f :: fs) o=true):f.name ≠ "_"/\f.offset=o/\P.underlying f.type=some (.int .i64)/\ aA P fs (o+1)= true:=by
 unfold aA at h;simp only [Bool.and_eq_true,bne_iff_ne,beq_iff_eq] at h;obtain⟨⟨⟨h1,h2⟩,h3⟩,h4⟩:=h;refine⟨h1,h2,?_,h4⟩
 split at h3
 ·assumption
 ·cases h3
theorem rZ {t:TypeId} {ks:List Int} {o:Nat} (ht:P.underlying t=some (.int .i64)) (h:o<ks.length):(part t (ks.map (Value.int .i64)).toArray o).run P w = .ok (.int .i64 (ks.getD o 0)) w:=by
 have e:((ks.map (Value.int .i64)).toArray)[o]?=some (.int .i64 (ks.getD o 0)):=by simp [List.getD,h]
 simp [part,isAgg,run_underlying ht,e]
theorem mL {xs ys:List Int} (d:Nat):∀ (fs:List Field) (o:Nat),aA P fs o=true->xs.length=o+fs.length->ys.length=o+fs.length ->
  (Op.eqFields (d+1) (xs.map (Value.int .i64)).toArray (ys.map (Value.int .i64)).toArray fs).run P w = .ok (decide (xs.drop o=ys.drop o)) w
 | [],o,_,hx,hy=>by rw [γ (by rw [hx]; simp),γ (by rw [hy]; simp)];simp [Op.eqFields]
 | f :: fs,o,h,hx,hy=>by
  obtain⟨h1,h2,h3,h4⟩:=oc h;simp only [δ] at hx hy;have ih:=mL (xs:=xs) (ys:=ys) d fs (o+1) h4 (by omega) (by omega);have ex:xs.drop o=xs.getD o 0 :: xs.drop (o+1):=by simp [List.getD,show o<xs.length by omega]
  have ey:ys.drop o=ys.getD o 0 :: ys.drop (o+1):=by simp [List.getD,show o<ys.length by omega]
  subst h2;simp only [Op.eqFields,ne_eq,h1,not_false_eq_true,if_true,Sem.run_bind,rZ h3 (show f.offset<xs.length by omega),rZ h3 (show f.offset<ys.length by omega),Result.andThen_ok,run_equalIn_int w d f.type .i64 .i64 _ _ h3];rw [ex,ey]
  by_cases e:xs.getD f.offset 0=ys.getD f.offset 0
  ·have e1:(xs.getD f.offset 0==ys.getD f.offset 0)= true:=by simpa using e
   rw [e1];simp only [Bool.not_true,Bool.false_eq_true,if_false,List.cons.injEq,e,true_and];exact ih
  ·have e1:(xs.getD f.offset 0==ys.getD f.offset 0)= false:=by simpa using e
   rw [e1];simp only [Bool.not_false,if_true,Sem.run_pure,List.cons.injEq,e,false_and,decide_false]
theorem uz {t:TypeId} {n:Nat} (h:kQ P t=some n):(∃ fs,P.underlying t=some (.struct fs)/\ aA P fs.toList 0=true/\P.stoodInHeld t=false/\fs.size=n) \/
  ∃ e i,P.underlying t=some (.array n e)/\ P.underlying e=some (.int .i64)/\ P.info? e=some i/\P.cellsOf e=1:=by
 unfold kQ at h
 split at h
 ·rename_i fs hu
  split at h
  ·rename_i hc;simp only [Bool.and_eq_true,Bool.not_eq_true'] at hc;simp at h;exact .inl ⟨fs,hu,hc.1,hc.2,h⟩
  ·cases h
 ·rename_i m e hu
  split at h
  ·rename_i i he hi
   split at h
   ·rename_i hc;cases h;exact .inr ⟨e,i,hu,he,hi,hc⟩
   ·cases h
  ·cases h
 ·cases h
theorem kU {xs ys:List Int} {e:TypeId} (he:P.underlying e=some (.int .i64)) (d:Nat) (hl:xs.length=ys.length):∀ (m o:Nat),o+m=xs.length ->
  (Op.eqItems (d+1) e 1 (xs.map (Value.int .i64)).toArray (ys.map (Value.int .i64)).toArray (List.range' o m)).run P w = .ok (decide (xs.drop o=ys.drop o)) w
 | 0,o,h=>by rw [γ (by omega),γ (by omega)];simp [Op.eqItems]
 | m+1,o,h=>by
  have ih:=kU he d hl m (o+1) (by omega);have ex:xs.drop o=xs.getD o 0 :: xs.drop (o+1):=by simp [List.getD,show o<xs.length by omega]
  have ey:ys.drop o=ys.getD o 0 :: ys.drop (o+1):=by simp [List.getD,show o<ys.length by omega]
  simp only [List.range'_succ,Op.eqItems,Sem.run_bind,Nat.mul_one,rZ he (show o<xs.length by omega),rZ he (show o<ys.length by omega),Result.andThen_ok,run_equalIn_int w d e .i64 .i64 _ _ he];rw [ex,ey]
  by_cases c:xs.getD o 0=ys.getD o 0
  ·have e1:(xs.getD o 0==ys.getD o 0)= true:=by simpa using c
   rw [e1];simp only [Bool.not_true,Bool.false_eq_true,if_false,List.cons.injEq,c,true_and];exact ih
  ·have e1:(xs.getD o 0==ys.getD o 0)= false:=by simpa using c
   rw [e1];simp only [Bool.not_false,if_true,Sem.run_pure,List.cons.injEq,c,false_and,decide_false]
theorem fP {t:TypeId} {n:Nat} (h:kQ P t=some n) {xs ys:List Int} (hx:xs.length=n) (hy:ys.length=n):(Op.equal t (uY xs) (uY ys)).run P w = .ok (decide (xs=ys)) w:=by
 rcases uz h with ⟨fs,h1,h2,h3,h4⟩ | ⟨e,i,h1,h2,h3,h4⟩
 ·have hf:P.fieldsOf t=fs:=by unfold Program.fieldsOf; rw [h1]
  have e:=run_equalIn_struct w 9999 t (xs.map (Value.int .i64)).toArray (ys.map (Value.int .i64)).toArray (by rw [hf]; exact h1) h3;have e2:=mL (P:=P) (w:=w) (xs:=xs) (ys:=ys) 9998 fs.toList 0 h2 (by simp; omega) (by simp; omega);rw [hf] at e;unfold Op.equal uY;rw [show Op.maxDepth=9999+1 from rfl,e,e2];simp
 ·have e1:=run_equalIn_array (P:=P) w 9999 (xs.map (Value.int .i64)).toArray (ys.map (Value.int .i64)).toArray h1 h3;have e2:=kU (P:=P) (w:=w) (xs:=xs) (ys:=ys) h2 9998 (by omega) n 0 (by omega);unfold Op.equal uY;rw [show Op.maxDepth=9999+1 from rfl,e1,h4,List.range_eq_range',e2];simp
theorem bA {α:Type} {body:α->PUnit->Sem (ForInStep PUnit)}:∀ {l:List α},(∀ f ∈ l,(body f PUnit.unit).run P w = .ok (.yield PUnit.unit) w)->(forIn l PUnit.unit body).run P w = .ok PUnit.unit w
 | [],_=>by simp
 | f :: l,h=>by simp only [List.forIn_cons,Sem.run_bind,h f (by simp),Result.andThen_ok];exact bA λf hf=>h f (by simp [hf])
theorem Wi {fs:List Field}:∀ {o:Nat},aA P fs o=true->∀ f ∈ fs,f.name ≠ "_"/\P.underlying f.type=some (.int .i64)/\ f.offset<o+fs.length:=by
 induction fs with
 | nil=>intro o _ f hf; cases hf
 | cons g fs ih=>
  intro o h f hf;obtain⟨h1,h2,h3,h4⟩:=oc h
  rcases List.mem_cons.1 hf with rfl | hf
  ·exact⟨h1,h3,by rw [h2,δ]; omega⟩
  ·obtain⟨a,b,c⟩:=ih h4 f hf;exact⟨a,b,by rw [δ]; omega⟩
theorem aL {t:TypeId} {n:Nat} (h:kQ P t=some n) (b:Bool) (m:Nat) {xs:List Int} (hx:xs.length=n):(Instr.checkKey b (m+2) t (uY xs)).run P w = .ok () w:=by
 unfold uY
 rcases uz h with ⟨fs,h1,h2,h3,h4⟩ | ⟨e,i,h1,h2,h3,h4⟩
 ·simp only [Instr.checkKey,Sem.run_bind,run_underlying h1,Result.andThen_ok];rw [<- Array.forIn_toList]
  refine(congrArg (λr=>Result.andThen r _) (bA (l:=fs.toList) λf hf=>?_)).trans ?_
  ·obtain⟨g1,g2,g3⟩:=Wi h2 f hf;simp only [ne_eq,g1,not_false_eq_true,if_true,Sem.run_bind,rZ g2 (show f.offset<xs.length by rw [hx,<- h4]; simpa using g3),Result.andThen_ok,run_underlying g2,Sem.run_pure]
  ·simp
 ·simp only [Instr.checkKey,Sem.run_bind,run_underlying h1,Result.andThen_ok];simp only [Std.Legacy.Range.forIn_eq_forIn_range',Std.Legacy.Range.size,Nat.sub_zero,Nat.add_one_sub_one,Nat.div_one]
  refine(congrArg (λr=>Result.andThen r _) (bA (l:=List.range' 0 n) λf hf=>?_)).trans ?_
  ·have hf':f<xs.length:=by rw [List.mem_range'_1] at hf; omega
   simp only [Sem.run_bind,run_sizeOf w h3,h4,Nat.mul_one,rZ h2 hf',Result.andThen_ok,run_underlying h2,Sem.run_pure]
  ·simp
def sN (x:List Int):List (List Int × Value)->Nat->Option (Nat × Value)
 | [],_=>none
 | (k,v) :: r,i=>if x=k then some (i,v) else sN x r (i+1)
def xL : List (List Int × Value)->Nat->List MapEntry
 | [],_=>[]
 | (k,v) :: r,i=>⟨uY k,v,i⟩ :: xL r (i+1)
theorem rC {t:TypeId} {n:Nat} (h:kQ P t=some n) {x:List Int} (hx:x.length=n):∀ (l:List (List Int × Value)) (i j:Nat),(∀ p ∈ l,p.1.length=n)->(Instr.findAsking t (uY x) (xL l j) i).run P w = .ok (sN x l i) w
 | [],i,j,_=>by simp [xL,Instr.findAsking,sN]
 | (k,v) :: r,i,j,hl=>by
  have he:=fP (w:=w) h hx (hl (k,v) (by simp));have ih:=rC h hx r (i+1) (j+1) λp hp=>hl p (by simp [hp]);simp only [xL,Instr.findAsking,sN,Sem.run_bind,he,Result.andThen_ok]
  by_cases e:x=k
  ·rw [decide_eq_true e,if_pos e]; simp
  ·rw [decide_eq_false e,if_neg e]; simpa using ih
theorem tA {t:TypeId} {n:Nat} (h:kQ P t=some n) {x:List Int} (hx:x.length=n) (l:List (List Int × Value)) (hl:∀ p ∈ l,p.1.length=n):(Instr.findKey t (uY x) (xL l 0)).run P w = .ok (sN x l 0) w:=by
 unfold Instr.findKey
 rcases uz h with ⟨fs,h1,_⟩ | ⟨e,i,h1,_⟩
 ·simp only [Sem.run_bind,run_underlying h1,Result.andThen_ok]
  cases l with
  | nil=>simp [xL,Instr.findNow,sN]
  | cons p r=> have:=rC (w:=w) h hx (p :: r) 0 0 hl;obtain⟨k,v⟩:=p;rw [show Instr.findNow (.struct fs) (uY x) (xL ((k,v) :: r) 0) 0=none from rfl];exact this
 ·simp only [Sem.run_bind,run_underlying h1,Result.andThen_ok]
  cases l with
  | nil=>simp [xL,Instr.findNow,sN]
  | cons p r=> have:=rC (w:=w) h hx (p :: r) 0 0 hl;obtain⟨k,v⟩:=p;rw [show Instr.findNow (.array n e) (uY x) (xL ((k,v) :: r) 0) 0=none from rfl];exact this
theorem tQ {t:TypeId} {n:Nat} (h:kQ P t=some n) (b:Bool) {x:List Int} (hx:x.length=n):(Instr.checkKey b 10000 t (uY x)).run P w = .ok () w:=aL h b 9998 hx
theorem sq {t kt et:TypeId} {n:Nat} (ht:P.underlying t=some (.map kt et)) (h:kQ P kt=some n) {inf:TypeInfo} {z:Value} (hi:P.info? et=some inf) (hz:inf.zero=some z) {x:List Int} (hx:x.length=n) {b clock:Nat} {l:List (List Int × Value)} (hl:∀ p ∈ l,p.1.length=n)
  (hb:w.heap[b]?=some (.map (xL l 0).toArray clock)) (ok:Bool) :
  (Instr.lookup t (.map (some b)) (uY x) ok).run P w = .ok (if ok then .tuple #[((sN x l 0).map (·.2)).getD z,.bool (sN x l 0).isSome] else((sN x l 0).map (·.2)).getD z) w:=by
 have hg:(getObj b).run P w = .ok (.map (xL l 0).toArray clock) w:=by simp [getObj,Sem.run,hb]
 have hc:=tQ (w:=w) h (xL l 0).isEmpty hx;have hf:=tA (w:=w) h hx l hl
 cases hr:sN x l 0 with
 | none=>rw [hr] at hf; cases ok <;> simp [Instr.lookup,run_underlying ht,hg,hc,hf,zeroValue,typeInfo,hi,hz]
 | some p=>rw [hr] at hf; cases ok <;> simp [Instr.lookup,run_underlying ht,hg,hc,hf]
theorem tR (l:List (List Int × Value)):∀ i,(xL l i).length=l.length:=by
 induction l with
 | nil=>intro i; rfl
 | cons p r ih=>intro i; obtain⟨k,v⟩:=p; simp [xL,ih]
theorem jZ (k:List Int) (v:Value):∀ (l:List (List Int × Value)) (i:Nat),xL (l ++ [(k,v)]) i=xL l i ++ [⟨uY k,v,i+l.length⟩]
 | [],i=>rfl
 | (k',v') :: r,i=>by show _ :: xL (r ++ [(k,v)]) (i+1)= _;rw [jZ k v r (i+1)];simp [xL,Nat.add_assoc,Nat.add_comm 1]
theorem cM {t:TypeId} {n:Nat} {d:D} (h:zi P t=some (n,d)):∃ k e i z,P.underlying t=some (.map k e)/\ kQ P k=some n/\P.info? e=some i/\i.zero=some z/\D.ofValue z=some d:=by
 unfold zi at h
 split at h
 ·rename_i k e ht;simp only [zO,Prod.mk.injEq] at h;obtain⟨m,h1,i,h2,z,h3,d',h4,rfl,rfl⟩:=h;exact⟨k,e,i,z,ht,h1,h2,h3,h4⟩
 ·cases h
end
def uN (Rel:Value->D->Prop):List (List Int × Value)->List (List Int × D)->Prop
 | [],[]=>True
 | (k,v) :: r,(k',d) :: r'=>k=k'/\Rel (uY k) (.agg (k.map (D.int .i64)))/\ Rel v d/\uN Rel r r'
 | _,_=>False
theorem uN.len {Rel:Value->D->Prop}:∀ {a:List (List Int × Value)} {b:List (List Int × D)},uN Rel a b->a.length=b.length
 | [],[],_=>rfl
 | (k,v) :: r,(k',d) :: r',h=>by simp [uN.len h.2.2.2]
theorem uN.all {Rel:Value->D->Prop} {n:Nat}:∀ {a:List (List Int × Value)} {b:List (List Int × D)},uN Rel a b->(∀ p ∈ b,p.1.length=n)->∀ p ∈ a,p.1.length=n
 | [],[],_,_,p,hp=>by cases hp
 | (k,v) :: r,(k',d) :: r',h,hb,p,hp=>by
  rcases List.mem_cons.1 hp with rfl | hp
  ·have:=hb (k',d) (by simp);rw [h.1]; exact this
  ·exact uN.all h.2.2.2 (λp hp=>hb p (by simp [hp])) p hp
theorem uN.find {Rel:Value->D->Prop} (x:List Int):∀ {a:List (List Int × Value)} {b:List (List Int × D)} (i:Nat),uN Rel a b->(sN x a i=none/\uJ x b i=none)\/∃ j v d,sN x a i=some (j,v)/\ uJ x b i=some (j,d)/\ Rel v d
 | [],[],i,_=>.inl ⟨rfl,rfl⟩
 | (k,v) :: r,(k',d) :: r',i,h=>by
  obtain⟨rfl,_,h2,h3⟩:=h;unfold sN uJ
  by_cases e:x=k
  ·rw [if_pos e,if_pos e]; exact .inr ⟨i,v,d,rfl,rfl,h2⟩
  ·rw [if_neg e,if_neg e]; exact uN.find x (i+1) h3
theorem uN.snoc {Rel:Value->D->Prop} {x:List Int} {v:Value} {d:D} (hk:Rel (uY x) (.agg (x.map (D.int .i64)))) (hr:Rel v d):∀ {a:List (List Int × Value)} {b:List (List Int × D)},uN Rel a b->uN Rel (a ++ [(x,v)]) (b ++ [(x,d)])
 | [],[],_=>⟨rfl,hk,hr,trivial⟩
 | (k,v') :: r,(k',d') :: r',h=>⟨h.1,h.2.1,h.2.2.1,uN.snoc hk hr h.2.2.2⟩
theorem uN.of {Rel:Value->D->Prop} (hR:∀ v ks,Rel v (.agg (ks.map (D.int .i64)))->v=uY ks):∀ {es:List MapEntry} {l:List (List Int × D)} {i0:Nat},es.length=l.length ->
  (∀ i,i<l.length->∃ (kv v:Value) (x d:D),(vZ l).getD i [] = [x,d]/\es[i]?=some ⟨kv,v,i0+i⟩/\ Rel kv x/\Rel v d)->∃ lv,es=xL lv i0/\uN Rel lv l
 | [],[],_,_,_=>⟨[],rfl,trivial⟩
 | e :: es,(ks,d0) :: r,i0,hl,h=>by
  obtain⟨kv,v,x,d,h1,h2,h3,h4⟩:=h 0 (by simp);have h1':[D.agg (ks.map (D.int .i64)),d0] = [x,d]:=h1;simp only [List.cons.injEq,and_true] at h1';obtain⟨rfl,rfl⟩:=h1';have hk:=hR _ _ h3;simp only [List.getElem?_cons_zero,Option.some.injEq,Nat.add_zero] at h2
  obtain⟨lv,e1,e2⟩:=uN.of hR (es:=es) (l:=r) (i0:=i0+1) (by simpa using hl) λi hi=>by
   obtain⟨kv,v,x,d,g1,g2,g3,g4⟩:=h (i+1) (by simpa using hi);refine⟨kv,v,x,d,g1,?_,g3,g4⟩;have:i0+(i+1)= i0+1+i:=by omega
   rw [<- this]; simpa using g2
  exact⟨(ks,v) :: lv,by rw [h2,hk,e1]; rfl,rfl,by rw [<- hk]; exact h3,h4,e2⟩
theorem qL (l:List (List Int × D)):(vZ l).length=l.length:=by simp [vZ]
theorem uN.get {Rel:Value->D->Prop}:∀ {lv:List (List Int × Value)} {l:List (List Int × D)} {i0:Nat},uN Rel lv l->∀ i,i<l.length->∃ (ks:List Int) (v:Value) (d:D),(vZ l).getD i [] = [.agg (ks.map (D.int .i64)),d]/\(xL lv i0)[i]?=some ⟨uY ks,v,i0+i⟩/\ Rel v d/\Rel (uY ks) (.agg (ks.map (D.int .i64)))
 | [],[],_,_,i,hi=>by simp at hi
 | (k,v) :: r,(k',d) :: r',i0,h,i,hi=>by
  obtain⟨rfl,h1,h2,h3⟩:=h
  cases i with
  | zero=>exact⟨k,v,d,rfl,rfl,h2,h1⟩
  | succ i=>
   obtain⟨ks,v',d',g1,g2,g3,g4⟩:=uN.get (i0:=i0+1) h3 i (by simpa using hi);refine⟨ks,v',d',g1,?_,g3,g4⟩;have:i0+(i+1)= i0+1+i:=by omega
   rw [this]; simpa [xL] using g2
end Go.Pd
