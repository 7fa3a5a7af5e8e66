/- Part SQ. -/
import Derived.Test.YtjklmijiccabfaaGreatRS1
set_option linter.unusedSectionVars false
set_option linter.unusedVariables false
set_option linter.unusedSimpArgs false
set_option linter.defProp false
set_option maxRecDepth 20000
set_option maxHeartbeats 1000000
namespace Go.Pd
open Go Go.Proofs
open Int renaming reduceToNat -> ZA, reduceLT -> ZB, reduceLE -> ZC, reduceBEq -> ZD, reduceBNe -> ZE
open Nat renaming reduceEqDiff -> ZF, reduceAdd -> ZG, reduceBEq -> ZH, reduceLT -> ZI, reduceLeDiff -> ZJ, reduceMul -> ZK
section
open Ru
theorem refCheck23 (s:SysA):Runs Tryz.prog 41 [s.d] (.int .i64 (chk s)):=by
 have hD:s.d = .agg [.int .i64 s.ag,.int .i64 s.fa,.int .i64 s.ln,.sl 2 (runR s.rs)]:=rfl
 rw [hD]
 refine CallT.go_fn mixed Tryz.func41 k41 (by simp) fun hf=>?_
 by_cases a1:s.ag<0
 ·rw [show chk s=2 by unfold chk; rw [if_pos (.inl a1)]]
  simp only [ZA,ZB,ZC,ZD,ZE,↓reduceIte,reduceIte,ZF,ZG,ZH,ZI,ZJ,reduceCtorEq,ZK,↓zU,↓zD,zV,zT,zW,a1]
  exact .drop (by simp) (by simp [vw])
 by_cases a2:4<s.ag
 ·rw [show chk s=2 by unfold chk; rw [if_pos (by omega)]]
  simp only [ZA,ZB,ZC,ZD,ZE,↓reduceIte,reduceIte,ZF,ZG,ZH,ZI,ZJ,reduceCtorEq,ZK,↓zU,↓zD,zV,zT,zW,a1,a2]
  exact .drop (by simp) (by simp [vw])
 by_cases a3:s.fa<0
 ·rw [show chk s=2 by unfold chk; rw [if_pos (by omega)]]
  simp only [ZA,ZB,ZC,ZD,ZE,↓reduceIte,reduceIte,ZF,ZG,ZH,ZI,ZJ,reduceCtorEq,ZK,↓zU,↓zD,zV,zT,zW,a1,a2,a3]
  exact .drop (by simp) (by simp [vw])
 by_cases a4:8<s.fa
 ·rw [show chk s=2 by unfold chk; rw [if_pos (by omega)]]
  simp only [ZA,ZB,ZC,ZD,ZE,↓reduceIte,reduceIte,ZF,ZG,ZH,ZI,ZJ,reduceCtorEq,ZK,↓zU,↓zD,zV,zT,zW,a1,a2,a3,a4]
  exact .drop (by simp) (by simp [vw])
 by_cases a5:s.ln<1
 ·rw [show chk s=2 by unfold chk; rw [if_pos (by omega)]]
  simp only [ZA,ZB,ZC,ZD,ZE,↓reduceIte,reduceIte,ZF,ZG,ZH,ZI,ZJ,reduceCtorEq,ZK,↓zU,↓zD,zV,zT,zW,a1,a2,a3,a4,a5]
  exact .drop (by simp) (by simp [vw])
 by_cases a6:16<s.ln
 ·rw [show chk s=2 by unfold chk; rw [if_pos (by omega)]]
  simp only [ZA,ZB,ZC,ZD,ZE,↓reduceIte,reduceIte,ZF,ZG,ZH,ZI,ZJ,reduceCtorEq,ZK,↓zU,↓zD,zV,zT,zW,a1,a2,a3,a4,a5,a6]
  exact .drop (by simp) (by simp [vw])
 have e0:chk s=if 64<(s.rs.length:Int)\/512<(s.rs.length:Int)* s.ln then 8 else
  if s.rs.length=0 then 3 else if s.rs.any (badF s)= true then 3 else if s.rs.any (badV s)= true then 2 else 0:=by
  unfold chk; rw [if_neg (by omega)]
 by_cases b1:64<(s.rs.length:Int)
 ·rw [e0,if_pos (.inl b1)]
  simp only [ZA,ZB,ZC,ZD,ZE,↓reduceIte,reduceIte,ZF,ZG,ZH,ZI,ZJ,reduceCtorEq,ZK,↓zU,↓zD,zV,zT,zW,a1,a2,a3,a4,a5,a6,runR_len,b1]
  exact .drop (by simp) (by simp [vw])
 have hm:(s.rs.length:Int)* s.ln<=64*16:=Int.mul_le_mul (by omega) (by omega) (by omega) (by omega)
 have hm0:0<=(s.rs.length:Int)* s.ln:=Int.mul_nonneg (by omega) (by omega)
 have hw:IntKind.i64.wrap ((s.rs.length:Int)* s.ln)= (s.rs.length:Int)* s.ln:=wrap_i64 (by omega)
 by_cases b2:512<(s.rs.length:Int)* s.ln
 ·rw [e0,if_pos (.inr b2)]
  simp only [ZA,ZB,ZC,ZD,ZE,↓reduceIte,reduceIte,ZF,ZG,ZH,ZI,ZJ,reduceCtorEq,ZK,↓zU,↓zD,zV,zT,zW,a1,a2,a3,a4,a5,a6,runR_len,b1,hw,b2]
  exact .drop (by simp) (by simp [vw])
 rw [e0,if_neg (by omega)]
 by_cases b3:s.rs.length=0
 ·rw [if_pos b3]
  have b3':((s.rs.length:Int)== 0)= true:=by rw [b3]; rfl
  simp only [ZA,ZB,ZC,ZD,ZE,↓reduceIte,reduceIte,ZF,ZG,ZH,ZI,ZJ,reduceCtorEq,ZK,↓zU,↓zD,zV,zT,zW,a1,a2,a3,a4,a5,a6,runR_len,b1,hw,b2,b3']
  exact .drop (by simp) (by simp [vw])
 rw [if_neg b3]
 have b3':((s.rs.length:Int)== 0)= false:=by rw [beq_eq_false_iff_ne]; omega
 simp only [ZA,ZB,ZC,ZD,ZE,↓reduceIte,reduceIte,ZF,ZG,ZH,ZI,ZJ,reduceCtorEq,ZK,↓zU,↓zD,zV,zT,zW,a1,a2,a3,a4,a5,a6,runR_len,b1,hw,b2,b3']
 refine wpS_loop (fun k:Nat=>[(3,.int .i64 k),(1,.ref 0 4 0 0)]) (fun _=>⟨1,[(0,⟨4,[[.int .i64 s.ag,.int .i64 s.fa,.int .i64 s.ln,.sl 2 (runR s.rs)]]⟩)]⟩)
  (fun k=>k<=s.rs.length/\s.rs.any (badF s)= (s.rs.drop k).any (badF s)) (fun k=>s.rs.length-k) 0 ⟨Nat.zero_le _,rfl⟩ ?_ ?_
 ·(refine Weak.same ?_; simp [sameF,Fr.get])
 intro k ⟨hk,hi⟩
 refine wpS_go mixed ?_
 by_cases hkl:k<s.rs.length
 case neg=>
  have hd:¬ ((k:Int)<(s.rs.length:Int)):=by omega
  rw [List.drop_eq_nil_of_le (by omega),List.any_nil] at hi
  rw [if_neg (by rw [hi]; simp)]
  simp only [ZA,ZB,ZC,ZD,ZE,↓reduceIte,reduceIte,ZF,ZG,ZH,ZI,ZJ,reduceCtorEq,ZK,↓zU,↓zD,zV,zT,zW,hd,runR_len]
  refine wpS_loop (fun k:Nat=>[(5,.int .i64 k),(1,.ref 0 4 0 0)]) (fun _=>⟨1,[(0,⟨4,[[.int .i64 s.ag,.int .i64 s.fa,.int .i64 s.ln,.sl 2 (runR s.rs)]]⟩)]⟩)
   (fun k=>k<=s.rs.length/\s.rs.any (badV s)= (s.rs.drop k).any (badV s)) (fun k=>s.rs.length-k) 0 ⟨Nat.zero_le _,rfl⟩ ?_ ?_
  ·(refine Weak.same ?_; simp [sameF,Fr.get])
  intro k ⟨hk,hv⟩
  refine wpS_go mixed ?_
  by_cases hkl:k<s.rs.length
  case neg=>
   have hd:¬ ((k:Int)<(s.rs.length:Int)):=by omega
   rw [List.drop_eq_nil_of_le (by omega),List.any_nil] at hv
   rw [if_neg (by rw [hv]; simp)]
   simp only [ZA,ZB,ZC,ZD,ZE,↓reduceIte,reduceIte,ZF,ZG,ZH,ZI,ZJ,reduceCtorEq,ZK,↓zU,↓zD,zV,zT,zW,hd,runR_len]
   exact .drop (by simp) (by simp [vw])
  have hd:((k:Int)<(s.rs.length:Int)):=by omega
  rw [drop_cons (d:=run0) hkl,List.any_cons] at hv
  have hnb:badF s (s.rs.getD k run0)= false:=by
   have:=List.any_eq_false.1 hi _ (getD_mem (d:=run0) hkl)
   simpa using this
  have hg:=runR_get s.rs hkl
  generalize s.rs.getD k run0=r at hg hv hnb
  have hfl:(r.fac.length:Int)= s.ln:=by
   simp only [badF,Bool.or_eq_false_iff,Bool.not_eq_false',decide_eq_true_eq] at hnb
   exact hnb.1.2
  simp only [ZA,ZB,ZC,ZD,ZE,↓reduceIte,reduceIte,ZF,ZG,ZH,ZI,ZJ,reduceCtorEq,ZK,↓zU,↓zD,zV,zT,zW,hd,runR_len]
  refine wpS_loop (fun t:Nat=>[(6,.int .i64 t),(5,.int .i64 k),(1,.ref 0 4 0 0)]) (fun _=>⟨1,[(0,⟨4,[[.int .i64 s.ag,.int .i64 s.fa,.int .i64 s.ln,.sl 2 (runR s.rs)]]⟩)]⟩)
   (fun t=>t<=r.fac.length/\badV s r=(r.fac.drop t).any (fun f=>!decide (f >>> s.fa.toNat=0#64))) (fun t=>r.fac.length-t) 0 ⟨Nat.zero_le _,rfl⟩ ?_ ?_
  ·(refine Weak.same ?_; simp [sameF,Fr.get])
  intro t ⟨ht,hb⟩
  refine wpS_go mixed ?_
  by_cases htl:t<r.fac.length
  case neg=>
   have hd2:¬ ((t:Int)<s.ln):=by omega
   rw [List.drop_eq_nil_of_le (by omega),List.any_nil] at hb
   simp only [ZA,ZB,ZC,ZD,ZE,↓reduceIte,reduceIte,ZF,ZG,ZH,ZI,ZJ,reduceCtorEq,ZK,↓zU,↓zD,zV,zT,zW,hd2,runR_len]
   (repeat refine sd ?_)
   refine⟨k+1,⟨by omega,?_⟩,?_,by omega⟩
   ·rw [hv,hb,Bool.false_or]
   (refine Weak.same ?_; simp only [sameF,Fr.get,↓reduceIte,reduceIte,Nat.reduceEqDiff,reduceCtorEq,D.int.injEq,D.bool.injEq,D.sl.injEq,and_true,true_and,and_self])
   exact wrap_i64 (by omega)
  have hd2:((t:Int)<s.ln):=by omega
  rw [drop_cons (d:=0) htl,List.any_cons] at hb
  have hgu:=us_get r.fac htl
  generalize r.fac.getD t 0=x at hgu hb
  by_cases hx:x >>> s.fa.toNat=0#64
  ·have ex:(x >>> s.fa.toNat != 0#64)= false:=by simpa using hx
   rw [decide_eq_true hx,Bool.not_true,Bool.false_or] at hb
   simp only [ZA,ZB,ZC,ZD,ZE,↓reduceIte,reduceIte,ZF,ZG,ZH,ZI,ZJ,reduceCtorEq,ZK,↓zU,↓zD,zV,zT,zW,hd2,runR_len,hd,hg,RunA.row,us_len,hgu,ex]
   (repeat refine sd ?_)
   refine⟨t+1,⟨by omega,hb⟩,?_,by omega⟩
   (refine Weak.same ?_; simp only [sameF,Fr.get,↓reduceIte,reduceIte,Nat.reduceEqDiff,reduceCtorEq,D.int.injEq,D.bool.injEq,D.sl.injEq,and_true,true_and,and_self])
   exact wrap_i64 (by omega)
  ·have ex:(x >>> s.fa.toNat != 0#64)= true:=by simpa using hx
   rw [decide_eq_false hx,Bool.not_false,Bool.true_or] at hb
   rw [if_pos (by rw [hv,hb,Bool.true_or])]
   simp only [ZA,ZB,ZC,ZD,ZE,↓reduceIte,reduceIte,ZF,ZG,ZH,ZI,ZJ,reduceCtorEq,ZK,↓zU,↓zD,zV,zT,zW,hd2,runR_len,hd,hg,RunA.row,us_len,hgu,ex]
   (repeat refine sd ?_)
   exact .drop (by simp) (by simp [vw])
 have hd:((k:Int)<(s.rs.length:Int)):=by omega
 rw [drop_cons (d:=run0) hkl,List.any_cons] at hi
 have hg:=runR_get s.rs hkl
 generalize s.rs.getD k run0=r at hg hi
 have hend:badF s r=true->s.rs.any (badF s)= true:=fun h=>by rw [hi,h,Bool.true_or]
 by_cases c1:(r.loc.length:Int)= s.ln
 case neg=>
  have e1:((r.loc.length:Int) != s.ln)= true:=by simpa using c1
  rw [if_pos (hend (by unfold badF; simp [c1]))]
  simp only [ZA,ZB,ZC,ZD,ZE,↓reduceIte,reduceIte,ZF,ZG,ZH,ZI,ZJ,reduceCtorEq,ZK,↓zU,↓zD,zV,zT,zW,hd,runR_len,hg,RunA.row,rl_len,e1]
  (repeat refine sd ?_)
  exact .drop (by simp) (by simp [vw])
 have e1:((r.loc.length:Int) != s.ln)= false:=by simpa using c1
 by_cases c2:(r.fac.length:Int)= s.ln
 case neg=>
  have e2:((r.fac.length:Int) != s.ln)= true:=by simpa using c2
  rw [if_pos (hend (by unfold badF; simp [c2]))]
  simp only [ZA,ZB,ZC,ZD,ZE,↓reduceIte,reduceIte,ZF,ZG,ZH,ZI,ZJ,reduceCtorEq,ZK,↓zU,↓zD,zV,zT,zW,hd,runR_len,hg,RunA.row,rl_len,e1,us_len,e2]
  (repeat refine sd ?_)
  exact .drop (by simp) (by simp [vw])
 have e2:((r.fac.length:Int) != s.ln)= false:=by simpa using c2
 have hbf:badF s r=r.loc.any fun l=>!decide ((l.length:Int)= s.ag):=by unfold badF; simp [c1,c2]
 simp only [ZA,ZB,ZC,ZD,ZE,↓reduceIte,reduceIte,ZF,ZG,ZH,ZI,ZJ,reduceCtorEq,ZK,↓zU,↓zD,zV,zT,zW,hd,runR_len,hg,RunA.row,rl_len,e1,us_len,e2]
 (repeat refine sd ?_)
 refine wpS_loop (fun t:Nat=>[(4,.int .i64 t),(3,.int .i64 k),(1,.ref 0 4 0 0)]) (fun _=>⟨1,[(0,⟨4,[[.int .i64 s.ag,.int .i64 s.fa,.int .i64 s.ln,.sl 2 (runR s.rs)]]⟩)]⟩)
  (fun t=>t<=r.loc.length/\badF s r=(r.loc.drop t).any (fun l=>!decide ((l.length:Int)= s.ag))) (fun t=>r.loc.length-t) 0 ⟨Nat.zero_le _,hbf⟩ ?_ ?_
 ·(refine Weak.same ?_; simp [sameF,Fr.get])
 intro t ⟨ht,hb⟩
 refine wpS_go mixed ?_
 by_cases htl:t<r.loc.length
 case neg=>
  have hd2:¬ ((t:Int)<s.ln):=by omega
  rw [List.drop_eq_nil_of_le (by omega),List.any_nil] at hb
  simp only [ZA,ZB,ZC,ZD,ZE,↓reduceIte,reduceIte,ZF,ZG,ZH,ZI,ZJ,reduceCtorEq,ZK,↓zU,↓zD,zV,zT,zW,hd2]
  (repeat refine sd ?_)
  refine⟨k+1,⟨by omega,?_⟩,?_,by omega⟩
  ·rw [hi,hb,Bool.false_or]
  (refine Weak.same ?_; simp only [sameF,Fr.get,↓reduceIte,reduceIte,Nat.reduceEqDiff,reduceCtorEq,D.int.injEq,D.bool.injEq,D.sl.injEq,and_true,true_and,and_self])
  exact wrap_i64 (by omega)
 have hd2:((t:Int)<s.ln):=by omega
 rw [drop_cons (d:=[]) htl,List.any_cons] at hb
 have hgu:=rl_get r.loc htl
 generalize r.loc.getD t []=x at hgu hb
 by_cases hx:(x.length:Int)= s.ag
 ·have ex:((x.length:Int) != s.ag)= false:=by simpa using hx
  rw [decide_eq_true hx,Bool.not_true,Bool.false_or] at hb
  simp only [ZA,ZB,ZC,ZD,ZE,↓reduceIte,reduceIte,ZF,ZG,ZH,ZI,ZJ,reduceCtorEq,ZK,↓zU,↓zD,zV,zT,zW,hd2,runR_len,hd,hg,RunA.row,rl_len,hgu,rows_len,ex]
  (repeat refine sd ?_)
  refine⟨t+1,⟨by omega,hb⟩,?_,by omega⟩
  (refine Weak.same ?_; simp only [sameF,Fr.get,↓reduceIte,reduceIte,Nat.reduceEqDiff,reduceCtorEq,D.int.injEq,D.bool.injEq,D.sl.injEq,and_true,true_and,and_self])
  exact wrap_i64 (by omega)
 ·have ex:((x.length:Int) != s.ag)= true:=by simpa using hx
  rw [decide_eq_false hx,Bool.not_false,Bool.true_or] at hb
  rw [if_pos (hend hb)]
  simp only [ZA,ZB,ZC,ZD,ZE,↓reduceIte,reduceIte,ZF,ZG,ZH,ZI,ZJ,reduceCtorEq,ZK,↓zU,↓zD,zV,zT,zW,hd2,runR_len,hd,hg,RunA.row,rl_len,hgu,rows_len,ex]
  (repeat refine sd ?_)
  exact .drop (by simp) (by simp [vw])
end
section
open Ru
theorem grow_viewL {nx n key sz:Nat} {objs:List (Nat × Ob)} {els:List (List D)} (hs:0<sz) (hp:∀ e ∈ els,D.isPureL e=true) (h:St.look objs key=growG sz els) {ρ:Nat->Nat}:vw ⟨nx,objs⟩ ⟨n,[]⟩ ρ (growD key sz els) (.sl sz els):=by
 cases els with
 | nil=>simp [growD,vw]
 | cons e r=>
  simp only [growD,vw]
  refine⟨trivial,hs,by simp,⟨sz,e :: r⟩,?_,rfl,by simp,by simp,hp⟩
  show St.look objs key=_
  rw [h]; rfl
namespace Ru
def ptR (l:List (Nat × Nat)):List (List D):=l.map fun p=>[.int .i64 (p.1:Int),.int .i64 (p.2:Int)]
theorem ptR_len (l:List (Nat × Nat)):(ptR l).length=l.length:=by simp [ptR]
theorem ptR_get (l:List (Nat × Nat)) {i:Nat} (h:i<l.length):(ptR l).getD i [] = [.int .i64 ((l.getD i (0,0)).1:Int),.int .i64 ((l.getD i (0,0)).2:Int)]:=by simp [ptR,List.getD,h]
theorem ptR_pure (l:List (Nat × Nat)):∀ e ∈ ptR l,D.isPureL e=true:=by
 intro e he
 simp only [ptR,List.mem_map] at he
 obtain⟨r,_,rfl⟩:=he
 rfl
theorem pureE_ptR (l:List (Nat × Nat)):pureE (ptR l)= True:=eq_true (ptR_pure l)
theorem ptR_snoc (l:List (Nat × Nat)) (a b:Nat):ptR l ++ [[.int .i64 (a:Int),.int .i64 (b:Int)]]=ptR (l ++ [(a,b)]):=by simp [ptR]
theorem ptR_nil : ptR [] = []:=rfl
def ptN (T n:Nat):List (Nat × Nat):=(List.range n).map fun i=>(i / T,i % T)
theorem ptN_len (T n:Nat):(ptN T n).length=n:=by simp [ptN]
theorem ptN_get (T:Nat) {n i:Nat} (h:i<n):(ptN T n).getD i (0,0)= (i / T,i % T):=by simp [ptN,List.getD,h]
theorem ptN_succ (T r t:Nat) (ht:t<T):ptN T (r*T+(t+1))= ptN T (r*T+t)++ [(r,t)]:=by
 rw [show r*T+(t+1)= (r*T+t)+ 1 by omega]
 unfold ptN
 rw [List.range_succ,List.map_append,List.map_singleton]
 have e1:(r*T+t)/ T=r:=by
  rw [Nat.mul_comm,Nat.mul_add_div (by omega),Nat.div_eq_of_lt ht]; rfl
 have e2:(r*T+t) % T=t:=by
  rw [Nat.mul_comm,Nat.mul_add_mod,Nat.mod_eq_of_lt ht]
 rw [e1,e2]
def ptsA (s:SysA):List (Nat × Nat):=if chk s≠0 then [] else ptN s.ln.toNat (s.rs.length*s.ln.toNat)
structure Ok (s : SysA) (A F T : Nat) : Prop where
 ag:s.ag=A
 fa:s.fa=F
 ln:s.ln=T
 hA:A<=4
 hF:F<=8
 hT:1<=T/\T<=16
 hR:1<=s.rs.length/\s.rs.length<=64
 hP:s.rs.length*T<=512
 loc:∀ r ∈ s.rs,r.loc.length=T
 fac:∀ r ∈ s.rs,r.fac.length=T
 row:∀ r ∈ s.rs,∀ l ∈ r.loc,l.length=A
 val:∀ r ∈ s.rs,∀ f ∈ r.fac,f >>> F=0#64
theorem chk_zero {s:SysA} (h:chk s=0):∃ A F T,Ok s A F T:=by
 unfold chk at h
 split at h
 ·cases h
 rename_i h1
 split at h
 ·cases h
 rename_i h2
 split at h
 ·cases h
 rename_i h3
 split at h
 ·cases h
 rename_i h4
 split at h
 ·cases h
 rename_i h5
 obtain⟨A,hA⟩:=Int.eq_ofNat_of_zero_le (show 0<=s.ag by omega)
 obtain⟨F,hF⟩:=Int.eq_ofNat_of_zero_le (show 0<=s.fa by omega)
 obtain⟨T,hT⟩:=Int.eq_ofNat_of_zero_le (show 0<=s.ln by omega)
 have h4':∀ r ∈ s.rs,badF s r=false:=fun r hr=>by simpa using List.any_eq_false.1 (by simpa using h4) r hr
 have h5':∀ r ∈ s.rs,badV s r=false:=fun r hr=>by simpa using List.any_eq_false.1 (by simpa using h5) r hr
 have hb:∀ r ∈ s.rs,r.loc.length=T/\r.fac.length=T/\∀ l ∈ r.loc,l.length=A:=fun r hr=>by
  have:=h4' r hr
  simp only [badF,Bool.or_eq_false_iff,Bool.not_eq_false',decide_eq_true_eq,List.any_eq_false,hT,hA] at this
  refine⟨by omega,by omega,fun l hl=>?_⟩
  have:=this.2 l hl
  simp at this
  omega
 refine⟨A,F,T,hA,hF,hT,by omega,by omega,by omega,by omega,?_,fun r hr=>(hb r hr).1,fun r hr=>(hb r hr).2.1,fun r hr=>(hb r hr).2.2,fun r hr f hf=>?_⟩
 ·have:((s.rs.length*T:Nat):Int)<=512:=by rw [Int.natCast_mul,<- hT]; omega
  omega
 ·have:=h5' r hr
  simp only [badV,List.any_eq_false] at this
  have:=this f hf
  rw [hF,Int.toNat_natCast] at this
  simpa using this
theorem ptsA_ok {s:SysA} {A F T:Nat} (h:Ok s A F T) (hz:chk s=0):ptsA s=ptN T (s.rs.length*T):=by
 unfold ptsA; rw [if_neg (by simpa using hz),h.ln,Int.toNat_natCast]
end Ru
theorem Points29 (s:SysA):Runs Tryz.prog 39 [s.d] (.sl 2 (ptR (ptsA s))):=by
 have hD:s.d = .agg [.int .i64 s.ag,.int .i64 s.fa,.int .i64 s.ln,.sl 2 (runR s.rs)]:=rfl
 have hC:=Check31 s
 rw [hD] at hC ⊢
 refine CallT.go_fn mixed Tryz.func39 k39 (by simp) fun hf=>?_
 simp only [ZA,ZB,ZC,ZD,ZE,↓reduceIte,reduceIte,ZF,ZG,ZH,ZI,ZJ,reduceCtorEq,ZK,↓zU,↓zD,zV,zT,zW]
 (repeat refine sd ?_)
 refine .go (cq hC) ?_
 by_cases hz:chk s=0
 case neg=>
  have e:(chk s != 0)= true:=by simpa using hz
  rw [show ptsA s = [] by unfold ptsA; rw [if_pos hz]]
  simp only [ZA,ZB,ZC,ZD,ZE,↓reduceIte,reduceIte,ZF,ZG,ZH,ZI,ZJ,reduceCtorEq,ZK,↓zU,↓zD,zV,zT,zW,e]
  exact .drop (by simp) (by simp [vw,ptR])
 have e:(chk s != 0)= false:=by simpa using hz
 obtain⟨A,F,T,ok⟩:=chk_zero hz
 rw [ptsA_ok ok hz]
 obtain⟨T1,T16⟩:=ok.hT
 obtain⟨R1,R64⟩:=ok.hR
 simp only [ZA,ZB,ZC,ZD,ZE,↓reduceIte,reduceIte,ZF,ZG,ZH,ZI,ZJ,reduceCtorEq,ZK,↓zU,↓zD,zV,zT,zW,e,ok.ln,ok.ag,ok.fa,runR_len]
 refine wpS_loop (fun r:Nat=>[(12,.int .i64 r),(11,.int .i64 s.rs.length),(3,growD 1 2 (ptR (ptN T (r*T)))),(1,.ref 0 4 0 0)]) (fun r=>⟨2,growO 1 2 (ptR (ptN T (r*T)))++ [(0,⟨4,[[.int .i64 A,.int .i64 F,.int .i64 T,.sl 2 (runR s.rs)]]⟩)]⟩)
  (fun r=>r<=s.rs.length) (fun r=>s.rs.length-r) 0 (Nat.zero_le _) ?_ ?_
 ·rw [Nat.zero_mul]
  (refine Weak.ren [] [0] (by simp) (by simp) (by decide) ?_; simp only [stay1,vwL,vw,vwF,sw,St.get,St.look,Fr.get,↓reduceIte,reduceIte,Nat.reduceEqDiff,Nat.reduceAdd,Nat.reduceBEq,Nat.reduceLT,Nat.reduceLeDiff,exists_eq_left',ne_eq,reduceCtorEq,zR,ptN,List.range_zero,List.map_nil,ptR_nil,growD_nil,growO_nil,List.nil_append])
 intro r hr
 refine wpS_go mixed ?_
 by_cases hrl:r<s.rs.length
 case neg=>
  have hd:¬ ((r:Int)<(s.rs.length:Int)):=by omega
  rw [show r=s.rs.length by omega] at hd ⊢
  simp only [ZA,ZB,ZC,ZD,ZE,↓reduceIte,reduceIte,ZF,ZG,ZH,ZI,ZJ,reduceCtorEq,ZK,↓zU,↓zD,zV,zT,zW,hd]
  exact .drop (by simp) (grow_viewL (by decide) (ptR_pure _) (by simp [St.look,look_growO1,look_growO]))
 have hd:((r:Int)<(s.rs.length:Int)):=by omega
 simp only [ZA,ZB,ZC,ZD,ZE,↓reduceIte,reduceIte,ZF,ZG,ZH,ZI,ZJ,reduceCtorEq,ZK,↓zU,↓zD,zV,zT,zW,hd]
 refine wpS_loop (fun t:Nat=>[(17,.int .i64 t),(16,.int .i64 T),(12,.int .i64 r),(11,.int .i64 s.rs.length),(4,.int .i64 r),(3,growD 1 2 (ptR (ptN T (r*T+t)))),(1,.ref 0 4 0 0)]) (fun t=>⟨2,growO 1 2 (ptR (ptN T (r*T+t)))++ [(0,⟨4,[[.int .i64 A,.int .i64 F,.int .i64 T,.sl 2 (runR s.rs)]]⟩)]⟩)
  (fun t=>t<=T) (fun t=>T-t) 0 (Nat.zero_le _) ?_ ?_
 ·rw [Nat.add_zero]
  (refine Weak.ren [] [1,0] (by simp) (by simp) (by decide) ?_; simp only [stay1,vwL,vw,vwF,sw,St.get,St.look,Fr.get,↓reduceIte,reduceIte,Nat.reduceEqDiff,Nat.reduceAdd,Nat.reduceBEq,Nat.reduceLT,Nat.reduceLeDiff,exists_eq_left',ne_eq,reduceCtorEq,zR,pureE_ptR])
 intro t ht
 refine wpS_go mixed ?_
 by_cases htl:t<T
 case neg=>
  have hd2:¬ ((t:Int)<(T:Int)):=by omega
  have et:t=T:=by omega
  simp only [ZA,ZB,ZC,ZD,ZE,↓reduceIte,reduceIte,ZF,ZG,ZH,ZI,ZJ,reduceCtorEq,ZK,↓zU,↓zD,zV,zT,zW,hd2]
  (repeat refine sd ?_)
  refine⟨r+1,by omega,?_,by omega⟩
  rw [show (r+1)* T=r*T+t by rw [Nat.add_mul,et]; omega]
  (refine Weak.ren [] [1,0] (by simp) (by simp) (by decide) ?_; simp only [stay1,vwL,vw,vwF,sw,St.get,St.look,Fr.get,↓reduceIte,reduceIte,Nat.reduceEqDiff,Nat.reduceAdd,Nat.reduceBEq,Nat.reduceLT,Nat.reduceLeDiff,exists_eq_left',ne_eq,reduceCtorEq,zR,pureE_ptR])
  exact wrap_i64 (by omega)
 have hd2:((t:Int)<(T:Int)):=by omega
 have hlen:r*T+t<1024:=by
  have:r*T<=64*16-16:=by
   have:=Nat.mul_le_mul (show r<=63 by omega) T16
   omega
  omega
 have hS:=ptN_succ T r t htl
 have hln:=ptN_len T (r*T+t)
 have hw:IntKind.i64.wrap ((t:Int)+ 1)= ((t+1:Nat):Int):=wrap_i64 (by omega)
 generalize ptN T (r*T+t)= l at hS hln
 simp only [ZA,ZB,ZC,ZD,ZE,↓reduceIte,reduceIte,ZF,ZG,ZH,ZI,ZJ,reduceCtorEq,ZK,↓zU,↓zD,zV,zT,zW,hd2,ptR_len,hln]
 (repeat refine sd ?_)
 refine⟨t+1,by omega,?_,by omega⟩
 rw [hS,ptR_snoc]
 (refine Weak.ren [(1,2)] [1,0] (by simp) (by simp) (by decide) ?_; simp only [stay1,vwL,vw,vwF,sw,St.get,St.look,Fr.get,↓reduceIte,reduceIte,Nat.reduceEqDiff,Nat.reduceAdd,Nat.reduceBEq,Nat.reduceLT,Nat.reduceLeDiff,exists_eq_left',ne_eq,reduceCtorEq,zR,pureE_ptR,hw])
end
section
namespace Ru
def locA (rs:List RunA) (a:Nat) (p:Nat × Nat):Int:=((rs.getD p.1 run0).loc.getD p.2 []).getD a 0
def facA (rs:List RunA) (p:Nat × Nat):BitVec 64:=(rs.getD p.1 run0).fac.getD p.2 0
def relK (rs:List RunA) (l:List (Nat × Nat)) (a:Nat) (x:Int):Nat->BitVec 64
 | 0=>0#64
 | k+1=>relK rs l a x k ||| (if locA rs a (l.getD k (0,0))= x then 1#64 <<< k else 0#64)
structure OkR (rs : List RunA) (A F T : Nat) : Prop where
 hA:A<=4
 hF:F<=8
 hT:1<=T/\T<=16
 hR:1<=rs.length/\rs.length<=64
 hP:rs.length*T<=512
 loc:∀ r ∈ rs,r.loc.length=T
 fac:∀ r ∈ rs,r.fac.length=T
 row:∀ r ∈ rs,∀ l ∈ r.loc,l.length=A
 val:∀ r ∈ rs,∀ f ∈ r.fac,f >>> F=0#64
theorem chk_sys {s:SysA} (h:chk s=0):∃ (A F T:Nat) (rs:List RunA),s=⟨A,F,T,rs⟩/\ OkR rs A F T:=by
 obtain⟨A,F,T,ok⟩:=chk_zero h
 obtain⟨ag,fa,ln,rs⟩:=s
 obtain⟨h1,h2,h3,h4,h5,h6,h7,h8,h9,h10,h11,h12⟩:=ok
 simp only at h1 h2 h3 h7 h8 h9 h10 h11 h12
 subst h1 h2 h3
 exact⟨A,F,T,rs,rfl,⟨h4,h5,h6,h7,h8,h9,h10,h11,h12⟩⟩
def Inb (rs:List RunA) (T:Nat) (l:List (Nat × Nat)):Prop:=∀ p ∈ l,p.1<rs.length/\p.2<T
theorem ptN_in {rs:List RunA} {T n:Nat} (hT:1<=T) (hn:n<=rs.length*T):Inb rs T (ptN T n):=fun p hp=>by
 simp only [ptN,List.mem_map,List.mem_range] at hp
 obtain⟨i,hi,rfl⟩:=hp
 refine⟨(Nat.div_lt_iff_lt_mul (by omega)).2 (by omega),Nat.mod_lt _ (by omega)⟩
def sD (A F T:Nat) (rs:List RunA):D:=.agg [.int .i64 (A:Int),.int .i64 (F:Int),.int .i64 (T:Int),.sl 2 (runR rs)]
theorem afind_shift (x:Int):∀ (l:List (Int × D)) (i:Nat),afind x l i=(afind x l 0).map fun p=>(p.1+i,p.2)
 | [],i=>rfl
 | (k,d) :: r,i=>by
  unfold afind
  by_cases h:x=k
  ·rw [if_pos h,if_pos h]; simp
  ·rw [if_neg h,if_neg h,afind_shift x r (i+1),afind_shift x r (0+1)]
   cases afind x r 0 with
   | none=>rfl
   | some p=>simp; omega
end Ru
open Ru
theorem local38 {rs:List RunA} {A F T:Nat} (ok:OkR rs A F T) {a:Nat} (ha:a<A) {p:Nat × Nat} (hp:p.1<rs.length/\p.2<T):Runs Tryz.prog 36 [sD A F T rs,.int .i64 a,.agg [.int .i64 (p.1:Int),.int .i64 (p.2:Int)]] (.int .i64 (locA rs a p)):=by
 have hm:=getD_mem (d:=run0) hp.1
 have hg:=runR_get rs hp.1
 have h1:=ok.loc _ hm
 have h2:=ok.row _ hm _ (getD_mem (d:=[]) (show p.2<(rs.getD p.1 run0).loc.length by omega))
 unfold locA sD
 generalize rs.getD p.1 run0=r at hg h1 h2
 have hg2:=rl_get r.loc (show p.2<r.loc.length by omega)
 generalize r.loc.getD p.2 []=x at hg2 h2
 have hg3:=rows_get .i64 x (show a<x.length by omega)
 refine CallT.go_fn mixed Tryz.func36 k36 (by simp) fun hf=>?_
 simp only [ZA,ZB,ZC,ZD,ZE,↓reduceIte,reduceIte,ZF,ZG,ZH,ZI,ZJ,reduceCtorEq,ZK,↓zU,↓zD,zV,zT,zW,runR_len,hg,RunA.row,rl_len,hg2,rows_len,hg3]
 (repeat refine sd ?_)
 exact .drop (by simp) (by simp [vw])
end
end Go.Pd
