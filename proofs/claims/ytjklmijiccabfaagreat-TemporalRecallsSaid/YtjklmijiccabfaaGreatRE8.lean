/- Part E8. -/
import Derived.Test.YtjklmijiccabfaaGreatRE7
import Derived.Test.YtjklmijiccabfaaGreatRY1
set_option linter.unusedSectionVars false
set_option linter.unusedVariables false
set_option linter.unusedSimpArgs false
set_option linter.defProp false
set_option maxRecDepth 20000
set_option maxHeartbeats 1000000
namespace Go.Pd
open Go Go.Proofs
open Int renaming reduceToNat -> ZA, reduceLT -> ZB, reduceLE -> ZC, reduceBEq -> ZD, reduceBNe -> ZE
open Nat renaming reduceEqDiff -> ZF, reduceAdd -> ZG, reduceBEq -> ZH, reduceLT -> ZI, reduceLeDiff -> ZJ, reduceMul -> ZK
open Rs Fm Ru Te
namespace Te
theorem drop_one {α:Type} {l:List α} {d:α} {k:Nat} (h:k<l.length):l.drop k=l.getD k d :: l.drop (k+1):=by
 rw [List.drop_eq_getElem_cons h]; simp [List.getD,h]
def fewR (r:RunA):Bool:=decide (r.loc.length<=20)&& decide (r.fac.length<=20)&& r.loc.all fun l=>decide (l.length<=20)
def fewA (s:SysA):Bool:=if 70<s.rs.length then false else s.rs.all fewR&&(decide (chk s≠0) || decide (s.rs.length*s.ln.toNat<=40))
end Te
theorem Few12 (s:SysA):Runs Tryz.prog 27 [s.d] (.bool (fewA s)):=by
 have hD:s.d = .agg [.int .i64 s.ag,.int .i64 s.fa,.int .i64 s.ln,.sl 2 (runR s.rs)]:=rfl
 have hC:=refCheck23 s
 rw [hD] at hC ⊢
 refine CallT.go_fn mixed Tryz.func27 k27 (by simp) fun hf=>?_
 by_cases h0:70<s.rs.length
 ·rw [show fewA s=false from if_pos h0]
  have a1:(70:Int)<(s.rs.length:Int):=by omega
  simp only [ZA,ZB,ZC,ZD,ZE,↓reduceIte,reduceIte,ZF,ZG,ZH,ZI,ZJ,reduceCtorEq,ZK,↓zU,↓zD,zV,zT,zW,runR_len,a1]
  exact .drop (by simp) (by simp [vw])
 rw [show fewA s=(s.rs.all fewR&&(decide (chk s≠0) || decide (s.rs.length*s.ln.toNat<=40))) from if_neg h0]
 have a1:¬ (70:Int)<(s.rs.length:Int):=by omega
 simp only [ZA,ZB,ZC,ZD,ZE,↓reduceIte,reduceIte,ZF,ZG,ZH,ZI,ZJ,reduceCtorEq,ZK,↓zU,↓zD,zV,zT,zW,runR_len,a1]
 refine wpS_loop (fun k:Nat=>[(3,.int .i64 k),(1,.ref 0 4 0 0)]) (fun _=>⟨1,[(0,⟨4,[[.int .i64 s.ag,.int .i64 s.fa,.int .i64 s.ln,.sl 2 (runR s.rs)]]⟩)]⟩)
  (fun k=>k<=s.rs.length/\s.rs.all fewR=(s.rs.drop k).all fewR) (fun k=>s.rs.length-k) 0 ⟨Nat.zero_le _,rfl⟩ ?_ ?_
 ·(refine Weak.same ?_; simp [sameF,Fr.get])
 intro k ⟨hk,hi⟩
 refine wpS_go mixed ?_
 by_cases hkl:k<s.rs.length
 case neg=>
  have hd:¬ ((k:Int)<(s.rs.length:Int)):=by omega
  rw [List.drop_eq_nil_of_le (by omega),List.all_nil] at hi
  rw [hi,Bool.true_and]
  simp only [ZA,ZB,ZC,ZD,ZE,↓reduceIte,reduceIte,ZF,ZG,ZH,ZI,ZJ,reduceCtorEq,ZK,↓zU,↓zD,zV,zT,zW,runR_len,hd]
  (repeat refine sd ?_)
  refine .go (cq hC) ?_
  by_cases hz:chk s=0
  case neg=>
   have e:(chk s != 0)= true:=by simpa using hz
   simp only [ZA,ZB,ZC,ZD,ZE,↓reduceIte,reduceIte,ZF,ZG,ZH,ZI,ZJ,reduceCtorEq,ZK,↓zU,↓zD,zV,zT,zW,e]
   exact .drop (by simp) (by simp [vw,hz])
  have e:(chk s != 0)= false:=by simpa using hz
  obtain⟨A,F,T,rs,rfl,ok⟩:=chk_sys hz
  have hRT:=ok.hP
  have hm:IntKind.i64.wrap ((rs.length:Int)* (T:Int))= ((rs.length*T:Nat):Int):=by
   rw [<- Int.natCast_mul]; exact wrap_i64 (by omega)
  have hdd:decide (((rs.length*T:Nat):Int)<=40)= decide (rs.length*T<=40):=by rw [Bool.eq_iff_iff,decide_eq_true_iff,decide_eq_true_iff]; omega
  simp only [ZA,ZB,ZC,ZD,ZE,↓reduceIte,reduceIte,ZF,ZG,ZH,ZI,ZJ,reduceCtorEq,ZK,↓zU,↓zD,zV,zT,zW,e,runR_len,hm]
  (repeat refine sd ?_)
  rw [hdd]
  exact .drop (by simp) (by simp [vw,hz])
 have hd:((k:Int)<(s.rs.length:Int)):=by omega
 rw [drop_one (d:=run0) hkl,List.all_cons] at hi
 have hg:=runR_get s.rs hkl
 generalize s.rs.getD k run0=r at hg hi
 by_cases c1:(20:Int)<(r.loc.length:Int)
 ·rw [show fewR r=false by simp [fewR]; omega,Bool.false_and] at hi
  rw [hi]
  simp only [ZA,ZB,ZC,ZD,ZE,↓reduceIte,reduceIte,ZF,ZG,ZH,ZI,ZJ,reduceCtorEq,ZK,↓zU,↓zD,zV,zT,zW,runR_len,hd,hg,RunA.row,rl_len,c1]
  (repeat refine sd ?_)
  exact .drop (by simp) (by simp [vw])
 by_cases c2:(20:Int)<(r.fac.length:Int)
 ·rw [show fewR r=false by simp [fewR]; omega,Bool.false_and] at hi
  rw [hi]
  simp only [ZA,ZB,ZC,ZD,ZE,↓reduceIte,reduceIte,ZF,ZG,ZH,ZI,ZJ,reduceCtorEq,ZK,↓zU,↓zD,zV,zT,zW,runR_len,hd,hg,RunA.row,rl_len,c1,us_len,c2]
  (repeat refine sd ?_)
  exact .drop (by simp) (by simp [vw])
 have hfr:fewR r=r.loc.all fun l=>decide (l.length<=20):=by
  unfold fewR; rw [decide_eq_true (by omega),decide_eq_true (by omega)]; rfl
 simp only [ZA,ZB,ZC,ZD,ZE,↓reduceIte,reduceIte,ZF,ZG,ZH,ZI,ZJ,reduceCtorEq,ZK,↓zU,↓zD,zV,zT,zW,runR_len,hd,hg,RunA.row,rl_len,c1,us_len,c2]
 (repeat refine sd ?_)
 refine wpS_loop (fun t:Nat=>[(4,.int .i64 t),(3,.int .i64 k),(1,.ref 0 4 0 0)]) (fun _=>⟨1,[(0,⟨4,[[.int .i64 s.ag,.int .i64 s.fa,.int .i64 s.ln,.sl 2 (runR s.rs)]]⟩)]⟩)
  (fun t=>t<=r.loc.length/\fewR r=(r.loc.drop t).all fun l=>decide (l.length<=20)) (fun t=>r.loc.length-t) 0 ⟨Nat.zero_le _,hfr⟩ ?_ ?_
 ·(refine Weak.same ?_; simp [sameF,Fr.get])
 intro t ⟨ht,hb⟩
 refine wpS_go mixed ?_
 by_cases htl:t<r.loc.length
 case neg=>
  have hd2:¬ ((t:Int)<(r.loc.length:Int)):=by omega
  rw [List.drop_eq_nil_of_le (by omega),List.all_nil] at hb
  simp only [ZA,ZB,ZC,ZD,ZE,↓reduceIte,reduceIte,ZF,ZG,ZH,ZI,ZJ,reduceCtorEq,ZK,↓zU,↓zD,zV,zT,zW,runR_len,hd,hg,RunA.row,rl_len,hd2]
  (repeat refine sd ?_)
  refine⟨k+1,⟨by omega,by rw [hi,hb,Bool.true_and]⟩,?_,by omega⟩
  (refine Weak.same ?_; simp only [sameF,Fr.get,↓reduceIte,reduceIte,Nat.reduceEqDiff,reduceCtorEq,D.int.injEq,D.bool.injEq,D.sl.injEq,and_true,true_and,and_self])
  exact wrap_i64 (by omega)
 have hd2:((t:Int)<(r.loc.length:Int)):=by omega
 rw [drop_one (d:=[]) htl,List.all_cons] at hb
 have hgu:=rl_get r.loc htl
 generalize r.loc.getD t []=x at hgu hb
 by_cases hx:(20:Int)<(x.length:Int)
 ·rw [decide_eq_false (by omega),Bool.false_and] at hb
  rw [hi,hb,Bool.false_and,Bool.false_and]
  simp only [ZA,ZB,ZC,ZD,ZE,↓reduceIte,reduceIte,ZF,ZG,ZH,ZI,ZJ,reduceCtorEq,ZK,↓zU,↓zD,zV,zT,zW,runR_len,hd,hg,RunA.row,rl_len,hd2,hgu,rows_len,hx]
  (repeat refine sd ?_)
  exact .drop (by simp) (by simp [vw])
 rw [decide_eq_true (by omega),Bool.true_and] at hb
 simp only [ZA,ZB,ZC,ZD,ZE,↓reduceIte,reduceIte,ZF,ZG,ZH,ZI,ZJ,reduceCtorEq,ZK,↓zU,↓zD,zV,zT,zW,runR_len,hd,hg,RunA.row,rl_len,hd2,hgu,rows_len,hx]
 (repeat refine sd ?_)
 refine⟨t+1,⟨by omega,hb⟩,?_,by omega⟩
 (refine Weak.same ?_; simp only [sameF,Fr.get,↓reduceIte,reduceIte,Nat.reduceEqDiff,reduceCtorEq,D.int.injEq,D.bool.injEq,D.sl.injEq,and_true,true_and,and_self])
 exact wrap_i64 (by omega)
namespace Te
def btR (l:List (List Bool)):List (List D):=l.map fun r=>[.sl 1 (rbR r)]
theorem btR_len (l:List (List Bool)):(btR l).length=l.length:=by simp [btR]
theorem btR_get {l:List (List Bool)} {i:Nat} (h:i<l.length):(btR l).getD i [] = [.sl 1 (rbR (l.getD i []))]:=by simp [btR,List.getD,h]
def holdsL (s:SysA) (f:List Nd):List (List Bool):=if reqE s f≠0 then [] else(List.range s.rs.length).map fun i=>(List.range s.ln.toNat).map fun t=>lastT s.rs s.ag.toNat s.ln.toNat f (i,t)
theorem holdsL_eq (s:SysA) (f:List Nd):holdsR s f=btR (holdsL s f):=by
 unfold holdsR holdsL
 split
 ·rfl
 ·simp [btR,tabR]
theorem holdsL_small (s:SysA) (f:List Nd):(holdsL s f).length<=64/\∀ r ∈ holdsL s f,r.length<=16:=by
 unfold holdsL
 by_cases h:reqE s f=0
 ·rw [if_neg (by simpa using h)]
  obtain⟨A,F,T,rs,rfl,ok⟩:=chk_sys (req_zero h).1
  refine⟨by simp; exact ok.hR.2,fun r hr=>?_⟩
  simp only [List.mem_map,List.mem_range] at hr
  obtain⟨i,_,rfl⟩:=hr
  simp
  exact ok.hT.2
 ·rw [if_pos h]; simp
def validA (s:SysA) (f:List Nd):Bool:=decide (reqE s f=0)&& (holdsL s f).all fun r=>r.all fun b=>b
end Te
theorem Valid15 (s:SysA) (f:List Nd):Runs Tryz.prog 33 [s.d,.sl 6 (ndR f)] (.tup [.bool (validA s f),.int .i64 (reqE s f)]):=by
 have hD:s.d = .agg [.int .i64 s.ag,.int .i64 s.fa,.int .i64 s.ln,.sl 2 (runR s.rs)]:=rfl
 have hH:=Holds13 s f
 obtain⟨l64,l16⟩:=holdsL_small s f
 rw [holdsL_eq] at hH
 unfold validA
 rw [hD] at hH ⊢
 by_cases hE:reqE s f=0
 case neg=>
  have e:(reqE s f != 0)= true:=by simpa using hE
  refine CallT.go_fn mixed Tryz.func33 k33 (by simp) fun hf=>?_
  simp only [ZA,ZB,ZC,ZD,ZE,↓reduceIte,reduceIte,ZF,ZG,ZH,ZI,ZJ,reduceCtorEq,ZK,↓zU,↓zD,zV,zT,zW]
  (repeat refine sd ?_)
  refine .go (cr hH) ?_
  simp only [ZA,ZB,ZC,ZD,ZE,↓reduceIte,reduceIte,ZF,ZG,ZH,ZI,ZJ,reduceCtorEq,ZK,↓zU,↓zD,zV,zT,zW,e]
  exact .drop (by simp) (by simp [vw,vwL,hE])
 rw [hE] at hH ⊢
 rw [decide_eq_true rfl,Bool.true_and]
 generalize holdsL s f=l at hH l64 l16
 refine CallT.go_fn mixed Tryz.func33 k33 (by simp) fun hf=>?_
 simp only [ZA,ZB,ZC,ZD,ZE,↓reduceIte,reduceIte,ZF,ZG,ZH,ZI,ZJ,reduceCtorEq,ZK,↓zU,↓zD,zV,zT,zW]
 (repeat refine sd ?_)
 refine .go (cr hH) ?_
 simp only [ZA,ZB,ZC,ZD,ZE,↓reduceIte,reduceIte,ZF,ZG,ZH,ZI,ZJ,reduceCtorEq,ZK,↓zU,↓zD,zV,zT,zW,btR_len]
 refine wpS_loop (fun i:Nat=>[(23,.int .i64 i),(22,.int .i64 l.length),(21,.sl 1 (btR l))]) (fun _=>⟨0,[]⟩) (fun i=>i<=l.length/\(l.all fun r=>r.all fun b=>b)= ((l.drop i).all fun r=>r.all fun b=>b)) (fun i=>l.length-i) 0 ⟨Nat.zero_le _,rfl⟩ ?_ ?_
 ·(refine Weak.view (fun k=>k) (by simp) (by simp) ?_ (by simp [stays]) (by simp [apartNames]); simp [vwF,vw,vwL,Fr.get])
 rintro i ⟨hi,hk⟩
 refine wpS_go mixed ?_
 by_cases hil:i<l.length
 case neg=>
  have hd:¬ ((i:Int)<(l.length:Int)):=by omega
  rw [List.drop_eq_nil_of_le (by omega),List.all_nil] at hk
  rw [hk]
  simp only [ZA,ZB,ZC,ZD,ZE,↓reduceIte,reduceIte,ZF,ZG,ZH,ZI,ZJ,reduceCtorEq,ZK,↓zU,↓zD,zV,zT,zW,hd]
  exact .drop (by simp) (by simp [vw,vwL])
 have hd:((i:Int)<(l.length:Int)):=by omega
 have hg:=btR_get hil
 have h16:=l16 _ (getD_mem (d:=[]) hil)
 rw [drop_one (d:=[]) hil,List.all_cons] at hk
 generalize l.getD i []=r at hg h16 hk
 simp only [ZA,ZB,ZC,ZD,ZE,↓reduceIte,reduceIte,ZF,ZG,ZH,ZI,ZJ,reduceCtorEq,ZK,↓zU,↓zD,zV,zT,zW,hd,btR_len,hg,rbR_len]
 (repeat refine sd ?_)
 refine wpS_loop (fun t:Nat=>[(29,.int .i64 t),(28,.int .i64 r.length),(27,.sl 1 (rbR r)),(23,.int .i64 i),(22,.int .i64 l.length),(21,.sl 1 (btR l))]) (fun _=>⟨0,[]⟩) (fun t=>t<=r.length/\(r.all fun b=>b)= ((r.drop t).all fun b=>b)) (fun t=>r.length-t) 0 ⟨Nat.zero_le _,rfl⟩ ?_ ?_
 ·(refine Weak.same ?_; simp [sameF,Fr.get])
 rintro t ⟨ht,hm⟩
 refine wpS_go mixed ?_
 by_cases htl:t<r.length
 case neg=>
  have hd2:¬ ((t:Int)<(r.length:Int)):=by omega
  rw [List.drop_eq_nil_of_le (by omega),List.all_nil] at hm
  rw [hm,Bool.true_and] at hk
  simp only [ZA,ZB,ZC,ZD,ZE,↓reduceIte,reduceIte,ZF,ZG,ZH,ZI,ZJ,reduceCtorEq,ZK,↓zU,↓zD,zV,zT,zW,hd2]
  refine⟨i+1,⟨by omega,hk⟩,?_,by omega⟩
  (refine Weak.same ?_; simp only [sameF,Fr.get,↓reduceIte,reduceIte,Nat.reduceEqDiff,reduceCtorEq,D.int.injEq,D.bool.injEq,D.sl.injEq,and_true,true_and,and_self])
  exact wrap_up (by omega)
 have hd2:((t:Int)<(r.length:Int)):=by omega
 have hgt:=rbR_at htl
 rw [drop_one (d:=false) htl,List.all_cons] at hm
 generalize r.getD t false=b at hgt hm
 cases b with
 | true=>
  rw [Bool.true_and] at hm
  simp only [ZA,ZB,ZC,ZD,ZE,↓reduceIte,reduceIte,ZF,ZG,ZH,ZI,ZJ,reduceCtorEq,ZK,↓zU,↓zD,zV,zT,zW,hd2,rbR_len,hgt]
  (repeat refine sd ?_)
  refine⟨t+1,⟨by omega,hm⟩,?_,by omega⟩
  (refine Weak.same ?_; simp only [sameF,Fr.get,↓reduceIte,reduceIte,Nat.reduceEqDiff,reduceCtorEq,D.int.injEq,D.bool.injEq,D.sl.injEq,and_true,true_and,and_self])
  exact wrap_up (by omega)
 | false=>
  rw [Bool.false_and] at hm
  rw [hk,hm,Bool.false_and]
  simp only [ZA,ZB,ZC,ZD,ZE,↓reduceIte,reduceIte,ZF,ZG,ZH,ZI,ZJ,reduceCtorEq,ZK,↓zU,↓zD,zV,zT,zW,hd2,rbR_len,hgt]
  (repeat refine sd ?_)
  exact .drop (by simp) (by simp [vw,vwL])
end Go.Pd
