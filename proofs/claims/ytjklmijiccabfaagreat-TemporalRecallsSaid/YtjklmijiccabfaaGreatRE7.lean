/- Part E7. -/
import Derived.Test.YtjklmijiccabfaaGreatRE6
set_option linter.unusedSectionVars false
set_option linter.unusedVariables false
set_option linter.unusedSimpArgs false
set_option linter.defProp false
set_option maxRecDepth 20000
set_option maxHeartbeats 1000000
namespace Go.Pd
open Go Go.Proofs
open Int renaming reduceToNat -> ZA, reduceLT -> ZB, reduceLE -> ZC, reduceBEq -> ZD, reduceBNe -> ZE
open Nat renaming reduceEqDiff -> ZF, reduceAdd -> ZG, reduceBEq -> ZH, reduceLT -> ZI, reduceLeDiff -> ZJ, reduceMul -> ZK
open Rs Fm Ru Te
theorem refFits84 (f:List Nd) (a b:Int):Runs Tryz.prog 69 [.sl 6 (ndR f),.int .i64 a,.int .i64 b] (.bool (fitsB f a b)):=by
 have hA:=refAgents112 f
 have hF:=refFacts42 f
 have hC:=Check39 f
 have ha:=bits_below (n:=a) (agents_16 f) (by decide)
 have hb:=bits_below (n:=b) (facts_256 f) (by decide)
 have la:=agents_16 f
 have lb:=facts_256 f
 unfold fitsB
 rw [ha,hb]
 generalize agentsA f=ma at hA la
 generalize factsA f=mb at hF lb
 refine CallT.go_fn mixed Tryz.func69 k69 (by simp) fun hf=>?_
 simp only [ZA,ZB,ZC,ZD,ZE,↓reduceIte,reduceIte,ZF,ZG,ZH,ZI,ZJ,reduceCtorEq,ZK,↓zU,↓zD,zV,zT,zW]
 refine .go (cr hC) ?_
 by_cases hz:checkF f=0
 case neg=>
  have e:(checkF f != 0)= true:=by simpa using hz
  simp only [ZA,ZB,ZC,ZD,ZE,↓reduceIte,reduceIte,ZF,ZG,ZH,ZI,ZJ,reduceCtorEq,ZK,↓zU,↓zD,zV,zT,zW,e]
  exact .drop (by simp) (by simp [vw,hz])
 have e:(checkF f != 0)= false:=by simpa using hz
 rw [decide_eq_true hz,Bool.true_and]
 simp only [ZA,ZB,ZC,ZD,ZE,↓reduceIte,reduceIte,ZF,ZG,ZH,ZI,ZJ,reduceCtorEq,ZK,↓zU,↓zD,zV,zT,zW,e]
 refine wpS_loop (fun i:Nat=>[(7,.int .i64 i),(2,.int .i64 b),(1,.int .i64 a),(0,.sl 6 (ndR f))]) (fun _=>⟨0,[]⟩) (fun i=>i<=4/\bitsB ma i a=true) (fun i=>4-i) 0 ⟨Nat.zero_le _,rfl⟩ ?_ ?_
 ·(refine Weak.same ?_; simp [sameF,Fr.get])
 rintro i ⟨hi,hk⟩
 refine wpS_go mixed ?_
 by_cases h4:i<4
 ·have hd:((i:Int)<4):=by omega
  have hsu:bitsB ma (i+1) a=(bitsB ma i a&&(!ma.testBit i || decide ((i:Int)<a))):=by
   unfold bitsB; rw [List.range_succ,List.all_append,List.all_cons,List.all_nil,Bool.and_true]
  have hbit:(((ma / 2 ^ i:Nat):Int).tmod 2==1)= ma.testBit i:=by rw [tmod2,bitNat]
  rw [hk,Bool.true_and] at hsu
  simp only [ZA,ZB,ZC,ZD,ZE,↓reduceIte,reduceIte,ZF,ZG,ZH,ZI,ZJ,reduceCtorEq,ZK,↓zU,↓zD,zV,zT,zW,hd]
  refine .go (cr hA) ?_
  cases hb2:ma.testBit i with
  | false=>
   rw [hb2] at hbit hsu
   simp only [ZA,ZB,ZC,ZD,ZE,↓reduceIte,reduceIte,ZF,ZG,ZH,ZI,ZJ,reduceCtorEq,ZK,↓zU,↓zD,zV,zT,zW,shrNat ma i (by omega),hbit]
   (repeat refine sd ?_)
   refine⟨i+1,⟨by omega,by rw [hsu]; rfl⟩,?_,by omega⟩
   (refine Weak.same ?_; simp only [sameF,Fr.get,↓reduceIte,reduceIte,Nat.reduceEqDiff,reduceCtorEq,D.int.injEq,D.bool.injEq,D.sl.injEq,and_true,true_and,and_self])
   exact wrap_up (by omega)
  | true=>
   rw [hb2] at hbit hsu
   by_cases hge:a<=(i:Int)
   ·simp only [ZA,ZB,ZC,ZD,ZE,↓reduceIte,reduceIte,ZF,ZG,ZH,ZI,ZJ,reduceCtorEq,ZK,↓zU,↓zD,zV,zT,zW,shrNat ma i (by omega),hbit,hge]
    (repeat refine sd ?_)
    have hf0:bitsB ma 4 a=false:=by
     unfold bitsB
     rw [List.all_eq_false]
     exact⟨i,List.mem_range.2 h4,by rw [hb2,decide_eq_false (by omega)]; simp⟩
    exact .drop (by simp) (by simp [vw,hf0])
   ·simp only [ZA,ZB,ZC,ZD,ZE,↓reduceIte,reduceIte,ZF,ZG,ZH,ZI,ZJ,reduceCtorEq,ZK,↓zU,↓zD,zV,zT,zW,shrNat ma i (by omega),hbit,hge]
    (repeat refine sd ?_)
    refine⟨i+1,⟨by omega,by rw [hsu,decide_eq_true (by omega)]; rfl⟩,?_,by omega⟩
    (refine Weak.same ?_; simp only [sameF,Fr.get,↓reduceIte,reduceIte,Nat.reduceEqDiff,reduceCtorEq,D.int.injEq,D.bool.injEq,D.sl.injEq,and_true,true_and,and_self])
    exact wrap_up (by omega)
 have hd:¬ ((i:Int)<4):=by omega
 obtain rfl:i=4:=by omega
 rw [hk,Bool.true_and]
 simp only [ZA,ZB,ZC,ZD,ZE,↓reduceIte,reduceIte,ZF,ZG,ZH,ZI,ZJ,reduceCtorEq,ZK,↓zU,↓zD,zV,zT,zW,hd]
 refine wpS_loop (fun i:Nat=>[(8,.int .i64 i),(2,.int .i64 b),(0,.sl 6 (ndR f))]) (fun _=>⟨0,[]⟩) (fun i=>i<=8/\bitsB mb i b=true) (fun i=>8-i) 0 ⟨Nat.zero_le _,rfl⟩ ?_ ?_
 ·(refine Weak.same ?_; simp [sameF,Fr.get])
 clear hd hi hk
 rintro i ⟨hi,hk⟩
 refine wpS_go mixed ?_
 by_cases h4:i<8
 ·have hd:((i:Int)<8):=by omega
  have hsu:bitsB mb (i+1) b=(bitsB mb i b&&(!mb.testBit i || decide ((i:Int)<b))):=by
   unfold bitsB; rw [List.range_succ,List.all_append,List.all_cons,List.all_nil,Bool.and_true]
  have hbit:(((mb / 2 ^ i:Nat):Int).tmod 2==1)= mb.testBit i:=by rw [tmod2,bitNat]
  rw [hk,Bool.true_and] at hsu
  simp only [ZA,ZB,ZC,ZD,ZE,↓reduceIte,reduceIte,ZF,ZG,ZH,ZI,ZJ,reduceCtorEq,ZK,↓zU,↓zD,zV,zT,zW,hd]
  refine .go (cr hF) ?_
  cases hb2:mb.testBit i with
  | false=>
   rw [hb2] at hbit hsu
   simp only [ZA,ZB,ZC,ZD,ZE,↓reduceIte,reduceIte,ZF,ZG,ZH,ZI,ZJ,reduceCtorEq,ZK,↓zU,↓zD,zV,zT,zW,shrNat mb i (by omega),hbit]
   (repeat refine sd ?_)
   refine⟨i+1,⟨by omega,by rw [hsu]; rfl⟩,?_,by omega⟩
   (refine Weak.same ?_; simp only [sameF,Fr.get,↓reduceIte,reduceIte,Nat.reduceEqDiff,reduceCtorEq,D.int.injEq,D.bool.injEq,D.sl.injEq,and_true,true_and,and_self])
   exact wrap_up (by omega)
  | true=>
   rw [hb2] at hbit hsu
   by_cases hge:b<=(i:Int)
   ·simp only [ZA,ZB,ZC,ZD,ZE,↓reduceIte,reduceIte,ZF,ZG,ZH,ZI,ZJ,reduceCtorEq,ZK,↓zU,↓zD,zV,zT,zW,shrNat mb i (by omega),hbit,hge]
    (repeat refine sd ?_)
    have hf0:bitsB mb 8 b=false:=by
     unfold bitsB
     rw [List.all_eq_false]
     exact⟨i,List.mem_range.2 h4,by rw [hb2,decide_eq_false (by omega)]; simp⟩
    exact .drop (by simp) (by simp [vw,hf0])
   ·simp only [ZA,ZB,ZC,ZD,ZE,↓reduceIte,reduceIte,ZF,ZG,ZH,ZI,ZJ,reduceCtorEq,ZK,↓zU,↓zD,zV,zT,zW,shrNat mb i (by omega),hbit,hge]
    (repeat refine sd ?_)
    refine⟨i+1,⟨by omega,by rw [hsu,decide_eq_true (by omega)]; rfl⟩,?_,by omega⟩
    (refine Weak.same ?_; simp only [sameF,Fr.get,↓reduceIte,reduceIte,Nat.reduceEqDiff,reduceCtorEq,D.int.injEq,D.bool.injEq,D.sl.injEq,and_true,true_and,and_self])
    exact wrap_up (by omega)
 have hd:¬ ((i:Int)<8):=by omega
 obtain rfl:i=8:=by omega
 rw [hk]
 simp only [ZA,ZB,ZC,ZD,ZE,↓reduceIte,reduceIte,ZF,ZG,ZH,ZI,ZJ,reduceCtorEq,ZK,↓zU,↓zD,zV,zT,zW,hd]
 exact .drop (by simp) (by simp [vw])
theorem refRequest40 (s:SysA) (f:List Nd):Runs Tryz.prog 46 [s.d,.sl 6 (ndR f)] (.int .i64 (reqE s f)):=by
 have hD:s.d = .agg [.int .i64 s.ag,.int .i64 s.fa,.int .i64 s.ln,.sl 2 (runR s.rs)]:=rfl
 have hC:=refCheck23 s
 have hF:=Check39 f
 have hG:=refFrags83 f
 have hT:=refFits84 f s.ag s.fa
 rw [hD] at hC ⊢
 unfold reqE
 refine CallT.go_fn mixed Tryz.func46 k46 (by simp) fun hf=>?_
 simp only [ZA,ZB,ZC,ZD,ZE,↓reduceIte,reduceIte,ZF,ZG,ZH,ZI,ZJ,reduceCtorEq,ZK,↓zU,↓zD,zV,zT,zW]
 (repeat refine sd ?_)
 refine .go (cq hC) ?_
 by_cases c1:chk s=0
 case neg=>
  have e1:(chk s != 0)= true:=by simpa using c1
  simp only [ZA,ZB,ZC,ZD,ZE,↓reduceIte,reduceIte,ZF,ZG,ZH,ZI,ZJ,reduceCtorEq,ZK,↓zU,↓zD,zV,zT,zW,e1]
  exact .drop (by simp) (by simp [vw,c1])
 have e1:(chk s != 0)= false:=by simpa using c1
 simp only [ZA,ZB,ZC,ZD,ZE,↓reduceIte,reduceIte,ZF,ZG,ZH,ZI,ZJ,reduceCtorEq,ZK,↓zU,↓zD,zV,zT,zW,e1]
 refine .go (cr hF) ?_
 by_cases c2:checkF f=0
 case neg=>
  have e2:(checkF f != 0)= true:=by simpa using c2
  simp only [ZA,ZB,ZC,ZD,ZE,↓reduceIte,reduceIte,ZF,ZG,ZH,ZI,ZJ,reduceCtorEq,ZK,↓zU,↓zD,zV,zT,zW,e2]
  exact .drop (by simp) (by simp [vw,c1,c2])
 have e2:(checkF f != 0)= false:=by simpa using c2
 simp only [ZA,ZB,ZC,ZD,ZE,↓reduceIte,reduceIte,ZF,ZG,ZH,ZI,ZJ,reduceCtorEq,ZK,↓zU,↓zD,zV,zT,zW,e2]
 refine .go (cr hG) ?_
 cases c3:(bitI .andNot .i64 (fragsA f:Int) 271 != 0) with
 | true=>
  simp only [ZA,ZB,ZC,ZD,ZE,↓reduceIte,reduceIte,ZF,ZG,ZH,ZI,ZJ,reduceCtorEq,ZK,↓zU,↓zD,zV,zT,zW,c3]
  exact .drop (by simp) (by simp [vw,c1,c2])
 | false=>
  simp only [ZA,ZB,ZC,ZD,ZE,↓reduceIte,reduceIte,ZF,ZG,ZH,ZI,ZJ,reduceCtorEq,ZK,↓zU,↓zD,zV,zT,zW,c3]
  (repeat refine sd ?_)
  refine .go (cr hT) ?_
  cases c4:fitsB f s.ag s.fa with
  | false=>
   simp only [ZA,ZB,ZC,ZD,ZE,↓reduceIte,reduceIte,ZF,ZG,ZH,ZI,ZJ,reduceCtorEq,ZK,↓zU,↓zD,zV,zT,zW]
   exact .drop (by simp) (by simp [vw,c1,c2])
  | true=>
   simp only [ZA,ZB,ZC,ZD,ZE,↓reduceIte,reduceIte,ZF,ZG,ZH,ZI,ZJ,reduceCtorEq,ZK,↓zU,↓zD,zV,zT,zW]
   exact .drop (by simp) (by simp [vw,c1,c2])
namespace Te
def setsR (rs:List RunA) (A T N:Nat) (c:List Nd) (k:Nat):List (List D):=(tabsP rs A T c k).map fun x=>[.sl 1 (rbR (flT T N x))]
theorem setsR_len (rs:List RunA) (A T N:Nat) (c:List Nd) (k:Nat):(setsR rs A T N c k).length=k:=by simp [setsR,tabsP_len]
theorem setsR_get {rs:List RunA} {A T N:Nat} {c:List Nd} {k i:Nat} (h:i<k):(setsR rs A T N c k).getD i [] = [.sl 1 (rbR (flT T N ((tabsP rs A T c k).getD i fun _=>false)))]:=by
 have:=tabsP_len rs A T c k
 simp [setsR,List.getD,this,h]
theorem setsR_succ (rs:List RunA) (A T N:Nat) (c:List Nd) (k:Nat):setsR rs A T N c (k+1)= setsR rs A T N c k ++ [[.sl 1 (rbR (flT T N (nodeP rs A T (c.getD k nd0) ((tabsP rs A T c k).getD (c.getD k nd0).x.toNat fun _=>false) ((tabsP rs A T c k).getD (c.getD k nd0).y.toNat fun _=>false))))]]:=by
 simp [setsR,tabsP]
theorem setsR_pure (rs:List RunA) (A T N:Nat) (c:List Nd) (k:Nat):∀ e ∈ setsR rs A T N c k,D.isPureL e=true:=by
 intro e he
 simp only [setsR,List.mem_map] at he
 obtain⟨b,_,rfl⟩:=he
 rfl
theorem tabR_pure (R T:Nat) (φ:Nat × Nat->Bool):∀ e ∈ tabR R T φ,D.isPureL e=true:=by
 intro e he
 simp only [tabR,List.mem_map] at he
 obtain⟨b,_,rfl⟩:=he
 rfl
theorem tabR_succ (R T:Nat) (φ:Nat × Nat->Bool):tabR (R+1) T φ=tabR R T φ ++ [[.sl 1 (rbR ((List.range T).map fun t=>φ (R,t)))]]:=by simp [tabR,List.range_succ]
theorem flT_row {T N r:Nat} {φ:Tab} (h:(r+1)* T<=N):((rbR (flT T N φ)).take ((r+1)* T)).drop (r*T)= rbR ((List.range T).map fun t=>φ (r,t)):=by
 refine List.ext_getElem ?_ fun k h1 h2=>?_
 ·simp only [rbR,List.length_drop,List.length_take,List.length_map,flT_len,List.length_range]
  rw [Nat.add_mul] at h ⊢
  omega
 ·have hk:k<T:=by simpa [rbR] using h2
  simp only [rbR,List.getElem_drop,List.getElem_take,List.getElem_map,flT,List.getElem_range,pt_at hk]
end Te
theorem refHolds14 (s:SysA) (f:List Nd):Runs Tryz.prog 29 [s.d,.sl 6 (ndR f)] (.tup [.sl 1 (holdsR s f),.int .i64 (reqE s f)]):=by
 have hD:s.d = .agg [.int .i64 s.ag,.int .i64 s.fa,.int .i64 s.ln,.sl 2 (runR s.rs)]:=rfl
 have hQ:=refRequest40 s f
 have hP:=refCompact40 f
 have hin:=fun A=>node_in (s:=s) (f:=f) (A:=A)
 rw [hD] at hQ ⊢
 by_cases hE:reqE s f=0
 case neg=>
  have e:(reqE s f != 0)= true:=by simpa using hE
  rw [show holdsR s f = [] from if_pos hE]
  refine CallT.go_fn mixed Tryz.func29 k29 (by simp) fun hf=>?_
  simp only [ZA,ZB,ZC,ZD,ZE,↓reduceIte,reduceIte,ZF,ZG,ZH,ZI,ZJ,reduceCtorEq,ZK,↓zU,↓zD,zV,zT,zW]
  (repeat refine sd ?_)
  refine .go (cr hQ) ?_
  simp only [ZA,ZB,ZC,ZD,ZE,↓reduceIte,reduceIte,ZF,ZG,ZH,ZI,ZJ,reduceCtorEq,ZK,↓zU,↓zD,zV,zT,zW,e]
  exact .drop (by simp) (by simp [vw,vwL])
 rw [show holdsR s f=tabR s.rs.length s.ln.toNat (lastT s.rs s.ag.toNat s.ln.toNat f) from if_neg (by simpa using hE),hE]
 rw [hE] at hQ
 obtain⟨c1,c2⟩:=req_zero hE
 obtain⟨A,F,T,rs,rfl,ok⟩:=chk_sys c1
 obtain⟨T1,T16⟩:=ok.hT
 obtain⟨R1,R64⟩:=ok.hR
 have hRT:=ok.hP
 have hin:=hin A hE rfl ok.hA
 have hcv:=validC f
 have hc0:=compact_ne c2
 have hc2:(compactA f).length<=200:=sub_len f _
 have hlast:lastT rs A T f=(tabsP rs A T (compactA f) (compactA f).length).getD ((compactA f).length-1) fun _=>false:=rfl
 simp only [Int.toNat_natCast] at *
 rw [hlast]
 generalize compactA f=c at hin hcv hc0 hc2 hP
 refine CallT.go_fn mixed Tryz.func29 k29 (by simp) fun hf=>?_
 simp only [ZA,ZB,ZC,ZD,ZE,↓reduceIte,reduceIte,ZF,ZG,ZH,ZI,ZJ,reduceCtorEq,ZK,↓zU,↓zD,zV,zT,zW]
 (repeat refine sd ?_)
 refine .go (cr hQ) ?_
 simp only [ZA,ZB,ZC,ZD,ZE,↓reduceIte,reduceIte,ZF,ZG,ZH,ZI,ZJ,reduceCtorEq,ZK,↓zU,↓zD,zV,zT,zW]
 refine .go (cr hP) ?_
 simp only [ZA,ZB,ZC,ZD,ZE,↓reduceIte,reduceIte,ZF,ZG,ZH,ZI,ZJ,reduceCtorEq,ZK,↓zU,↓zD,zV,zT,zW]
 have hN:∃ N,N=rs.length*T:=⟨_,rfl⟩
 obtain⟨N,hN⟩:=hN
 refine wpS_loop (fun k:Nat=>[(8,.int .i64 k),(7,growD 1 1 (setsR rs A T N c k)),(2,.ref 0 4 0 0),(1,.sl 6 (ndR c))]) (fun k=>⟨2,growO 1 1 (setsR rs A T N c k)++ [(0,⟨4,[[.int .i64 (A:Int),.int .i64 (F:Int),.int .i64 (T:Int),.sl 2 (runR rs)]]⟩)]⟩)
  (fun k=>k<=c.length) (fun k=>c.length-k) 0 (Nat.zero_le _) ?_ ?_
 ·(refine Weak.ren [] [0] (by simp) (by simp) (by decide) ?_; simp only [stay1,vwL,vw,vwF,sw,St.get,St.look,Fr.get,↓reduceIte,reduceIte,Nat.reduceEqDiff,Nat.reduceAdd,Nat.reduceBEq,Nat.reduceLT,Nat.reduceLeDiff,exists_eq_left',ne_eq,reduceCtorEq,zR,setsR,tabsP,List.map_nil,growD_nil,growO_nil,List.nil_append])
 intro k hk
 refine wpS_go mixed ?_
 by_cases hkl:k<c.length
 case neg=>
  have hd:¬ ((k:Int)<(c.length:Int)):=by omega
  obtain rfl:k=c.length:=by omega
  have hw:IntKind.i64.wrap ((c.length:Int)-1)= ((c.length-1:Nat):Int):=by rw [wrap_i64 (by omega)]; omega
  have hg:=setsR_get (rs:=rs) (A:=A) (T:=T) (N:=N) (c:=c) (k:=c.length) (i:=c.length-1) (by omega)
  have hsl:=setsR_len rs A T N c c.length
  generalize ((tabsP rs A T c c.length).getD (c.length-1) fun _=>false)= φ at hg
  have hfl:=flT_len T N φ
  have hrow:=fun r (h:(r+1)* T<=N)=>flT_row (φ:=φ) h
  simp only [ZA,ZB,ZC,ZD,ZE,↓reduceIte,reduceIte,ZF,ZG,ZH,ZI,ZJ,reduceCtorEq,ZK,↓zU,↓zD,zV,zT,zW,hd,ndR_len,hw,hsl,hg]
  (repeat refine sd ?_)
  refine wpS_loop (fun r:Nat=>[(13,.int .i64 r),(12,growD 1 1 (tabR r T φ)),(11,.sl 1 (rbR (flT T N φ))),(2,.ref 0 4 0 0)]) (fun r=>⟨2,growO 1 1 (tabR r T φ)++ [(0,⟨4,[[.int .i64 (A:Int),.int .i64 (F:Int),.int .i64 (T:Int),.sl 2 (runR rs)]]⟩)]⟩)
   (fun r=>r<=rs.length) (fun r=>rs.length-r) 0 (Nat.zero_le _) ?_ ?_
  ·(refine Weak.ren [] [0] (by simp) (by simp) (by decide) ?_; simp only [stay1,vwL,vw,vwF,sw,St.get,St.look,Fr.get,↓reduceIte,reduceIte,Nat.reduceEqDiff,Nat.reduceAdd,Nat.reduceBEq,Nat.reduceLT,Nat.reduceLeDiff,exists_eq_left',ne_eq,reduceCtorEq,zR,tabR,List.range_zero,List.map_nil,growD_nil,growO_nil,List.nil_append])
  intro r hr
  refine wpS_go mixed ?_
  by_cases hrl:r<rs.length
  case neg=>
   have hd2:¬ ((r:Int)<(rs.length:Int)):=by omega
   obtain rfl:r=rs.length:=by omega
   simp only [ZA,ZB,ZC,ZD,ZE,↓reduceIte,reduceIte,ZF,ZG,ZH,ZI,ZJ,reduceCtorEq,ZK,↓zU,↓zD,zV,zT,zW,hd2,runR_len]
   exact .drop (by simp) ⟨rfl,grow_viewL (by decide) (tabR_pure _ _ _) (by simp [St.look,look_growO1,look_growO]),by simp [vw],trivial⟩
  have hd2:((r:Int)<(rs.length:Int)):=by omega
  have hle:(r+1)* T<=N:=by rw [hN]; exact Nat.mul_le_mul_right T hrl
  have hrow:=hrow r hle
  have e1:IntKind.i64.wrap ((r:Int)* (T:Int))= ((r*T:Nat):Int):=by
   rw [<- Int.natCast_mul]
   have:r*T<=(r+1)* T:=Nat.mul_le_mul_right T (by omega)
   exact wrap_i64 (by omega)
  have e2:=wrap_up (k:=r) (by omega)
  have e3:IntKind.i64.wrap (((r+1:Nat):Int)* (T:Int))= (((r+1)* T:Nat):Int):=by
   rw [<- Int.natCast_mul]
   exact wrap_i64 (by omega)
  have hsu:=tabR_succ r T φ
  have htl:=tabR_len r T φ
  have hlr:(rbR ((List.range T).map fun t=>φ (r,t))).length=T:=by rw [rbR_len]; simp
  have hab:r*T<=(r+1)* T:=Nat.mul_le_mul_right T (Nat.le_succ r)
  simp only [ZA,ZB,ZC,ZD,ZE,↓reduceIte,reduceIte,ZF,ZG,ZH,ZI,ZJ,reduceCtorEq,ZK,↓zU,↓zD,zV,zT,zW,hd2,runR_len,e1,e2,e3]
  (repeat refine sd ?_)
  refine⟨_,_,rfl,rfl,Int.natCast_nonneg _,by omega,by rw [rbR_len,hfl]; omega,?_⟩
  simp only [Int.toNat_natCast,hrow,hlr,htl]
  refine⟨fun e he=>?_,by omega,by omega,by omega,by omega,r+1,by omega,?_,by omega⟩
  ·simp only [rbR,List.mem_map] at he
   obtain⟨b,_,rfl⟩:=he
   rfl
  ·have hn1:(tabR r T φ ++ [[D.osl 3 1 T]])≠ []:=by simp
   have hn2:(tabR r T φ ++ [[D.sl 1 (rbR ((List.range T).map fun t=>φ (r,t)))]])≠ []:=by simp
   have hpt:=tabR_pure r T φ
   rw [hsu]
   simp only [growD_ne hn1,growD_ne hn2,growO_ne hn1,growO_ne hn2]
   refine Weak.view (fun k=>if k=1 then 5 else k) (Nat.zero_le _) (fun k hk=>absurd hk (Nat.not_lt_zero _)) ?_ ?_ ?_
   ·simp [vwF,vw,Fr.get]
   ·intro p hp
    simp only [List.cons_append,List.nil_append,List.mem_cons,List.not_mem_nil,or_false] at hp
    rcases hp with rfl | rfl
    ·refine⟨by show 1<2; omega,_,rfl,rfl,vwE_snoc hpt rfl ?_⟩
     simp only [vwL,vw,and_true]
     refine⟨trivial,by decide,by simp,_,rfl,rfl,by rw [hlr]; exact Nat.le_refl _,(List.take_of_length_le (by rw [hlr]; exact Nat.le_refl _)).symm,rbR_pure _⟩
    ·exact⟨by show 0<2; omega,_,rfl,rfl,.same (by simp [D.isPureL,D.isPure])⟩
   ·intro p hp q hq e
    simp only [List.cons_append,List.nil_append,List.mem_cons,List.not_mem_nil,or_false] at hp hq
    rcases hp with rfl | rfl <;> rcases hq with rfl | rfl <;> simp_all
 have hd:((k:Int)<(c.length:Int)):=by omega
 have hng:=ndR_get c hkl
 have hnv:=hcv k hkl
 have hpm:=getD_mem (d:=nd0) hkl
 obtain⟨hni,hn3⟩:=hin _ hpm
 have hsucc:=setsR_succ rs A T N c k
 obtain⟨ox,oy,ox0,oy0⟩:=node_ops' hnv
 have hfa:=fun h=>nd_fact hnv h
 generalize c.getD k nd0=n at hng hnv hni hn3 hsucc ox oy ox0 oy0 hfa
 have hn37:n.op=3->0<=n.i/\n.i<=7:=fun h=>hfa (by rw [h]; decide)
 have hnr:n.row = [.int .i64 n.op,.int .i64 n.i,.int .i64 n.e,.int .i64 n.g,.int .i64 n.x,.int .i64 n.y]:=rfl
 rw [hnr] at hng
 have hux:=UsesX26 n.op
 have huy:=UsesY27 n.op
 have hsl:=setsR_len rs A T N c k
 have hgx:=fun h=>setsR_get (rs:=rs) (A:=A) (T:=T) (N:=N) (c:=c) (k:=k) (i:=n.x.toNat) h
 have hgy:=fun h=>setsR_get (rs:=rs) (A:=A) (T:=T) (N:=N) (c:=c) (k:=k) (i:=n.y.toNat) h
 have hnode:=fun xd yd (ho:OpsR n T N ((tabsP rs A T c k).getD n.x.toNat fun _=>false) ((tabsP rs A T c k).getD n.y.toNat fun _=>false) xd yd)=>refNode44 ok (by rw [<- hN]; exact ho) hn37 hni
 rw [<- hN] at hnode
 have hpure:=setsR_pure rs A T N c k
 have hw:=wrap_up (k:=k) (by omega)
 rw [hnr] at hnode
 unfold sD at hnode
 generalize ((tabsP rs A T c k).getD n.x.toNat fun _=>false)= tx at hgx hnode hsucc
 generalize ((tabsP rs A T c k).getD n.y.toNat fun _=>false)= ty at hgy hnode hsucc
 generalize nodeP rs A T n tx ty=φ at hnode hsucc
 generalize hsets:setsR rs A T N c k=ss at hsl hgx hgy hsucc hpure
 have hps:pureE (ss ++ [[.sl 1 (rbR (flT T N φ))]])= True:=eq_true fun e he=>by
  rcases List.mem_append.1 he with he | he
  ·exact hpure e he
  ·rw [List.mem_singleton] at he; subst he; rfl
 simp only [ZA,ZB,ZC,ZD,ZE,↓reduceIte,reduceIte,ZF,ZG,ZH,ZI,ZJ,reduceCtorEq,ZK,↓zU,↓zD,zV,zT,zW,hd,ndR_len,hng]
 (repeat refine sd ?_)
 refine .go (cq hux) ?_
 cases hu:(usesA n.op).1.x with
 | false=>
  simp only [ZA,ZB,ZC,ZD,ZE,↓reduceIte,reduceIte,ZF,ZG,ZH,ZI,ZJ,reduceCtorEq,ZK,↓zU,↓zD,zV,zT,zW,ndR_len,hng]
  (repeat refine sd ?_)
  refine .go (cq huy) ?_
  cases hv:(usesA n.op).1.y with
  | false=>
   have hc:=hnode .nils .nils ⟨fun h=>absurd h (by rw [hu]; simp),fun h=>absurd h (by rw [hv]; simp),.inl rfl,.inl rfl⟩
   simp only [ZA,ZB,ZC,ZD,ZE,↓reduceIte,reduceIte,ZF,ZG,ZH,ZI,ZJ,reduceCtorEq,ZK,↓zU,↓zD,zV,zT,zW,ndR_len,hng,hsl]
   (repeat refine sd ?_)
   refine⟨_,CallT.of_runs hc (by simp [D.isPureL,D.isPure]),?_⟩
   simp only [ZA,ZB,ZC,ZD,ZE,↓reduceIte,reduceIte,ZF,ZG,ZH,ZI,ZJ,reduceCtorEq,ZK,↓zU,↓zD,zV,zT,zW,hsl]
   (repeat refine sd ?_)
   refine⟨k+1,by omega,?_,by omega⟩
   rw [hsucc]
   (refine Weak.ren [(1,2)] [1,0] (by simp) (by simp) (by decide) ?_; simp only [stay1,vwL,vw,vwF,sw,St.get,St.look,Fr.get,↓reduceIte,reduceIte,Nat.reduceEqDiff,Nat.reduceAdd,Nat.reduceBEq,Nat.reduceLT,Nat.reduceLeDiff,exists_eq_left',ne_eq,reduceCtorEq,zR,hps,hw])
  | true=>
   have hy0:=oy hv
   have hc:=hnode .nils (.sl 1 (rbR (flT T N ty))) ⟨fun h=>absurd h (by rw [hu]; simp),fun _=>rfl,.inl rfl,.inr ⟨_,rfl⟩⟩
   simp only [ZA,ZB,ZC,ZD,ZE,↓reduceIte,reduceIte,ZF,ZG,ZH,ZI,ZJ,reduceCtorEq,ZK,↓zU,↓zD,zV,zT,zW,ndR_len,hng,hsl,hgy (oy hv).2]
   (repeat refine sd ?_)
   refine⟨_,CallT.of_runs hc (by simp [D.isPureL,D.isPure]),?_⟩
   simp only [ZA,ZB,ZC,ZD,ZE,↓reduceIte,reduceIte,ZF,ZG,ZH,ZI,ZJ,reduceCtorEq,ZK,↓zU,↓zD,zV,zT,zW,hsl]
   (repeat refine sd ?_)
   refine⟨k+1,by omega,?_,by omega⟩
   rw [hsucc]
   (refine Weak.ren [(1,2)] [1,0] (by simp) (by simp) (by decide) ?_; simp only [stay1,vwL,vw,vwF,sw,St.get,St.look,Fr.get,↓reduceIte,reduceIte,Nat.reduceEqDiff,Nat.reduceAdd,Nat.reduceBEq,Nat.reduceLT,Nat.reduceLeDiff,exists_eq_left',ne_eq,reduceCtorEq,zR,hps,hw])
 | true=>
  have hx0:=ox hu
  simp only [ZA,ZB,ZC,ZD,ZE,↓reduceIte,reduceIte,ZF,ZG,ZH,ZI,ZJ,reduceCtorEq,ZK,↓zU,↓zD,zV,zT,zW,ndR_len,hng,hsl,hgx hx0.2]
  (repeat refine sd ?_)
  refine .go (cq huy) ?_
  cases hv:(usesA n.op).1.y with
  | false=>
   have hc:=hnode (.sl 1 (rbR (flT T N tx))) .nils ⟨fun _=>rfl,fun h=>absurd h (by rw [hv]; simp),.inr ⟨_,rfl⟩,.inl rfl⟩
   simp only [ZA,ZB,ZC,ZD,ZE,↓reduceIte,reduceIte,ZF,ZG,ZH,ZI,ZJ,reduceCtorEq,ZK,↓zU,↓zD,zV,zT,zW,ndR_len,hng,hsl,hgx (ox hu).2]
   (repeat refine sd ?_)
   refine⟨_,CallT.of_runs hc (by simp [D.isPureL,D.isPure]),?_⟩
   simp only [ZA,ZB,ZC,ZD,ZE,↓reduceIte,reduceIte,ZF,ZG,ZH,ZI,ZJ,reduceCtorEq,ZK,↓zU,↓zD,zV,zT,zW,hsl]
   (repeat refine sd ?_)
   refine⟨k+1,by omega,?_,by omega⟩
   rw [hsucc]
   (refine Weak.ren [(1,2)] [1,0] (by simp) (by simp) (by decide) ?_; simp only [stay1,vwL,vw,vwF,sw,St.get,St.look,Fr.get,↓reduceIte,reduceIte,Nat.reduceEqDiff,Nat.reduceAdd,Nat.reduceBEq,Nat.reduceLT,Nat.reduceLeDiff,exists_eq_left',ne_eq,reduceCtorEq,zR,hps,hw])
  | true=>
   have hy0:=oy hv
   have hc:=hnode (.sl 1 (rbR (flT T N tx))) (.sl 1 (rbR (flT T N ty))) ⟨fun _=>rfl,fun _=>rfl,.inr ⟨_,rfl⟩,.inr ⟨_,rfl⟩⟩
   simp only [ZA,ZB,ZC,ZD,ZE,↓reduceIte,reduceIte,ZF,ZG,ZH,ZI,ZJ,reduceCtorEq,ZK,↓zU,↓zD,zV,zT,zW,ndR_len,hng,hsl,hgx (ox hu).2,hgy (oy hv).2]
   (repeat refine sd ?_)
   refine⟨_,CallT.of_runs hc (by simp [D.isPureL,D.isPure]),?_⟩
   simp only [ZA,ZB,ZC,ZD,ZE,↓reduceIte,reduceIte,ZF,ZG,ZH,ZI,ZJ,reduceCtorEq,ZK,↓zU,↓zD,zV,zT,zW,hsl]
   (repeat refine sd ?_)
   refine⟨k+1,by omega,?_,by omega⟩
   rw [hsucc]
   (refine Weak.ren [(1,2)] [1,0] (by simp) (by simp) (by decide) ?_; simp only [stay1,vwL,vw,vwF,sw,St.get,St.look,Fr.get,↓reduceIte,reduceIte,Nat.reduceEqDiff,Nat.reduceAdd,Nat.reduceBEq,Nat.reduceLT,Nat.reduceLeDiff,exists_eq_left',ne_eq,reduceCtorEq,zR,hps,hw])
end Go.Pd
