/- Part G1. -/
import Derived.Test.YtjklmijiccabfaaGreatRF18
set_option linter.unusedSectionVars false
set_option linter.unusedVariables false
set_option linter.unusedSimpArgs false
set_option linter.defProp false
set_option maxRecDepth 20000
set_option maxHeartbeats 1000000
namespace Go.Pd
open Go Go.Proofs
open Int renaming reduceToNat -> ZA, reduceLT -> ZB, reduceLE -> ZC, reduceBEq -> ZD, reduceBNe -> ZE
open Nat renaming reduceEqDiff -> ZF, reduceAdd -> ZG, reduceBEq -> ZH, reduceLT -> ZI, reduceLeDiff -> ZJ, reduceMul -> ZK
open Rs Fm
namespace Fm
def nl (ops:List (List Nd)):List (List D):=ops.map fun o=>[.sl 6 (ndR o)]
theorem nl_len (l:List (List Nd)):(nl l).length=l.length:=by simp [nl]
theorem nl_get (l:List (List Nd)) {i:Nat} (h:i<l.length):(nl l).getD i [] = [.sl 6 (ndR (l.getD i []))]:=by simp [nl,List.getD,h]
theorem pureE_ndR (l:List Nd):pureE (ndR l)= True:=eq_true (ndR_pure l)
theorem ndR_snoc (l:List Nd) (a b c d e f:Int):ndR l ++ [[.int .i64 a,.int .i64 b,.int .i64 c,.int .i64 d,.int .i64 e,.int .i64 f]]=ndR (l ++ [⟨a,b,c,d,e,f⟩]):=by simp [ndR,Nd.row]
theorem ndR_nil : ndR [] = []:=rfl
theorem ndR_six (l:List Nd):∀ e ∈ ndR l,e.length=6:=by
 intro e he
 simp only [ndR,List.mem_map] at he
 obtain⟨p,_,rfl⟩:=he
 rfl
def shiftN (n:Nat) (p:Nd):Nd:=⟨p.op,p.i,p.e,p.g,if (usesA p.op).1.x=true then p.x+n else p.x,if (usesA p.op).1.y=true then p.y+n else p.y⟩
def validL (f:List Nd):Prop:=∀ k,k<f.length->nodeE (f.getD k nd0) k=0
theorem shift_ok {p:Nd} {k n:Nat} (h:nodeE p k=0):nodeE (shiftN n p) ((n+k:Nat):Int)= 0:=by
 obtain⟨ox,oy⟩:=node_ops h
 refine nodeE_ops h ?_ ?_
 ·split
  ·rename_i hx; have:=ox hx; omega
  ·rfl
 ·split
  ·rename_i hy; have:=oy hy; omega
  ·rfl
theorem validL_app {f c:List Nd} (hf:validL f) (hc:validL c):validL (f++c.map (shiftN f.length)):=by
 intro k hk
 simp only [List.length_append,List.length_map] at hk
 simp only [List.getD_eq_getElem?_getD]
 by_cases h:k<f.length
 ·rw [List.getElem?_append_left h]
  have:=hf k h
  rwa [List.getD_eq_getElem?_getD] at this
 ·rw [List.getElem?_append_right (by omega),List.getElem?_map]
  have hk':k-f.length<c.length:=by omega
  have h1:=hc (k-f.length) hk'
  rw [List.getD_eq_getElem?_getD,List.getElem?_eq_getElem hk',Option.getD_some] at h1
  rw [List.getElem?_eq_getElem hk',Option.map_some,Option.getD_some]
  have:=shift_ok (n:=f.length) h1
  rwa [show f.length+(k-f.length)= k by omega] at this
theorem validL_snoc {f:List Nd} {p:Nd} (hf:validL f) (hp:nodeE p f.length=0):validL (f ++ [p]):=by
 intro k hk
 simp only [List.length_append,List.length_singleton] at hk
 simp only [List.getD_eq_getElem?_getD]
 by_cases h:k<f.length
 ·rw [List.getElem?_append_left h]
  have:=hf k h
  rwa [List.getD_eq_getElem?_getD] at this
 ·obtain rfl:k=f.length:=by omega
  simpa using hp
theorem validC (o:List Nd):validL (compactA o):=sub_nd o _
def setOp (k:Nat) (x:Nd) (v:Int):Nd:=if k=0 then⟨x.op,x.i,x.e,x.g,v,x.y⟩ else⟨x.op,x.i,x.e,x.g,x.x,v⟩
def buildL : Nat->List (List Nd)->List Nd->Nd->Option (List Nd × Nd)
 | _,[],f,x=>some (f,x)
 | k,o :: r,f,x=>if checkF o≠0 then none else
  buildL (k+1) r (f++(compactA o).map (shiftN f.length)) (setOp k x (((f++(compactA o).map (shiftN f.length)).length:Int)-1))
def buildA (x:Nd) (ops:List (List Nd)):List Nd:=match buildL 0 ops [] x with
 | none=>[]
 | some (f,x')=>if nodeE x' f.length≠0 then [] else if 200<(compactS (f ++ [x']) f.length).length then [] else compactS (f ++ [x']) f.length
end Fm
theorem build58 (x:Nd) (ops:List (List Nd)) (ho:ops.length<=2):Runs Tryz.prog 32 [.agg x.row,.sl 1 (nl ops)] (.sl 6 (ndR (buildA x ops))):=by
 refine CallT.go_fn mixed Tryz.func32 k32 (by simp) fun hf=>?_
 simp only [ZA,ZB,ZC,ZD,ZE,↓reduceIte,reduceIte,ZF,ZG,ZH,ZI,ZJ,reduceCtorEq,ZK,↓zU,↓zD,zV,zT,zW,nl_len,Nd.row]
 (repeat refine sd ?_)
 refine wpS_loop (fun a:Nat × List Nd × Nd=>[(16,.int .i64 a.1),(15,.int .i64 ops.length),(14,.sl 1 (nl ops)),(5,growD 1 6 (ndR a.2.1)),(2,.ref 0 6 0 0)]) (fun a=>⟨2,growO 1 6 (ndR a.2.1)++ [(0,⟨6,[a.2.2.row]⟩)]⟩)
  (fun a=>a.1<=ops.length/\validL a.2.1/\a.2.1.length<=200*a.1/\buildL 0 ops [] x=buildL a.1 (ops.drop a.1) a.2.1 a.2.2) (fun a=>ops.length-a.1) (0,[],x) ⟨Nat.zero_le _,fun k hk=>by simp at hk,by simp,rfl⟩ ?_ ?_
 ·(refine Weak.ren [] [0] (by simp) (by simp) (by decide) ?_; simp only [stay1,vwL,vw,vwF,sw,St.get,St.look,Fr.get,↓reduceIte,reduceIte,Nat.reduceEqDiff,Nat.reduceAdd,Nat.reduceBEq,Nat.reduceLT,Nat.reduceLeDiff,exists_eq_left',ne_eq,reduceCtorEq,zR,ndR_nil,growD_nil,growO_nil,List.nil_append,Nd.row])
 rintro ⟨k,f,x1⟩ ⟨hk,hf,hfl,hb⟩
 simp only at hk hf hfl hb
 refine wpS_go mixed ?_
 by_cases h:k<ops.length
 case neg=>
  have hd:¬ ((k:Int)<(ops.length:Int)):=by omega
  rw [List.drop_eq_nil_of_le (by omega),buildL] at hb
  have eb:buildA x ops=if nodeE x1 f.length≠0 then [] else if 200<(compactS (f ++ [x1]) f.length).length then [] else compactS (f ++ [x1]) f.length:=by rw [buildA,hb]
  rw [eb]
  simp only [ZA,ZB,ZC,ZD,ZE,↓reduceIte,reduceIte,ZF,ZG,ZH,ZI,ZJ,reduceCtorEq,ZK,↓zU,↓zD,zV,zT,zW,hd,Nd.row,ndR_len]
  (repeat refine sd ?_)
  refine .go (CallT.of_runs (nodeError74 x1 f.length) (by simp [D.isPureL,D.isPure,Nd.row])) ?_
  by_cases hn:nodeE x1 f.length=0
  case neg=>
   have e:(nodeE x1 f.length != 0)= true:=by simpa using hn
   rw [if_pos hn]
   simp only [ZA,ZB,ZC,ZD,ZE,↓reduceIte,reduceIte,ZF,ZG,ZH,ZI,ZJ,reduceCtorEq,ZK,↓zU,↓zD,zV,zT,zW,e]
   exact .drop (by simp) (by simp [vw,ndR])
  have e:(nodeE x1 f.length != 0)= false:=by simpa using hn
  rw [if_neg (by simpa using hn)]
  simp only [ZA,ZB,ZC,ZD,ZE,↓reduceIte,reduceIte,ZF,ZG,ZH,ZI,ZJ,reduceCtorEq,ZK,↓zU,↓zD,zV,zT,zW,e,Nd.row,ndR_len]
  (repeat refine sd ?_)
  have hv:validL (f ++ [x1]):=validL_snoc hf hn
  have hlen:(f ++ [x1]).length<=900:=by rw [List.length_append,List.length_singleton]; omega
  have hcall:=CallT.give (σ:=⟨3,growO 2 6 (ndR (f ++ [x1]))++ [(0,⟨6,[x1.row]⟩)]⟩) (args:=[growD 2 6 (ndR (f ++ [x1])),.int .i64 f.length]) (objs':=[]) (fun _=>False) (compact91 (i:=f.length) hv hlen (by simp))
   ⟨Seen.grow (by rw [St.get,look_growO,if_pos rfl]; cases growG 6 (ndR (f ++ [x1])) <;> rfl) id (by omega) (ndR_six _) (ndR_pure _),.pure rfl,trivial⟩ (fun k o hk=>by cases hk)
  rw [ndR_snoc]
  simp only [Nd.row] at hcall
  refine .go hcall ?_
  generalize compactS (f ++ [x1]) f.length=c
  by_cases hc:200<c.length
  ·have hc':(200:Int)<(c.length:Int):=by omega
   rw [if_pos hc]
   simp only [ZA,ZB,ZC,ZD,ZE,↓reduceIte,reduceIte,ZF,ZG,ZH,ZI,ZJ,reduceCtorEq,ZK,↓zU,↓zD,zV,zT,zW,ndR_len,hc']
   exact .drop (by simp) (by simp [vw,ndR])
  ·have hc':¬ (200:Int)<(c.length:Int):=by omega
   rw [if_neg hc]
   simp only [ZA,ZB,ZC,ZD,ZE,↓reduceIte,reduceIte,ZF,ZG,ZH,ZI,ZJ,reduceCtorEq,ZK,↓zU,↓zD,zV,zT,zW,ndR_len,hc']
   exact .drop (by simp) (by simp [vw])
 have hd:((k:Int)<(ops.length:Int)):=by omega
 have hg:=nl_get ops h
 rw [drop_cons (d:=[]) h,buildL] at hb
 generalize ops.getD k []=o at hg hb
 have hw:IntKind.i64.wrap ((k:Int)+ 1)= ((k+1:Nat):Int):=wrap_i64 (by omega)
 simp only [ZA,ZB,ZC,ZD,ZE,↓reduceIte,reduceIte,ZF,ZG,ZH,ZI,ZJ,reduceCtorEq,ZK,↓zU,↓zD,zV,zT,zW,hd,nl_len,hg]
 (repeat refine sd ?_)
 refine .go (cr (checkF56 o)) ?_
 by_cases hc:checkF o=0
 case neg=>
  have e:(checkF o != 0)= true:=by simpa using hc
  rw [if_pos hc] at hb
  simp only [ZA,ZB,ZC,ZD,ZE,↓reduceIte,reduceIte,ZF,ZG,ZH,ZI,ZJ,reduceCtorEq,ZK,↓zU,↓zD,zV,zT,zW,e]
  rw [show buildA x ops = [] by rw [buildA,hb]]
  exact .drop (by simp) (by simp [vw,ndR])
 have e:(checkF o != 0)= false:=by simpa using hc
 rw [if_neg (by simpa using hc)] at hb
 simp only [ZA,ZB,ZC,ZD,ZE,↓reduceIte,reduceIte,ZF,ZG,ZH,ZI,ZJ,reduceCtorEq,ZK,↓zU,↓zD,zV,zT,zW,e,ndR_len]
 refine .go (cr (Compact59 o)) ?_
 have hcv:=validC o
 have hcl:(compactA o).length<=200:=sub_len o _
 generalize compactA o=c at hb hcv hcl
 simp only [ZA,ZB,ZC,ZD,ZE,↓reduceIte,reduceIte,ZF,ZG,ZH,ZI,ZJ,reduceCtorEq,ZK,↓zU,↓zD,zV,zT,zW,ndR_len]
 refine wpS_loop (fun j:Nat=>[(29,.int .i64 j),(28,.int .i64 c.length),(27,.sl 6 (ndR c)),(16,.int .i64 k),(15,.int .i64 ops.length),(14,.sl 1 (nl ops)),(8,.int .i64 f.length),(6,.int .i64 k),(5,growD 1 6 (ndR (f++(c.take j).map (shiftN f.length)))),(2,.ref 0 6 0 0)]) (fun j=>⟨2,growO 1 6 (ndR (f++(c.take j).map (shiftN f.length)))++ [(0,⟨6,[x1.row]⟩)]⟩)
  (fun j=>j<=c.length) (fun j=>c.length-j) 0 (Nat.zero_le _) ?_ ?_
 ·rw [show f++(c.take 0).map (shiftN f.length)= f by simp]
  (refine Weak.same ?_; simp [sameF,Fr.get])
 intro j hj
 refine wpS_go mixed ?_
 by_cases hjl:j<c.length
 case neg=>
  have hd2:¬ ((j:Int)<(c.length:Int)):=by omega
  rw [take_all (show j=c.length by omega)]
  have hfl2:(f++c.map (shiftN f.length)).length<=200*(k+1):=by rw [List.length_append,List.length_map]; omega
  have hv2:=validL_app hf hcv
  generalize f++c.map (shiftN f.length)= f2 at hb hfl2 hv2
  have hw2:IntKind.i64.wrap ((f2.length:Int)-1)= (f2.length:Int)-1:=wrap_i64 (by omega)
  by_cases hk0:k=0
  ·have e0:((k:Int)== 0)= true:=by rw [hk0]; rfl
   rw [setOp,if_pos hk0] at hb
   simp only [ZA,ZB,ZC,ZD,ZE,↓reduceIte,reduceIte,ZF,ZG,ZH,ZI,ZJ,reduceCtorEq,ZK,↓zU,↓zD,zV,zT,zW,hd2,e0,ndR_len,hw2,Nd.row]
   (repeat refine sd ?_)
   refine⟨(k+1,f2,⟨x1.op,x1.i,x1.e,x1.g,(f2.length:Int)-1,x1.y⟩),⟨by omega,hv2,hfl2,hb⟩,?_,by simp only; omega⟩
   (refine Weak.ren [] [1,0] (by simp) (by simp) (by decide) ?_; simp only [stay1,vwL,vw,vwF,sw,St.get,St.look,Fr.get,↓reduceIte,reduceIte,Nat.reduceEqDiff,Nat.reduceAdd,Nat.reduceBEq,Nat.reduceLT,Nat.reduceLeDiff,exists_eq_left',ne_eq,reduceCtorEq,zR,pureE_ndR,Nd.row,hw])
  ·have e0:((k:Int)== 0)= false:=by rw [beq_eq_false_iff_ne]; omega
   rw [setOp,if_neg hk0] at hb
   simp only [ZA,ZB,ZC,ZD,ZE,↓reduceIte,reduceIte,ZF,ZG,ZH,ZI,ZJ,reduceCtorEq,ZK,↓zU,↓zD,zV,zT,zW,hd2,e0,ndR_len,hw2,Nd.row]
   (repeat refine sd ?_)
   refine⟨(k+1,f2,⟨x1.op,x1.i,x1.e,x1.g,x1.x,(f2.length:Int)-1⟩),⟨by omega,hv2,hfl2,hb⟩,?_,by simp only; omega⟩
   (refine Weak.ren [] [1,0] (by simp) (by simp) (by decide) ?_; simp only [stay1,vwL,vw,vwF,sw,St.get,St.look,Fr.get,↓reduceIte,reduceIte,Nat.reduceEqDiff,Nat.reduceAdd,Nat.reduceBEq,Nat.reduceLT,Nat.reduceLeDiff,exists_eq_left',ne_eq,reduceCtorEq,zR,pureE_ndR,Nd.row,hw])
 have hd2:((j:Int)<(c.length:Int)):=by omega
 have hgj:=ndR_get c hjl
 have hnj:=hcv j hjl
 obtain⟨⟨px,hpx,hpx2⟩,⟨py,hpy,hpy2⟩⟩:=node_xy hnj
 have hsn:f++(c.take (j+1)).map (shiftN f.length)= f++(c.take j).map (shiftN f.length)++ [shiftN f.length (c.getD j nd0)]:=by rw [take_snoc (d:=nd0) hjl,List.map_append,<- List.append_assoc]; rfl
 generalize c.getD j nd0=p at hgj hnj hpx hpy hsn
 have hwj:IntKind.i64.wrap ((j:Int)+ 1)= ((j+1:Nat):Int):=wrap_i64 (by omega)
 have hl2:(f++(c.take j).map (shiftN f.length)).length<=1000:=by rw [List.length_append,List.length_map,List.length_take]; omega
 generalize f++(c.take j).map (shiftN f.length)= f1 at hsn hl2
 have hwx:IntKind.i64.wrap (p.x+(f.length:Int))= p.x+(f.length:Int):=wrap_i64 (by omega)
 have hwy:IntKind.i64.wrap (p.y+(f.length:Int))= p.y+(f.length:Int):=wrap_i64 (by omega)
 simp only [ZA,ZB,ZC,ZD,ZE,↓reduceIte,reduceIte,ZF,ZG,ZH,ZI,ZJ,reduceCtorEq,ZK,↓zU,↓zD,zV,zT,zW,hd2,ndR_len,hgj,Nd.row]
 (repeat refine sd ?_)
 refine .go (cq (uses86 p.op)) ?_
 have es:shiftN f.length p=⟨p.op,p.i,p.e,p.g,if (usesA p.op).1.x=true then p.x+f.length else p.x,if (usesA p.op).1.y=true then p.y+f.length else p.y⟩:=rfl
 cases hux:(usesA p.op).1.x <;> cases huy:(usesA p.op).1.y <;> rw [hux,huy] at es
 all_goals
  simp only [ZA,ZB,ZC,ZD,ZE,↓reduceIte,reduceIte,ZF,ZG,ZH,ZI,ZJ,reduceCtorEq,ZK,↓zU,↓zD,zV,zT,zW,Use.row,hux,huy,hwx,hwy,ndR_snoc,ndR_len,List.length_append,List.length_singleton]
  (repeat refine sd ?_)
  refine⟨j+1,by omega,?_,by omega⟩
  rw [hsn,es]
  (refine Weak.ren [(1,4)] [1,0] (by simp) (by simp) (by decide) ?_; simp only [stay1,vwL,vw,vwF,sw,St.get,St.look,Fr.get,↓reduceIte,reduceIte,Nat.reduceEqDiff,Nat.reduceAdd,Nat.reduceBEq,Nat.reduceLT,Nat.reduceLeDiff,exists_eq_left',ne_eq,reduceCtorEq,zR,pureE_ndR,hwj,Nd.row,Bool.false_eq_true,if_false,if_true])
end Go.Pd
