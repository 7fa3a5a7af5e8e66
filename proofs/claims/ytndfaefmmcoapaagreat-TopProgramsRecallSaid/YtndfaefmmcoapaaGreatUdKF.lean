/- Part KF. -/
import Derived.Test.YtndfaefmmcoapaaGreatUdSC
set_option linter.unusedSectionVars false
set_option linter.unusedVariables false
set_option linter.unusedSimpArgs false
set_option linter.defProp false
set_option maxRecDepth 100000
namespace Go.Pd
open Go Go.Proofs Go.Shelf Go.Sort
open BitVec renaming isValue -> ZA
open Ru
def rlu (ll:List (List Int)):List (List D):=ll.map fun l=>[.sl 1 (rows .u64 l)]
theorem uX (l:List (List Int)):(rlu l).length=l.length:=by simp [rlu]
theorem qO (l:List (List Int)) {i:Nat} (h:i<l.length):(rlu l).getD i [] = [.sl 1 (rows .u64 (l.getD i []))]:=by simp [rlu,List.getD,h]
theorem aGo (l:List (List Int)) (n:Nat):(rlu l).take n=rlu (l.take n):=by simp [rlu,List.map_take]
theorem aGp (l:List (List Int)) (r:List Int):rlu l ++ [[.sl 1 (rows .u64 r)]]=rlu (l ++ [r]):=by simp [rlu]
theorem aMu : rlu [] = []:=rfl
theorem aXx (l:List (List Int)):∀ e ∈ rlu l,D.xU e=true:=by intro e he;simp only [rlu,List.mem_map] at he;obtain⟨r,_,rfl⟩:=he;have h:∀ e ∈ rows .u64 r,D.xU e=true:=uG _ r;have:(rows .u64 r).all D.xU=true:=List.all_eq_true.2 h;simp [D.xU,D.xL,this]
theorem aKz (l:List (List Int)):tR (rlu l):=aXx l
theorem aD2 (a:Int):yB Tryz.prog 256 [.int .u64 a] (.bool false):=by refine xY.xR mixed Tryz.func256 bTu (by simp) fun hf=>?_;simp only [simprocAttr,-ZA,↓zU,↓zD,zV,zT,zW];exact .same
theorem bW6 (a b:Int):yB Tryz.prog 226 [.int .u64 a,.int .u64 b] (.int .i64 (if a<b then -1 else if b<a then 1 else 0)):=by
 refine xY.xR mixed Tryz.func226 bT1 (by simp) fun hf=>?_;simp only [simprocAttr,-ZA,↓zU,↓zD,zV,zT,zW];refine .go (cq (aD2 a)) ?_;simp only [simprocAttr,-ZA,↓zU,↓zD,zV,zT,zW];refine .go (cq (aD2 b)) ?_
 by_cases h1:a<b
 ·simp only [simprocAttr,-ZA,↓zU,↓zD,zV,zT,zW,h1];exact .same
 ·by_cases h2:b<a
  ·simp only [simprocAttr,-ZA,↓zU,↓zD,zV,zT,zW,h1,h2];exact .same
  ·simp only [simprocAttr,-ZA,↓zU,↓zD,zV,zT,zW,h1,h2];exact .same
theorem bWu (a b:List Int):yB Tryz.prog 186 [.sl 1 (rows .u64 a),.sl 1 (rows .u64 b)] (.int .i64 (nK a b)):=by
 refine xY.xR mixed Tryz.func186 bSo (by simp) fun hf=>?_;simp only [D.rG,D.fact,yW] at hf;have hlen:=hf.1.1;simp only [simprocAttr,-ZA,↓zU,↓zD,zV,zT,zW]
 refine xQ (fun k:Nat=>[(11,.int .i64 k),(10,.int .i64 a.length),(9,.sl 1 (rows .u64 a)),(1,.sl 1 (rows .u64 b)),(0,.sl 1 (rows .u64 a))]) (fun _=>⟨0,[]⟩) (fun k=>k<=a.length/\k<=b.length/\nK a b=nK (a.drop k) (b.drop k)) (fun k=>a.length-k) 0 ⟨Nat.zero_le _,Nat.zero_le _,rfl⟩ ?_ ?_
 ·(refine xM.same ?_; simp [xP,Fr.get])
 intro k ⟨hk,hk2,hi⟩;refine xN mixed ?_
 by_cases h:k<a.length
 ·have hd:((k:Int)<(a.length:Int)):=by omega
  have e1:a.drop k=a.getD k 0 :: a.drop (k+1):=by simp [List.getD,h]
  rw [e1] at hi
  by_cases h2:k<b.length
  ·have hd2:¬ ((b.length:Int)<=(k:Int)):=by omega
   have hd3:((k:Int)<(b.length:Int)):=by omega
   have e2:b.drop k=b.getD k 0 :: b.drop (k+1):=by simp [List.getD,h2]
   rw [e2,aJl] at hi;simp only [simprocAttr,-ZA,↓zU,↓zD,zV,zT,zW,hd,yX .u64 a h,hd2,hd3,yX .u64 b h2]
   (repeat refine sd ?_)
   refine .go (xY.yM (bW6 (a.getD k 0) (b.getD k 0)) rfl) ?_
   by_cases c1:a.getD k 0<b.getD k 0
   ·rw [if_pos c1] at hi ⊢;simp only [simprocAttr,-ZA,↓zU,↓zD,zV,zT,zW];rw [hi];exact .same
   ·by_cases c2:b.getD k 0<a.getD k 0
    ·rw [if_neg c1,if_pos c2] at hi ⊢;simp only [simprocAttr,-ZA,↓zU,↓zD,zV,zT,zW];rw [hi];exact .same
    ·rw [if_neg c1,if_neg c2] at hi ⊢;simp only [simprocAttr,-ZA,↓zU,↓zD,zV,zT,zW];refine⟨k+1,⟨by omega,by omega,hi⟩,?_,by omega⟩
     (refine xM.same ?_; simp only [xP,Fr.get,simprocAttr,-ZA,zS])
     exact wrap_i64 (by omega)
  ·have hd2:((b.length:Int)<=(k:Int)):=by omega
   rw [List.drop_eq_nil_of_le (show b.length<=k by omega),aP8] at hi;simp only [simprocAttr,-ZA,↓zU,↓zD,zV,zT,zW,hd,yX .u64 a h,hd2]
   (repeat refine sd ?_)
   rw [hi];exact .same
 ·have hd:¬ ((k:Int)<(a.length:Int)):=by omega
  rw [List.drop_eq_nil_of_le (show a.length<=k by omega),aF8,List.length_drop] at hi
  by_cases c:a.length<b.length
  ·have c':(a.length:Int)<(b.length:Int):=by omega
   rw [if_neg (by omega)] at hi;simp only [simprocAttr,-ZA,↓zU,↓zD,zV,zT,zW,hd,c'];rw [hi];exact .same
  ·have c':¬ (a.length:Int)<(b.length:Int):=by omega
   rw [if_pos (by omega)] at hi;simp only [simprocAttr,-ZA,↓zU,↓zD,zV,zT,zW,hd,c'];rw [hi];exact .same
theorem aQc (a b:List Int):yB Tryz.prog 74 [.sl 1 (rows .u64 a),.sl 1 (rows .u64 b)] (.bool (decide (a=b))):=by
 refine xY.xR mixed Tryz.func74 k74 (by simp) fun hf=>?_;simp only [D.rG,D.fact,yW] at hf;have hlen:=hf.1.1;by_cases h1:a.length=b.length
 case neg=>
  have h1':((a.length:Int) != (b.length:Int))= true:=by simp; omega
  simp only [simprocAttr,-ZA,↓zU,↓zD,zV,zT,zW,h1'];exact .drop (by simp) (by simp only [vw,D.bool.injEq]; symm; apply decide_eq_false; rintro rfl; exact h1 rfl)
 have h1':((a.length:Int) != (b.length:Int))= false:=by simp; omega
 simp only [simprocAttr,-ZA,↓zU,↓zD,zV,zT,zW,h1']
 refine xQ (fun k:Nat=>[(13,.int .i64 k),(12,.int .i64 a.length),(1,.sl 1 (rows .u64 b)),(0,.sl 1 (rows .u64 a))]) (fun _=>⟨0,[]⟩) (fun k=>k<=a.length/\∀ i,i<k->a.getD i 0=b.getD i 0) (fun k=>a.length-k) 0 ⟨Nat.zero_le _,fun i hi=>by omega⟩ ?_ ?_
 ·(refine xM.same ?_; simp [xP,Fr.get])
 intro k ⟨hk,hi⟩;refine xN mixed ?_
 by_cases h:k<a.length
 ·have hd:((k:Int)<(a.length:Int)):=by omega
  by_cases hb:a.getD k 0=b.getD k 0
  ·have hb1:(a.getD k 0 != b.getD k 0)= false:=by simp only [hb,bne_self_eq_false]
   simp only [simprocAttr,-ZA,↓zU,↓zD,zV,zT,zW,hd,yX _ _ h,yX .u64 b (show k<b.length by omega),hb1]
   (repeat refine sd ?_)
   refine⟨k+1,⟨by omega,fun i hi2=>?_⟩,?_,by omega⟩
   ·by_cases ei:i=k
    ·rw [ei,hb]
    ·exact hi i (by omega)
   (refine xM.same ?_; simp only [xP,Fr.get,simprocAttr,-ZA,zS])
   exact wrap_i64 (by omega)
  ·have hb1:(a.getD k 0 != b.getD k 0)= true:=bne_iff_ne.2 hb;simp only [simprocAttr,-ZA,↓zU,↓zD,zV,zT,zW,hd,yX _ _ h,yX .u64 b (show k<b.length by omega),hb1]
   (repeat refine sd ?_)
   exact .drop (by simp) (by simp only [vw,D.bool.injEq]; symm; apply decide_eq_false; rintro rfl; exact hb rfl)
 ·have hd:¬ ((k:Int)<(a.length:Int)):=by omega
  have hk':k=a.length:=by omega
  subst hk';simp only [simprocAttr,-ZA,↓zU,↓zD,zV,zT,zW,hd];refine .drop (by simp) ?_;simp only [vw,D.bool.injEq]; symm; apply decide_eq_true;refine List.ext_getElem h1 fun i h2 h3=>?_;have:=hi i h2;simpa [List.getD,h2,h3] using this
theorem iX (a b:List Int):yB Tryz.prog 124 [.sl 1 (rows .u64 a),.sl 1 (rows .u64 b)] (.int .i64 (kc a b)):=by
 have h1:=bU0 (a.length:Int) (b.length:Int);have h2:=bWu a b;have h3:=bTq (if (a.length:Int)<(b.length:Int) then -1 else if (b.length:Int)<(a.length:Int) then 1 else 0) (nK a b)
 have e:(if (if (a.length:Int)<(b.length:Int) then(-1:Int) else if (b.length:Int)<(a.length:Int) then 1 else 0)≠ 0 then(if (a.length:Int)<(b.length:Int) then(-1:Int) else if (b.length:Int)<(a.length:Int) then 1 else 0) else nK a b)= kc a b:=by
  unfold kc
  by_cases c1:a.length<b.length
  ·rw [if_pos (show (a.length:Int)<b.length by omega),if_pos c1]; rfl
  ·rw [if_neg (show ¬ (a.length:Int)<b.length by omega),if_neg c1]
   by_cases c2:b.length<a.length
   ·rw [if_pos (show (b.length:Int)<a.length by omega),if_pos c2]; rfl
   ·rw [if_neg (show ¬ (b.length:Int)<a.length by omega),if_neg c2]; rfl
 rw [e] at h3;simp only [fA,lO] at h3;generalize (if (a.length:Int)<(b.length:Int) then(-1:Int) else if (b.length:Int)<(a.length:Int) then 1 else 0)= z at h1 h3;refine xY.xR mixed Tryz.func124 bRs (by simp) fun hf=>?_;simp only [simprocAttr,-ZA,↓zU,↓zD,zV,zT,zW];refine .go (cq h1) ?_;simp only [simprocAttr,-ZA,↓zU,↓zD,zV,zT,zW];refine .go (cr h2) ?_;simp only [simprocAttr,-ZA,↓zU,↓zD,zV,zT,zW];refine⟨by simp [D.xU,D.xL],?_⟩;refine .go (cr h3) ?_;simp only [simprocAttr,-ZA,↓zU,↓zD,zV,zT,zW];exact .same
theorem aD4 (a b:List Int):yB Tryz.prog 129 [.sl 1 (rows .u64 a),.sl 1 (rows .u64 b)] (.bool (decide (a=b))):=by refine xY.xR mixed Tryz.func129 bRq (by simp) fun hf=>?_;simp only [simprocAttr,-ZA,↓zU,↓zD,zV,zT,zW];refine .go (cr (aQc a b)) ?_;simp only [simprocAttr,-ZA,↓zU,↓zD,zV,zT,zW];exact .same
theorem aKn (l:List Int):(rows .u64 l).map (fun e=>bTh (hd e))= l:=by
 unfold rows;rw [List.map_map];conv=>rhs; rw [<- List.map_id l]
 exact List.map_congr_left fun x _=>rfl
def aS9 : Go.Shelf.Ren where
 f:=fun x=>match x with | 6=>127 | 15=>189 | 14=>188 | 28=>235 | 29=>236 | 20=>227 | 21=>228 | 22=>229 | 23=>230 | 24=>231 | 25=>232 | 26=>233 | 27=>234 | 46=>257 | 47=>258 | 48=>259 | 49=>260 | 50=>261 | 57=>273 | n=>n
 t:=fun x=>match x with | 22=>51 | 24=>22 | 25=>49 | 39=>88 | 53=>248 | 55=>56 | 46=>242 | 45=>241 | 50=>129 | 66=>268 | 70=>272 | 76=>280 | 77=>281 | n=>n
 g:=fun x=>x
theorem aJo : SlLaysF.n6 Tryz.prog aS9 where
 mixed:=by kernel_rfl
 f6:=⟨ "slices.SortFunc[[][]uint64,[]uint64]",by decide,Tryz.func127.trans (congrArg some (by kernel_rfl))⟩
 f14:=⟨ "slices.pdqsortCmpFunc[[]uint64]",by decide,Tryz.func188.trans (congrArg some (by kernel_rfl))⟩
 f15:=Tryz.func189.trans (congrArg some (by kernel_rfl))
 f20:=⟨ "slices.insertionSortCmpFunc[[]uint64]",by decide,Tryz.func227.trans (congrArg some (by kernel_rfl))⟩
 f21:=⟨ "slices.heapSortCmpFunc[[]uint64]",by decide,Tryz.func228.trans (congrArg some (by kernel_rfl))⟩
 f22:=⟨ "slices.breakPatternsCmpFunc[[]uint64]",by decide,Tryz.func229.trans (congrArg some (by kernel_rfl))⟩
 f23:=⟨ "slices.choosePivotCmpFunc[[]uint64]",by decide,Tryz.func230.trans (congrArg some (by kernel_rfl))⟩
 f24:=⟨ "slices.reverseRangeCmpFunc[[]uint64]",by decide,Tryz.func231.trans (congrArg some (by kernel_rfl))⟩
 f25:=⟨ "slices.partialInsertionSortCmpFunc[[]uint64]",by decide,Tryz.func232.trans (congrArg some (by kernel_rfl))⟩
 f26:=⟨ "slices.partitionEqualCmpFunc[[]uint64]",by decide,Tryz.func233.trans (congrArg some (by kernel_rfl))⟩
 f27:=⟨ "slices.partitionCmpFunc[[]uint64]",by decide,Tryz.func234.trans (congrArg some (by kernel_rfl))⟩
 f28:=Tryz.func235.trans (congrArg some (by kernel_rfl))
 f29:=Tryz.func236.trans (congrArg some (by kernel_rfl))
 f46:=⟨ "slices.siftDownCmpFunc[[]uint64]",by decide,Tryz.func257.trans (congrArg some (by kernel_rfl))⟩
 f47:=Tryz.func258.trans (congrArg some (by kernel_rfl))
 f48:=Tryz.func259.trans (congrArg some (by kernel_rfl))
 f49:=⟨ "slices.medianAdjacentCmpFunc[[]uint64]",by decide,Tryz.func260.trans (congrArg some (by kernel_rfl))⟩
 f50:=⟨ "slices.medianCmpFunc[[]uint64]",by decide,Tryz.func261.trans (congrArg some (by kernel_rfl))⟩
 f57:=⟨ "slices.order2CmpFunc[[]uint64]",by decide,Tryz.func273.trans (congrArg some (by kernel_rfl))⟩
 t0:=Tryz.underlying0
 a0:=Tryz.isAgg0
 z0:=Tryz.sizeOf0
 v0:=Tryz.zeroValue0
 t3:=Tryz.underlying3
 a3:=Tryz.isAgg3
 z3:=Tryz.sizeOf3
 v3:=Tryz.zeroValue3
 t4:=Tryz.underlying4
 a4:=Tryz.isAgg4
 z4:=Tryz.sizeOf4
 v4:=Tryz.zeroValue4
 t5:=Tryz.underlying5
 a5:=Tryz.isAgg5
 z5:=Tryz.sizeOf5
 v5:=Tryz.zeroValue5
 t9:=Tryz.underlying9
 a9:=Tryz.isAgg9
 z9:=Tryz.sizeOf9
 v9:=Tryz.zeroValue9
 t22:=Tryz.underlying51
 a22:=Tryz.isAgg51
 z22:=Tryz.sizeOf51
 v22:=Tryz.zeroValue51
 a24:=Tryz.isAgg22
 z24:=Tryz.sizeOf22
 t25:=Tryz.underlying49
 a25:=Tryz.isAgg49
 z25:=Tryz.sizeOf49
 v25:=Tryz.zeroValue49
 t39:=Tryz.underlying88
 a39:=Tryz.isAgg88
 z39:=Tryz.sizeOf88
 v39:=Tryz.zeroValue88
 t45:=Tryz.underlying241
 a45:=Tryz.isAgg241
 z45:=Tryz.sizeOf241
 v45:=Tryz.zeroValue241
 t46:=Tryz.underlying242
 a46:=Tryz.isAgg242
 z46:=Tryz.sizeOf242
 v46:=Tryz.zeroValue242
 t50:=Tryz.underlying129
 a50:=Tryz.isAgg129
 z50:=Tryz.sizeOf129
 v50:=Tryz.zeroValue129
 t53:=Tryz.underlying248
 a53:=Tryz.isAgg248
 z53:=Tryz.sizeOf248
 v53:=Tryz.zeroValue248
 t55:=Tryz.underlying56
 a55:=Tryz.isAgg56
 z55:=Tryz.sizeOf56
 v55:=Tryz.zeroValue56
 t66:=Tryz.underlying268
 a66:=Tryz.isAgg268
 z66:=Tryz.sizeOf268
 v66:=Tryz.zeroValue268
 t70:=Tryz.underlying272
 a70:=Tryz.isAgg272
 z70:=Tryz.sizeOf272
 v70:=Tryz.zeroValue272
 t76:=Tryz.underlying280
 a76:=Tryz.isAgg280
 z76:=Tryz.sizeOf280
 v76:=Tryz.zeroValue280
 t77:=Tryz.underlying281
 a77:=Tryz.isAgg281
 z77:=Tryz.sizeOf281
 v77:=Tryz.zeroValue281
def nB : D->List Int
 | .sl _ els=>els.map fun e=>bTh (hd e)
 | _=>[]
theorem oT (l:List Int):nB (.sl 1 (rows .u64 l))= l:=aKn l
theorem aGq {l:List (List Int)} {els:List (List D)} (h:els.Perm (rlu l)):∃ m:List (List Int),els=rlu m/\m.Perm l:=by
 refine⟨els.map fun e=>nB (hd e),?_,?_⟩
 ·unfold rlu;rw [List.map_map];conv=>lhs; rw [<- List.map_id els]
  refine List.map_congr_left fun e he=>?_;have:=h.mem_iff.1 he;simp only [rlu,List.mem_map] at this;obtain⟨n,_,rfl⟩:=this;show [D.sl 1 (rows .u64 n)] = [D.sl 1 (rows .u64 (nB (.sl 1 (rows .u64 n))))];rw [oT]
 ·have:=h.map fun e=>nB (hd e)
  have e:(rlu l).map (fun e=>nB (hd e))= l:=by
   unfold rlu;rw [List.map_map];conv=>rhs; rw [<- List.map_id l]
   exact List.map_congr_left fun x _=>oT x
  rw [e] at this;exact this
theorem aD8 {l:List (List Int)} {i:Nat} (h:i<l.length):nB (hd ((rlu l).getD i []))= l.getD i []:=by rw [qO _ h]; exact oT _
theorem aTn {σ:St} {key:Nat} {l:List (List Int)} (hget:σ.get key=some ⟨1,rlu l⟩) (hne:l ≠ []) (hlen:l.length<=1000) :
  xY Tryz.prog 127 [.osl key 1 l.length,.fn 124 []] σ (.tup []) (σ.set key ⟨1,rlu (aV4 l)⟩):=by
 have ho:tU Tryz.prog 127:=⟨_,Tryz.func127,by kernel_rfl,by kernel_rfl⟩;have ho2:tU Tryz.prog 124:=⟨_,Tryz.func124,by kernel_rfl,by kernel_rfl⟩
 have h:=aGa (P:=Tryz.prog) (ρ:=aS9) aJo ho (g:=124) (C:=fun d=>∃ l:List Int,d = .sl 1 (rows .u64 l)) (cf:=fun x y=>kc (nB x) (nB y)) ho2
  (by rintro x y ⟨a,rfl⟩ ⟨b,rfl⟩; rw [oT,oT]; exact iX a b) (by intro x _; rw [aM9]; omega) (by intro x y z _ _ _ h1 h2; exact aYa h1 h2) (by intro x y z _ _ _ h1 h2; exact kZ h1 h2)
  hget (target:=rlu (aV4 l)) (by
   intro e he;have hp:=aXx l e he;simp only [rlu,List.mem_map] at he;obtain⟨n,hn,rfl⟩:=he;exact⟨_,rfl,by simpa [D.xU] using hp,n,rfl⟩) (by rw [uX]; omega) (by intro c; apply hne; simpa [rlu] using c) (by
   intro els' hp hs;obtain⟨m,rfl,hm⟩:=aGq hp;rw [aLp hm (bW9 fun a b hab hb=>?_)];have:=hs a b hab (by rw [uX]; exact hb);change ¬ kc (nB _) (nB _)<0 at this;rw [aD8 hb,aD8 (show a<m.length by omega)] at this;exact this)
 rw [uX] at h;exact h
theorem aKj {m:List (List Int)} (x:List Int) (hm:asc m) (hl:m.length<=1000):∃ b:Bool,yB Tryz.prog 123 [.sl 1 (rlu m),.sl 1 (rows .u64 x),.fn 124 []] (.tup [.int .i64 (below m x),.bool b]):=by
 refine⟨decide (below m x<m.length)&& decide (kc (m.getD (below m x) []) x=0),?_⟩;refine xY.xR mixed Tryz.func123 bRt (by simp) fun hf=>?_;simp only [simprocAttr,-ZA,↓zU,↓zD,zV,zT,zW,uX]
 refine xQ (fun a:Nat × Nat=>[(10,.int .i64 a.2),(9,.int .i64 a.1),(8,.int .i64 m.length),(2,.fn 124 []),(1,.sl 1 (rows .u64 x)),(0,.sl 1 (rlu m))]) (fun _=>⟨0,[]⟩) (fun a=>a.1<=a.2/\a.2<=m.length/\(∀ i,i<a.1->kc (m.getD i []) x<0)/\ (∀ i,a.2<=i->i<m.length->¬ kc (m.getD i []) x<0)) (fun a=>a.2-a.1) (0,m.length) ⟨Nat.zero_le _,Nat.le_refl _,fun i hi=>by omega,fun i h1 h2=>by omega⟩ ?_ ?_
 ·(refine xM.same ?_; simp [xP,Fr.get])
 intro ⟨lo,hi⟩ ⟨h1,h2,h3,h4⟩;simp only at h1 h2 h3 h4;refine xN mixed ?_
 by_cases h:lo<hi
 ·have hd:((lo:Int)<(hi:Int)):=by omega
  have es:IntKind.i64.wrap ((lo:Int)+ (hi:Int))= ((lo+hi:Nat):Int):=by rw [wrap_i64 (by omega)]; omega
  have ew:IntKind.i64.wrap (((lo+hi)/ 2:Nat):Int)= (((lo+hi)/ 2:Nat):Int):=wrap_i64 (by omega);have hmid:(lo+hi)/ 2<m.length:=by omega
  simp only [simprocAttr,-ZA,↓zU,↓zD,zV,zT,zW,hd,es,aC7 (show lo+hi<=1000000 by omega),aGc (show lo+hi<=1000000 by omega),ew,uX,qO m hmid]
  (repeat refine sd ?_)
  refine .go (xY.yM (iX (m.getD ((lo+hi)/ 2) []) x) (by simp [D.xU,D.xL])) ?_
  by_cases c:kc (m.getD ((lo+hi)/ 2) []) x<0
  ·simp only [simprocAttr,-ZA,↓zU,↓zD,zV,zT,zW,c];refine⟨((lo+hi)/ 2+1,hi),⟨by show (lo+hi)/ 2+1<=hi; omega,h2,fun i hi2=>aCg hm (show i<=(lo+hi)/ 2 by change i<(lo+hi)/ 2+1 at hi2; omega) hmid c,h4⟩,?_,by show hi-((lo+hi)/ 2+1)<hi-lo; omega⟩
   (refine xM.same ?_; simp only [xP,Fr.get,simprocAttr,-ZA,zS])
   exact wrap_i64 (by omega)
  ·simp only [simprocAttr,-ZA,↓zU,↓zD,zV,zT,zW,c];refine⟨(lo,(lo+hi)/ 2),⟨by show lo<=(lo+hi)/ 2; omega,by show (lo+hi)/ 2<=m.length; omega,h3,fun i hi2 hi3 hc=>c (aCg hm hi2 hi3 hc)⟩,?_,by show (lo+hi)/ 2-lo<hi-lo; omega⟩
   (refine xM.same ?_; simp only [xP,Fr.get,simprocAttr,-ZA,zS])
 ·have hd:¬ ((lo:Int)<(hi:Int)):=by omega
  have e:below m x=lo:=aYk (by omega) h3 fun a ha hb=>h4 a (by omega) hb;rw [e]
  by_cases hlen:lo<m.length
  ·have hd2:((lo:Int)<(m.length:Int)):=by omega
   simp only [simprocAttr,-ZA,↓zU,↓zD,zV,zT,zW,hd,hd2,uX,qO m hlen]
   (repeat refine sd ?_)
   refine .go (xY.yM (iX (m.getD lo []) x) (by simp [D.xU,D.xL])) ?_;simp only [simprocAttr,-ZA,↓zU,↓zD,zV,zT,zW];exact .drop (by simp) (by simp only [vw,vwL,and_true,D.bool.injEq,true_and,List.length_cons,List.length_nil,decide_eq_true hlen,Bool.true_and]; rfl)
  ·have hd2:¬ ((lo:Int)<(m.length:Int)):=by omega
   simp only [simprocAttr,-ZA,↓zU,↓zD,zV,zT,zW,hd,hd2];exact .drop (by simp) (by simp only [vw,vwL,and_true,D.bool.injEq,true_and,List.length_cons,List.length_nil,decide_eq_false hlen,Bool.false_and])
theorem aBs (l:List (List Int)) (i:Nat) (x:List Int):(rlu l).set i [.sl 1 (rows .u64 x)]=rlu (l.set i x):=by simp [rlu,List.map_set]
def aCv (l:List (List Int)):List (List D):=rlu (dedup l)++ List.replicate (l.length-(dedup l).length) [.xO]
theorem aOo {σ:St} {key:Nat} {l:List (List Int)} (hget:σ.get key=some ⟨1,rlu l⟩) (hlen:l.length<=1000) (hne:l ≠ []) :
  xY Tryz.prog 128 [.osl key 1 l.length,.fn 129 []] σ (.osl key 1 (dedup l).length) (σ.set key ⟨1,aCv l⟩):=by
 obtain⟨nx,xZ⟩:=σ;have hpos:0<l.length:=List.length_pos_iff.2 hne;have hg:St.look xZ key=some ⟨1,rlu l⟩:=hget
 have whole:dedup l=l->(.osl key 1 (dedup l).length=D.osl key 1 l.length/\(⟨nx,uR xZ key ⟨1,aCv l⟩⟩:St)= ⟨nx,xZ⟩):=by
  intro e;refine⟨by rw [e],?_⟩;have:aCv l=rlu l:=by unfold aCv; rw [e]; simp
  rw [this,oW hg]
 refine xY.xR mixed Tryz.func128 bRr (by simp) fun hf=>?_
 by_cases h2:l.length<2
 ·have hd:(l.length:Int)<2:=by omega
  simp only [simprocAttr,-ZA,↓zU,↓zD,zV,zT,zW,hd]
  have e:dedup l=l:=by unfold dedup;rw [kP (Nat.le_refl _) (fun i h1 h3=>by omega),List.take_length]
  obtain⟨e1,e2⟩:=whole e;exact .inl ⟨e1,e2⟩
 have hd:¬ (l.length:Int)<2:=by omega
 simp only [simprocAttr,-ZA,↓zU,↓zD,zV,zT,zW,hd]
 refine xQ (fun k:Nat=>[(5,.int .i64 k),(1,.fn 129 []),(0,.osl key 1 l.length)]) (fun _=>⟨nx,xZ⟩) (fun k=>1<=k/\k<=l.length/\∀ i,0<i->i<k->l.getD i []≠l.getD (i-1) []) (fun k=>l.length-k) 1 ⟨Nat.le_refl _,by omega,fun i h1 h2=>by omega⟩ ?_ ?_
 ·(refine xM.same ?_; simp [xP,Fr.get])
 intro i0 ⟨hi1,hi2,hi3⟩;refine xN mixed ?_;by_cases h:i0<l.length
 case neg=>
  have hd:¬ ((i0:Int)<(l.length:Int)):=by omega
  have e:dedup l=l:=by unfold dedup;rw [kP (Nat.le_refl _) (fun i h1 h3=>hi3 i h1 (by omega)),List.take_length]
  obtain⟨e1,e2⟩:=whole e;simp only [simprocAttr,-ZA,↓zU,↓zD,zV,zT,zW,hd];exact .inl ⟨e1,e2⟩
 have hd:((i0:Int)<(l.length:Int)):=by omega
 have em:IntKind.i64.wrap ((i0:Int)-1)= ((i0-1:Nat):Int):=by rw [wrap_i64 (by omega)]; omega
 simp only [simprocAttr,-ZA,↓zU,↓zD,zV,zT,zW,hd,hg,qO l h,em,uX,qO l (show i0-1<l.length by omega)]
 (repeat refine sd ?_)
 refine .go (xY.yM (aD4 (l.getD i0 []) (l.getD (i0-1) [])) (by simp [D.xU,D.xL])) ?_;by_cases hq:l.getD i0 []=l.getD (i0-1) []
 case neg=>
  simp only [simprocAttr,-ZA,↓zU,↓zD,zV,zT,zW,decide_eq_false hq]
  refine⟨i0+1,⟨by omega,by omega,fun i h1 h3=>?_⟩,?_,by omega⟩
  ·by_cases e:i=i0
   ·rw [e]; exact hq
   ·exact hi3 i h1 (by omega)
  (refine xM.same ?_; simp only [xP,Fr.get,simprocAttr,-ZA,zS])
  exact wrap_i64 (by omega)
 simp only [simprocAttr,-ZA,↓zU,↓zD,zV,zT,zW,decide_eq_true hq];have ei:¬ (i0:Int)= 0:=by omega
 have ei2:¬ (i0:Int)= (l.length:Int):=by omega
 refine⟨i0,l.length,rfl,rfl,by omega,by omega,by omega,?_⟩;simp only [Int.toNat_natCast,if_neg ei,if_neg ei2];have d1:sW l (i0+1)= l.take i0:=by rw [sW,if_pos ⟨by omega,hq⟩,kP (by omega) hi3]
 refine xQ (fun a:Nat × List (List Int)=>[(7,.int .i64 a.1),(6,.sub key 1 i0 (l.length-i0)),(5,.int .i64 (sW l (i0+a.1)).length),(1,.fn 129 []),(0,.osl key 1 l.length)]) (fun a=>⟨nx,uR xZ key ⟨1,rlu a.2⟩⟩)
  (fun a=>1<=a.1/\i0+a.1<=l.length/\a.2.length=l.length/\(sW l (i0+a.1)).length<i0+a.1/\a.2.take (sW l (i0+a.1)).length=sW l (i0+a.1)/\ ∀ j,i0+a.1-1<=j->a.2.getD j []=l.getD j []) (fun a=>l.length-a.1) (1,l)
  ⟨Nat.le_refl _,by omega,rfl,by rw [d1,List.length_take]; omega,by rw [d1,List.length_take,Nat.min_eq_left (by omega)],fun j _=>rfl⟩ ?_ ?_
 ·rw [oW hg]
  (refine xM.same ?_; simp [xP,Fr.get,d1])
  omega
 intro ⟨q,o⟩ ⟨q1,q2,q3,q4,q5,q6⟩;simp only at q1 q2 q3 q4 q5 q6;have hlk:∀ ob:Ob,St.look (uR xZ key ob) key=some ob:=fun ob=>eL hg;refine xN mixed ?_
 by_cases hp:i0+q<l.length
 ·have hd3:((q:Int)<((l.length-i0:Nat):Int)):=by omega
  have eq1:IntKind.i64.wrap ((q:Int)-1)= ((q-1:Nat):Int):=by rw [wrap_i64 (by omega)]; omega
  simp only [simprocAttr,-ZA,↓zU,↓zD,zV,zT,zW,hd3,hlk,eq1,uX,qO o (show i0+q<o.length by omega),qO o (show i0+(q-1)<o.length by omega)]
  (repeat refine sd ?_)
  refine .go (xY.yM (aD4 (o.getD (i0+q) []) (o.getD (i0+(q-1)) [])) (by simp [D.xU,D.xL])) ?_;have a1:o.getD (i0+q) []=l.getD (i0+q) []:=q6 _ (by omega);have a2:o.getD (i0+(q-1)) []=l.getD (i0+q-1) []:=by rw [q6 _ (by omega)]; congr 1; omega
  rw [a1,a2]
  by_cases hq2:l.getD (i0+q) []=l.getD (i0+q-1) []
  ·have dd:sW l (i0+(q+1))= sW l (i0+q):=by show sW l ((i0+q)+ 1)= _;rw [sW,if_pos ⟨by omega,hq2⟩]
   simp only [simprocAttr,-ZA,↓zU,↓zD,zV,zT,zW,decide_eq_true hq2];refine⟨(q+1,o),⟨by show 1<=q+1; omega,by show i0+(q+1)<=l.length; omega,q3,by show (sW l (i0+(q+1))).length<i0+(q+1); rw [dd]; omega,by show o.take (sW l (i0+(q+1))).length=sW l (i0+(q+1)); rw [dd,q5],fun j hj=>q6 j (by change i0+(q+1)-1<=j at hj; omega)⟩,?_,by show l.length-(q+1)<l.length-q; omega⟩
   (refine xM.same ?_; simp only [xP,Fr.get,simprocAttr,-ZA,zS,dd])
   exact wrap_i64 (by omega)
  ·have dd:sW l (i0+(q+1))= sW l (i0+q)++ [l.getD (i0+q) []]:=by show sW l ((i0+q)+ 1)= _;rw [sW,if_neg (fun c=>hq2 c.2)]
   have dl:(sW l (i0+(q+1))).length=(sW l (i0+q)).length+1:=by rw [dd,List.length_append]; rfl
   simp only [simprocAttr,-ZA,↓zU,↓zD,zV,zT,zW,decide_eq_false hq2,hlk,uX,qO o (show i0+q<o.length by omega),a1]
   (repeat refine sd ?_)
   have c1:(sW l (i0+q)).length<o.length:=by omega
   have eset:(rlu o).set (sW l (i0+q)).length (((rlu o).getD (sW l (i0+q)).length []).set 0 (D.sl 1 (rows .u64 (l.getD (i0+q) []))))= rlu (o.set (sW l (i0+q)).length (l.getD (i0+q) [])):=by rw [qO o c1];exact aBs _ _ _
   refine⟨(q+1,o.set (sW l (i0+q)).length (l.getD (i0+q) [])),⟨by show 1<=q+1; omega,by show i0+(q+1)<=l.length; omega,by show (o.set _ _).length=_; rw [List.length_set]; exact q3,by show (sW l (i0+(q+1))).length<i0+(q+1); omega,?_,fun j hj=>?_⟩,?_,by show l.length-(q+1)<l.length-q; omega⟩
   ·show (o.set (sW l (i0+q)).length (l.getD (i0+q) [])).take (sW l (i0+(q+1))).length=_;rw [dl,wT (d:=[]) (by rw [List.length_set]; exact c1),aWs,if_pos ⟨rfl,c1⟩,dd,List.take_set_of_le (Nat.le_refl _),q5]
   ·change i0+(q+1)-1<=j at hj;show (o.set (sW l (i0+q)).length (l.getD (i0+q) [])).getD j []=_;rw [aWs,if_neg (by omega)];exact q6 j (by omega)
   ·simp only [oZ,eset]
    (refine xM.same ?_; simp only [xP,Fr.get,simprocAttr,-ZA,zS,dl])
    exact⟨wrap_i64 (by omega),wrap_i64 (by omega)⟩
 ·have hd3:¬ ((q:Int)<((l.length-i0:Nat):Int)):=by omega
  have ed:sW l (i0+q)= dedup l:=by unfold dedup; rw [show i0+q=l.length by omega]
  have c0:0<(dedup l).length:=by have:=aQe l (l.length-1);rw [show l.length-1+1=l.length by omega] at this;exact this
  rw [ed] at q4 q5;simp only [simprocAttr,-ZA,↓zU,↓zD,zV,zT,zW,hd3,ed];refine⟨(dedup l).length,l.length,rfl,rfl,by omega,by omega,by omega,?_⟩;rw [if_neg (show ¬ ((dedup l).length:Int)= 0 by omega),if_neg (show ¬ ((dedup l).length:Int)= (l.length:Int) by omega)];simp only [Int.toNat_natCast,hlk,uX,true_and];refine⟨by omega,by omega,?_⟩;refine⟨0,(dedup l).length,rfl,rfl,by omega,by omega,by omega,?_⟩;rw [if_pos rfl];refine .inl ⟨by rw [Int.toNat_natCast],?_⟩;have e2:(rlu o).take (dedup l).length=rlu (dedup l):=by rw [aGo,q5]
  have e3:(rlu o).drop ((dedup l).length+(l.length-(dedup l).length))= []:=List.drop_eq_nil_of_le (by rw [uX]; omega)
  have e4:aCv l=(rlu o).take (dedup l).length++(List.replicate (l.length-(dedup l).length) [D.xO]++(rlu o).drop ((dedup l).length+(l.length-(dedup l).length))):=by rw [e2,e3,List.append_nil]; rfl
  rw [e4];simp only [oZ]
theorem aXf (l:List (BitVec 64)):us l=rows .u64 (l.map ui):=by simp [us,rows]
end Go.Pd
